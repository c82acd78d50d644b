/-
  ONE LAW OF A CHAPTER: its program side is run by an interpreter that is proved sound; what it computes is shown to be what the law says. No conditions. Part 5 of 8.
-/
import Derived.Test.YtofjnhppalciiaaMvd
import Derived.Laws.Strings
set_option linter.unusedSimpArgs false
set_option linter.unusedVariables false
set_option linter.unnecessarySimpa false
section
namespace Go.Tx
open Go Go.Ab
section
variable {P:Program} {H:Hints} {f:FuncId}
theorem quu(p:Bool)(u:Value):RVL (qkK p u).cells (qcB p u).cells:=by
 have h:=qpI p u;have h1:(qkK p u).cells=[qkK p u]:=by unfold qkK;split<;>(try split)<;>rfl
 have h2:(qcB p u).cells=[qcB p u]:=by unfold qcB qef;split<;>(try split)<;>rfl
 rw [h1,h2];exact qx.2 ⟨h,q6⟩
theorem qsb(p:Bool)(u:Value):RVL (qlx p u).cells (ofConst p u).cells:=by
 have key:=quu p u;cases u<;>first|exact key|exact qsU (qpI p) _
theorem qhO{t:TypeId}{z:TV}(h:qnB P H f t=some z):∃z',zeroOf P H f t=some z'/\RV z z'/\RVL z.cells z'.cells:=by
 unfold qnB at h;obtain ⟨u,hu,rfl⟩:=qc.1 h;exact ⟨ofConst (H.precise f) u,by unfold zeroOf;rw [hu];rfl,qpH _ _,qsb _ _⟩
theorem qjs{cs vs:List TV}{cs' vs':List V}{off:Nat}(h:RVL cs cs')(hv:RVL vs vs'):RVL (qke cs off vs) (qP cs' off vs'):=by
 unfold qke qP;rw [hv.length];exact ((h.take off).append hv).append (h.drop _)
theorem qk6(place:Nat->Option (Nat×Nat)):∀(is:List Nat) (xs:List TV) (ys:List V) (cs r:List TV) (cs':List V),RVL xs ys->RVL cs cs'->qqE place cs (is.zip xs)=some r ->
  ∃r',qgB place cs' (is.zip ys)=some r'/\RVL r r'
 |[],xs,ys,cs,r,cs',hx,hc,h=>by simp only [List.zip_nil_left,qqE,qb]at h;subst h;exact ⟨cs',by simp [qgB],hc⟩
 |i::is,[],ys,cs,r,cs',hx,hc,h=>by
  simp only [RVL]at hx;subst hx;simp only [List.zip_nil_right,qqE,qb]at h;subst h;exact ⟨cs',by simp [qgB],hc⟩
 |i::is,x::xs,ys,cs,r,cs',hx,hc,h=>by
  simp only [RVL]at hx;obtain ⟨v,m,rfl,h1,h2⟩:=hx;simp only [List.zip_cons_cons,qqE]at h;simp only [List.zip_cons_cons,qgB];split at h
  ·cases h
  ·rename_i off size hp;rw [hp];simp only
   split at h
   ·cases h
   ·rename_i hn;simp only [not_or,Decidable.not_not,Bool.not_eq_false]at hn;obtain ⟨hl,ho,hk⟩:=hn;obtain ⟨hcells,hko⟩:=RV.cells hk h1;rw [if_neg]
    ·exact qk6 place is xs m _ r _ h2 (qjs hc hcells) h
    ·rw [hcells.length,hc.length,hko];simp only [not_or,Decidable.not_not,Bool.not_eq_false];exact ⟨hl,ho,trivial⟩
theorem qxR{t:TypeId}{is:List Nat}{xs:List TV}{ys:List V}{x:TV}(hx:RVL xs ys)(h:qxQ P H f t (is.zip xs)=some x) :
  ∃v,qou P H f t (is.zip ys)=some v/\RV x v:=by
 unfold qxQ at h;unfold qou;split at h
 ·rename_i z fields hz hu;obtain ⟨z',hz',_,hcz⟩:=qhO hz;split at h
  ·rename_i places hpl;obtain ⟨l,hl,rfl⟩:=qc.1 h;obtain ⟨l',hl',hr⟩:=qk6 _ _ _ _ _ _ _ hx hcz hl;refine ⟨.agg l',?_,by simp only [RV];exact ⟨l',rfl,hr⟩⟩;rw [hz',hu];simp only [hpl,hl',qi]
  ·cases h
 ·rename_i z n elem hz hu;obtain ⟨z',hz',_,hcz⟩:=qhO hz;split at h
  ·rename_i ie hie;obtain ⟨l,hl,rfl⟩:=qc.1 h;obtain ⟨l',hl',hr⟩:=qk6 _ _ _ _ _ _ _ hx hcz hl;refine ⟨.agg l',?_,by simp only [RV];exact ⟨l',rfl,hr⟩⟩;rw [hz',hu];simp only [hie,hl',qi]
  ·cases h
 ·cases h
theorem qtq{agg:Bool}{s:Nat}:∀(n:Nat) {cs:List TV} {cs':List V},RVL cs cs'->RVL (qku agg s n cs) (chunk agg s n cs')
 |0,_,_,_=>by simp [qku,chunk,RVL]
 |n+1,cs,cs',h=>by
  simp only [qku,chunk];refine qx.2 ⟨?_,qtq n (h.drop s)⟩;cases agg with
  |true=>simp only [if_true,RV];exact ⟨_,rfl,h.take s⟩
  |false =>
   simp only [qf,if_false];cases cs with
   |nil=>simp only [RVL]at h;subst h;exact qaR []
   |cons y cs=>simp only [RVL]at h;obtain ⟨v,m,rfl,h1,_⟩:=h;exact h1
theorem qnz{t:TypeId}{len:Nat}{is:List Nat}{xs:List TV}{ys:List V}{x:TV}(hx:RVL xs ys)(h:qiw P H f t len (is.zip xs)=some x) :
  ∃v,qdE P H f t len (is.zip ys)=some v/\RV x v:=by
 unfold qiw at h;unfold qdE;split at h
 ·rename_i elem hu;rw [hu];simp only;split at h
  ·rename_i ie z τ hie hz hτ;obtain ⟨z',hz',_,hcz⟩:=qhO hz;rw [hie,hz'];simp only;split at h
   ·cases h
   ·rename_i hn;simp only [not_or]at hn;rw [if_neg (by rw [hcz.length];simp only [not_or];exact ⟨hn.1,hn.2.1,hn.2.2.1,hn.2.2.2.1⟩)];split at h
    ·rename_i cs hcs;obtain ⟨cs',hcs',hr⟩:=qk6 _ _ _ _ _ _ _ hx (RVL.flatten hcz) hcs;rw [hcs'];simp only;split at h
     ·rename_i hc;simp only [qe,List.isEmpty_iff]at hc;obtain ⟨hc,hup⟩:=hc;obtain ⟨hup1,hup2⟩:=qyL hup;obtain ⟨l,hl,rfl⟩:=qc.1 h;have hp:ptrsL cs'=[]:=by
       apply List.eq_nil_iff_forall_not_mem.2;intro r hrr;have:=RVL.qq cs cs' hr r hrr;rw [hc.2]at this;cases this
      rw [if_pos ⟨RVL.qCg hc.1 hr,by rw [hp];rfl⟩];refine ⟨_,rfl,?_⟩;simp only [RV,RTy];exact ⟨.own,false,_,rfl,qeF hup,by rw [hup1];exact qtm _ _ _ hl (qtq _ hr)⟩
     ·cases h
    ·cases h
  ·cases h
 ·cases h
theorem qdy{t:TypeId}{cs:List TV}{cs':List V}{x:TV}(h:qaQ P t cs=some x)(hc:RVL cs cs'):∃v,q8 P t cs'=some v/\RV x v:=by
 unfold qaQ at h;unfold q8;split at h
 ·cases h
 ·rename_i d hd;rw [hd];simp only;split at h
  ·rename_i ha;rw [if_pos ha];split at h
   ·rename_i hl;cases h;rw [if_pos (by rw [hc.length];exact hl)];exact ⟨_,rfl,by simp only [RV];exact ⟨_,rfl,hc.take _⟩⟩
   ·cases h
  ·rename_i ha;rw [if_neg ha];obtain ⟨v,hv,hr⟩:=RVL.head hc h;exact ⟨v,hv,hr⟩
theorem qxT{t:TypeId}{x y:TV}{v:V}{fd:Nat}(h:qxS P t x fd=some y)(hx:RV x v):∃u,qov P t v fd=some u/\RV y u:=by
 unfold qxS at h;split at h
 ·rename_i fields cs hu;simp only [RV]at hx;obtain ⟨cs',rfl,hc⟩:=hx;unfold qov;rw [hu];simp only;split at h
  ·rename_i d hd;rw [hd];simp only;exact qdy h (hc.drop _)
  ·cases h
 ·cases h
theorem qpU{t:TypeId}{x y:TV}{v:V}{fd:Nat}(h:qkj P t x fd=some y)(hx:RV x v):∃u,qcv P t v fd=some u/\RV y u:=by
 unfold qkj at h;unfold qcv;split at h
 ·rename_i fields hu;rw [hu];simp only;split at h
  ·rename_i d hd;rw [hd];simp only;split at h
   ·cases h
   ·rename_i h0;rw [if_neg h0];split at h
    ·rename_i r off;cases h;simp only [RV]at hx;subst hx;exact ⟨_,rfl,by simp [RV]⟩
    ·rename_i sh cs;simp only [RV]at hx;obtain ⟨f',cs',rfl,hf0,hsh,hc⟩:=hx;split at h
     ·rename_i hl;cases h;simp only
      rw [if_pos (by rw [hc.length];exact hl)];exact ⟨_,rfl,by simp only [RV];exact ⟨_,_,rfl,hf0,hsh,hc.drop _⟩⟩
     ·cases h
    ·cases h
  ·cases h
 ·cases h
theorem qjw{R:Type}{i:Int}{k:Nat->Option R}{r:R}:∀{n j:Nat},qAO R i k n j=some r->∃m,j<=m/\m<j+n/\i=(m:Int)/\k m=some r
 |0,j,h=>by simp [qAO]at h
 |n+1,j,h=>by
  simp only [qAO]at h;cases hd:decide (i=(j:Int))with
  |true=>rw [hd]at h;exact ⟨j,Nat.le_refl _,by omega,of_decide_eq_true hd,h⟩
  |false =>
   rw [hd]at h;obtain ⟨m,h1,h2,h3,h4⟩:=qjw (n:=n) (j:=j+1) h;exact ⟨m,by omega,by omega,h3,h4⟩
theorem qm7{x:TV}{n:Int}{v:V}(h:qvt x=some n)(hx:RV x v):∃k,v=.val (.int k n):=by
 unfold qvt at h;split at h
 ·rename_i k o m;cases h;simp only [RV,RTy]at hx;exact ⟨k,hx⟩
 ·cases h
theorem qfG{k:IntKind}{n:Int}(h:0<=n):qjb (.val (.int k n))=some n.toNat:=by simp [qjb,h]
theorem qpO{α:Type}{l r:List α}{a b:Int}(h:slc l a b=some r):0<=a/\a<=b/\b<=l.length/\r=(l.take b.toNat).drop a.toNat:=by
 unfold slc at h;split at h
 ·rename_i hc;cases h;exact ⟨hc.1,hc.2.1,hc.2.2,rfl⟩
 ·cases h
theorem qk9{α:Type}{l:List α}{n:Int}{e:α}(h:idx l n=some e):0<=n/\l[n.toNat]?=some e:=by
 unfold idx at h;split at h
 ·rename_i hc;exact ⟨hc,h⟩
 ·cases h
theorem qeZ{α:Type}{l l2 r:List α}(h:app l l2=some r):l.length+l2.length<=4294967296/\r=l++l2:=by
 unfold app at h;split at h
 ·rename_i hc;cases h;exact ⟨hc,rfl⟩
 ·cases h
theorem qyK{α:Type}{z:α}{n:Int}{r:List α}(h:mkS z n=some r):0<=n/\n<=4294967296/\r=List.replicate n.toNat z:=by
 unfold mkS at h;split at h
 ·rename_i hc;cases h;exact ⟨hc.1,hc.2,rfl⟩
 ·cases h
theorem qdo{τ:Ty}(he:τ.qbn=true){o:Nat}{l:List τ.den}{l':List V}(h:All2 (RTy τ o) l l'):∀e∈l',e.cells.length=τ.qaU/\e.oks=true/\e.qq=[]:=λe he'=>by
 obtain ⟨a,_,hr⟩:=qck h e he';obtain ⟨h1,h2⟩:=qhG he hr;exact ⟨h1,h2,qbJ _ _ _ _ hr⟩
theorem qvP{τ:Ty}{o:Nat}{l:List τ.den}{l':List V}(h:All2 (RTy τ o) l l'):ptrsL l'=[]:=by
 apply List.eq_nil_iff_forall_not_mem.2;intro r hr;obtain ⟨v,hv,hrv⟩:=qmA.1 hr;obtain ⟨a,_,h2⟩:=qck h v hv;rw [qbJ _ _ _ _ h2]at hrv;cases hrv
theorem qeo{v:V}(h:v.qq=[]):ptrsL v.cells=[]:=by
 cases v<;>first|exact h|(simp only [V.cells,ptrsL,List.append_nil];exact h)
theorem qh2{τ:Ty}{elem:TypeId}{o:Nat}{l:List τ.den}{l':List V}{n:Int}{e:τ.den}{k:IntKind}{t:TypeId}{fl:Fl}{c sh:Bool}(hsh:sh=true->fl=.shared)(hu:P.underlying t=some (.slice elem))(hall:All2 (RTy τ o) l l')(hc:P.cellsOf elem=τ.qaU)(h0:τ.qaU≠0)(he:τ.qbn=true)
  (h:idx l n=some e):∃v,qbg P t (.sl fl c l') (.val (.int k n))=some v/\RV (.cptr sh (ofTy τ (dl o) e).cells) v:=by
 obtain ⟨h1,h2⟩:=qk9 h;obtain ⟨b,hb,hr⟩:=hall.get h2;obtain ⟨hl,hk⟩:=qhG he hr;refine ⟨.cptr (qW fl) (reflagL qW b.cells),?_,?_⟩
 ·simp only [qbg,hu];rw [if_pos h1,hb];simp only
  rw [if_pos ⟨by rw [hl,hc],hk,by rw [hc];exact h0,by rw [qeo (qbJ _ _ _ _ hr)];rfl⟩]
 ·have hd:=qgl qjH rfl τ o e b hr;have hcells:=(RV.cells (qpr he (dl o) e) (rv_ofTy τ (dl o) e _ hd)).1;simp only [RV];refine ⟨_,_,rfl,by cases fl<;>simp [qW],λe=>(by rw [hsh e];rfl),?_⟩;have hre:(b.reflag qW).cells=reflagL qW b.cells:=qkt qW b;rw [<- hre];exact hcells
theorem qpV{t:TypeId}{x:TV}{k0:IntKind}{i:Int}{R:Type}{k:TV->Option R}{r:R}{v:V}(h:qkk P t x i R k=some r)(hx:RV x v) :
  ∃y u,k y=some r/\qbg P t v (.val (.int k0 i))=some u/\RV y u:=by
 unfold qkk at h;split at h
 ·rename_i len elem q off hu;split at h
  ·cases h
  ·rename_i h0;obtain ⟨m,_,hm,rfl,hk⟩:=qjw h;simp only [RV]at hx;subst hx;refine ⟨_,.ptr q (off+m*P.cellsOf elem),hk,?_,by simp [RV]⟩;simp only [qbg,hu];rw [if_pos ⟨by omega,by omega,h0⟩];simp
 ·rename_i len elem sh cs hu;split at h
  ·cases h
  ·rename_i h0;obtain ⟨m,_,hm,rfl,hk⟩:=qjw h;split at hk
   ·rename_i hl;simp only [RV]at hx;obtain ⟨f',cs',rfl,hf0,hsh,hc⟩:=hx;refine ⟨_,.cptr f' (cs'.drop (m*P.cellsOf elem)),hk,?_,by simp only [RV];exact ⟨_,_,rfl,hf0,hsh,hc.drop _⟩⟩;simp only [qbg,hu];rw [if_pos ⟨by omega,by omega,h0,by rw [hc.length];simpa using hl⟩];simp
   ·cases hk
 ·rename_i elem τ o l hu;split at h
  ·rename_i hc;obtain ⟨e,he,hk⟩:=qd.1 h;simp only [RV,RTy]at hx;obtain ⟨fl,c,l',rfl,hfl,hall⟩:=hx;obtain ⟨u,hu',hr⟩:=qh2 (k:=k0) (fl:=fl) (c:=c) (sh:=decide (o=1000)) (λe=>hfl.2 (of_decide_eq_true e)) hu hall hc.1 hc.2.1 hc.2.2.2 he;exact ⟨_,u,hk,hu',hr⟩
  ·cases h
 ·rename_i elem τ l hu;split at h
  ·rename_i hc;obtain ⟨e,he,hk⟩:=qd.1 h;simp only [RV]at hx;obtain ⟨fl,l',rfl,_,hall⟩:=hx;obtain ⟨u,hu',hr⟩:=qh2 (k:=k0) (fl:=fl) (c:=true) (sh:=false) (λe=>by cases e) hu hall hc.1 hc.2.1 hc.2.2.2 he;exact ⟨_,u,hk,hu',hr⟩
  ·cases h
 ·cases h
theorem qxV{elem t:TypeId}{len:Nat}{cs:List TV}{cs':List V}{k0:IntKind}{i:Int}{R:Type}{k:TV->Option R}{r:R}(hu:P.underlying t=some (.array len elem))(h:qxU P elem len cs i R k=some r)(hc:RVL cs cs') :
  ∃y u,k y=some r/\qnf P t (.agg cs') (.val (.int k0 i))=some u/\RV y u:=by
 unfold qxU at h;split at h
 ·cases h
 ·rename_i h0;obtain ⟨m,_,hm,rfl,hk⟩:=qjw h;split at hk
  ·rename_i v hv;obtain ⟨u,hu',hr⟩:=qdy hv (hc.drop _);refine ⟨_,u,hk,?_,hr⟩;simp only [qnf,hu];rw [if_pos ⟨by omega,by omega,h0⟩];simpa using hu'
  ·cases hk
def RVO:Option TV->Option V->Prop
 |none,none=>True
 |some x,some v=>RV x v
 |_,_=>False
theorem qdL{b:Option V}(h:RVO none b):b=none:=by cases b<;>simp_all [RVO]
theorem qll{x:TV}{b:Option V}(h:RVO (some x) b):∃v,b=some v/\RV x v:=by
 cases b with
 |none=>simp [RVO]at h
 |some v=>exact ⟨v,rfl,h⟩
theorem qe6{d:Nat}{d0:Int}{lo:Option TV}{lo':Option V}{a:Int}(h:(match lo with|none=>some d0|some v=>qvt v)=some a)(hlo:RVO lo lo')(hd:d0=d)(h0:0<=a):qfm d lo'=some a.toNat:=by
 cases lo with
 |none=>rw [qdL hlo];simp only [qb]at h;subst h;subst hd;simp [qfm]
 |some x =>
  obtain ⟨v,rfl,hr⟩:=qll hlo;obtain ⟨k,rfl⟩:=qm7 h hr;simp [qfm,qfG h0]
theorem qz3{R:Type}{c:Prop}[Decidable c]{x:Option R}{r:R}(h:(bif decide c then x else none)=some r):c/\x=some r:=by
 cases hd:decide c with
 |true=>rw [hd]at h;exact ⟨of_decide_eq_true hd,h⟩
 |false=>rw [hd]at h;cases h
theorem qxY{t:TypeId}{x:TV}{v:V}{lo hi mx:Option TV}{lo' hi' mx':Option V}{R:Type}{k:TV->Option R}{r:R}(hx:RV x v)(hlo:RVO lo lo')(hhi:RVO hi hi')(hmx:RVO mx mx')
  (h:qxX P t x lo hi mx R k=some r):∃y u,k y=some r/\qdY P t v lo' hi' mx'=some u/\RV y u:=by
 unfold qxX at h;simp only at h;split at h
 ·rename_i elem τ oo l hu;simp only [RV,RTy]at hx;obtain ⟨fl,c,l',rfl,hfl,hall⟩:=hx;split at h
  ·cases h
  ·rename_i hn;simp only [not_or,Decidable.not_not,Bool.not_eq_false,Bool.not_eq_true]at hn;obtain ⟨hoo,hoo2,h0,hcl,hok,hel⟩:=hn;have hown:fl≠.own:=hfl.not hoo hoo2;have hnx:nx oo=oo:=by unfold nx;rw [hoo];rfl
   have hcells:l'.all (λe=>decide (e.cells.length=P.cellsOf elem))=true:=by
    rw [List.all_eq_true];intro e he;rw [(qdo hel hall e he).1,hcl];simp
   have hvs:∀(mx:Option V),qdY P t (.sl fl c l') lo' hi' mx=(match qfm 0 lo',qfm l'.length hi' with
     |some a,some b =>
      match mx with
      |none=>if a<=b/\b<=l'.length then some (.sl fl (c&&decide (b=l'.length)) ((l'.take b).drop a))else none
      |some m=>if qjb m=some b/\hi'.isSome/\a<=b/\b<=l'.length then some (.sl fl true ((l'.take b).drop a))else none
     |_,_=>none):=λmx=>by
    unfold qdY;rw [hu];simp only;rw [if_neg (by simp only [not_or,Bool.not_eq_false];exact ⟨hown,h0,hcells⟩)];rfl
   split at h
   ·rename_i a b ha hb;have hfin:∀q,slc l a b=some q->qfm 0 lo'=some a.toNat/\qfm l'.length hi'=some b.toNat/\a.toNat<=b.toNat/\b.toNat<=l'.length/\All2 (RTy τ (nx oo)) q ((l'.take b.toNat).drop a.toNat):=λq hq=>by
     obtain ⟨h1,h2,h3,rfl⟩:=qpO hq;have hl:=hall.length;refine ⟨qe6 ha hlo rfl h1,qe6 hb hhi (by rw [hl]) (by omega),by omega,by omega,(hall.take _).drop _⟩
    split at h
    ·obtain ⟨q,hq,hk⟩:=qd.1 h;obtain ⟨e1,e2,e3,e4,e5⟩:=hfin q hq;rw [qdL hmx];refine ⟨_,.sl fl (c&&decide (b.toNat=l'.length)) ((l'.take b.toNat).drop a.toNat),hk,?_,?_⟩
     ·rw [hvs,e1,e2];simp only;rw [if_pos ⟨e3,e4⟩]
     ·simp only [RV,RTy];exact ⟨fl,_,_,rfl,hfl,e5⟩
    ·rename_i m;obtain ⟨vm,hvm,hrm⟩:=qll hmx;split at h
     ·rename_i cc hcc;split at h
      ·rename_i hs;obtain ⟨q,hq,hk⟩:=qd.1 h;obtain ⟨hcb,hk⟩:=qz3 hk;obtain ⟨e1,e2,e3,e4,e5⟩:=hfin q hq;obtain ⟨h1,h2,_,_⟩:=qpO hq;obtain ⟨k3,rfl⟩:=qm7 hcc hrm;have hs':hi'.isSome=true:=by
        cases hi with
        |none=>simp at hs
        |some x=>obtain ⟨v,rfl,_⟩:=qll hhi;rfl
       refine ⟨_,.sl fl true ((l'.take b.toNat).drop a.toNat),hk,?_,?_⟩
       ·rw [hvm,hvs,e1,e2];simp only;rw [if_pos ⟨by rw [hcb];exact qfG (by omega),hs',e3,e4⟩]
       ·simp only [RV];exact ⟨fl,_,rfl,hown,e5.mono λx y hxy=>by
         rw [hnx]at hxy;refine qg5 τ oo x y ?_;rcases qiW.1 hoo with h|h|h
         ·subst h;exact hxy
         ·subst h;exact hxy
         ·exact absurd h hoo2⟩
      ·cases h
     ·cases h
   ·cases h
 ·rename_i elem oo hu;simp only [RV]at hx;obtain ⟨fl,c,rfl,hfl⟩:=hx;split at h
  ·cases h
  ·rename_i hn0;simp only [not_or,Bool.not_eq_true]at hn0;obtain ⟨hoo,hoo2,h0⟩:=hn0;have hown:fl≠.own:=hfl.not hoo hoo2;split at h
   ·rename_i a b ha hb;cases hd:(decide (a=0)&&decide (b=0))with
    |false=>rw [hd]at h;cases h
    |true =>
     rw [hd]at h;simp only [qe,decide_eq_true_eq]at hd;obtain ⟨rfl,rfl⟩:=hd;rw [qdL hmx];refine ⟨_,.sl fl (c&&decide (0=([]:List V).length)) [],h,?_,?_⟩
     ·unfold qdY;rw [hu];simp only;rw [if_neg (by simp only [not_or];exact ⟨hown,h0,by simp⟩)];rw [qe6 (d:=0) ha hlo rfl (by omega),qe6 (d:=([]:List V).length) hb hhi rfl (by omega)];simp
     ·simp only [RV];exact ⟨fl,_,rfl,hfl⟩
   ·cases h
 ·rename_i s hu;simp only [RV,RTy]at hx;subst hx;split at h
  ·rename_i a b ha hb;obtain ⟨q,hq,hk⟩:=qd.1 h;obtain ⟨h1,h2,h3,rfl⟩:=qpO hq;rw [qdL hmx];have hsz:(⟨s.toArray⟩:ByteArray).size=s.length:=by simp [ByteArray.size]
   refine ⟨_,.val (.string ((⟨s.toArray⟩:ByteArray).extract a.toNat b.toNat)),hk,?_,?_⟩
   ·unfold qdY;rw [hu];simp only;rw [qe6 (d:=0) ha hlo rfl h1,qe6 (d:=(⟨s.toArray⟩:ByteArray).size) hb hhi (by rw [hsz]) (by omega)];simp only
    rw [if_pos ⟨rfl,by omega,by rw [hsz];omega⟩]
   ·simp only [RV,RTy,V.val.injEq,Value.string.injEq];apply ByteArray.ext;rw [ByteArray.data_extract];apply Array.ext';simp [List.drop_take]
  ·cases h
 ·cases h
theorem qth{t elem:TypeId}{s n:Nat}{lo hi mx:Option V}(hu:P.underlying t=some (.slice elem)):qdY P t (.room s n) lo hi mx=none:=by
 unfold qdY;rw [hu]
theorem qvv{t:TypeId}{x:TV}{v:V}{lo hi mx:Option TV}{lo' hi' mx':Option V}{R:Type}{k:TV->Option R}{r:R}(hx:RV x v)(hlo:RVO lo lo')(hhi:RVO hi hi')(hmx:RVO mx mx')
  (h:qtc P t x lo hi mx R k=some r):∃y u,k y=some r/\(qdY P t v lo' hi' mx').or (qiA P t v lo' hi' mx')=some u/\RV y u:=by
 unfold qtc at h;split at h
 ·rename_i elem hu;simp only [RV]at hx;subst hx;split at h
  ·cases h
  ·rename_i h0;split at h
   ·rename_i a b ha hb;cases hd:(decide (a=0)&&decide (b=0))with
    |false=>rw [hd]at h;cases h
    |true =>
     rw [hd]at h;simp only [qe,decide_eq_true_eq]at hd;obtain ⟨rfl,rfl⟩:=hd;rw [qdL hmx];refine ⟨_,.val (.slice none 0 0),h,?_,by simp only [RV]⟩;have e:qdY P t (.val (.slice none 0 0)) lo' hi' none=some (.val (.slice none 0 0)):=by
      unfold qdY;rw [hu];simp only;rw [if_neg h0,qe6 (d:=0) ha hlo rfl (by omega),qe6 (d:=0) hb hhi rfl (by omega)];simp [qfm]
     rw [e];rfl
   ·cases h
 ·rename_i elem a s hu;split at h
  ·cases h
  ·rename_i hcond;simp only [not_or,Nat.not_le]at hcond;obtain ⟨h0,ha⟩:=hcond;simp only [RV]at hx;obtain ⟨_,n,rfl,_⟩|⟨h9,_⟩:=hx
   case inr=>omega
   split at h
   ·rename_i kk oo b;obtain ⟨rfl,hk⟩:=qz3 h;rw [qdL hlo,qdL hmx];obtain ⟨w,rfl,hw⟩:=qll hhi;simp only [RV,RTy]at hw;subst hw;refine ⟨_,.room s 0,hk,?_,by simp [RV]⟩;rw [qth hu];unfold qiA;rw [hu];simp only;rw [if_pos h0];rfl
   ·cases h
 ·rename_i n elem r' off hu;split at h
  ·rename_i h1;simp only [RV]at hx;subst hx;split at h
   ·rw [qdL hlo,qdL hhi,qdL hmx];refine ⟨_,.bsl r' off n,h,?_,by simp only [RV]⟩;have e:qdY P t (.ptr r' off) none none none=none:=by unfold qdY;rw [hu]
    rw [e];unfold qiA;rw [hu];simp only;rw [if_pos h1];rfl
   ·cases h
  ·cases h
 ·cases h
end
section
variable {P:Program} {H:Hints} {f:FuncId}
theorem qpX{t:TypeId}{len cap:TV}{len' cap':V}{R:Type}{k:TV->Option R}{r:R}(hl:RV len len')(hc:RV cap cap')(h:qkl P H f t len cap R k=some r) :
  ∃y u,k y=some r/\qev P H f t len' cap'=some u/\RV y u:=by
 unfold qkl at h;split at h
 ·rename_i elem hu;split at h
  ·rename_i z τ n c hz hτ hn hcc;obtain ⟨z',hz',hzr,hzc⟩:=qhO hz;obtain ⟨k1,rfl⟩:=qm7 hn hl;obtain ⟨k2,rfl⟩:=qm7 hcc hc;split at h
   ·rename_i hcond;obtain ⟨h0,hcl,hok,hby,_,_,hup⟩:=hcond;obtain ⟨hup1,hup2⟩:=qyL hup;split at h
    ·rename_i x hx;obtain ⟨q,hq,hk⟩:=qd.1 h;obtain ⟨hcn,hk1⟩:=qz3 hk;subst hcn;obtain ⟨h1,h2,rfl⟩:=qyK hq;have hrt:=qcP _ _ _ _ _ hx hzr;refine ⟨_,.sl .own false (List.replicate c.toNat z'),hk1,?_,?_⟩
     ·unfold qev;rw [hu];simp only;rw [hz',qfG h1,qfG h1];simp only
      have hbb:P.bytesOf elem*c.toNat<=8192*4294967296:=Nat.mul_le_mul hby (by omega);rw [if_pos ⟨Nat.le_refl _,λh=>h,h0,by rw [hzc.length];exact hcl,(RV.cells hok hzr).2,by rw [qbJ _ _ _ _ hrt];rfl,by omega,by omega⟩]
     ·simp only [RV,RTy];exact ⟨.own,false,_,rfl,qeF hup,by rw [hup1];exact All2.replicate hrt _⟩
    ·cases h
   ·cases h
  ·cases h
 ·cases h
theorem big{s b:Nat}(h1:s<=4294967296)(h2:b<=8192):(s+512)*b<=70368744177664:=by
 have:=Nat.mul_le_mul (Nat.add_le_add_right h1 512) h2;omega
def qzg(yt:TypeDesc)(y:V):Option (List V):=match yt,y with
 |.slice _,.sl _ _ l=>some l
 |.slice _,.val (.slice none 0 0)=>some []
 |.string,.val (.string b)=>some (b.data.toList.map λc=>.val (.int .u8 c.toNat))
 |_,_=>none
theorem qkn{argTypes:Array TypeId}{elem:TypeId}{yt:TypeDesc}{x y:V}(h0:(argTypes[0]?).bind P.underlying=some (.slice elem))(h1:(argTypes[1]?).bind P.underlying=some yt) :
  qcU P argTypes x y=match qzg yt y with
  |none=>none
  |some l2 =>
   if P.cellsOf elem=0\/((P.info? elem).bind (·.zero)).map (λz=>z.cells.size)≠some (P.cellsOf elem)\/l2.all (λe=>decide (e.cells.length=P.cellsOf elem)&&e.oks)=false\/(ptrsL l2).isEmpty=false then none else
   match x with
   |.val (.slice none 0 0)=>if l2.isEmpty then some x else if (l2.length+512)*P.bytesOf elem<=70368744177664/\l2.length<=70368744177664 then some (.sl .own false l2)else none
   |.sl fl c l =>
    if l.all (λe=>decide (e.cells.length=P.cellsOf elem))=true/\(l.length+l2.length+512)*P.bytesOf elem<=70368744177664/\l.length+l2.length<=70368744177664 then
     (if fl=.own then some (.sl .own false (l++l2))
     else if c then (if l2.isEmpty then some x else some (.sl .own false (l++l2)))
     else none)
    else none
   |_=>none:=by
 unfold qcU;rw [h0,h1];rfl
theorem qxM{yt:TypeDesc}{y:TV}{τ:Ty}{o:Nat}{l:List τ.den}{v:V}(h:tail? yt y=some ⟨τ,(o,l)⟩)(hy:RV y v) :
  ∃l',qzg yt v=some l'/\All2 (RTy τ o) l l':=by
 unfold tail? at h;split at h
 ·split at h
  ·simp only [qb,Sigma.mk.injEq]at h;obtain ⟨rfl,h⟩:=h;obtain ⟨rfl,rfl⟩:=Prod.mk.inj (eq_of_heq h);simp only [RV,RTy]at hy;obtain ⟨f,c,l',rfl,_,hall⟩:=hy;exact ⟨l',rfl,hall⟩
  ·cases h
 ·split at h
  ·simp only [qb,Sigma.mk.injEq]at h;obtain ⟨rfl,h⟩:=h;obtain ⟨rfl,rfl⟩:=Prod.mk.inj (eq_of_heq h);simp only [RV]at hy;obtain ⟨f,l',rfl,_,hall⟩:=hy;exact ⟨l',rfl,hall⟩
  ·cases h
 ·rename_i s;split at h
  ·simp only [qb,Sigma.mk.injEq]at h;obtain ⟨rfl,h⟩:=h;obtain ⟨rfl,rfl⟩:=Prod.mk.inj (eq_of_heq h);simp only [RV,RTy]at hy;subst hy;refine ⟨_,rfl,?_⟩;simp only
   clear h;have:∀s':List UInt8,All2 (RTy (.int .u8) 0) (s'.map λc=>(c.toNat:Int)) (s'.map λc=>V.val (.int .u8 c.toNat)):=λs'=>by
    induction s' with
    |nil=>exact .nil
    |cons c s ih=>exact .cons (by simp [RTy]) ih
   simpa using this s
  ·cases h
 ·cases h
theorem qeW{argTypes:Array TypeId}{elem:TypeId}{yt:TypeDesc}{l l2:List V}{y:V}
  (h0:(argTypes[0]?).bind P.underlying=some (.slice elem)) (h1:(argTypes[1]?).bind P.underlying=some yt)
  (hy:qzg yt y=some l2)
  (hs0:P.cellsOf elem≠0) (hz:((P.info? elem).bind (·.zero)).map (λz=>z.cells.size)=some (P.cellsOf elem))
  (hl2:∀e∈l2,e.cells.length=P.cellsOf elem/\e.oks=true/\e.qq=[]) (hl:∀e∈l,e.cells.length=P.cellsOf elem)
  (hn:l.length+l2.length<=4294967296) (hb:P.bytesOf elem<=8192) :
  (∀c,qcU P argTypes (.sl .own c l) y=some (.sl .own false (l++l2)))/\(l2≠[]->∀f,f≠.own->qcU P argTypes (.sl f true l) y=some (.sl .own false (l++l2)))/\(l2=[]->∀f,f≠.own->qcU P argTypes (.sl f true l) y=some (.sl f true l)):=by
 have hp:ptrsL l2=[]:=by
  apply List.eq_nil_iff_forall_not_mem.2;intro r hr;obtain ⟨v,hv,hrv⟩:=qmA.1 hr;rw [(hl2 v hv).2.2]at hrv;cases hrv
 have hall2:l2.all (λe=>decide (e.cells.length=P.cellsOf elem)&&e.oks)=true:=by
  rw [List.all_eq_true];intro e he;simp [(hl2 e he).1,(hl2 e he).2.1]
 have hall:l.all (λe=>decide (e.cells.length=P.cellsOf elem))=true:=by
  rw [List.all_eq_true];intro e he;simp [hl e he]
 have hbig:=big (s:=l.length+l2.length) hn hb;have hun:∀(f:Fl) (c:Bool),qcU P argTypes (.sl f c l) y=if l.all (λe=>decide (e.cells.length=P.cellsOf elem))=true/\(l.length+l2.length+512)*P.bytesOf elem<=70368744177664/\l.length+l2.length<=70368744177664 then
     (if f=.own then some (.sl .own false (l++l2))
     else if c then (if l2.isEmpty then some (.sl f c l)else some (.sl .own false (l++l2)))
     else none)
    else none:=λf c=>by
  rw [qkn h0 h1,hy];simp only;rw [if_neg (by simp only [not_or,Decidable.not_not,Bool.not_eq_false];exact ⟨hs0,hz,hall2,by rw [hp];rfl⟩)]
 refine ⟨λc=>?_,λhne f hf=>?_,λhne f hf=>?_⟩
 ·rw [hun,if_pos ⟨hall,hbig,by omega⟩,if_pos rfl]
 ·rw [hun,if_pos ⟨hall,hbig,by omega⟩,if_neg hf,if_pos rfl,if_neg (by simpa using hne)]
 ·rw [hun,if_pos ⟨hall,hbig,by omega⟩,if_neg hf,if_pos rfl,if_pos (by simp [hne])]
theorem qvr{argTypes:Array TypeId}{x y:TV}{x' y':V}{R:Type}{k:TV->Option R}{r:R}(hx:RV x x')(hy:RV y y')(h:qs7 P argTypes x y R k=some r) :
  ∃z u,k z=some r/\qcU P argTypes x' y'=some u/\RV z u:=by
 unfold qs7 at h;split at h
 ·rename_i elem yt h0 h1;split at h
  ·-- nothing is appended
   rename_i ow;simp only [RV]at hy;obtain ⟨fy,cy,rfl,_⟩:=hy;split at h
   ·rename_i e τ o l;split at h
    ·rename_i hc;obtain ⟨ho,hcl,hs0,hz,hb,hok,hel⟩:=hc;obtain ⟨q,hq,hk⟩:=qd.1 h;obtain ⟨hn,rfl⟩:=qeZ hq;simp only [RV,RTy]at hx;obtain ⟨fx,cx,l',rfl,hfx,hall⟩:=hx;have hfo:fx=.own:=hfx.own ho;subst hfo;have hv:=(qeW (l:=l') (l2:=[]) (y:=.sl fy cy []) h0 h1 rfl hs0 hz (by simp) (λe he=>by rw [(qdo hel hall e he).1,hcl]) (by rw [hall.length];exact hn) hb).1 cx;refine ⟨_,_,hk,hv,?_⟩;simp only [RV,RTy];exact ⟨.own,false,_,rfl,qeF ho,by simpa using hall⟩
    ·cases h
   ·rename_i e;split at h
    ·rename_i hc;obtain ⟨hoe,hs0,hz,hb⟩:=hc;simp only [RV]at hx;obtain ⟨fx,cx,rfl,hfx⟩:=hx;have hfo:fx=.own:=hfx.own hoe;subst hfo;have hv:=(qeW (l:=[]) (l2:=[]) (y:=.sl fy cy []) h0 h1 rfl hs0 hz (by simp) (by simp) (by simp) hb).1 cx;exact ⟨_,_,h,hv,by simp only [RV];exact ⟨_,_,rfl,hfx⟩⟩
    ·cases h
   ·cases h
  ·split at h
   ·cases h
   ·rename_i τ o2 l2 ht;obtain ⟨l2',hl2',hall2⟩:=qxM ht hy;split at h
    ·rename_i hc;obtain ⟨hcl,hs0,hz,hb,hok,hel⟩:=hc;have hc2:∀e∈l2',e.cells.length=P.cellsOf elem/\e.oks=true/\e.qq=[]:=λe he=>by
      obtain ⟨h1,h2,h3⟩:=qdo hel hall2 e he;exact ⟨by rw [h1,hcl],h2,h3⟩
     split at h
     ·rename_i τ' o l;split at h
      ·rename_i he;subst he;split at h
       ·rename_i hoo;obtain ⟨q,hq,hk⟩:=qd.1 h;obtain ⟨hn,rfl⟩:=qeZ hq;simp only [RV,RTy]at hx;obtain ⟨fx,cx,l',rfl,hfx,hall⟩:=hx;have hfo:fx=.own:=hfx.own hoo;subst hfo;have hv:=(qeW (l:=l') (l2:=l2') h0 h1 hl2' hs0 hz hc2 (λe he=>by rw [(qdo hel hall e he).1,hcl]) (by rw [hall.length,hall2.length];exact hn) hb).1 cx;refine ⟨_,_,hk,hv,?_⟩;simp only [RV,RTy];split
        ·rename_i hf;exact ⟨.own,false,_,rfl,qeF hoo,hall.append (hall2.mono λa b hab=>qeT _ _ _ _ _ hf hab)⟩
        ·have hall':∀d o',fits d o' (nx 2001)=true:=λd o'=>by cases d<;>rfl
         exact ⟨.own,false,_,rfl,qeF rfl,(hall.mono λa b hab=>qeT _ _ _ _ _ (hall' _ _) hab).append (hall2.mono λa b hab=>qeT _ _ _ _ _ (hall' _ _) hab)⟩
       ·cases h
      ·cases h
     ·split at h
      ·rename_i hup0;obtain ⟨hoe,hup⟩:=hup0;obtain ⟨hup1,hup2⟩:=qyL hup;obtain ⟨q,hq,hk⟩:=qd.1 h;obtain ⟨hn,rfl⟩:=qeZ hq;simp only [RV]at hx;obtain ⟨fx,cx,rfl,hfx⟩:=hx;have hfo:fx=.own:=hfx.own hoe;subst hfo;have hv:=(qeW (l:=[]) (l2:=l2') h0 h1 hl2' hs0 hz hc2 (by simp) (by rw [hall2.length];simpa using hn) hb).1 cx;refine ⟨_,_,hk,hv,?_⟩;simp only [RV,RTy];exact ⟨.own,false,_,rfl,qeF hup,by rw [hup1];simpa using hall2⟩
      ·cases h
     ·rename_i τ' l;split at h
      ·rename_i he;subst he;obtain ⟨q,hq,hk⟩:=qd.1 h;obtain ⟨hn,rfl⟩:=qeZ hq;simp only [RV]at hx;obtain ⟨fx,l',rfl,hfx,hall⟩:=hx;have hup:∀{o:Nat} {m:List τ'.den} {m':List V},All2 (RTy τ' o) m m'->All2 (RTy τ' (nx 2000)) m m':=λhm=>hm.mono λa b hab=>qeT _ _ _ _ _ (qlG _ _) hab;have hv2:=qeW (l:=l') (l2:=l2') h0 h1 hl2' hs0 hz hc2 (λe he=>by rw [(qdo hel hall e he).1,hcl]) (by rw [hall.length,hall2.length];exact hn) hb;by_cases hne:l2'=[]
       ·refine ⟨_,_,hk,hv2.2.2 hne fx hfx,?_⟩;subst hne;cases hall2;simp only [RV,RTy];exact ⟨fx,true,l',rfl,⟨λe=>absurd rfl e,λe=>by cases e⟩,by simpa [cast']using hup hall⟩
       ·refine ⟨_,_,hk,hv2.2.1 hne fx hfx,?_⟩;simp only [RV,RTy];exact ⟨.own,false,_,rfl,⟨λe=>absurd rfl e,λe=>by cases e⟩,(hup hall).append (hup hall2)⟩
      ·cases h
     ·cases h
    ·cases h
 ·cases h
theorem qag{op:BinOp}{t:TypeId}{xo yo:Operand}{a b u:Value}(h:Ab.valOf P (do eqGuard op t xo yo a b;Go.binOp op t a b)=some u):qko P op t xo yo (.val a) (.val b)=some (qb1 u):=by
 unfold qko;simp only [V.toVal,h,qi]
theorem qn{α β:Type}(s:Sem α)(g:α->Sem β):Ab.valOf P (s >>= g)=(Ab.valOf P s).bind λa=>Ab.valOf P (g a):=by
 induction s with
 |pure a=>rfl
 |program k ih=>exact ih P
 |mark m k ih=>exact ih
 |_=>rfl
theorem qQ{α:Type}(a:α):Ab.valOf P (pure a)=some a:=rfl
theorem qug{t:TypeId}{xo yo:Operand}{k1 k2:IntKind}{a b n:Int}(h:qCr k1 a b=some n):qko P .shl t xo yo (.val (.int k1 a)) (.val (.int k2 b))=some (.val (.int k1 n)):=by
 unfold qCr at h;split at h
 ·rename_i h0;cases h;exact qag (u:=.int k1 _) (by simp [eqGuard,Go.binOp,Op.shift,Int.not_lt.2 h0,qQ])
 ·cases h
theorem quh{t:TypeId}{xo yo:Operand}{k1 k2:IntKind}{a b n:Int}(h:qCs k1 a b=some n):qko P .shr t xo yo (.val (.int k1 a)) (.val (.int k2 b))=some (.val (.int k1 n)):=by
 unfold qCs at h;split at h
 ·rename_i h0;cases h;exact qag (u:=.int k1 _) (by simp [eqGuard,Go.binOp,Op.shift,Int.not_lt.2 h0,qQ])
 ·cases h
theorem qzj{op:BinOp}{t:TypeId}{xo yo:Operand}{k1:IntKind}{a b:Int}{R:Type}{k:TV->Option R}{r:R}{o1 o2:Nat}(h:qrO P op t (.t (.int k1) o1 a) (.t (.int k1) o2 b) R k=some r) :
  ∃z u,k z=some r/\qko P op t xo yo (.val (.int k1 a)) (.val (.int k1 b))=some u/\RV z u:=by
 have hrem:∀{z:TV},(bif decide (b=0)then none else k z)=some r->b≠0/\k z=some r:=λ{z} h=>by
  cases hd:decide (b=0)with
  |true=>rw [hd]at h;cases h
  |false=>rw [hd]at h;exact ⟨of_decide_eq_false hd,h⟩
 cases op<;>simp only [qrO,if_true]at h<;>try (cases h;done)
 case quo =>
  obtain ⟨h0,h⟩:=hrem h;refine ⟨_,.val (.int k1 (k1.wrap (a.tdiv b))),h,?_,by simp [RV,RTy]⟩;exact qag (u:=.int k1 (k1.wrap (a.tdiv b))) (by simp [eqGuard,Go.binOp,Op.intDiv,h0,qQ])
 case rem =>
  obtain ⟨h0,h⟩:=hrem h;refine ⟨_,.val (.int k1 (a.tmod b)),h,?_,by simp [RV,RTy]⟩;exact qag (u:=.int k1 (a.tmod b)) (by simp [eqGuard,Go.binOp,Op.intDiv,h0,qQ])
 case add =>
  refine ⟨_,.val (.int k1 (k1.wrap (a+b))),h,?_,by simp [RV,RTy]⟩;exact qag (u:=.int k1 (k1.wrap (a+b))) (by simp [eqGuard,Go.binOp,Op.intArith,qQ])
 case sub =>
  refine ⟨_,.val (.int k1 (k1.wrap (a-b))),h,?_,by simp [RV,RTy]⟩;exact qag (u:=.int k1 (k1.wrap (a-b))) (by simp [eqGuard,Go.binOp,Op.intArith,qQ])
 case mul =>
  refine ⟨_,.val (.int k1 (k1.wrap (a*b))),h,?_,by simp [RV,RTy]⟩;exact qag (u:=.int k1 (k1.wrap (a*b))) (by simp [eqGuard,Go.binOp,Op.intArith,qQ])
 case eql =>
  refine ⟨_,.val (.bool (decide (a=b))),h,?_,by simp [RV,RTy]⟩;exact qag (u:=.bool (decide (a=b))) (by simp [eqGuard,Go.binOp,Op.intCmp,qQ];rfl)
 case neq =>
  refine ⟨_,.val (.bool (!decide (a=b))),h,?_,by simp [RV,RTy]⟩;exact qag (u:=.bool (!decide (a=b))) (by simp [eqGuard,Go.binOp,Op.intCmp,qQ,bne];rfl)
 case lss =>
  refine ⟨_,.val (.bool (decide (a<b))),h,?_,by simp [RV,RTy]⟩;exact qag (u:=.bool (decide (a<b))) (by simp [eqGuard,Go.binOp,Op.intCmp,qQ])
 case leq =>
  refine ⟨_,.val (.bool (decide (a<=b))),h,?_,by simp [RV,RTy]⟩;exact qag (u:=.bool (decide (a<=b))) (by simp [eqGuard,Go.binOp,Op.intCmp,qQ])
 case gtr =>
  refine ⟨_,.val (.bool (decide (a > b))),h,?_,by simp [RV,RTy]⟩;exact qag (u:=.bool (decide (a > b))) (by simp [eqGuard,Go.binOp,Op.intCmp,qQ])
 case geq =>
  refine ⟨_,.val (.bool (decide (a>=b))),h,?_,by simp [RV,RTy]⟩;exact qag (u:=.bool (decide (a>=b))) (by simp [eqGuard,Go.binOp,Op.intCmp,qQ])
 case and =>
  refine ⟨_,.val (.int k1 (qBR k1 a b)),h,?_,by simp [RV,RTy]⟩;exact qag (u:=.int k1 (qBR k1 a b)) (by simp [eqGuard,Go.binOp,Op.intBits,qQ,qBR])
 case or =>
  refine ⟨_,.val (.int k1 (orI k1 a b)),h,?_,by simp [RV,RTy]⟩;exact qag (u:=.int k1 (orI k1 a b)) (by simp [eqGuard,Go.binOp,Op.intBits,qQ,orI])
 case xor =>
  refine ⟨_,.val (.int k1 (qBY k1 a b)),h,?_,by simp [RV,RTy]⟩;exact qag (u:=.int k1 (qBY k1 a b)) (by simp [eqGuard,Go.binOp,Op.intBits,qQ,qBY])
 case andNot =>
  refine ⟨_,.val (.int k1 (qoE k1 a b)),h,?_,by simp [RV,RTy]⟩;exact qag (u:=.int k1 (qoE k1 a b)) (by simp [eqGuard,Go.binOp,Op.intBits,qQ,qoE])
 case shl =>
  obtain ⟨n,hn,hk⟩:=qd.1 h;exact ⟨_,_,hk,qug hn,by simp [RV,RTy]⟩
 case shr =>
  obtain ⟨n,hn,hk⟩:=qd.1 h;exact ⟨_,_,hk,quh hn,by simp [RV,RTy]⟩
theorem qvs{op:BinOp}(hop:op=.shl\/op=.shr){t:TypeId}{xo yo:Operand}{k1 k2:IntKind}{a b:Int}{R:Type}{k:TV->Option R}{r:R}{o1 o2:Nat}(h:qrO P op t (.t (.int k1) o1 a) (.t (.int k2) o2 b) R k=some r) :
  ∃z u,k z=some r/\qko P op t xo yo (.val (.int k1 a)) (.val (.int k2 b))=some u/\RV z u:=by
 rcases hop with rfl|rfl
 ·simp only [qrO]at h;obtain ⟨n,hn,hk⟩:=qd.1 h;exact ⟨_,_,hk,qug hn,by simp [RV,RTy]⟩
 ·simp only [qrO]at h;obtain ⟨n,hn,hk⟩:=qd.1 h;exact ⟨_,_,hk,quh hn,by simp [RV,RTy]⟩
theorem qkX{op:BinOp}{k:FloatKind}{x y r:Nat}(h:floatBits op k x y=some r):Ab.valOf P (Op.floatArith op k x y)=some (.float k r):=by
 unfold floatBits at h;cases op<;>simp only at h<;>first|(cases h;done)|skip
 all_goals (simp [Op.floatArith,h];rfl)
theorem qbC{op:BinOp}{k:FloatKind}{x y r:Nat}(h:floatBits op k x y=some r):Ab.valOf P (Op.Complex.arith op k x y)=some r:=by
 unfold Op.Complex.arith;rw [qn,qkX h];rfl
theorem qvx{t:TypeId}{a b c d re im:Nat}(h:cSumBits .add .f64 a b c d=some (re,im)):Ab.valOf P (Go.binOp .add t (.complex .f64 a b) (.complex .f64 c d))=some (.complex .f64 re im):=by
 unfold cSumBits at h;obtain ⟨x,h1,h⟩:=qd.1 h;obtain ⟨y,h2,h⟩:=qd.1 h;cases h;simp only [Go.binOp,ne_eq,not_true,if_false,Op.complexOp];rw [qn,qbC h1,qa,qn,qbC h2];rfl
theorem qvw{t:TypeId}{a b c d re im:Nat}(h:cMulBits a b c d=some (re,im)):Ab.valOf P (Go.binOp .mul t (.complex .f64 a b) (.complex .f64 c d))=some (.complex .f64 re im):=by
 unfold cMulBits at h;obtain ⟨ac,h1,h⟩:=qd.1 h;obtain ⟨bd,h2,h⟩:=qd.1 h;obtain ⟨x,h3,h⟩:=qd.1 h;obtain ⟨ad,h4,h⟩:=qd.1 h;obtain ⟨bc,h5,h⟩:=qd.1 h;obtain ⟨y,h6,h⟩:=qd.1 h;cases h;have hp:Ab.valOf P (Op.Complex.product a b c d)=some (re,im):=by
  unfold Op.Complex.product Op.Complex.mul Op.Complex.sub Op.Complex.add;rw [qn,qbC h1,qa,qn,qbC h2,qa,qn,qbC h3,qa,qn,qbC h4,qa,qn,qbC h5,qa,qn,qbC h6];rfl
 have hc:∀x,Ab.valOf P (Op.Complex.conv .f64 x .f64)=some x:=λx=>by unfold Op.Complex.conv;simp [qQ]
 simp only [Go.binOp,ne_eq,not_true,if_false,Op.complexOp];rw [qn,hc,qa,qn,hc,qa,qn,hc,qa,qn,hc,qa];simp only [beq_self_eq_true,if_true];rw [qn,hp,qa,qn,hc,qa,qn,hc];rfl
theorem qdG{n m:Int}(h:flo n=some m):m=n/\n.natAbs<2 ^ 53:=by
 unfold flo at h;split at h
 ·rename_i h1;cases h;exact ⟨rfl,h1⟩
 ·cases h
theorem qAK{op:BinOp}{t:TypeId}{xo yo:Operand}{a b:Int×Int}{x y:V}{o1 o2:Nat}{R:Type}{k:TV->Option R}{r:R}(hx:RV (.t .cx o1 a) x)(hy:RV (.t .cx o2 b) y)(h:qrO P op t (.t .cx o1 a) (.t .cx o2 b) R k=some r) :
  ∃z u,k z=some r/\qko P op t xo yo x y=some u/\RV z u:=by
 simp only [RV,RTy]at hx hy;obtain ⟨b1,b2,rfl,i1,i2⟩:=hx;obtain ⟨c1,c2,rfl,j1,j2⟩:=hy;unfold qrO at h;simp only at h;split at h
 ·obtain ⟨re,h1,h⟩:=qd.1 h;obtain ⟨im,h2,h⟩:=qd.1 h;obtain ⟨rfl,g1⟩:=qdG h1;obtain ⟨rfl,g2⟩:=qdG h2;obtain ⟨re,im,e,r1,r2⟩:=Fl.qz9 i1 i2 j1 j2 g1 g2;refine ⟨_,.val (.complex .f64 re im),h,qag (u:=.complex .f64 re im) ?_,by simp only [RV,RTy];exact ⟨re,im,rfl,r1,r2⟩⟩;rw [qn];show (some ()).bind (λ_=>Ab.valOf P (Go.binOp .add t (.complex .f64 b1 b2) (.complex .f64 c1 c2)))=_;exact qvx e
 ·obtain ⟨ac,h1,h⟩:=qd.1 h;obtain ⟨bd,h2,h⟩:=qd.1 h;obtain ⟨rfl,g1⟩:=qdG h1;obtain ⟨rfl,g2⟩:=qdG h2;obtain ⟨x,h3,h⟩:=qd.1 h;obtain ⟨rfl,g3⟩:=qdG h3;obtain ⟨ad,h4,h⟩:=qd.1 h;obtain ⟨bc,h5,h⟩:=qd.1 h;obtain ⟨rfl,g4⟩:=qdG h4;obtain ⟨rfl,g5⟩:=qdG h5;obtain ⟨y,h6,h⟩:=qd.1 h;obtain ⟨rfl,g6⟩:=qdG h6;obtain ⟨re,im,e,r1,r2⟩:=Fl.qz7 i1 i2 j1 j2 g1 g2 g3 g4 g5 g6;refine ⟨_,.val (.complex .f64 re im),h,qag (u:=.complex .f64 re im) ?_,by simp only [RV,RTy];exact ⟨re,im,rfl,r1,r2⟩⟩;rw [qn];show (some ()).bind (λ_=>Ab.valOf P (Go.binOp .mul t (.complex .f64 b1 b2) (.complex .f64 c1 c2)))=_;exact qvw e
 ·cases h
theorem qzk{op:BinOp}{t:TypeId}{xo yo:Operand}{a b:List UInt8}{R:Type}{k:TV->Option R}{r:R}{o1 o2:Nat}(h:qrO P op t (.t .str o1 a) (.t .str o2 b) R k=some r) :
  ∃z u,k z=some r/\qko P op t xo yo (.val (.string ⟨a.toArray⟩)) (.val (.string ⟨b.toArray⟩))=some u/\RV z u:=by
 cases op<;>simp only [qrO]at h<;>try (cases h;done)
 case eql =>
  refine ⟨_,.val (.bool (decide (a=b))),h,?_,by simp [RV,RTy]⟩;exact qag (u:=.bool (decide (a=b))) (by simp [eqGuard,binOp_string_eql,qQ];rw [Bool.eq_iff_iff];simp)
 case neq =>
  refine ⟨_,.val (.bool (!decide (a=b))),h,?_,by simp [RV,RTy]⟩;exact qag (u:=.bool (!decide (a=b))) (by simp [eqGuard,binOp_string_neq,qQ];rw [Bool.eq_iff_iff];simp)
 case lss =>
  refine ⟨_,.val (.bool (Op.bytesLess a b)),h,?_,by simp [RV,RTy]⟩;exact qag (u:=.bool (Op.bytesLess a b)) (by simp [eqGuard,binOp_string_lss,qQ])
 case add =>
  obtain ⟨q,hq,hk⟩:=qd.1 h;obtain ⟨hn,rfl⟩:=qeZ hq;refine ⟨_,.val (.string ⟨(a++b).toArray⟩),hk,?_,by simp [RV,RTy]⟩;refine qag (u:=.string ⟨(a++b).toArray⟩) ?_;have h1:(⟨a.toArray⟩:ByteArray).size=a.length:=by simp [ByteArray.size]
  have h2:(⟨b.toArray⟩:ByteArray).size=b.length:=by simp [ByteArray.size]
  have h3:(⟨a.toArray⟩++⟨b.toArray⟩:ByteArray)=⟨(a++b).toArray⟩:=by apply ByteArray.ext;simp
  have h4:¬ (((⟨a.toArray⟩:ByteArray).size+(⟨b.toArray⟩:ByteArray).size:Nat):Int) > IntKind.i64.max:=by
   rw [h1,h2];simp only [IntKind.max,IntKind.signed,IntKind.bits,if_true]<;>omega
  have h5:Go.binOp .add t (.string ⟨a.toArray⟩) (.string ⟨b.toArray⟩)=pure (.string ⟨(a++b).toArray⟩):=by
   simp only [Go.binOp,Op.stringOp];rw [if_neg h4,h3]
  simp only [eqGuard];rw [h5];rfl
theorem qw{t:TypeId}{d:TypeDesc}(h:P.underlying t=some d):Ab.valOf P (underlying t)=some d:=by
 unfold Go.underlying;simp only [qn];have h1:Ab.valOf P Go.program=some P:=rfl;simp only [h1,qa,h];rfl
theorem qkv{n:Nat}{t:TypeId}(h:P.underlying t=some .bool)(a b:Bool):Ab.valOf P (Op.equalIn (n+1) t (.bool a) (.bool b))=some (a==b):=by
 unfold Op.equalIn;rw [qn,qw h];rfl
theorem qsh{n:Nat}{t:TypeId}{k0:IntKind}(h:P.underlying t=some (.int k0))(k:IntKind)(a b:Int):Ab.valOf P (Op.equalIn (n+1) t (.int k a) (.int k b))=some (decide (a=b)):=by
 unfold Op.equalIn;rw [qn,qw h];simp only [qa,if_true];rfl
theorem qsi{n:Nat}{t:TypeId}(h:P.underlying t=some .string)(a b:List UInt8):Ab.valOf P (Op.equalIn (n+1) t (.string ⟨a.toArray⟩) (.string ⟨b.toArray⟩))=some (decide (a=b)):=by
 unfold Op.equalIn;rw [qn,qw h];simp only [qa];show some ((⟨a.toArray⟩:ByteArray)==⟨b.toArray⟩)=_;rw [qb,Bool.eq_iff_iff];first
 |(show (a.toArray==b.toArray)=true↔decide (a=b)=true;simp)
 |(show decide ((⟨a.toArray⟩:ByteArray)=⟨b.toArray⟩)=true↔decide (a=b)=true;simp)
def qB1(x:TV)(u:Value):Prop:=(qvj x=true/\RV x (.val u))\/∃(l:List TV) (vs:List Value),x=.agg l/\u=.agg vs.toArray/\l.all qvj=true/\RVL l (vs.map .val)
theorem qy6{x:TV}{v:V}(h:qvj x=true)(hr:RV x v):∃u,v=.val u:=by
 cases x with
 |t τ o x=>cases τ<;>simp only [RV,RTy]at hr<;>first|exact ⟨_,hr⟩|simp [qvj]at h
 |_=>simp [qvj]at h
theorem qmX:∀{l:List TV} {l':List V},l.all qvj=true->RVL l l'->∃vs:List Value,l'=vs.map .val
 |[],l',_,h=>by simp only [RVL]at h;exact ⟨[],by simp [h]⟩
 |x::l,l',h1,h=>by
  simp only [RVL]at h;obtain ⟨v,m,rfl,h2,h3⟩:=h;simp only [List.all_cons,qe]at h1;obtain ⟨u,rfl⟩:=qy6 h1.1 h2;obtain ⟨vs,rfl⟩:=qmX h1.2 h3;exact ⟨u::vs,rfl⟩
theorem qiy:∀vs:List Value,toValL (vs.map .val)=some vs
 |[]=>rfl
 |u::vs=>by simp [toValL,V.toVal,qiy vs]
theorem qnA{t:TypeId}{i:TypeInfo}(h:P.info? t=some i):Ab.valOf P (typeInfo t)=some i:=by
 unfold typeInfo;simp only [qn];have h1:Ab.valOf P Go.program=some P:=rfl;simp only [h1,qa,h];rfl
theorem qnb{t:TypeId}{d:TypeDesc}(h:P.underlying t=some d):∃i,P.info? t=some i:=by
 unfold Program.underlying at h;cases hi:P.info? t with
 |none=>rw [hi]at h;cases h
 |some i=>exact ⟨i,rfl⟩
theorem qsI{t:TypeId}{xs:List TV}{vs:List Value}{off:Nat}{u:TV}(hs:xs.all qvj=true)(hr:RVL xs (vs.map .val))(h:qaQ P t (xs.drop off)=some u) :
  ∃w,Ab.valOf P (part t vs.toArray off)=some w/\qB1 u w:=by
 unfold qaQ at h;split at h
 ·cases h
 ·rename_i d hd;obtain ⟨i,hi⟩:=qnb hd;have hsz:Ab.valOf P (sizeOf t)=some (P.cellsOf t):=by
   unfold sizeOf;rw [qn,qnA hi];simp [Program.cellsOf,hi,qQ]
  have hag:Ab.valOf P (isAgg t)=some (qO P t):=by
   unfold isAgg qO;rw [qn,qw hd,hd];cases d<;>rfl
  unfold part;rw [qn,hag];simp only [qa];split at h
  ·rename_i ha;rw [if_pos ha];split at h
   ·rename_i hl;cases h;rw [qn,hsz];refine ⟨_,rfl,.inr ⟨_,(vs.drop off).take (P.cellsOf t),rfl,?_,?_,?_⟩⟩
    ·congr 1
     apply Array.ext';simp [List.take_drop]
    ·rw [List.all_eq_true]at hs ⊢;exact λy hy=>hs y (List.mem_of_mem_drop (List.mem_of_mem_take hy))
    ·rw [List.map_take,List.map_drop];exact (hr.drop off).take _
   ·cases h
  ·rename_i ha;rw [if_neg ha];have hx:xs[off]?=some u:=by simpa [List.head?_drop]using h
   obtain ⟨v,hv,hrv⟩:=hr.get hx;rw [List.getElem?_map]at hv;obtain ⟨w,hw,rfl⟩:=qc.1 hv;have hw':vs.toArray[off]?=some w:=by simpa using hw
   rw [hw'];refine ⟨w,rfl,.inl ⟨?_,hrv⟩⟩;rw [List.all_eq_true]at hs;exact hs u (List.mem_of_getElem? hx)
theorem qub:∀(d:Nat) (t:TypeId) (x y:TV) (b:Bool),teq P d t x y=some b->∀n,d<=n->∀u v,qB1 x u->qB1 y v->Ab.valOf P (Op.equalIn n t u v)=some b
 |0,t,x,y,b,h,n,hn,u,v,hu,hv=>by simp [teq]at h
 |d+1,t,x,y,b,h,n,hn,u,v,hu,hv=>by
  obtain ⟨n,rfl⟩:∃m,n=m+1:=⟨n-1,by omega⟩
  unfold teq at h;split at h
  ·rename_i k0 k o a k' o' a' ht;split at h
   ·rename_i hk;subst hk;cases h;rcases hu with ⟨_,hu⟩|⟨_,_,hu,_⟩
    ·rcases hv with ⟨_,hv⟩|⟨_,_,hv,_⟩
     ·simp only [RV,RTy,V.val.injEq]at hu hv;subst hu;subst hv;exact qsh ht _ _ _
     ·cases hv
    ·cases hu
   ·cases h
  ·rename_i o a o' a' ht;cases h;rcases hu with ⟨_,hu⟩|⟨_,_,hu,_⟩
   ·rcases hv with ⟨_,hv⟩|⟨_,_,hv,_⟩
    ·simp only [RV,RTy,V.val.injEq]at hu hv;subst hu;subst hv;exact qkv ht _ _
    ·cases hv
   ·cases hu
  ·rename_i o a o' a' ht;cases h;rcases hu with ⟨_,hu⟩|⟨_,_,hu,_⟩
   ·rcases hv with ⟨_,hv⟩|⟨_,_,hv,_⟩
    ·simp only [RV,RTy,V.val.injEq]at hu hv;subst hu;subst hv;exact qsi ht _ _
    ·cases hv
   ·cases hu
  ·rename_i fields xs ys ht;split at h
   ·cases h
   ·rename_i hheld;rcases hu with ⟨hu,_⟩|⟨l,vs,hl,rfl,hsx,hrx⟩
    ·simp [qvj]at hu
    ·rcases hv with ⟨hv,_⟩|⟨m,ws,hm,rfl,hsy,hry⟩
     ·simp [qvj]at hv
     ·cases hl;cases hm
      unfold Op.equalIn;rw [qn, qw ht];simp only [qa];rw [qn];have h1 : Ab.valOf P Go.program = some P := rfl;simp only [h1, qa];rw [if_neg hheld, qn, <- Array.forIn_toList];have key : ∀ (fs : List Field) (b : Bool), fs.foldr (fun fd acc => if fd.name = "_" then none else
        match qaQ P fd.type (xs.drop fd.offset),qaQ P fd.type (ys.drop fd.offset),acc with
        |some u,some v,some b=>(teq P d fd.type u v).map λa=>bif a then b else false
        |_,_,_=>none) (some true)=some b ->
        Ab.valOf P (forIn fs ((none:Option Bool),()) λf __s=>(
         if f.name ≠ "_" then do
          let __do_lift <- part f.type vs.toArray f.offset
          let __do_lift_1 <- part f.type ws.toArray f.offset
          let __do_lift <- Op.equalIn n f.type __do_lift __do_lift_1
          if (!__do_lift)=true then pure (ForInStep.done (some false,()))
           else pure (ForInStep.yield (none,()))
         else pure (ForInStep.yield (none,())):Sem _))=some (if b then (none,())else (some false,())):=by
       intro fs;induction fs with
       |nil=>intro b hb;simp only [List.foldr_nil,qb]at hb;subst hb;rfl
       |cons fd fs ih =>
        intro b hb;simp only [List.foldr_cons]at hb;split at hb
        ·cases hb
        ·rename_i qbO;split at hb
         ·rename_i u v b' hu hv hacc;obtain ⟨a,ha,rfl⟩:=qc.1 hb;obtain ⟨w1,hw1,hr1⟩:=qsI hsx hrx hu;obtain ⟨w2,hw2,hr2⟩:=qsI hsy hry hv;have he:=qub d fd.type u v a ha n (by omega) w1 w2 hr1 hr2;have ih':=ih b' hacc;rw [List.forIn_cons,qn,if_pos qbO,qn,hw1];simp only [qa];rw [qn,hw2];simp only [qa];rw [qn,he];simp only [qa];cases a with
          |true =>
           simp only [Bool.not_true,qf,if_false,qQ,qa,cond_true];exact ih'
          |false =>
           simp only [Bool.not_false,if_true,qQ,qa,cond_false,qf,if_false]
         ·cases hb
      have hkey:=key fields.toList b h;rw [hkey];simp only [qa];cases b<;>rfl
  ·cases h
theorem qdw:9<=Op.maxDepth:=by unfold Op.maxDepth;omega
theorem qzi{op:BinOp}{t:TypeId}{xo yo:Operand}{l m:List TV}{l' m':List V}{R:Type}{k:TV->Option R}{r:R}(hl:RVL l l')(hm:RVL m m')(h:qrO P op t (.agg l) (.agg m) R k=some r) :
  ∃z u,k z=some r/\qko P op t xo yo (.agg l') (.agg m')=some u/\RV z u:=by
 simp only [qrO]at h;split at h
 ·cases h
 ·rename_i hc;simp only [Bool.or_eq_true,Bool.not_eq_true',not_or,Bool.not_eq_true,Bool.not_eq_false,qe]at hc;obtain ⟨hg,hs1,hs2⟩:=hc;split at h
  ·rename_i b hb;obtain ⟨vs,rfl⟩:=qmX hs1 hl;obtain ⟨ws,rfl⟩:=qmX hs2 hm;have he:=qub 9 t _ _ b hb Op.maxDepth qdw _ _ (.inr ⟨l,vs,rfl,rfl,hs1,hl⟩) (.inr ⟨m,ws,rfl,rfl,hs2,hm⟩);have hv:∀u,Ab.valOf P (do eqGuard op t xo yo (.agg vs.toArray) (.agg ws.toArray);Go.binOp op t (.agg vs.toArray) (.agg ws.toArray))=some u->qko P op t xo yo (.agg (vs.map .val)) (.agg (ws.map .val))=some (qb1 u):=λu hu=>by
    unfold qko;simp only [V.toVal,qiy,qi,hu]
   have hguard:∀op,(op=.eql\/op=.neq)->Ab.valOf P (eqGuard op t xo yo (.agg vs.toArray) (.agg ws.toArray))=some ():=λop hop=>by
    have h1:Ab.valOf P Go.program=some P:=rfl;rcases hop with rfl|rfl<;>simp only [eqGuard]<;>(simp only [Bool.not_true,qf,if_false,qn,h1,qa,hg,Bool.not_false,if_true];rfl)
   split at h
   ·refine ⟨_,.val (.bool b),h,?_,by simp [RV,RTy]⟩;refine hv (.bool b) ?_;rw [qn,hguard .eql (.inl rfl)];simp only [qa];show Ab.valOf P (Op.equal t _ _ >>= λx=>(pure (Value.bool x):Sem Value))=_;rw [qn];unfold Op.equal;rw [he];rfl
   ·refine ⟨_,.val (.bool (!b)),h,?_,by simp [RV,RTy]⟩;refine hv (.bool (!b)) ?_;rw [qn,hguard .neq (.inr rfl)];simp only [qa];show Ab.valOf P (Op.equal t _ _ >>= λx=>(pure (Value.bool (!x)):Sem Value))=_;rw [qn];unfold Op.equal;rw [he];rfl
   ·cases h
  ·cases h
theorem qnK{t:TypeId}(h:P.underlying t=some .bool)(a b:Bool):Ab.valOf P (Op.equal t (.bool a) (.bool b))=some (a==b):=by
 unfold Op.equal;obtain ⟨n,hn⟩:∃n,Op.maxDepth=n+1:=⟨Op.maxDepth-1,by have:=qdw;omega⟩
 rw [hn];exact qkv h a b
theorem qxP{op:BinOp}{t:TypeId}{xo yo:Operand}{a b:Bool}{R:Type}{k:TV->Option R}{r:R}{o1 o2:Nat}(h:qrO P op t (.t .bool o1 a) (.t .bool o2 b) R k=some r) :
  ∃z u,k z=some r/\qko P op t xo yo (.val (.bool a)) (.val (.bool b))=some u/\RV z u:=by
 simp only [qrO]at h;split at h
 ·rename_i hu;refine ⟨_,.val (.bool (a==b)),h,?_,by simp [RV,RTy]⟩;refine qag (u:=.bool (a==b)) ?_;show Ab.valOf P (Op.equal t _ _ >>= λx=>(pure (Value.bool x):Sem Value))=_;rw [qn,qnK hu];rfl
 ·rename_i hu;refine ⟨_,.val (.bool (!(a==b))),h,?_,by simp [RV,RTy]⟩;refine qag (u:=.bool (!(a==b))) ?_;show Ab.valOf P (Op.equal t _ _ >>= λx=>(pure (Value.bool (!x)):Sem Value))=_;rw [qn,qnK hu];rfl
 ·cases h
theorem qrU{argTypes:Array TypeId}{s n:Nat}{y:V}:qcU P argTypes (.room s n) y=none:=by
 unfold qcU;split
 ·simp only
  split
  ·rfl
  ·split
   ·rfl
   ·rfl
 ·rfl
theorem qp0{argTypes:Array TypeId}{s n:Nat}{y:V}:qel P argTypes (.room s n) y=none:=by
 unfold qel;split
 ·rename_i h;cases h
 ·rfl
theorem qs8{argTypes:Array TypeId}{x y:TV}{x' y':V}{R:Type}{k:TV->Option R}{r:R}(hx:RV x x')(hy:RV y y')(h:qpR P argTypes x y R k=some r) :
  ∃z u,k z=some r/\(qcU P argTypes x' y').or ((qel P argTypes x' y').or (qgr P argTypes x' y'))=some u/\RV z u:=by
 unfold qpR at h;split at h
 ·rename_i elem yt h0 h1;split at h
  ·rename_i hc0;obtain ⟨hs0,hz,hb⟩:=hc0;split at h
   ·rename_i ik o n;simp only [RV]at hx;subst hx;simp only [RV,RTy]at hy;subst hy;cases hd:(decide (0<n)&&decide (n<=4294967296))with
    |false=>rw [hd]at h;cases h
    |true =>
     rw [hd]at h;simp only [qe,decide_eq_true_eq]at hd;have key:∀m:Int,0<m->m<=4294967296->m.toNat<=4294967296/\m<=70368744177664:=λm _ _=>by omega
     obtain ⟨key1,key2⟩:=key n hd.1 hd.2;refine ⟨_,.room (P.cellsOf elem) n.toNat,h,?_,by simp [RV]⟩;have e1:qcU P argTypes (.val (.slice none 0 0)) (.val (.int .i64 n))=none:=by
      rw [qkn h0 h1];rfl
     have hbig:n.toNat*P.bytesOf elem<=4294967296*8192:=Nat.mul_le_mul key1 hb;have e2:qel P argTypes (.val (.slice none 0 0)) (.val (.int .i64 n))=some (.room (P.cellsOf elem) n.toNat):=by
      unfold qel;rw [h0,h1];simp only;rw [if_pos ⟨hd.1,key2,hs0,hz,by omega⟩]
     rw [e1,e2];rfl
   ·split at h
    ·cases h
    ·rename_i τ o2 l2 ht;obtain ⟨l2',hl2',hall2⟩:=qxM ht hy;split at h
     ·rename_i hc;obtain ⟨hcl,hok,hel,hup⟩:=hc;obtain ⟨hup1,hup2⟩:=qyL hup;have hc2:∀e∈l2',e.cells.length=P.cellsOf elem/\e.oks=true/\e.qq=[]:=λe he=>by
       obtain ⟨h1,h2,h3⟩:=qdo hel hall2 e he;exact ⟨by rw [h1,hcl],h2,h3⟩
      have hp:ptrsL l2'=[]:=by
       apply List.eq_nil_iff_forall_not_mem.2;intro r hr;obtain ⟨v,hv,hrv⟩:=qmA.1 hr;rw [(hc2 v hv).2.2]at hrv;cases hrv
      have hall2':l2'.all (λe=>decide (e.cells.length=P.cellsOf elem)&&e.oks)=true:=by
       rw [List.all_eq_true];intro e he;simp [(hc2 e he).1,(hc2 e he).2.1]
      have hlen:=hall2.length;split at h
      ·-- behind nil
       simp only [RV]at hx;subst hx;have hv:qcU P argTypes (.val (.slice none 0 0)) y'=if l2'.isEmpty then some (.val (.slice none 0 0))else if (l2'.length+512)*P.bytesOf elem<=70368744177664/\l2'.length<=70368744177664 then some (.sl .own false l2')else none:=by
        rw [qkn h0 h1,hl2'];simp only;rw [if_neg (by simp only [not_or,Decidable.not_not,Bool.not_eq_false];exact ⟨hs0,hz,hall2',by rw [hp];rfl⟩)]
       cases hem:List.isEmpty l2 with
       |true =>
        rw [hem]at h;have hem':l2'.isEmpty=true:=by rw [List.isEmpty_iff]at hem ⊢;subst hem;cases hall2;rfl
        exact ⟨_,.val (.slice none 0 0),h,by rw [hv,if_pos hem'];rfl,by simp only [RV]⟩
       |false =>
        rw [hem]at h;obtain ⟨q,hq,hk⟩:=qd.1 h;obtain ⟨hn,rfl⟩:=qeZ hq;have hem':¬ l2'.isEmpty=true:=by
         intro h9;rw [List.isEmpty_iff]at h9;subst h9;cases hall2;cases hem
        have hbig:=big (s:=l2'.length) (by rw [hlen];simpa using hn) hb;refine ⟨_,.sl .own false l2',hk,by rw [hv,if_neg hem',if_pos ⟨hbig,by rw [hlen];simp at hn;omega⟩];rfl,?_⟩;simp only [RV,RTy];exact ⟨.own,false,_,rfl,qeF hup,by rw [hup1];simpa using hall2⟩
      ·rename_i s τ2 o3 y2 _;split at h
       ·rename_i hs;subst hs;split at h
        ·rename_i q0;simp only [RV]at hx;obtain ⟨_,n,rfl,hn0⟩|⟨h9,_⟩:=hx
         case inr=>omega
         obtain rfl:=hn0 trivial;have hy2:∃fl cl,y'=.sl fl cl l2':=by
          cases τ2 with
          |sl t2=>simp only [RV,RTy]at hy;obtain ⟨f,c,l',rfl,_,_⟩:=hy;simp only [qzg]at hl2';exact ⟨f,c,by simpa using hl2'⟩
          |_=>simp [tail?]at ht
         obtain ⟨fl,cl,rfl⟩:=hy2;have hn:l2.length<=4294967296\/List.isEmpty l2=true:=by
          cases hem:List.isEmpty l2 with
          |true=>exact .inr rfl
          |false =>
           rw [hem]at h;obtain ⟨q,hq,hk⟩:=qd.1 h;obtain ⟨hn,rfl⟩:=qeZ hq;exact .inl (by simpa using hn)
         have hnl:l2'.length<=4294967296:=by
          rw [hlen];rcases hn with hn|hn
          ·exact hn
          ·rw [List.isEmpty_iff]at hn;rw [hn];simp
         have hbig:l2'.length*P.bytesOf elem<=4294967296*8192:=Nat.mul_le_mul hnl hb;have hv:qgr P argTypes (.room (P.cellsOf elem) 0) (.sl fl cl l2')=if l2'.isEmpty=true then some (.room (P.cellsOf elem) 0)else some (.sl .own false l2'):=by
          unfold qgr;rw [h0,h1];simp only;rw [if_pos ⟨trivial,hz,hall2',by rw [hp];rfl,by omega,by omega⟩]
         rw [qrU,qp0,hv];cases hem:List.isEmpty l2 with
         |true =>
          rw [hem]at h;have hem':l2'.isEmpty=true:=by rw [List.isEmpty_iff]at hem ⊢;subst hem;cases hall2;rfl
          exact ⟨_,.room (P.cellsOf elem) 0,h,by rw [if_pos hem'];rfl,by simp [RV]⟩
         |false =>
          rw [hem]at h;obtain ⟨q,hq,hk⟩:=qd.1 h;obtain ⟨hn,rfl⟩:=qeZ hq;have hem':¬ l2'.isEmpty=true:=by
           intro h9;rw [List.isEmpty_iff]at h9;subst h9;cases hall2;cases hem
          refine ⟨_,.sl .own false l2',hk,by rw [if_neg hem'];rfl,?_⟩;simp only [RV,RTy];exact ⟨.own,false,_,rfl,qeF hup,by rw [hup1];simpa using hall2⟩
        ·cases h
       ·cases h
      ·cases h
     ·cases h
  ·cases h
 ·cases h
end
section
variable {P:Program} {H:Hints} {f:FuncId}
theorem qiL{t:TypeId}{d:TypeDesc}(hd:P.underlying t=some d){x y:Value}(h:(∃e,d=.slice e/\x=.slice none 0 0/\y=.slice none 0 0)\/(∃e,d=.pointer e/\x=.pointer none/\y=.pointer none)\/(∃a b c,d=.func a b c/\x=.nilFunc/\y=.nilFunc)) :
  Ab.valOf P (Op.equal t x y)=some true:=by
 unfold Op.equal;obtain ⟨n,hn⟩:∃n,Op.maxDepth=n+1:=⟨Op.maxDepth-1,by have:=qdw;omega⟩
 rw [hn];unfold Op.equalIn;rw [qn,qw hd];rcases h with ⟨e,rfl,rfl,rfl⟩|⟨e,rfl,rfl,rfl⟩|⟨a,b,c,rfl,rfl,rfl⟩<;>rfl
theorem quC{t:TypeId}{ms:_}(hd:P.underlying t=some (.interface ms)):Ab.valOf P (Op.equal t .nilIface .nilIface)=some true:=by
 unfold Op.equal;obtain ⟨n,hn⟩:∃n,Op.maxDepth=n+1:=⟨Op.maxDepth-1,by have:=qdw;omega⟩
 rw [hn];unfold Op.equalIn;rw [qn,qw hd];rfl
theorem qAL{op:BinOp}{t:TypeId}{xo yo:Operand}{x y:TV}{x' y':V}{R:Type}{k:TV->Option R}{r:R}(hx:RV x x')(hy:RV y y')(h:qrO P op t x y R k=some r) :
  ∃z u,k z=some r/\qko P op t xo yo x' y'=some u/\RV z u:=by
 by_cases h1:∃k1 o1 a k2 o2 b,x=.t (.int k1) o1 a/\y=.t (.int k2) o2 b
 ·obtain ⟨k1,o1,a,k2,o2,b,rfl,rfl⟩:=h1;simp only [RV,RTy]at hx hy;subst hx;subst hy;by_cases hs:op=.shl\/op=.shr
  ·exact qvs hs h
  by_cases hk:k1=k2
  ·subst hk;exact qzj h
  ·unfold qrO at h;cases op<;>first|exact absurd (.inl rfl) hs|exact absurd (.inr rfl) hs|simp [hk]at h
 by_cases h2:∃o1 a o2 b,x=.t .str o1 a/\y=.t .str o2 b
 ·obtain ⟨o1,a,o2,b,rfl,rfl⟩:=h2;simp only [RV,RTy]at hx hy;subst hx;subst hy;exact qzk h
 by_cases h3:∃o1 a o2 b,x=.t .bool o1 a/\y=.t .bool o2 b
 ·obtain ⟨o1,a,o2,b,rfl,rfl⟩:=h3;simp only [RV,RTy]at hx hy;subst hx;subst hy;exact qxP h
 by_cases h5:∃o1 a o2 b,x=.t .cx o1 a/\y=.t .cx o2 b
 ·obtain ⟨o1,a,o2,b,rfl,rfl⟩:=h5;exact qAK hx hy h
 by_cases h4:∃l m,x=.agg l/\y=.agg m
 ·obtain ⟨l,m,rfl,rfl⟩:=h4;simp only [RV]at hx hy;obtain ⟨l',rfl,hl⟩:=hx;obtain ⟨m',rfl,hm⟩:=hy;exact qzi hl hm h
 unfold qrO at h;split at h
 ·exact absurd ⟨_,_,_,_,_,_,rfl,rfl⟩ h1
 ·exact absurd ⟨_,_,_,_,rfl,rfl⟩ h5
 ·exact absurd ⟨_,_,_,_,rfl,rfl⟩ h2
 ·exact absurd ⟨_,_,_,_,rfl,rfl⟩ h3
 ·exact absurd ⟨_,_,rfl,rfl⟩ h4
 ·rename_i τ o l;simp only [RV,RTy]at hx hy;obtain ⟨fx,cx,l',rfl,_,hall⟩:=hx;subst hy;split at h
  ·rename_i el hu;cases hall with
   |nil=>simp at h
   |cons ha hb =>
    simp only [List.isEmpty_cons,cond_false]at h;have hv:∀v m op,qko P op t xo yo (.sl fx cx (v::m)) (.val (.slice none 0 0))=(match op with
      |.eql=>some (.val (.bool false))
      |.neq=>some (.val (.bool true))
      |_=>none):=λv m op=>by
     unfold qko;simp only [V.toVal,hu,notNil,if_true];cases op<;>rfl
    split at h
    ·exact ⟨_,_,h,hv _ _ _,by simp [RV,RTy]⟩
    ·exact ⟨_,_,h,hv _ _ _,by simp [RV,RTy]⟩
    ·cases h
  ·cases h
 ·rename_i τ o l;simp only [RV,RTy]at hx hy;subst hy;split at h
  ·rename_i el hu;have hv:∀op,(op=.eql\/op=.neq)->qko P op t xo yo x' (.val (.slice none 0 0))=some (.val (.bool (if op=.eql then List.isEmpty l else !List.isEmpty l))):=by
    intro op hop;rcases hx with ⟨rfl,rfl⟩|⟨hne,fx,cx,l',rfl,_,hall⟩
    ·have he:=qiL hu (.inl ⟨_,rfl,rfl,rfl⟩) (x:=.slice none 0 0) (y:=.slice none 0 0);unfold qko;simp only [V.toVal];rcases hop with rfl|rfl
     ·show ((Ab.valOf P (Op.equal t (.slice none 0 0) (.slice none 0 0) >>= λb=>(pure (Value.bool b):Sem Value))).map qb1)=_;rw [qn,he];rfl
     ·show ((Ab.valOf P (Op.equal t (.slice none 0 0) (.slice none 0 0) >>= λb=>(pure (Value.bool (!b)):Sem Value))).map qb1)=_;rw [qn,he];rfl
    ·cases hall with
     |nil=>exact absurd rfl hne
     |cons ha hb =>
      unfold qko;simp only [V.toVal,hu,notNil,if_true];rcases hop with rfl|rfl<;>rfl
   split at h
   ·exact ⟨_,_,h,hv _ (.inl rfl),by simp [RV,RTy]⟩
   ·exact ⟨_,_,h,hv _ (.inr rfl),by simp [RV,RTy]⟩
   ·cases h
  ·cases h
 ·split at h
  ·rename_i d hd;split at h
   ·rename_i hn;have hv:x'.toVal=none/\notNil d x' y'=true:=by
     unfold qwV at hn;split at hn
     ·simp only [RV]at hx hy;subst hx;subst hy;exact ⟨rfl,rfl⟩
     ·simp only [RV]at hx hy;obtain ⟨_,l',rfl,_⟩:=hx;subst hy;exact ⟨rfl,rfl⟩
     ·simp only [RV]at hx hy;obtain ⟨a',b',rfl,_⟩:=hx;subst hy;exact ⟨rfl,rfl⟩
     ·cases hn
    have hv2:∀op,qko P op t xo yo x' y'=(match op with
      |.eql=>some (.val (.bool false))
      |.neq=>some (.val (.bool true))
      |_=>none):=λop=>by
     unfold qko;simp only [hv.1,hd,hv.2,if_true];cases op<;>rfl
    split at h
    ·exact ⟨_,_,h,hv2 _,by simp [RV,RTy]⟩
    ·exact ⟨_,_,h,hv2 _,by simp [RV,RTy]⟩
    ·cases h
   ·split at h
    ·rename_i hn;have hv:∃u v,x'=.val u/\y'=.val v/\Ab.valOf P (Op.equal t u v)=some true/\(∀op,op=.eql\/op=.neq->Ab.valOf P (do eqGuard op t xo yo u v;Go.binOp op t u v)=Ab.valOf P (Op.equal t u v >>= λb=>(pure (Value.bool (if op=.eql then b else !b)):Sem Value))):=by
      unfold qzD at hn;split at hn
      ·simp only [RV]at hx hy;subst hx;subst hy;refine ⟨_,_,rfl,rfl,qiL hd (.inl ⟨_,rfl,rfl,rfl⟩),?_⟩;rintro op (rfl|rfl)<;>rfl
      ·simp only [RV]at hx hy;subst hx;subst hy;refine ⟨_,_,rfl,rfl,qiL hd (.inr (.inl ⟨_,rfl,rfl,rfl⟩)),?_⟩;rintro op (rfl|rfl)<;>rfl
      ·simp only [RV]at hx hy;subst hx;subst hy;refine ⟨_,_,rfl,rfl,qiL hd (.inr (.inr ⟨_,_,_,rfl,rfl,rfl⟩)),?_⟩;rintro op (rfl|rfl)<;>rfl
      ·cases hn
     obtain ⟨u,v,rfl,rfl,he,hg⟩:=hv;split at h
     ·refine ⟨_,.val (.bool true),h,?_,by simp [RV,RTy]⟩;refine qag (u:=.bool true) ?_;rw [hg _ (.inl rfl),qn,he];rfl
     ·refine ⟨_,.val (.bool false),h,?_,by simp [RV,RTy]⟩;refine qag (u:=.bool false) ?_;rw [hg _ (.inr rfl),qn,he];rfl
     ·cases h
    ·cases h
  ·cases h
theorem qBL{op:UnOp}{x y:TV}{v:V}(hx:RV x v)(h:tun op x=some y):∃u,v.toVal.bind (λa=>(Ab.valOf P (Go.Op.unary op a)).map qb1)=some u/\RV y u:=by
 unfold tun at h;split at h
 ·cases h;simp only [RV,RTy]at hx;subst hx;exact ⟨_,rfl,by simp [RV,RTy,qb1]⟩
 ·cases h;simp only [RV,RTy]at hx;subst hx;exact ⟨_,rfl,by simp [RV,RTy,qb1]⟩
 ·cases h
theorem qzl{src dst:TypeId}{x:TV}{v:V}{R:Type}{k:TV->Option R}{r:R}(hx:RV x v)(h:qAM P src dst x R k=some r):∃z u,k z=some r/\qp1 P src dst v=some u/\RV z u:=by
 unfold qAM at h;split at h
 ·rename_i d1 kk k0 o n h1 h2;simp only [RV,RTy]at hx;subst hx;refine ⟨_,.val (.int kk (kk.wrap n)),h,?_,by simp [RV,RTy]⟩;unfold qp1 qgs;simp only [V.toVal];unfold Go.convert;rw [qn,qw h1];simp only [qa];rw [qn,qw h2];rfl
 ·rename_i d1 k0 o n h1 h2;obtain ⟨n',hn',hk'⟩:=qd.1 h;obtain ⟨rfl,hn⟩:=qdG hn';simp only [RV,RTy]at hx;subst hx;refine ⟨_,.val (.float .f64 (FloatKind.f64.nearest n')),hk',?_,by simp only [RV,RTy];exact ⟨_,rfl,Fl.quX hn⟩⟩;unfold qp1 qgs;simp only [V.toVal];unfold Go.convert;rw [qn,qw h1];simp only [qa];rw [qn,qw h2];rfl
 ·rename_i o n h1 h2;obtain ⟨n',hn',hk'⟩:=qd.1 h;obtain ⟨rfl,hn⟩:=qdG hn';simp only [RV,RTy]at hx;obtain ⟨b,rfl,hb⟩:=hx;refine ⟨_,.val (.int .i64 n'),hk',?_,by simp [RV,RTy]⟩;unfold qp1 qgs;simp only [V.toVal];unfold Go.convert;rw [qn,qw h1];simp only [qa];rw [qn,qw h2];have h3:(FloatKind.f64.decode b).toInt .zero=some n':=Fl.qzm hb;have h4:IntKind.i64.min<=n'/\n'<=IntKind.i64.max:=by
   simp only [IntKind.min,IntKind.max,IntKind.signed,IntKind.bits,if_true]<;>omega
  show ((Ab.valOf P (Conv.floatToInt .f64 b .i64)).map qb1)=_;unfold Conv.floatToInt;simp only [h3];rw [if_pos h4];rfl
 ·rename_i d1 o s h1 h2;simp only [RV,RTy]at hx;subst hx;refine ⟨_,.val (.string ⟨s.toArray⟩),h,?_,by simp [RV,RTy]⟩;unfold qp1 qgs;simp only [V.toVal];unfold Go.convert;rw [qn,qw h1];simp only [qa];rw [qn,qw h2];rfl
 ·rename_i e o l h1 h2;split at h
  ·rename_i he;simp only [RV,RTy]at hx;obtain ⟨f,c,l',rfl,_,hall⟩:=hx;refine ⟨_,.val (.string ⟨(l.map λn=>UInt8.ofNat n.toNat).toArray⟩),h,?_,by simp [RV,RTy]⟩;simp only [qp1,qrV,h1,h2,he];have hb:∀{l:List Int} {l':List V},All2 (λ(n:Int) v=>v=.val (.int .u8 n)) l l'->bytesOf l'=some (l.map λn=>UInt8.ofNat n.toNat):=by
    intro l l' hall;induction hall with
    |nil=>rfl
    |cons h1 _ ih=>subst h1;simp only [bytesOf,ih,qi,qh]
   rw [hb (hall.mono λn v h=>by simpa only [RTy]using h)];rfl
  ·cases h
 ·cases h
theorem qpW{k:IntKind}:∀{xs:List TV} {ys:List V} {l:List Int},qrQ k xs=some l->RVL xs ys->ys=l.map λn=>.val (.int k n)
 |[],ys,l,h,hr=>by simp only [qrQ,qb]at h;simp only [RVL]at hr;subst h;subst hr;rfl
 |x::xs,ys,l,h,hr=>by
  simp only [RVL]at hr;obtain ⟨v,m,rfl,h1,h2⟩:=hr;cases x with
  |t τ o x =>
   cases τ with
   |int k' =>
    simp only [qrQ]at h;split at h
    ·rename_i hk;subst hk;obtain ⟨l',hl',rfl⟩:=qc.1 h;simp only [RV,RTy]at h1;subst h1;rw [qpW hl' h2];rfl
    ·cases h
   |_=>simp [qrQ]at h
  |_=>simp [qrQ]at h
theorem qix(k:IntKind):∀l:List Int,toValL (l.map λn=>V.val (.int k n))=some (l.map λn=>Value.int k n)
 |[]=>rfl
 |n::l=>by simp [toValL,V.toVal,qix k l]
theorem qwP(k:IntKind):∀(l:List Int) (n:Int),Ab.valOf P ((l.map λn=>Value.int k n).foldlM Go.Builtin.max2 (.int k n))=some (.int k (l.foldl max n))
 |[],n=>rfl
 |m::l,n=>by
  simp only [qh,List.foldlM_cons,List.foldl_cons];rw [qn];have:Ab.valOf P (Go.Builtin.max2 (.int k n) (.int k m))=some (.int k (max n m)):=by
   show some (Value.int k (if m > n then m else n))=_;congr 2;split<;>omega
  rw [this];exact qwP k l _
theorem qwU(k:IntKind):∀(l:List Int) (n:Int),Ab.valOf P ((l.map λn=>Value.int k n).foldlM Go.Builtin.min2 (.int k n))=some (.int k (l.foldl min n))
 |[],n=>rfl
 |m::l,n=>by
  simp only [qh,List.foldlM_cons,List.foldl_cons];rw [qn];have:Ab.valOf P (Go.Builtin.min2 (.int k n) (.int k m))=some (.int k (min n m)):=by
   show some (Value.int k (if m<n then m else n))=_;congr 2;split<;>omega
  rw [this];exact qwU k l _
theorem qta{b:Builtin}{argTypes:Array TypeId}{ty:TypeId}{xs:List TV}{ys:List V}{R:Type}{k:TV->Option R}{r:R}(hx:RVL xs ys)(h:qpT P b argTypes xs R k=some r) :
  ∃z u,k z=some r/\qdO P b argTypes ty ys=some u/\RV z u:=by
 unfold qpT at h;split at h
 ·rename_i τ o l;simp only [RVL]at hx;obtain ⟨v,m,rfl,h1,rfl⟩:=hx;simp only [RV,RTy]at h1;obtain ⟨fx,c,l',rfl,_,hall⟩:=h1;split at h
  ·rename_i e he;refine ⟨_,.val (.int .i64 l'.length),h,?_,by simp [RV,RTy,hall.length]⟩;simp only [qdO,he]
  ·cases h
 ·rename_i τ l;simp only [RVL]at hx;obtain ⟨v,m,rfl,h1,rfl⟩:=hx;simp only [RV]at h1;obtain ⟨fx,l',rfl,_,hall⟩:=h1;split at h
  ·rename_i e he;refine ⟨_,.val (.int .i64 l'.length),h,?_,by simp [RV,RTy,hall.length]⟩;simp only [qdO,he]
  ·cases h
 ·rename_i ow;simp only [RVL]at hx;obtain ⟨v,m,rfl,h1,rfl⟩:=hx;simp only [RV]at h1;obtain ⟨fx,c,rfl,_⟩:=h1;split at h
  ·rename_i e he;refine ⟨_,.val (.int .i64 ([]:List V).length),h,?_,by simp [RV,RTy]⟩;simp only [qdO,he]
  ·cases h
 ·rename_i o s;simp only [RVL]at hx;obtain ⟨v,m,rfl,h1,rfl⟩:=hx;simp only [RV,RTy]at h1;subst h1;split at h
  ·rename_i he;refine ⟨_,.val (.int .i64 s.length),h,?_,by simp [RV,RTy]⟩;obtain ⟨t,ht,hu⟩:=qd.1 he;have hl:Ab.valOf P (Go.Builtin.len_ argTypes ty #[.string ⟨s.toArray⟩])=some (.int .i64 s.length):=by
    unfold Go.Builtin.len_;have ha:(#[Value.string ⟨s.toArray⟩]:Array Value)[0]?=some (.string ⟨s.toArray⟩):=rfl;simp only [ht,ha];rw [qn,qw hu];simp only [qa];show some (goInt (⟨s.toArray⟩:ByteArray).size)=_;simp [goInt,ByteArray.size]
   show ((toValL [V.val (.string ⟨s.toArray⟩)]).bind λvs=>(Ab.valOf P (Go.Builtin.len_ argTypes ty vs.toArray)).map qb1)=_;simp only [toValL,V.toVal,qa];rw [show [Value.string ⟨s.toArray⟩].toArray=#[Value.string ⟨s.toArray⟩]from rfl,hl];rfl
  ·cases h
 ·simp only [RVL]at hx;obtain ⟨v,m,rfl,h1,rfl⟩:=hx;simp only [RV]at h1;subst h1;split at h
  ·rename_i e he;refine ⟨_,.val (.int .i64 0),h,?_,by simp [RV,RTy]⟩;obtain ⟨t,ht,hu⟩:=qd.1 he;have hl:Ab.valOf P (Go.Builtin.cap_ argTypes ty #[.slice none 0 0])=some (.int .i64 0):=by
    unfold Go.Builtin.cap_;have ha:(#[Value.slice none 0 0]:Array Value)[0]?=some (.slice none 0 0):=rfl;simp only [ht,ha];rw [qn,qw hu];rfl
   show ((toValL [V.val (.slice none 0 0)]).bind λvs=>(Ab.valOf P (Go.Builtin.cap_ argTypes ty vs.toArray)).map qb1)=_;simp only [toValL,V.toVal,qa];rw [show [Value.slice none 0 0].toArray=#[Value.slice none 0 0]from rfl,hl];rfl
  ·cases h
 ·simp only [RVL]at hx;obtain ⟨v,m,rfl,h1,rfl⟩:=hx;simp only [RV]at h1;subst h1;split at h
  ·rename_i e he;refine ⟨_,.val (.int .i64 0),h,?_,by simp [RV,RTy]⟩;obtain ⟨t,ht,hu⟩:=qd.1 he;have hl:Ab.valOf P (Go.Builtin.len_ argTypes ty #[.slice none 0 0])=some (.int .i64 0):=by
    unfold Go.Builtin.len_;have ha:(#[Value.slice none 0 0]:Array Value)[0]?=some (.slice none 0 0):=rfl;simp only [ht,ha];rw [qn,qw hu];rfl
   show ((toValL [V.val (.slice none 0 0)]).bind λvs=>(Ab.valOf P (Go.Builtin.len_ argTypes ty vs.toArray)).map qb1)=_;simp only [toValL,V.toVal,qa];rw [show [Value.slice none 0 0].toArray=#[Value.slice none 0 0]from rfl,hl];rfl
  ·cases h
 ·rename_i x y;simp only [RVL]at hx;obtain ⟨v,m,rfl,h1,v2,m2,rfl,h2,rfl⟩:=hx;split at h
  ·obtain ⟨z,u,hz,hu,hr⟩:=qs8 h1 h2 h;exact ⟨z,u,hz,by simp only [qdO,hu],hr⟩
  ·obtain ⟨z,u,hz,hu,hr⟩:=qvr h1 h2 h;exact ⟨z,u,hz,by simp only [qdO,hu,Option.some_or],hr⟩
 ·rename_i o1 a o2 b;simp only [RVL]at hx;obtain ⟨v,m,rfl,h1,v2,m2,rfl,h2,rfl⟩:=hx;simp only [RV,RTy]at h1 h2;obtain ⟨b1,rfl,i1⟩:=h1;obtain ⟨b2,rfl,i2⟩:=h2;exact ⟨_,.val (.complex .f64 b1 b2),h,rfl,by simp only [RV,RTy];exact ⟨b1,b2,rfl,i1,i2⟩⟩
 ·rename_i o1 a;simp only [RVL]at hx;obtain ⟨v,m,rfl,h1,rfl⟩:=hx;simp only [RV,RTy]at h1;obtain ⟨b1,b2,rfl,i1,i2⟩:=h1;exact ⟨_,.val (.float .f64 b1),h,rfl,by simp only [RV,RTy];exact ⟨b1,rfl,i1⟩⟩
 ·rename_i o1 a;simp only [RVL]at hx;obtain ⟨v,m,rfl,h1,rfl⟩:=hx;simp only [RV,RTy]at h1;obtain ⟨b1,b2,rfl,i1,i2⟩:=h1;exact ⟨_,.val (.float .f64 b2),h,rfl,by simp only [RV,RTy];exact ⟨b2,rfl,i2⟩⟩
 ·rename_i kk o n xs;split at h
  ·rename_i l hl;simp only [RVL]at hx;obtain ⟨v,m,rfl,h1,h2⟩:=hx;simp only [RV,RTy]at h1;subst h1;rw [qpW hl h2];refine ⟨_,.val (.int kk (l.foldl max n)),h,?_,by simp [RV,RTy]⟩;show ((toValL ((n::l).map λn=>V.val (.int kk n))).bind λvs=>(Ab.valOf P (Go.Builtin.max_ argTypes ty vs.toArray)).map qb1)=_;rw [qix];simp only [qa];have:Ab.valOf P (Go.Builtin.max_ argTypes ty ((n::l).map λn=>Value.int kk n).toArray)=some (.int kk (l.foldl max n)):=qwP kk l n;rw [this];rfl
  ·cases h
 ·rename_i kk o n xs;split at h
  ·rename_i l hl;simp only [RVL]at hx;obtain ⟨v,m,rfl,h1,h2⟩:=hx;simp only [RV,RTy]at h1;subst h1;rw [qpW hl h2];refine ⟨_,.val (.int kk (l.foldl min n)),h,?_,by simp [RV,RTy]⟩;show ((toValL ((n::l).map λn=>V.val (.int kk n))).bind λvs=>(Ab.valOf P (Go.Builtin.min_ argTypes ty vs.toArray)).map qb1)=_;rw [qix];simp only [qa];have:Ab.valOf P (Go.Builtin.min_ argTypes ty ((n::l).map λn=>Value.int kk n).toArray)=some (.int kk (l.foldl min n)):=qwU kk l n;rw [this];rfl
  ·cases h
 ·cases h
def BxR:Option (List TV)->Option (List V)->Prop
 |none,b=>True
 |some c,b=>∃c',b=some c'/\RVL c c'
def BxO:Option (List TV)->Option (List V)->Prop
 |none,b=>b=none
 |some c,b=>∃c',b=some c'/\RVL c c'
theorem qxO{R:Type}{mk:Int->TV}{l:List Int}{r:R}:∀(n i:Nat) (acc:List TV) (k:List TV->Option R),qBK R mk l n i acc k=some r->i<=l.length->n+i<=l.length/\k (acc++((l.drop i).take n).map mk)=some r
 |0,i,acc,k,h,hi=>⟨by omega,by simpa [qBK]using h⟩
 |n+1,i,acc,k,h,hi=>by
  unfold qBK at h;obtain ⟨e,he,hk⟩:=qd.1 h;rw [show idx l (i:Int)=l[i]? from by simp [idx]]at he;have hlt:=(qm.1 he).1;obtain ⟨h1,h2⟩:=qxO n (i+1) _ k hk (by omega);refine ⟨by omega,?_⟩;have e1:(l.drop i).take (n+1)=e::(l.drop (i+1)).take n:=by
   rw [List.drop_eq_getElem_cons hlt,List.take_succ_cons];rw [(qm.1 he).2]
  rw [e1,qh];simpa using h2
theorem qs9{t:TypeId}{x:TV}{R:Type}{k:TV->Option R}{r:R}{v:V}(h:qpS P t x R k=some r)(hx:RV x v):∃y u,k y=some r/\qhN P t v=some u/\RV y u:=by
 unfold qpS at h;split at h
 ·rename_i n elem kk o l hu;split at h
  ·cases h
  ·rename_i h0;obtain ⟨h1,h2⟩:=qxO n 0 [] _ h (Nat.zero_le _);simp only [RV,RTy]at hx;obtain ⟨fl,c,l',rfl,hfl,hall⟩:=hx;have hl:=hall.length;have hv:∀{l:List Int} {l':List V},All2 (λ(n:Int) v=>v=.val (.int kk n)) l l'->(qgz l').isSome=true:=by
    intro l l' h;induction h with
    |nil=>rfl
    |cons h1 _ ih=>subst h1;simpa [qgz]using ih
   have hall':=hall.mono λn v (h:RTy (.int kk) (nx o) n v)=>(by simpa only [RTy]using h:v=.val (.int kk n))
   refine ⟨_,.cptr (qW fl) (l'.take n),h2,?_,?_⟩
   ·simp only [qhN,hu];rw [if_pos ⟨by omega,h0,hv hall'⟩]
   ·simp only [RV];refine ⟨_,_,rfl,by cases fl<;>simp [qW],λe=>by rw [hfl.2 (of_decide_eq_true e)];rfl,?_⟩;have ht:∀{l:List Int} {l':List V},All2 (λ(n:Int) v=>v=.val (.int kk n)) l l'->∀n,RVL ((l.take n).map λe=>.t (.int kk) 0 e) (l'.take n):=by
     intro l l' h;induction h with
     |nil=>intro n;simp only [List.take_nil,List.map_nil];exact q6
     |cons h1 _ ih =>
      intro n;cases n with
      |zero=>simp only [List.take_zero,List.map_nil];exact q6
      |succ n =>
       subst h1;simp only [List.take_succ_cons,qh];exact qx.2 ⟨by simp only [RV,RTy],ih n⟩
    simpa using ht hall' n
 ·cases h
theorem qrR{tk:Bool}{o:Op}{ty:TypeId}{xs:List TV}{ys:List V}{bx:Option (List TV)}{bx':Option (List V)}{R:Type}{k:TV->Option (List TV)->Option R}{r:R}(hx:RVL xs ys)(hb:BxR bx bx')(hmp:∀c,bx'=some c->qfP c=false)
  (h:qcG P H f tk o xs bx R k=some r):∃z c u c',k z c=some r/\qaG P H f tk o ty ys bx'=some (u,c')/\RV z u/\BxO c c':=by
 have fin:∀{x:Option TV} {y:Option V},(match x with|some x=>k x none|none=>none)=some r->(∀z,x=some z->∃u,y=some u/\RV z u)->∃z c u c',k z c=some r/\(y.map λx=>(x,(none:Option (List V))))=some (u,c')/\RV z u/\BxO c c':=by
  intro x y h1 h2;cases x with
  |none=>cases h1
  |some z =>
   obtain ⟨u,hu,hr⟩:=h2 z rfl;exact ⟨z,none,u,none,h1,by rw [hu];rfl,hr,rfl⟩
 have fin2:∀{y:Option V},(∃z u,k z none=some r/\y=some u/\RV z u)->∃z c u c',k z c=some r/\(y.map λx=>(x,(none:Option (List V))))=some (u,c')/\RV z u/\BxO c c':=by
  rintro y ⟨z,u,h1,rfl,hr⟩;exact ⟨z,none,u,none,h1,rfl,hr,rfl⟩
 unfold qcG at h;simp only at h;split at h
 ·simp only [RVL]at hx;obtain ⟨v,m,rfl,h1,rfl⟩:=hx;exact ⟨_,none,v,none,h,rfl,h1,rfl⟩
 ·simp only [RVL]at hx;obtain ⟨v,m,rfl,h1,rfl⟩:=hx;exact ⟨_,none,v,none,h,rfl,h1,rfl⟩
 ·rename_i o' c a b;simp only [RVL]at hx;obtain ⟨v,m,rfl,h1,va,ma,rfl,ha,vb,mb,rfl,hb',rfl⟩:=hx;simp only [RV,RTy]at h1;subst h1;cases c with
  |true=>exact ⟨_,none,va,none,h,rfl,ha,rfl⟩
  |false=>exact ⟨_,none,vb,none,h,rfl,hb',rfl⟩
 ·rename_i t parts xs;exact fin h λz hz=>qxR hx hz
 ·rename_i t len parts xs;exact fin h λz hz=>qnz hx hz
 ·rename_i t a cs;simp only [RVL]at hx;obtain ⟨v,m,rfl,h1,rfl⟩:=hx;simp only [RV]at h1;obtain ⟨_,cs',rfl,_,_,hc⟩:=h1;refine fin h λz hz=>?_;obtain ⟨w,hw,rfl⟩:=qc.1 hz;obtain ⟨u,hu,hr⟩:=qdy hw hc;exact ⟨u.q5,by rw [hu];rfl,hr.q5⟩
 ·rename_i t a q off;simp only [RVL]at hx;obtain ⟨v,m,rfl,h1,rfl⟩:=hx;simp only [RV]at h1;subst h1;split at h
  ·rename_i cs;obtain ⟨cs',rfl,hc⟩:=hb;have hlp:=qcX (qal hc) (hmp _ rfl);split at h
   ·rename_i htk;split at h
    ·rename_i x hxx;obtain ⟨u,hu,hr⟩:=qdy hxx (hc.drop off);refine ⟨_,_,u,_,h,?_,hr,⟨_,rfl,qjs hc (RVL.q5 ((hc.drop off).take _))⟩⟩;simp only [qaG,hlp,qf,if_false,htk,if_true,hu,qi]
    ·cases h
   ·rename_i htk;obtain ⟨z,c,u,c',h1,h2,h3,h4⟩:=fin (y:=(q8 P t (cs'.drop off)).map V.q5) h λz hz=>by
     obtain ⟨w,hw,rfl⟩:=qc.1 hz;obtain ⟨u,hu,hr⟩:=qdy hw (hc.drop off);exact ⟨u.q5,by rw [hu];rfl,hr.q5⟩
    refine ⟨z,c,u,c',h1,?_,h3,h4⟩;simp only [qaG,hlp,qf,if_false];rw [if_neg htk];exact h2
  ·cases h
 ·rename_i t a b q off x;simp only [RVL]at hx;obtain ⟨v,m,rfl,h1,v2,m2,rfl,h2,rfl⟩:=hx;simp only [RV]at h1;subst h1;split at h
  ·rename_i cs;obtain ⟨cs',rfl,hc⟩:=hb;have hlp:=qcX (qal hc) (hmp _ rfl);split at h
   ·rename_i hcond;obtain ⟨h0,hl,ho,hk⟩:=hcond;obtain ⟨hcells,hko⟩:=RV.cells hk h2;refine ⟨_,_,.undef,_,h,?_,qaR [],⟨_,rfl,qjs hc hcells⟩⟩;simp only [qaG];rw [if_pos ⟨hlp,h0,by rw [hcells.length];exact hl,by rw [hcells.length,hc.length];exact ho,hko⟩]
   ·cases h
  ·cases h
 ·simp only [RVL]at hx;obtain ⟨v,m,rfl,h1,rfl⟩:=hx;simp only [RV]at h1;subst h1;exact ⟨_,none,_,none,h,rfl,by simp [RV],rfl⟩
 ·simp only [RVL]at hx;obtain ⟨v,m,rfl,h1,rfl⟩:=hx;have h1':=h1;simp only [RV]at h1;obtain ⟨_,l',rfl,_,h1⟩:=h1;exact ⟨_,none,_,none,h,rfl,h1',rfl⟩
 ·simp only [RVL]at hx;obtain ⟨v,m,rfl,h1,rfl⟩:=hx;have h1':=h1;simp only [RV]at h1;obtain ⟨a',b',rfl,_⟩:=h1;exact ⟨_,none,_,none,h,rfl,h1',rfl⟩
 ·rename_i op' t xo c0 yt o0 b;simp only [RVL]at hx;obtain ⟨v,m,rfl,h1,v2,m2,rfl,h2,rfl⟩:=hx;simp only [RV,RTy]at h1 h2;subst h2;have hv:∀op ms,(op=.eql\/op=.neq)->P.underlying t=some (.interface ms)->qko P op t xo (.const c0) v (.val .nilIface)=some (.val (.bool (if op=.eql then b else !b))):=by
   intro op ms hop hu;rcases h1 with ⟨rfl,rfl⟩|⟨rfl,t9,rfl⟩
   ·have he:Ab.valOf P (Op.equal t .nilIface .nilIface)=some true:=quC hu;have hg:∀op,Ab.valOf P (eqGuard op t xo (.const c0) .nilIface .nilIface)=some ():=by
     intro op;unfold eqGuard;cases op<;>cases xo<;>rfl
    unfold qko;simp only [V.toVal];rcases hop with rfl|rfl
    ·rw [qn,hg];simp only [qa];show ((Ab.valOf P (Op.equal t .nilIface .nilIface >>= λb=>(pure (Value.bool b):Sem Value))).map qb1)=_;rw [qn,he];rfl
    ·rw [qn,hg];simp only [qa];show ((Ab.valOf P (Op.equal t .nilIface .nilIface >>= λb=>(pure (Value.bool (!b)):Sem Value))).map qb1)=_;rw [qn,he];rfl
   ·unfold qko;simp only [V.toVal,Option.map_none,hu,notNil,if_true];rcases hop with rfl|rfl<;>rfl
  split at h
  ·rename_i ms hu;exact fin2 ⟨_,_,h,hv .eql ms (.inl rfl) hu,by simp [RV,RTy]⟩
  ·rename_i ms hu;exact fin2 ⟨_,_,h,hv .neq ms (.inr rfl) hu,by simp [RV,RTy]⟩
  ·cases h
 ·simp only [RVL]at hx;obtain ⟨v,m,rfl,h1,v2,m2,rfl,h2,rfl⟩:=hx;exact fin2 (qAL h1 h2 h)
 ·simp only [RVL]at hx;obtain ⟨v,m,rfl,h1,rfl⟩:=hx;exact fin h λz hz=>qBL h1 hz
 ·simp only [RVL]at hx;obtain ⟨v,m,rfl,h1,rfl⟩:=hx;exact fin2 (qzl h1 h)
 ·refine ⟨_,none,_,none,h,rfl,?_,rfl⟩;simp only [RV];exact ⟨_,_,rfl,hx.take _,hx.drop _⟩
 ·simp only [RVL]at hx;obtain ⟨v,m,rfl,h1,v2,m2,rfl,h2,rfl⟩:=hx;exact fin2 (qpX h1 h2 h)
 ·rename_i t a lo hi mx x rest;simp only [RVL]at hx;obtain ⟨v,m,rfl,h1,h2⟩:=hx;have hhead:∀{l:List TV} {l':List V},RVL l l'->RVO l.head? l'.head?:=λ{l l'} h=>by
   cases l with
   |nil=>simp only [RVL]at h;subst h;trivial
   |cons y l=>simp only [RVL]at h;obtain ⟨u,n,rfl,h3,_⟩:=h;exact h3
  have htail:∀{l:List TV} {l':List V},RVL l l'->RVL l.tail l'.tail:=λ{l l'} h=>by
   rw [<- List.drop_one,<- List.drop_one];exact h.drop 1
  have hr1:RVL (if lo.isSome=true then rest.tail else rest) (if lo.isSome=true then m.tail else m):=by
   split
   ·exact htail h2
   ·exact h2
  have hr2:RVL (if hi.isSome=true then (if lo.isSome=true then rest.tail else rest).tail else (if lo.isSome=true then rest.tail else rest)) (if hi.isSome=true then (if lo.isSome=true then m.tail else m).tail else (if lo.isSome=true then m.tail else m)):=by
   split
   ·exact htail hr1
   ·exact hr1
  have ho:∀{q:Bool} {l:List TV} {l':List V},RVL l l'->RVO (if q=true then l.head? else none) (if q=true then l'.head? else none):=λ{q l l'} h=>by
   split
   ·exact hhead h
   ·trivial
  split at h
  ·obtain ⟨y,u,hk,hv,hr⟩:=qvv h1 (ho h2) (ho hr1) (ho hr2) h;exact fin2 ⟨y,u,hk,hv,hr⟩
  ·obtain ⟨y,u,hk,hv,hr⟩:=qxY h1 (ho h2) (ho hr1) (ho hr2) h;exact fin2 ⟨y,u,hk,by rw [hv];rfl,hr⟩
 ·simp only [RVL]at hx;obtain ⟨v,m,rfl,h1,rfl⟩:=hx;exact fin h λz hz=>qpU hz h1
 ·simp only [RVL]at hx;obtain ⟨v,m,rfl,h1,rfl⟩:=hx;exact fin h λz hz=>qxT hz h1
 ·simp only [RVL]at hx;obtain ⟨v,m,rfl,h1,rfl⟩:=hx;obtain ⟨y,u,hk,hu,hr⟩:=qs9 h h1;exact fin2 ⟨y,u,hk,hu,hr⟩
 ·simp only [RVL]at hx;obtain ⟨v,m,rfl,h1,v2,m2,rfl,h2,rfl⟩:=hx;simp only [RV,RTy]at h2;subst h2;obtain ⟨y,u,hk,hu,hr⟩:=qpV h h1;exact fin2 ⟨y,u,hk,hu,hr⟩
 ·simp only [RVL]at hx;obtain ⟨v,m,rfl,h1,v2,m2,rfl,h2,rfl⟩:=hx;simp only [RV,RTy]at h2;subst h2;split at h
  ·rename_i len elem cs hu;simp only [RV]at h1;obtain ⟨cs',rfl,hc⟩:=h1;obtain ⟨y,u,hk,hv,hr⟩:=qxV hu h hc;exact fin2 ⟨y,u,hk,hv,hr⟩
  ·rename_i o s hu;simp only [RV,RTy]at h1;subst h1;obtain ⟨b,hb',hk⟩:=qd.1 h;obtain ⟨h0,hi⟩:=qk9 hb';refine fin2 ⟨_,.val (.int .u8 b.toNat),hk,?_,by simp [RV,RTy]⟩;simp only [qnf,hu];rw [if_pos h0];have key:∀j:Nat,s[j]?=some b->(⟨s.toArray⟩:ByteArray)[j]?=some b:=λj hj=>by
    have hlt:=(qm.1 hj).1;rw [getElem?_pos (⟨s.toArray⟩:ByteArray) j (by simpa [ByteArray.size]using hlt)];have:=(qm.1 hj).2;simp only [qb];rw [<- this];rfl
   rw [key _ hi];rfl
  ·cases h
 ·simp only [RVL]at hx;obtain ⟨v,m,rfl,h1,rfl⟩:=hx;simp only [RV]at h1;obtain ⟨l',rfl,hl⟩:=h1;exact fin h λz hz=>hl.get hz
 ·exact fin2 (qta hx h)
 ·cases h
end
section
variable {P:Program} {H:Hints} {f:FuncId}
theorem qpf{t:TypeId}{τ:Ty}(h:qit P t τ=true):qmc τ=true:=by
 unfold qit at h;split at h<;>first|rfl|cases h
theorem qpe:∀(fs:List Field) (i:Nat) (τ:Ty),qiP P fs i τ=true->qpd τ=true
 |[],i,.unit,_=>rfl
 |fd::fs,i,.pair a b,h=>by
  simp only [qiP,qe]at h;simp only [qpd,qe];exact ⟨qpf h.1.2,qpe fs (i+1) b h.2⟩
 |[],i,.int _,h|[],i,.bool,h|[],i,.str,h|[],i,.flt,h|[],i,.cx,h|[],i,.err,h|[],i,.mset _,h|[],i,.nsl _,h|[],i,.sl _,h|[],i,.pair _ _,h=>by simp [qiP]at h
 |_::_,i,.int _,h|_::_,i,.bool,h|_::_,i,.str,h|_::_,i,.flt,h|_::_,i,.cx,h|_::_,i,.err,h|_::_,i,.mset _,h|_::_,i,.nsl _,h|_::_,i,.sl _,h|_::_,i,.unit,h=>by simp [qiP]at h
theorem quS{τ:Ty}(h:qmc τ=true):qgN τ=true:=by cases τ<;>first|rfl|(simp [qmc]at h)
theorem qb4{τ:Ty}(h:qmc τ=true)(x:τ.den):qcw τ x=qos τ x:=by cases τ<;>first|rfl|(simp [qmc]at h)
theorem qoP{τ:Ty}(h:qmc τ=true)(x y:τ.den):eqK τ x y=eqS τ x y:=by cases τ<;>first|rfl|(simp [qmc]at h)
theorem qlj{τ:Ty}(h:qmc τ=true){o:Nat}{x:τ.den}{v:V}(hr:RTy τ o x v):v=.val (qos τ x):=by
 cases τ<;>first|(simp only [RTy]at hr;exact hr)|(simp [qmc]at h)
theorem qt3:∀{τ:Ty} (h:qpd τ=true) {o:Nat} {x:τ.den} {l:List V},RTy τ o x (.agg l)->l=(qvD τ x).map .val
 |.unit,h,o,x,l,hr=>by simp only [RTy,V.agg.injEq]at hr;subst hr;rfl
 |.pair a b,h,o,x,l,hr=>by
  simp only [qpd,qe]at h;simp only [RTy]at hr;obtain ⟨v1,l',e,h1,h2⟩:=hr;cases e;rw [qlj h.1 h1,qt3 h.2 h2];rfl
 |.int _,h,_,_,_,_|.bool,h,_,_,_,_|.str,h,_,_,_,_|.flt,h,_,_,_,_|.cx,h,_,_,_,_|.err,h,_,_,_,_|.mset _,h,_,_,_,_|.nsl _,h,_,_,_,_|.sl _,h,_,_,_,_=>by simp [qpd]at h
theorem qxt{τ:Ty}(h:qgN τ=true){o:Nat}{x:τ.den}{v:V}(hr:RTy τ o x v):v.toVal=some (qcw τ x):=by
 by_cases hs:qmc τ=true
 ·rw [qlj hs hr,qb4 hs];rfl
 ·cases τ with
  |pair a b =>
   simp only [qgN,qe]at h;simp only [RTy]at hr;obtain ⟨v1,l',rfl,h1,h2⟩:=hr;rw [qlj h.1 h1,qt3 h.2 h2];simp only [V.toVal,toValL,qiy,qi,qcw]
  |_=>simp [qgN,qmc]at h hs
theorem qzA{τ:Ty}{x y:τ.den}(h:eqS τ x y=true):x=y:=by
 cases τ<;>simp only [eqS]at h<;>first|exact of_decide_eq_true h|exact eq_of_beq h|cases h
theorem qzz:∀{τ:Ty} {x y:τ.den},qpd τ=true->eqR τ x y=true->x=y
 |.unit,_,_,_,_=>rfl
 |.pair a b,x,y,hk,h=>by
  simp only [qpd,qe]at hk;simp only [eqR]at h;cases h1:eqS a x.1 y.1 with
  |false=>rw [h1]at h;cases h
  |true=>rw [h1]at h;exact Prod.ext (qzA h1) (qzz hk.2 h)
 |.int _,_,_,h,_|.bool,_,_,h,_|.str,_,_,h,_|.flt,_,_,h,_|.cx,_,_,h,_|.err,_,_,h,_|.mset _,_,_,h,_|.nsl _,_,_,h,_|.sl _,_,_,h,_=>by simp [qpd]at h
theorem qBm{τ:Ty}(hk:qgN τ=true){x y:τ.den}(h:eqK τ x y=true):x=y:=by
 by_cases hs:qmc τ=true
 ·rw [qoP hs]at h;exact qzA h
 ·cases τ with
  |pair a b =>
   simp only [qgN,qe]at hk;exact qzz (τ:=.pair a b) (by simp [qpd,hk.1,hk.2]) h
  |_=>simp [qgN,qmc]at hk hs
def tvR:(τ:Ty)->τ.den->List TV
 |.pair a b,x=>.t a 0 x.1::tvR b x.2
 |_,_=>[]
theorem qxz{a:Ty}(h:qmc a=true)(x:a.den):qvj (.t a 0 x)=true/\RV (.t a 0 x) (.val (qos a x)):=by
 cases a<;>first|exact ⟨rfl,by simp [RV,RTy,qos]⟩|(simp [qmc]at h)
theorem que:∀{τ:Ty} (h:qpd τ=true) (x:τ.den),(tvR τ x).all qvj=true/\RVL (tvR τ x) ((qvD τ x).map .val)
 |.unit,_,_=>⟨rfl,q6⟩
 |.pair a b,h,x=>by
  simp only [qpd,qe]at h;obtain ⟨h1,h2⟩:=qxz h.1 x.1;obtain ⟨h3,h4⟩:=que h.2 x.2;exact ⟨by simp [tvR,h1,h3],qx.2 ⟨h2,h4⟩⟩
 |.int _,h,_|.bool,h,_|.str,h,_|.flt,h,_|.cx,h,_|.err,h,_|.mset _,h,_|.nsl _,h,_|.sl _,h,_=>by simp [qpd]at h
theorem qrE{t:TypeId}{τ:Ty}(h:qit P t τ=true):∃d,P.underlying t=some d/\qO P t=false:=by
 unfold qit at h;unfold qO;split at h
 ·rename_i h1;rw [h1];exact ⟨_,rfl,rfl⟩
 ·rename_i h1;rw [h1];exact ⟨_,rfl,rfl⟩
 ·rename_i h1;rw [h1];exact ⟨_,rfl,rfl⟩
 ·cases h
theorem quc{t:TypeId}{τ:Ty}(h:qit P t τ=true)(d:Nat)(x y:τ.den):teq P (d+1) t (.t τ 0 x) (.t τ 0 y)=some (eqS τ x y):=by
 unfold qit at h;split at h
 ·rename_i k k' h1;simp only [decide_eq_true_eq]at h;subst h;simp [teq,h1,eqS]
 ·rename_i h1;simp [teq,h1,eqS]
 ·rename_i h1;simp [teq,h1,eqS]
 ·cases h
theorem qlu{t:TypeId}{τ:Ty}(h:qit P t τ=true)(v:TV)(l:List TV):qaQ P t (v::l)=some v:=by
 obtain ⟨d,h1,h2⟩:=qrE h;unfold qaQ;rw [h1,h2];rfl
theorem qwp:∀(fs:List Field) (i:Nat) (τ:Ty) (x y:τ.den) (px py:List TV),qiP P fs i τ=true->px.length=i->py.length=i ->
  fs.foldr (fun fd acc => if fd.name = "_" then none else
    match qaQ P fd.type ((px++tvR τ x).drop fd.offset),qaQ P fd.type ((py++tvR τ y).drop fd.offset),acc with
    |some u,some v,some b=>(teq P 8 fd.type u v).map λa=>bif a then b else false
    |_,_,_=>none) (some true)=some (eqR τ x y)
 |[],i,.unit,_,_,_,_,_,_,_=>rfl
 |fd::fs,i,.pair a b,x,y,px,py,h,hx,hy=>by
  simp only [qiP,qe,decide_eq_true_eq]at h;obtain ⟨⟨⟨hn,ho⟩,hs⟩,hf⟩:=h;have ih:=qwp fs (i+1) b x.2 y.2 (px++[.t a 0 x.1]) (py++[.t a 0 y.1]) hf (by simp [hx]) (by simp [hy]);simp only [List.append_assoc,List.singleton_append]at ih;simp only [List.foldr_cons,tvR];rw [ih,if_neg hn,ho];rw [List.drop_left' hx,List.drop_left' hy,qlu hs,qlu hs];simp only [quc hs,qi,eqR]
 |[],i,.int _,_,_,_,_,h,_,_|[],i,.bool,_,_,_,_,h,_,_|[],i,.str,_,_,_,_,h,_,_|[],i,.flt,_,_,_,_,h,_,_|[],i,.cx,_,_,_,_,h,_,_|[],i,.err,_,_,_,_,h,_,_|[],i,.mset _,_,_,_,_,h,_,_|[],i,.nsl _,_,_,_,_,h,_,_|[],i,.sl _,_,_,_,_,h,_,_|[],i,.pair _ _,_,_,_,_,h,_,_=>by simp [qiP]at h
 |_::_,i,.int _,_,_,_,_,h,_,_|_::_,i,.bool,_,_,_,_,h,_,_|_::_,i,.str,_,_,_,_,h,_,_|_::_,i,.flt,_,_,_,_,h,_,_|_::_,i,.cx,_,_,_,_,h,_,_|_::_,i,.err,_,_,_,_,h,_,_|_::_,i,.mset _,_,_,_,_,h,_,_|_::_,i,.nsl _,_,_,_,_,h,_,_|_::_,i,.sl _,_,_,_,_,h,_,_|_::_,i,.unit,_,_,_,_,h,_,_=>by simp [qiP]at h
theorem qed{t:TypeId}{τ:Ty}(h:qeH P t τ=true):(qmc τ=true/\qit P t τ=true)\/(∃fields a b,P.underlying t=some (.struct fields)/\τ=.pair a b/\P.stoodInHeld t=false/\qiP P fields.toList 0 (.pair a b)=true):=by
 unfold qeH at h;simp only [Bool.or_eq_true]at h;rcases h with h|h
 ·exact .inl ⟨qpf h,h⟩
 ·split at h
  ·rename_i fields a b hu;simp only [qe,Bool.not_eq_true']at h;exact .inr ⟨fields,a,b,hu,rfl,h.1,h.2⟩
  ·cases h
theorem qnW{t:TypeId}{τ:Ty}(h:qeH P t τ=true):qgN τ=true:=by
 rcases qed h with ⟨h1,_⟩|⟨fields,a,b,_,rfl,_,h2⟩
 ·exact quS h1
 ·have:=qpe _ _ _ h2;simpa [qgN,qpd]using this
theorem qwi{t:TypeId}{τ:Ty}(h:qeH P t τ=true)(x y:τ.den):Ab.valOf P (Op.equal t (qcw τ x) (qcw τ y))=some (eqK τ x y):=by
 unfold Op.equal;rcases qed h with ⟨h1,h2⟩|⟨fields,a,b,hu,rfl,hst,hf⟩
 ·rw [qb4 h1,qb4 h1,qoP h1];obtain ⟨s1,r1⟩:=qxz h1 x;obtain ⟨s2,r2⟩:=qxz h1 y;exact qub 1 t _ _ _ (quc h2 0 x y) Op.maxDepth (by have:=qdw;omega) _ _ (.inl ⟨s1,r1⟩) (.inl ⟨s2,r2⟩)
 ·have hk:=qpe _ _ _ hf;obtain ⟨s1,r1⟩:=que hk x;obtain ⟨s2,r2⟩:=que hk y;have ht:teq P 9 t (.agg (tvR (.pair a b) x)) (.agg (tvR (.pair a b) y))=some (eqK (.pair a b) x y):=by
   unfold teq;rw [hu];simp only [hst,qf,if_false];exact qwp fields.toList 0 (.pair a b) x y [] [] hf rfl rfl
  exact qub 9 t _ _ _ ht Op.maxDepth qdw _ _ (.inr ⟨_,_,rfl,rfl,s1,r1⟩) (.inr ⟨_,_,rfl,rfl,s2,r2⟩)
theorem qnD{t:TypeId}{τ:Ty}(h:qit P t τ=true)(e:Bool)(n:Nat)(x:τ.den):Ab.valOf P (Instr.checkKey e (n+1) t (qos τ x))=some ():=by
 unfold Instr.checkKey;unfold qit at h;split at h
 ·rename_i h1;rw [qn,qw h1];rfl
 ·rename_i h1;rw [qn,qw h1];rfl
 ·rename_i h1;rw [qn,qw h1];rfl
 ·cases h
theorem qqr{t:TypeId}{τ:Ty}(h:qeH P t τ=true)(e:Bool)(x:τ.den):Ab.valOf P (Instr.checkKey e 10000 t (qcw τ x))=some ():=by
 rcases qed h with ⟨h1,h2⟩|⟨fields,a,b,hu,rfl,hst,hf⟩
 ·rw [qb4 h1];exact qnD h2 e 9999 x
 ·have hk:=qpe _ _ _ hf;obtain ⟨s1,r1⟩:=que hk x;unfold Instr.checkKey;rw [qn,qw hu];simp only [qa,qcw];rw [<- Array.forIn_toList];have key:∀(fs:List Field) (i:Nat) (τ':Ty) (y:τ'.den) (px:List TV),qiP P fs i τ'=true->px.length=i->tvR (.pair a b) x=px++tvR τ' y ->
    Ab.valOf P (forIn fs PUnit.unit λf _=>(
     if f.name ≠ "_" then do
      let __do_lift <- part f.type (qos a x.1::qvD b x.2).toArray f.offset
      Instr.checkKey e 9999 f.type __do_lift
      pure (ForInStep.yield PUnit.unit)
     else pure (ForInStep.yield PUnit.unit):Sem (ForInStep PUnit)))=some PUnit.unit:=by
   intro fs;induction fs with
   |nil=>intro i τ' y px _ _ _;rfl
   |cons fd fs ih =>
    intro i τ' y px hf hl heq;cases τ' with
    |pair a' b' =>
     simp only [qiP,qe,decide_eq_true_eq]at hf;obtain ⟨⟨⟨hn,ho⟩,hs⟩,hf'⟩:=hf;have hc:qaQ P fd.type ((tvR (.pair a b) x).drop fd.offset)=some (.t a' 0 y.1):=by
      rw [heq,ho,List.drop_left' hl];exact qlu hs _ _
     obtain ⟨w,hw,hrel⟩:=qsI s1 r1 hc;have hwv:w=qos a' y.1:=by
      rcases hrel with ⟨_,hr⟩|⟨l,vs,h9,_⟩
      ·have:=qlj (qpf hs) (show RTy a' 0 y.1 (.val w)from by simpa only [RV]using hr);simpa using this
      ·cases h9
     have hw':Ab.valOf P (part fd.type (qos a x.1::qvD b x.2).toArray fd.offset)=some w:=hw;rw [List.forIn_cons,qn,if_pos hn,qn,hw',qa,qn,hwv,qnD hs e 9998];simp only [qa,qQ];exact ih (i+1) b' y.2 (px++[.t a' 0 y.1]) hf' (by simp [hl]) (by rw [heq];simp [tvR])
    |_=>simp [qiP]at hf
  first
  |exact key fields.toList 0 (.pair a b) x [] hf rfl rfl
  |(rw [qn,key fields.toList 0 (.pair a b) x [] hf rfl rfl];rfl)
def kvs(τ:Ty)(l:List τ.den):List (Value×Value):=l.map λx=>(qcw τ x,.bool true)
def qwv(τ:Ty)(k:τ.den):List τ.den->Nat->Nat
 |[],i=>i
 |x::l,i=>if eqK τ k x=true then i else qwv τ k l (i+1)
theorem qww{τ:Ty}{k:τ.den}:∀{l:List τ.den} {i:Nat},qkA τ l k=true->∃j,qwv τ k l i=i+j/\∃x,l[j]?=some x/\eqK τ k x=true
 |[],i,h=>by simp [qkA]at h
 |x::l,i,h=>by
  simp only [qwv];by_cases hx:eqK τ k x=true
  ·rw [if_pos hx];exact ⟨0,by omega,x,rfl,hx⟩
  ·rw [if_neg hx];have hm:qkA τ l k=true:=by
    unfold qkA at h ⊢;simp only [List.any_cons,Bool.or_eq_true]at h;rcases h with h|h
    ·exact absurd h hx
    ·exact h
   obtain ⟨j,hj,y,hy,he⟩:=qww (i:=i+1) hm;exact ⟨j+1,by omega,y,by simpa using hy,he⟩
theorem qzx{t:TypeId}{τ:Ty}(h:qeH P t τ=true)(k:τ.den):∀(l:List τ.den) (i:Nat),Ab.valOf P (Instr.findAsking t (qcw τ k) (qe2 (kvs τ l)) i)=some (if qkA τ l k then some (qwv τ k l i,.bool true)else none)
 |[],i=>rfl
 |x::l,i=>by
  show Ab.valOf P (Instr.findAsking t (qcw τ k) (⟨qcw τ x,.bool true,0⟩::qe2 (kvs τ l)) i)=_;simp only [Instr.findAsking];rw [qn,qwi h];simp only [qa];cases hx:eqK τ k x with
  |true =>
   have hm:qkA τ (x::l) k=true:=by simp [qkA,hx]
   rw [hm];simp only [if_true,qwv,hx];rfl
  |false =>
   have hm:qkA τ (x::l) k=qkA τ l k:=by simp [qkA,hx]
   rw [hm];simp only [qf,if_false,qwv,hx];exact qzx h k l (i+1)
theorem qxy{t:TypeId}{τ:Ty}{d:TypeDesc}(h:qit P t τ=true)(hd:P.underlying t=some d)(x y:τ.den):Instr.sameNow d (qos τ x) (qos τ y)=some (eqS τ x y):=by
 unfold qit at h;split at h
 ·rename_i h1;rw [h1]at hd;cases hd;simp only [qos,Instr.sameNow,if_true,eqS,qb];rw [Bool.eq_iff_iff];simp
 ·rename_i h1;rw [h1]at hd;cases hd;rfl
 ·rename_i h1;rw [h1]at hd;cases hd;simp only [qos,Instr.sameNow,eqS,qb];rw [Bool.eq_iff_iff];first
  |(show (x.toArray==y.toArray)=true↔decide (x=y)=true;simp)
  |(show decide ((⟨x.toArray⟩:ByteArray)=⟨y.toArray⟩)=true↔decide (x=y)=true;simp)
 ·cases h
theorem qzI{t:TypeId}{τ:Ty}{d:TypeDesc}(h:qit P t τ=true)(hd:P.underlying t=some d)(k:τ.den):∀(l:List τ.den) (i:Nat),Instr.findNow d (qcw τ k) (qe2 (kvs τ l)) i=some (if qkA τ l k then some (qwv τ k l i,.bool true)else none)
 |[],i=>rfl
 |x::l,i=>by
  have hs:=qpf h;show Instr.findNow d (qcw τ k) (⟨qcw τ x,.bool true,0⟩::qe2 (kvs τ l)) i=_;simp only [Instr.findNow];rw [qb4 hs k,qb4 hs x,qxy h hd,<- qoP hs];cases hx:eqK τ k x with
  |true =>
   have hm:qkA τ (x::l) k=true:=by simp [qkA,hx]
   simp only [hm,if_true,qwv,hx]
  |false =>
   have hm:qkA τ (x::l) k=qkA τ l k:=by simp [qkA,hx]
   simp only [hm,qf,if_false,qwv,hx];rw [<- qb4 hs k];exact qzI h hd k l (i+1)
theorem qwn{t:TypeId}{τ:Ty}(h:qeH P t τ=true)(k:τ.den)(l:List τ.den):Ab.valOf P (Instr.findKey t (qcw τ k) (qe2 (kvs τ l)))=some (if qkA τ l k then some (qwv τ k l 0,.bool true)else none):=by
 unfold Instr.findKey;rcases qed h with ⟨h1,h2⟩|⟨fields,a,b,hu,rfl,hst,hf⟩
 ·obtain ⟨d,hd,_⟩:=qrE h2;rw [qn,qw hd];simp only [qa,qzI h2 hd k l 0];rfl
 ·rw [qn,qw hu];simp only [qa];cases l with
  |nil=>rfl
  |cons x l =>
   have:Instr.findNow (.struct fields) (qcw (.pair a b) k) (qe2 (kvs (.pair a b) (x::l))) 0=none:=rfl;rw [this];exact qzx h k (x::l) 0
theorem qrD{τ:Ty}(hk:qgN τ=true)(x:τ.den):Instr.sameBits 10000 (qcw τ x) (qcw τ x)=true:=by
 have hsc:∀(n:Nat) {a:Ty} (h:qmc a=true) (x:a.den),Instr.sameBits n (qos a x) (qos a x)=true:=λn a h x=>by
  cases a<;>first|(simp [qos,Instr.sameBits];done)|skip
  case str =>
   have e:∀s:ByteArray,Instr.sameBits n (.string s) (.string s)=(s==s):=λs=>by cases n<;>rfl
   show Instr.sameBits n (.string ⟨x.toArray⟩) (.string ⟨x.toArray⟩)=true;rw [e];first
   |exact beq_self_eq_true _
   |(show (x.toArray==x.toArray)=true;simp)
   |(show decide ((⟨x.toArray⟩:ByteArray)=⟨x.toArray⟩)=true;simp)
  all_goals simp [qmc]at h
 by_cases hs:qmc τ=true
 ·rw [qb4 hs];exact hsc _ hs x
 ·cases τ with
  |pair a b =>
   simp only [qgN,qe]at hk;simp only [qcw];have hall:∀{τ:Ty} (h:qpd τ=true) (x:τ.den),((qvD τ x).zip (qvD τ x)).all (λp=>Instr.sameBits 9999 p.1 p.2)=true:=λ{τ}=>by
    induction τ with
    |unit=>intro _ _;rfl
    |pair a b _ ih =>
     intro h x;simp only [qpd,qe]at h;simp only [qvD,List.zip_cons_cons,List.all_cons,qe];exact ⟨hsc _ h.1 x.1,ih h.2 x.2⟩
    |_=>intro h;simp [qpd]at h
   have:=hall (τ:=.pair a b) (by simp [qpd,hk.1,hk.2]) x;simp only [qvD]at this;show ((qos a x.1::qvD b x.2).toArray.size==(qos a x.1::qvD b x.2).toArray.size&&_)=true;simp only [beq_self_eq_true,Bool.true_and];exact this
  |_=>simp [qgN,qmc]at hk hs
theorem qwL{t kt vt:TypeId}{τ:Ty}{l:List τ.den}{x:TV}{v:V}{y:τ.den}{ok:Bool}{o:Nat}(hu:P.underlying t=some (.map kt vt))(hf:qeH P kt τ=true)(hz:qnB P H f vt=some (.t .bool o false))(hy:qem τ 0 x=some y)(hx:RV x v) :
  ∃u,qkp P H f t (kvs τ l) v ok=some u/\RV (if ok then .tuple [.t .bool 0 (qkA τ l y),.t .bool 0 (qkA τ l y)]else .t .bool 0 (qkA τ l y)) u:=by
 have hk:=qnW hf;have hv:=qxt hk (qcP _ _ _ _ _ hy hx);obtain ⟨z',hz',hzr,_⟩:=qhO hz;simp only [RV,RTy]at hzr;subst hzr;unfold qkp;rw [hu,hv];simp only [qqr hf,qwn hf,hz'];cases hm:qkA τ l y with
 |true =>
  simp only [if_true];refine ⟨_,rfl,?_⟩;cases ok with
  |true=>simp [RV,RVL,RTy,qb1]
  |false=>simp [RV,RTy,qb1]
 |false =>
  simp only [qf,if_false];refine ⟨_,rfl,?_⟩;cases ok with
  |true=>simp [RV,RVL,RTy]
  |false=>simp [RV,RTy]
theorem qrT{t kt vt:TypeId}{τ:Ty}{l:List τ.den}{x:TV}{v w:V}{y:τ.den}(hu:P.underlying t=some (.map kt vt))(hf:qeH P kt τ=true)(hy:qem τ 0 x=some y)(hx:RV x v)(hw:w=.val (.bool true)) :
  qiB P t (kvs τ l) v w=some (kvs τ (qAk τ l y)):=by
 have hk:=qnW hf;have hv:=qxt hk (qcP _ _ _ _ _ hy hx);subst hw;unfold qiB;rw [hu,hv];simp only [V.toVal,qqr hf,qwn hf];unfold qAk;cases hm:qkA τ l y with
 |true =>
  obtain ⟨j,hj,x',hx',he⟩:=qww (i:=0) hm;have hxy:x'=y:=(qBm hk he).symm;subst hxy;simp only [if_true,cond_true];have hj':qwv τ x' l 0=j:=by omega
  have hkj:(kvs τ l)[j]?=some (qcw τ x',.bool true):=by simp [kvs,hx']
  rw [hj',hkj];simp only [qrD hk,if_true,qb];apply List.ext_getElem?;intro i;rw [List.getElem?_set];split
  ·rename_i hij;subst hij;have hlt:=(qm.1 hkj).1;rw [if_pos hlt,hkj]
  ·rfl
 |false =>
  simp only [qf,if_false,cond_false];simp [kvs]
mutual
theorem adopt_id(q:Root):∀v:V,v.qq=[]->v.adopt q=v
 |.mref r,h=>by simp [V.qq]at h
 |.fn g a b,h=>by
  simp only [V.qq,List.append_eq_nil_iff]at h;simp only [V.adopt,adoptL_id q a h.1,adoptL_id q b h.2]
 |.agg l,h=>by simp only [V.qq]at h;simp only [V.adopt,adoptL_id q l h]
 |.cptr _ l,h=>by simp only [V.qq]at h;simp only [V.adopt,adoptL_id q l h]
 |.tuple l,h=>by simp only [V.qq]at h;simp only [V.adopt,adoptL_id q l h]
 |.undef,_|.val _,_|.ptr ..,_|.sl ..,_|.room ..,_|.yld _,_|.bsl ..,_|.iface ..,_|.mp _,_|.lp ..,_=>by simp [V.adopt]
theorem adoptL_id(q:Root):∀l:List V,ptrsL l=[]->Ab.adoptL q l=l
 |[],_=>by simp [Ab.adoptL]
 |v::l,h=>by
  simp only [ptrsL,List.append_eq_nil_iff]at h;simp only [Ab.adoptL,adopt_id q v h.1,adoptL_id q l h.2]
end
theorem qfc:∀(τ:Ty) (o:Nat) (x:τ.den) (v:V),RTy τ o x v->v.onlyMaps=true
 |.int _,_,_,v,h=>by simp only [RTy]at h;subst h;rfl
 |.bool,_,_,v,h=>by simp only [RTy]at h;subst h;rfl
 |.str,_,_,v,h=>by simp only [RTy]at h;subst h;rfl
 |.flt,_,_,v,h=>by simp only [RTy]at h;obtain ⟨_,rfl,_⟩:=h;rfl
 |.cx,_,_,v,h=>by simp only [RTy]at h;obtain ⟨_,_,rfl,_⟩:=h;rfl
 |.err,_,_,v,h=>by simp only [RTy]at h;rcases h with ⟨_,rfl⟩|⟨_,t9,rfl⟩<;>rfl
 |.mset _,_,_,v,h=>by simp only [RTy]at h;obtain ⟨_,rfl⟩:=h;rfl
 |.sl _,_,_,v,h=>by simp only [RTy]at h;obtain ⟨_,_,_,rfl,_⟩:=h;rfl
 |.nsl _,_,_,v,h=>by simp only [RTy]at h;rcases h with ⟨_,rfl⟩|⟨_,_,_,_,rfl,_⟩<;>rfl
 |.unit,_,_,v,h=>by simp only [RTy]at h;subst h;rfl
 |.pair a b,o,x,v,h=>by
  simp only [RTy]at h;obtain ⟨v1,l,rfl,h1,h2⟩:=h;have h3:=qfc a o x.1 v1 h1;have h4:=qfc b o x.2 (.agg l) h2;simp only [V.onlyMaps]at h4 ⊢;simp only [Ab.onlyMapsL,h3,h4]<;>rfl
mutual
theorem rv_adopt(q:Root):∀(x:TV) (v:V),x.onlyMaps=true->RV x v->RV (x.adopt q) (v.adopt q)/\v.onlyMaps=true
 |.any _,v,ho,_|.ptr ..,v,ho,_|.bsl ..,v,ho,_|.iface ..,v,ho,_|.yld _,v,ho,_|.lp ..,v,ho,_=>by simp [TV.onlyMaps]at ho
 |.mref r,v,_,h=>by simp only [RV]at h;subst h;simp [TV.adopt,V.adopt,RV,V.onlyMaps]
 |.t τ o x,v,_,h=>by
  simp only [TV.adopt];have h':=h;simp only [RV]at h;rw [adopt_id q v (qbJ τ o x v h)];exact ⟨h',qfc τ o x v h⟩
 |.clp τ x,v,_,h=>by
  simp only [TV.adopt];have h':=h;simp only [RV]at h;obtain ⟨f,l',rfl,_⟩:=h;exact ⟨by simpa only [V.adopt]using h',rfl⟩
 |.room a s,v,_,h=>by
  simp only [TV.adopt];have h':=h;simp only [RV]at h;obtain ⟨_,n,rfl,_⟩|⟨_,rfl|⟨f,hf0,rfl⟩⟩:=h
  ·exact ⟨by simpa only [V.adopt]using h',rfl⟩
  ·exact ⟨by simpa only [V.adopt]using h',rfl⟩
  ·exact ⟨by simpa only [V.adopt]using h',rfl⟩
 |.empty o,v,_,h=>by
  simp only [TV.adopt];have h':=h;simp only [RV]at h;obtain ⟨f,c,rfl,_⟩:=h;exact ⟨by simpa only [V.adopt]using h',rfl⟩
 |.val u,v,_,h=>by
  simp only [TV.adopt];have h':=h;simp only [RV]at h;subst h;exact ⟨by simpa only [V.adopt]using h',rfl⟩
 |.agg l,v,ho,h=>by
  simp only [TV.onlyMaps]at ho;simp only [RV]at h;obtain ⟨l',rfl,h⟩:=h;obtain ⟨h1,h2⟩:=rvl_adopt q l l' ho h;exact ⟨by simp only [TV.adopt,V.adopt,RV];exact ⟨_,rfl,h1⟩,by simpa only [V.onlyMaps]using h2⟩
 |.cptr s l,v,ho,h=>by
  simp only [TV.onlyMaps]at ho;simp only [RV]at h;obtain ⟨f,l',rfl,hno,hsh,h⟩:=h;obtain ⟨h1,h2⟩:=rvl_adopt q l l' ho h;exact ⟨by simp only [TV.adopt,V.adopt,RV];exact ⟨_,_,rfl,hno,hsh,h1⟩,by simpa only [V.onlyMaps]using h2⟩
 |.tuple l,v,ho,h=>by
  simp only [TV.onlyMaps]at ho;simp only [RV]at h;obtain ⟨l',rfl,h⟩:=h;obtain ⟨h1,h2⟩:=rvl_adopt q l l' ho h;exact ⟨by simp only [TV.adopt,V.adopt,RV];exact ⟨_,rfl,h1⟩,by simpa only [V.onlyMaps]using h2⟩
 |.fn g a b,v,ho,h=>by
  simp only [TV.onlyMaps,qe]at ho;simp only [RV]at h;obtain ⟨a',b',rfl,ha,hb⟩:=h;obtain ⟨h1,h2⟩:=rvl_adopt q a a' ho.1 ha;obtain ⟨h3,h4⟩:=rvl_adopt q b b' ho.2 hb;exact ⟨by simp only [TV.adopt,V.adopt,RV];exact ⟨_,_,rfl,h1,h3⟩,by simp only [V.onlyMaps,h2,h4];rfl⟩
theorem rvl_adopt(q:Root):∀(l:List TV) (l':List V),onlyMapsTL l=true->RVL l l'->RVL (adoptTL q l) (Ab.adoptL q l')/\Ab.onlyMapsL l'=true
 |[],l',_,h=>by simp only [RVL]at h;subst h;exact ⟨by simp [adoptTL,Ab.adoptL,RVL],rfl⟩
 |x::l,l',ho,h=>by
  simp only [onlyMapsTL,qe]at ho;simp only [RVL]at h;obtain ⟨v,m,rfl,h1,h2⟩:=h;obtain ⟨h3,h4⟩:=rv_adopt q x v ho.1 h1;obtain ⟨h5,h6⟩:=rvl_adopt q l m ho.2 h2;exact ⟨by simp only [adoptTL,Ab.adoptL];exact qx.2 ⟨h3,h5⟩,by simp only [Ab.onlyMapsL,h4,h6];rfl⟩
end
mutual
theorem RV.onlyMaps_eq:∀(x:TV) (v:V),x.known=true->RV x v->v.onlyMaps=x.onlyMaps
 |.any _,v,hk,_=>by simp [TV.known]at hk
 |.t τ o x,v,_,h=>by simp only [RV]at h;rw [qfc τ o x v h]<;>rfl
 |.clp τ x,v,_,h=>by simp only [RV]at h;obtain ⟨f,l',rfl,_⟩:=h;rfl
 |.room a s,v,_,h=>by simp only [RV]at h;obtain ⟨_,n,rfl,_⟩|⟨_,rfl|⟨f,hf0,rfl⟩⟩:=h<;>rfl
 |.empty o,v,_,h=>by simp only [RV]at h;obtain ⟨f,c,rfl,_⟩:=h;rfl
 |.val u,v,_,h=>by simp only [RV]at h;subst h;rfl
 |.agg l,v,hk,h=>by simp only [RV]at h;obtain ⟨l',rfl,h⟩:=h;simp only [TV.known]at hk;simp only [V.onlyMaps,TV.onlyMaps];exact RVL.onlyMaps_eq l l' hk h
 |.tuple l,v,hk,h=>by simp only [RV]at h;obtain ⟨l',rfl,h⟩:=h;simp only [TV.known]at hk;simp only [V.onlyMaps,TV.onlyMaps];exact RVL.onlyMaps_eq l l' hk h
 |.fn g a b,v,hk,h=>by
  simp only [RV]at h;obtain ⟨a',b',rfl,h1,h2⟩:=h;simp only [TV.known,qe]at hk;simp only [V.onlyMaps,TV.onlyMaps,RVL.onlyMaps_eq a a' hk.1 h1,RVL.onlyMaps_eq b b' hk.2 h2]
 |.ptr r o,v,_,h=>by simp only [RV]at h;subst h;rfl
 |.bsl r o n,v,_,h=>by simp only [RV]at h;subst h;rfl
 |.yld r,v,_,h=>by simp only [RV]at h;subst h;rfl
 |.lp ..,v,_,h=>by simp only [RV]at h
 |.mref r,v,_,h=>by simp only [RV]at h;subst h;rfl
 |.cptr s l,v,hk,h=>by simp only [RV]at h;obtain ⟨f,l',rfl,_,_,h⟩:=h;simp only [TV.known]at hk;simp only [V.onlyMaps,TV.onlyMaps];exact RVL.onlyMaps_eq l l' hk h
 |.iface t x,v,hk,h=>by simp [TV.known]at hk
theorem RVL.onlyMaps_eq:∀(l:List TV) (l':List V),knownL l=true->RVL l l'->Ab.onlyMapsL l'=onlyMapsTL l
 |[],l',_,h=>by simp only [RVL]at h;subst h;rfl
 |x::l,l',hk,h=>by
  simp only [RVL]at h;obtain ⟨v,m,rfl,h1,h2⟩:=h;simp only [knownL,qe]at hk;simp only [Ab.onlyMapsL,onlyMapsTL,RV.onlyMaps_eq x v hk.1 h1,RVL.onlyMaps_eq l m hk.2 h2]
end
theorem qnZ{g:FuncId}{first cap args:List TV}{first' cap' args':List V}(hk:knownL (first++args++cap)=true)(h:RVL (first++args++cap) (first'++args'++cap')) :
  qgS (.fn g first' cap') args'=qja (.fn g first cap) args:=by
 unfold qgS qja;simp only [hk,if_true,RVL.ptrs_eq _ _ hk h,RVL.onlyMaps_eq _ _ hk h];cases ptrsTL (first++args++cap)<;>rfl
end
theorem qgq(e:Env):e.toL.length=e.n:=by simp [Env.toL]
theorem toL_get?(e:Env)(i:Nat):e.toL[i]?=if i<e.n then some (e.t.get (.any []) i)else none:=by
 unfold Env.toL;rw [List.getElem?_map];by_cases h:i<e.n
 ·rw [if_pos h];simp [h]
 ·rw [if_neg h,List.getElem?_eq_none (by simp;omega)];rfl
theorem qk8(e:Env)(i:Nat):e.get i=e.toL.getD i (.any []):=by
 rw [List.getD_eq_getElem?_getD,toL_get?];show Bool.rec (motive:=λ_=>TV) (.any []) (e.t.get (.any []) i) (Nat.ble (i+1) e.n)=_;rw [qv7];by_cases h:i<e.n
 ·rw [if_pos h,if_pos (by rw [Nat.ble_eq];omega)];rfl
 ·rw [if_neg h,if_neg (by rw [Nat.ble_eq];omega)];rfl
theorem get_some{e:Env}{i:Nat}{x:TV}(h:e.toL[i]?=some x):e.get i=x:=by
 rw [qk8,List.getD_eq_getElem?_getD,h];rfl
theorem some_get{e:Env}{i:Nat}{x:TV}(h:e.get i=x)(hx:∀rs,x≠.any rs):e.toL[i]?=some x:=by
 rw [qk8,List.getD_eq_getElem?_getD]at h;cases hh:e.toL[i]? with
 |none=>rw [hh]at h;exact absurd h.symm (hx [])
 |some y=>rw [hh]at h;simpa using h
theorem qdD(e:Env)(i:Nat)(v:TV):(e.set i v).toL=e.toL.set i v:=by
 apply List.ext_getElem?;intro j;rw [List.getElem?_set,toL_get?,toL_get?,qgq];show (if j<e.n then some ((e.t.set (.any []) i v).get (.any []) j)else none)=_;rw [Tr.qo0];by_cases h:j<e.n
 ·rw [if_pos h,if_pos h];by_cases e1:i=j
  ·rw [if_pos e1,if_pos e1,if_pos (by omega)]
  ·rw [if_neg e1,if_neg e1]
 ·rw [if_neg h,if_neg h];by_cases e1:i=j
  ·rw [if_pos e1,if_neg (by omega)]
  ·rw [if_neg e1]
theorem qpZ(f:Nat->TV->TV)(e:Env)(i:Nat):(e.qsz f).toL[i]?=(e.toL[i]?).map (f i):=by
 rw [toL_get?,toL_get?];show (if i<e.n then some ((e.t.qsz (.any []) e.n f 1 0).get (.any []) i)else none)=_;by_cases h:i<e.n
 ·rw [if_pos h,if_pos h,Tr.qoY _ _ _ _ _ _ _ (Nat.le_refl _) (by omega)];simp
 ·rw [if_neg h,if_neg h];rfl
theorem qyH(f:Nat->TV->TV)(e:Env):(e.qsz f).toL.length=e.toL.length:=by rw [qgq,qgq];rfl
theorem qvQ{p:Nat->TV->Bool}{e:Env}(h:e.all p=true)(hp:∀i,p i (.any [])=true){i:Nat}{x:TV}(hx:e.toL[i]?=some x):p i x=true:=by
 rw [toL_get?]at hx;split at hx
 ·cases hx;have:=Tr.qoD (.any []) hp e.t 1 0 i h;simpa using this
 ·cases hx
theorem qyI{p:TV->Bool}{e:Env}(hp:p (.any [])=false){i:Nat}{x:TV}(hx:e.toL[i]?=some x)(h:p x=true):i∈e.mask p:=by
 rw [toL_get?]at hx;split at hx
 ·cases hx;have:=Tr.qmf (.any []) hp e.t 1 0 i h;rw [Mask.mem_iff];simpa [Mask.has,Env.mask]using this
 ·cases hx
theorem qnL:∀(l:List TV) (i:Nat) (t:Tr TV) (j:Nat),(qqF l i t).get (.any []) j=if i<=j/\j<i+l.length then l.getD (j-i) (.any [])else t.get (.any []) j
 |[],i,t,j=>by
  rw [if_neg (by simp)];rfl
 |v::l,i,t,j=>by
  show (qqF l (i+1) (t.set (.any []) i v)).get (.any []) j=_;rw [qnL l,Tr.qo0];by_cases h1:i+1<=j/\j<i+1+l.length
  ·rw [if_pos h1,if_pos (by simp;omega)];have:j-i=(j-(i+1))+1:=by omega
   rw [this];simp
  ·rw [if_neg h1];by_cases h2:i=j
   ·rw [if_pos h2,if_pos (by simp;omega)];simp [h2]
   ·rw [if_neg h2,if_neg (by simp;omega)]
theorem qhL(args:List TV)(n:Nat):(Env.qeN args n).toL=args++List.replicate (n-args.length) (.any []):=by
 apply List.ext_getElem?;intro j;rw [toL_get?];show (if j<args.length+(n-args.length)then some ((qqF args 0 .nil).get (.any []) j)else none)=_;rw [qnL,List.getElem?_append];by_cases h1:j<args.length
 ·rw [if_pos (by omega),if_pos (by omega),if_pos h1];simp [h1]
 ·rw [if_neg h1];by_cases h2:j<args.length+(n-args.length)
  ·rw [if_pos h2,if_neg (by omega),Tr.get_nil,List.getElem?_replicate,if_pos (by omega)]
  ·rw [if_neg h2,List.getElem?_replicate,if_neg (by omega)]
theorem qid(D:Mask)(rs:Nat->List Root)(e:Env)(i:Nat):(qdt D rs e).toL[i]?=if i∈D then (e.toL[i]?).map (λ_=>.any (rs i))else e.toL[i]?:=by
 unfold qdt;rw [qpZ];by_cases h:i∈D
 ·rw [if_pos h];rw [Mask.mem_iff]at h;rw [h]
 ·rw [if_neg h];rw [Mask.mem_iff]at h;have:D.has i=false:=by simpa using h
  rw [this];show (e.toL[i]?).map (λv=>v)=_;simp
theorem qlH(D:Mask)(rs:Nat->List Root)(e:Env):(qdt D rs e).toL.length=e.toL.length:=qyH _ _
theorem qor(E:Env)(t:Nat):(E.set t (E.get t).q5).toL=E.toL.modify t TV.q5:=by
 apply List.ext_getElem?;intro j;rw [qdD,List.getElem?_set,List.getElem?_modify];by_cases h:t=j
 ·rw [if_pos h];subst h;cases hh:E.toL[t]? with
  |none=>rw [if_neg (by have:=List.getElem?_eq_none_iff.1 hh;omega)];rfl
  |some x=>rw [if_pos (qm.1 hh).1,get_some hh];simp
 ·rw [if_neg h];cases E.toL[j]?<;>simp [h]
theorem qcW{x:Nat}:∀{l:List Nat},x∈qd7 l↔x∈l
 |[]=>by simp [qd7]
 |a::l=>by
  simp only [qd7];split
  ·rename_i h;rw [qcW];simp at h;constructor
   ·intro hx;simp [hx]
   ·intro hx;rcases qk.1 hx with rfl|hx
    ·exact h
    ·exact hx
  ·simp [qcW (l:=l)]
def qzY(acc:List Mask)(acc':List (List Nat)):Prop:=acc.length=acc'.length/\∀i j,j∈acc.getD i .empty↔j∈acc'.getD i []
theorem qnO(acc:List Mask)(acc':List (List Nat))(h:qzY acc acc'):∀(l:List Nat) (m:Mask) (x:Nat),x∈l.foldl (λm j=>Mask.ins j (m++acc.getD j .empty)) m↔x∈m\/x∈l.flatMap λj=>j::acc'.getD j []
 |[],m,x=>by simp
 |j::l,m,x=>by
  simp only [List.foldl_cons];rw [qnO acc acc' h l];simp only [Mask.mem_ins,Mask.mem_append,List.flatMap_cons,qj,qk];rw [h.2 j x];constructor
  ·rintro ((h1|(h1|h1))|h1)
   ·exact .inr (.inl (.inl h1))
   ·exact .inl h1
   ·exact .inr (.inl (.inr h1))
   ·exact .inr (.inr h1)
  ·rintro (h1|((h1|h1)|h1))
   ·exact .inl (.inr (.inl h1))
   ·exact .inl (.inl h1)
   ·exact .inl (.inr (.inr h1))
   ·exact .inr h1
theorem qol:∀(ops:List Oper) (acc:List Mask) (acc':List (List Nat)),qzY acc acc' ->
  qzY (ops.foldl (λacc o=>acc++[(qaC o).foldl (λm j=>Mask.ins j (m++acc.getD j .empty)) .empty]) acc) (ops.foldl (λacc o=>acc++[qd7 ((qaC o).flatMap λj=>j::acc.getD j [])]) acc')
 |[],acc,acc',h=>h
 |o::ops,acc,acc',h=>by
  simp only [List.foldl_cons];refine qol ops _ _ ⟨by simp [h.1],λi j=>?_⟩;simp only [List.getD_eq_getElem?_getD,List.getElem?_append];by_cases hi:i<acc.length
  ·rw [if_pos hi,if_pos (by rw [<- h.1];exact hi)];have:=h.2 i j;simpa only [List.getD_eq_getElem?_getD]using this
  ·rw [if_neg hi,if_neg (by rw [<- h.1];exact hi),h.1];by_cases h0:i-acc'.length=0
   ·rw [h0];simp only [List.getElem?_cons_zero,Option.getD_some];have:=qnO acc acc' h (qaC o) .empty j;simp only [List.getD_eq_getElem?_getD]at this;rw [this,qcW];simp
   ·obtain ⟨k,hk⟩:∃k,i-acc'.length=k+1:=⟨i-acc'.length-1,by omega⟩
    rw [hk];simp
theorem qqd(ops:List Oper)(i j:Nat):((qvR ops).getD i .empty).has j=((qd0 ops).getD i []).contains j:=by
 have h:=(qol ops [] [] ⟨rfl,λi j=>by simp⟩).2 i j;have e:∀a b:Bool,(a=true↔b=true)->a=b:=λa b=>by cases a<;>cases b<;>simp
 apply e;rw [List.contains_iff_mem];exact h
theorem qrs(H:Hints)(f:FuncId)(U:List (Nat×Nat))(ops:Array Oper):qjh H f U ops=qej H f U ops:=by
 unfold qjh qej;simp only [qqd];rfl
theorem qv0(draw:Bool)(ops:List Oper)(i c:Nat):qkr draw (qvR ops) i c=qib draw (qd0 ops) i c:=by
 unfold qkr qib;rw [qqd]
theorem quU(H:Hints)(f:FuncId)(draw:Bool)(ops:Array Oper):qsx H f draw ops=qi8 H f draw ops:=by
 have h:∀lone c oc,qph H f draw (qvR ops.toList) ops lone c oc=qme H f draw (qd0 ops.toList) ops lone c oc:=λlone c oc=>by
  unfold qph qme;simp only [qv0];rfl
 unfold qsx qi8;simp only [h];rfl
section
variable {P:Program} {H:Hints} {f:FuncId}
def qad(M:List qI)(l s:Nat):Option (Option (List TV)):=match M[l]? with
 |some b=>qU b s
 |none=>none
def qaj(M:List Level)(l s:Nat):Option (List V):=match M[l]? with
 |some b=>qy b s
 |none=>none
def RC:List TV->List V->Prop
 |[.lp s pe f env ps a b],c'=>∃env',c'=[.lp s pe f env' ps a b]/\RVL env env'
 |c,c'=>RVL c c'
theorem qok{c:List TV}{c':List V}(h:RVL c c'):isRec c=false:=by
 cases c with
 |nil=>rfl
 |cons x l =>
  simp only [RVL]at h;obtain ⟨v,m,_,h1,_⟩:=h;cases x<;>first|rfl|(simp only [RV]at h1)
theorem RVL.rc{c:List TV}{c':List V}(h:RVL c c'):RC c c':=by
 have h0:=qok h;unfold RC;split
 ·simp [isRec]at h0
 ·exact h
theorem RC.rvl{c:List TV}{c':List V}(h:RC c c')(hn:isRec c=false):RVL c c':=by
 unfold RC at h;split at h
 ·simp [isRec]at hn
 ·exact h
theorem RC.qq{c:List TV}{c':List V}(h:RC c c')(r:Root)(hr:r∈ptrsL c'):r∈ptrsTL c:=by
 unfold RC at h;split at h
 ·obtain ⟨env',rfl,h⟩:=h;simp only [ptrsL,V.qq,List.append_nil]at hr;simp only [ptrsTL,TV.qq,List.append_nil];exact RVL.qq _ _ h r hr
 ·exact RVL.qq _ _ h r hr
def RB:Option (Option (List TV))->Option (List V)->Prop
 |none,b=>b=none
 |some none,b=>∀c,b=some c->q3 c=false
 |some (some c),b=>∃c',b=some c'/\RC c c'
structure LR (M:List qI) (M':List Level):Prop where
 len:M'.length=M.length
 rel:∀l s,RB (qad M l s) (qaj M' l s)
 nd:∀b∈M',(b.map (·.1)).Nodup
 mp:∀l s c,qaj M' l s=some c->s<16384->qfP c=false
def TSt.all(st:TSt):List qI:=st.L++[st.B]
def qcO(s:St):List Level:=s.L++[s.B]
structure Rst (st:TSt) (s:St):Prop where
 E:RVL st.E.toL s.E
 M:LR st.all (qcO s)
theorem Rst.len{st:TSt}{s:St}(h:Rst st s):s.L.length=st.L.length:=by
 have:=h.M.len;simp [TSt.all,qcO]at this;exact this
theorem qK{s:St}(r:Root):s.box r=qaj (qcO s) r.lvl r.slot:=by
 obtain ⟨l,sl⟩:=r;unfold St.box qaj qcO;by_cases h:l=s.L.length
 ·subst h;simp
 ·rw [if_neg h];by_cases hlt:l<s.L.length
  ·simp only [qg hlt]<;>rfl
  ·have h1:s.L[l]?=none:=by simp<;>omega
   have h2:(s.L++[s.B])[l]?=none:=by simp<;>omega
   simp only [h1,h2]
theorem qaK{st:TSt}(r:Root):st.cont r=match qad st.all r.lvl r.slot with
  |some (some c)=>some c
  |_=>none:=by
 obtain ⟨l,sl⟩:=r;unfold TSt.cont qad TSt.all;by_cases h:l=st.L.length
 ·subst h;simp<;>rfl
 ·rw [if_neg h];by_cases hlt:l<st.L.length
  ·simp only [qg hlt]<;>rfl
  ·have h1:st.L[l]?=none:=by simp<;>omega
   have h2:(st.L++[st.B])[l]?=none:=by simp<;>omega
   simp only [h1,h2]
theorem qdR{st:TSt}{r:Root}{c:List TV}(h:st.cont r=some c):qad st.all r.lvl r.slot=some (some c):=by
 rw [qaK]at h;split at h
 ·rename_i c' hc;cases h;exact hc
 ·cases h
theorem qoJ{st:TSt}{r:Root}{c:List TV}(h:st.box r=some c):st.cont r=some c/\isRec c=false:=by
 unfold TSt.box at h;split at h
 ·rename_i c' hc;split at h
  ·cases h
  ·rename_i hr;cases h;exact ⟨hc,by simpa using hr⟩
 ·cases h
theorem qoK{st:TSt}{r:Root}{c:List TV}(h:st.box r=some c):qad st.all r.lvl r.slot=some (some c):=qdR (qoJ h).1
theorem qtr{st:TSt}{r:Root}{c:List TV}(h:st.cont r=some c)(hn:isRec c=false):st.box r=some c:=by
 unfold TSt.box;rw [h];simp [hn]
theorem Rst.box{st:TSt}{s:St}(h:Rst st s){r:Root}{c:List TV}(hc:st.box r=some c):∃c',s.box r=some c'/\RVL c c':=by
 have:=h.M.rel r.lvl r.slot;rw [qoK hc]at this;rw [qK];obtain ⟨c',h1,h2⟩:=this;exact ⟨c',h1,h2.rvl (qoJ hc).2⟩
theorem Rst.bx{st:TSt}{s:St}(h:Rst st s)(r:Root):BxR (st.box r) (s.box r):=by
 cases hc:st.box r with
 |none=>trivial
 |some c=>exact h.box hc
theorem qfD(b:qI)(s s':Nat)(c:Option (List TV)):qU (qsW b s c) s'=if s'=s then (qU b s).map (λ_=>c)else qU b s':=by
 induction b with
 |nil=>simp [qsW,qU]
 |cons p b ih =>
  obtain ⟨k,d⟩:=p;by_cases h:k=s
  ·subst h;by_cases h2:k=s'
   ·subst h2;simp [qsW,qU]
   ·simp [qsW,qU,h2,Ne.symm h2]
  ·by_cases h2:k=s'
   ·subst h2;simp [qsW,qU,h]
   ·simp [qsW,qU,h,h2,ih]
theorem qdu(b:Level)(s s':Nat)(c:List V):qy (qdZ b s c) s'=if s'=s then (qy b s).map (λ_=>c)else qy b s':=by
 induction b with
 |nil=>simp [qdZ,qy]
 |cons p b ih =>
  obtain ⟨k,d⟩:=p;by_cases h:k=s
  ·subst h;by_cases h2:k=s'
   ·subst h2;simp [qdZ,qy]
   ·simp [qdZ,qy,h2,Ne.symm h2]
  ·by_cases h2:k=s'
   ·subst h2;simp [qdZ,qy,h]
   ·simp [qdZ,qy,h,h2,ih]
theorem qwE(b:Level)(s:Nat)(c:List V):(qdZ b s c).map (·.1)=b.map (·.1):=by
 induction b with
 |nil=>rfl
 |cons p b ih =>
  obtain ⟨k,d⟩:=p;by_cases h:k=s<;>simp [qdZ,h,ih]
theorem qe5(M:List qI)(l:Nat)(g:qI->qI)(l' s:Nat):qad (M.modify l g) l' s=if l'=l then (match M[l]? with|some b=>qU (g b) s|none=>none)else qad M l' s:=by
 unfold qad;rw [List.getElem?_modify];by_cases h:l'=l
 ·subst h;rw [if_pos rfl];cases M[l']? with
  |none=>rfl
  |some b=>simp
 ·rw [if_neg h];cases M[l']? with
  |none=>rfl
  |some b=>simp [Ne.symm h]
theorem qgR(M:List Level)(l:Nat)(g:Level->Level)(l' s:Nat):qaj (M.modify l g) l' s=if l'=l then (match M[l]? with|some b=>qy (g b) s|none=>none)else qaj M l' s:=by
 unfold qaj;rw [List.getElem?_modify];by_cases h:l'=l
 ·subst h;rw [if_pos rfl];cases M[l']? with
  |none=>rfl
  |some b=>simp
 ·rw [if_neg h];cases M[l']? with
  |none=>rfl
  |some b=>simp [Ne.symm h]
theorem qgc{α:Type}(g:α->α)(b:α):∀L:List α,(L++[b]).modify L.length g=L++[g b]
 |[]=>rfl
 |x::L=>by simp [qgc g b L]
theorem qgd{α:Type}(g:α->α)(b:α):∀(L:List α) {l:Nat},l≠L.length->(L++[b]).modify l g=L.modify l g++[b]
 |[],l,h=>by
  cases l with
  |zero=>simp at h
  |succ n=>simp
 |x::L,l,h=>by
  cases l with
  |zero=>simp
  |succ n =>
   have:=qgd g b L (l:=n) (by simpa using h);simp [this]
theorem qom(s:St)(r:Root)(c:List V):qcO (s.qo r c)=(qcO s).modify r.lvl (λb=>qdZ b r.slot c):=by
 unfold St.qo qcO;by_cases h:r.lvl=s.L.length
 ·rw [if_pos h,h,qgc]
 ·rw [if_neg h,qgd _ _ _ h]
theorem qiz(st:TSt)(r:Root)(c:List TV):(st.qo r c).all=st.all.modify r.lvl (λb=>qsW b r.slot (some c)):=by
 unfold TSt.qo TSt.all;by_cases h:r.lvl=st.L.length
 ·rw [if_pos h,h,qgc]
 ·rw [if_neg h,qgd _ _ _ h]
theorem qnP(st:TSt)(rs:List Root)(r:Root):(st.forget rs r).all=st.all.modify r.lvl (λb=>qA9 rs b r.slot):=by
 unfold TSt.forget TSt.all;by_cases h:r.lvl=st.L.length
 ·rw [if_pos h,h,qgc]
 ·rw [if_neg h,qgd _ _ _ h]
theorem mem_modify{α:Type}{g:α->α}{b:α}:∀{M:List α} {l:Nat},b∈M.modify l g->b∈M\/∃b'∈M,b=g b'
 |[],l,h=>by cases l<;>simp at h
 |x::M,0,h=>by
  simp only [List.modify_zero_cons,qk]at h;rcases h with rfl|h
  ·exact .inr ⟨x,by simp,rfl⟩
  ·exact .inl (by simp [h])
 |x::M,l+1,h=>by
  simp only [List.modify_succ_cons,qk]at h;rcases h with rfl|h
  ·exact .inl (by simp)
  ·rcases mem_modify h with h|⟨b',h1,h2⟩
   ·exact .inl (by simp [h])
   ·exact .inr ⟨b',by simp [h1],h2⟩
theorem LR.qo{M:List qI}{M':List Level}(h:LR M M')(l s:Nat){c:List TV}{c':List V}(hd:qad M l s≠some none)(hc:RC c c')(hmp:s<16384->qfP c'=false) :
  LR (M.modify l λb=>qsW b s (some c)) (M'.modify l λb=>qdZ b s c') where
 len:=by simp [h.len]
 rel:=λl2 s2=>by
  rw [qe5,qgR];by_cases e:l2=l
  ·subst e;rw [if_pos rfl,if_pos rfl];have key:=h.rel l2 s2;have key2:=h.rel l2 s;unfold qad qaj at key key2;cases h1:M[l2]? with
   |none =>
    have h2:M'[l2]?=none:=by rw [List.getElem?_eq_none_iff]at h1 ⊢;rw [h.len];exact h1
    rw [h2];rfl
   |some b =>
    have h2:∃b',M'[l2]?=some b':=by
     have:=(qm.1 h1).1;exact ⟨_,List.getElem?_eq_getElem (by rw [h.len];exact this)⟩
    obtain ⟨b',h2⟩:=h2;rw [h1,h2]at key key2;rw [h2];simp only at key key2 ⊢;rw [qfD,qdu];by_cases e2:s2=s
    ·subst e2;rw [if_pos rfl,if_pos rfl];cases hl:qU b s2 with
     |none=>rw [hl]at key;simp only [RB]at key;rw [key]<;>rfl
     |some o =>
      rw [hl]at key;cases o with
      |none =>
       exact absurd (by unfold qad;rw [h1];exact hl) hd
      |some d =>
       obtain ⟨d',hd',_⟩:=key;rw [hd'];exact ⟨c',rfl,hc⟩
    ·rw [if_neg e2,if_neg e2];exact key
  ·rw [if_neg e,if_neg e];exact h.rel l2 s2
 nd:=λb hb=>by
  rcases mem_modify hb with hb|⟨b',hb',rfl⟩
  ·exact h.nd b hb
  ·rw [qwE];exact h.nd b' hb'
 mp:=λl2 s2 c2 h2 hlt=>by
  rw [qgR]at h2;by_cases e:l2=l
  ·subst e;rw [if_pos rfl]at h2;have h0:=h.mp l2 s2;unfold qaj at h0;cases h1:M'[l2]? with
   |none=>rw [h1]at h2;cases h2
   |some b =>
    rw [h1]at h2 h0;simp only at h2 h0;rw [qdu]at h2;by_cases e2:s2=s
    ·subst e2;rw [if_pos rfl]at h2;obtain ⟨_,_,rfl⟩:=qc.1 h2;exact hmp hlt
    ·rw [if_neg e2]at h2;exact h0 c2 h2 hlt
  ·rw [if_neg e]at h2;exact h.mp l2 s2 c2 h2 hlt
structure Fr2 (st st':TSt) (s s':St):Prop where
 wt:∀t∈st.Wt,t∈st'.Wt
 wb:∀r∈st.Wb,r∈st'.Wb
 e:∀t,t∉st'.Wt->s'.E[t]?=s.E[t]?\/((∃rs,st.E.toL[t]?=some (.any rs))/\s'.E[t]?=some .undef)
 an:∀t,t∉st'.Wt->∀rs,st'.E.toL[t]?=some (.any rs)->∃rs',st.E.toL[t]?=some (.any rs')
 b:∀r,r∉st'.Wb->s'.box r=s.box r\/(s.L.length=0/\st.cont r=none/\(s'.box r).isSome=(s.box r).isSome/\∀c,s'.box r=some c->q3 c=false)
 bn:∀r,r∉st'.Wb->(st.cont r).isSome=true->(st'.cont r).isSome=true
 len:s'.L.length=s.L.length
 elen:s'.E.length=s.E.length
theorem Fr2.refl(st:TSt)(s:St):Fr2 st st s s:=⟨λ_ h=>h,λ_ h=>h,λ_ _=>.inl rfl,λ_ _ rs h=>⟨rs,h⟩,λ_ _=>.inl rfl,λ_ _ h=>h,rfl,rfl⟩
theorem Fr2.trans{a b c:TSt}{s t u:St}(h:Fr2 a b s t)(h':Fr2 b c t u):Fr2 a c s u where
 wt:=λx hx=>h'.wt x (h.wt x hx)
 wb:=λx hx=>h'.wb x (h.wb x hx)
 e:=λx hx=>by
  have hx1:x∉b.Wt:=λhh=>hx (h'.wt x hh);rcases h'.e x hx with h1|⟨⟨rs,h1⟩,h2⟩
  ·rw [h1];exact h.e x hx1
  ·exact .inr ⟨h.an x hx1 rs h1,h2⟩
 an:=λx hx rs hr=>by
  obtain ⟨rs',h1⟩:=h'.an x hx rs hr;exact h.an x (λhh=>hx (h'.wt x hh)) rs' h1
 b:=λx hx=>by
  have hx1:x∉b.Wb:=λhh=>hx (h'.wb x hh);rcases h'.b x hx with h1|⟨h0,h1,h2,h3⟩
  ·rw [h1];exact h.b x hx1
  ·right
   have hn:a.cont x=none:=by
    cases hb:a.cont x with
    |none=>rfl
    |some c=>have:=h.bn x hx1 (by rw [hb];rfl);rw [h1]at this;cases this
   refine ⟨by rw [<- h.len];exact h0,hn,?_,h3⟩;rcases h.b x hx1 with h4|⟨_,_,h4,_⟩
   ·rw [h2,h4]
   ·rw [h2,h4]
 bn:=λx hx hs=>h'.bn x hx (h.bn x (λhh=>hx (h'.wb x hh)) hs)
 len:=by rw [h'.len,h.len]
 elen:=by rw [h'.elen,h.elen]
theorem qet:∀{l:List TV} {l':List V},l'.length=l.length->(∀(i:Nat) x v,l[i]?=some x->l'[i]?=some v->RV x v)->RVL l l'
 |[],l',hl,_=>by simp at hl;simp [hl,RVL]
 |x::l,[],hl,_=>by simp at hl
 |x::l,v::m,hl,h=>qx.2 ⟨h 0 x v rfl rfl,qet (by simpa using hl) λi y u h1 h2=>h (i+1) y u (by simpa using h1) (by simpa using h2)⟩
theorem qAF{α:Type}(E:List α)(t i:Nat)(a:α):(E.set t a)[i]?=if t=i then (E[i]?).map (λ_=>a)else E[i]?:=by
 rw [List.getElem?_set];by_cases e:t=i
 ·subst e;rw [if_pos rfl,if_pos rfl];by_cases hlt:t<E.length
  ·simp [hlt]
  ·simp [hlt]
 ·rw [if_neg e,if_neg e]
theorem qiQ{α:Type}(a:α):∀(D:List Tmp) (E:List α) (i:Nat),(D.foldl (λE t=>E.set t a) E)[i]?=if i∈D then (E[i]?).map (λ_=>a)else E[i]?
 |[],E,i=>by simp
 |t::D,E,i=>by
  simp only [List.foldl_cons];rw [qiQ a D,qAF];by_cases h:i∈D
  ·rw [if_pos h,if_pos (List.mem_cons_of_mem _ h)];split
   ·cases E[i]?<;>rfl
   ·rfl
  ·rw [if_neg h];by_cases e:t=i
   ·subst e;rw [if_pos rfl,if_pos List.mem_cons_self]
   ·rw [if_neg e,if_neg (by simp [h,Ne.symm e])]
theorem qd3{α:Type}(a:α):∀(D:List Tmp) (E:List α),(D.foldl (λE t=>E.set t a) E).length=E.length
 |[],E=>rfl
 |t::D,E=>by simp only [List.foldl_cons];rw [qd3 a D];simp
def gone(rs:List Root):Option (Option (List TV))->Option (Option (List TV))
 |some (some cs)=>some (some (cs.map λ_=>.any rs))
 |_=>some none
theorem qws(rs:List Root)(o:Option (Option (List TV))):gone rs (gone rs o)=gone rs o:=by
 cases o with
 |none=>rfl
 |some o=>cases o with
  |none=>rfl
  |some cs=>simp [gone]
theorem quW(rs:List Root)(b:qI)(s s':Nat):qU (qA9 rs b s) s'=if s'=s then gone rs (qU b s)else qU b s':=by
 unfold qA9;split
 ·rename_i h;by_cases e:s'=s
  ·subst e;simp [qU,h,gone]
  ·simp [qU,e,Ne.symm e]
 ·rename_i h;by_cases e:s'=s
  ·subst e;simp [h,gone]
  ·simp [e]
 ·rename_i cs h;rw [qfD];by_cases e:s'=s
  ·subst e;simp [h,gone]
  ·simp [e]
theorem qq3(st:TSt)(rs:List Root)(r:Root)(l s:Nat):qad (st.forget rs r).all l s=if l=r.lvl/\s=r.slot/\l<st.all.length then gone rs (qad st.all l s)else qad st.all l s:=by
 rw [qnP,qe5];by_cases e:l=r.lvl
 ·subst e;rw [if_pos rfl];unfold qad;cases h:st.all[r.lvl]? with
  |none =>
   have:¬ r.lvl<st.all.length:=by rw [List.getElem?_eq_none_iff]at h;omega
   rw [if_neg (λhh=>this hh.2.2)]
  |some b =>
   have hlt:=(qm.1 h).1;simp only
   rw [quW];by_cases e2:s=r.slot
   ·subst e2;simp [hlt]
   ·simp [e2]
 ·rw [if_neg e,if_neg (by simp [e])]
theorem qnQ(st:TSt)(rs:List Root)(r:Root):(st.forget rs r).all.length=st.all.length:=by rw [qnP];simp
theorem qys(st:TSt)(rs:List Root)(r:Root):(st.forget rs r).E=st.E:=by unfold TSt.forget;split<;>rfl
theorem qf9(rs:List Root)(l s:Nat):∀(wr:List Root) (st:TSt),qad (wr.foldl (λst r=>st.forget rs r) st).all l s=if (⟨l,s⟩:Root)∈wr/\l<st.all.length then gone rs (qad st.all l s)else qad st.all l s
 |[],st=>by simp
 |r::wr,st=>by
  simp only [List.foldl_cons];rw [qf9 rs l s wr,qnQ,qq3];by_cases h1:l=r.lvl/\s=r.slot/\l<st.all.length
  ·rw [if_pos h1];have hr:(⟨l,s⟩:Root)=r:=by obtain ⟨e1,e2,_⟩:=h1;cases r;simp_all
   rw [qws,if_pos (⟨by simp [hr],h1.2.2⟩:(⟨l,s⟩:Root)∈r::wr/\l<st.all.length)];split<;>rfl
  ·rw [if_neg h1];by_cases h2:(⟨l,s⟩:Root)∈wr/\l<st.all.length
   ·rw [if_pos h2,if_pos ⟨by simp [h2.1],h2.2⟩]
   ·rw [if_neg h2,if_neg];rintro ⟨h3,h4⟩;rcases qk.1 h3 with h3|h3
    ·exact h1 ⟨by rw [<- h3],by rw [<- h3],h4⟩
    ·exact h2 ⟨h3,h4⟩
theorem qlI(rs:List Root):∀(wr:List Root) (st:TSt),(wr.foldl (λst r=>st.forget rs r) st).E=st.E
 |[],st=>rfl
 |r::wr,st=>by simp only [List.foldl_cons];rw [qlI rs wr,qys]
theorem qlJ(rs:List Root):∀(wr:List Root) (st:TSt),(wr.foldl (λst r=>st.forget rs r) st).all.length=st.all.length
 |[],st=>rfl
 |r::wr,st=>by simp only [List.foldl_cons];rw [qlJ rs wr,qnQ]
def qzr(s:St)(p:Place):Option V:=match p.lvl with
 |none=>s.E[p.slot]?
 |some l=>(s.box ⟨l,p.slot⟩).bind (·[p.cell]?)
theorem qg8{l:List TV}{l':List V}(h:RVL l l')(i:Nat){x:TV}(hx:∀u,l'[i]?=some u->RV x u):RVL (l.set i x) l':=by
 refine qet (by simp [h.length]) λk y v hy hv=>?_;rw [List.getElem?_set]at hy;split at hy
 ·rename_i e;subst e;split at hy
  ·cases hy;exact hx v hv
  ·cases hy
 ·obtain ⟨u,hu,hr⟩:=h.get hy;rw [hv]at hu;cases hu;exact hr
theorem Rst.qbL{st:TSt}{s:St}(h:Rst st s){p:Place}{v:TV}(hv:∀u,qzr s p=some u->RV v u):Rst (st.qbL p v) s:=by
 unfold TSt.qbL;cases hl:p.lvl with
 |none=>exact ⟨by rw [qdD];exact qg8 h.E _ λu hu=>hv u (by unfold qzr;rw [hl];exact hu),h.M⟩
 |some l =>
  simp only
  cases hb:st.box ⟨l,p.slot⟩with
  |none=>exact h
  |some cs =>
   simp only
   obtain ⟨c',hc',hr⟩:=h.box hb;have hset:RVL (cs.set p.cell v) c':=qg8 hr _ λu hu=>hv u (by unfold qzr;rw [hl];simp only;rw [hc'];exact hu);refine ⟨?_,?_⟩
   ·have:({st.qo ⟨l,p.slot⟩ (cs.set p.cell v)with Wb:=st.Wb}:TSt).E=st.E:=by simp only [TSt.qo];split<;>rfl
    rw [this];exact h.E
   ·have e1:({st.qo ⟨l,p.slot⟩ (cs.set p.cell v)with Wb:=st.Wb}:TSt).all=(st.qo ⟨l,p.slot⟩ (cs.set p.cell v)).all:=rfl;rw [e1,qiz];refine ⟨by rw [h.M.len];simp,λl2 s2=>?_,h.M.nd,h.M.mp⟩;rw [qe5];have hlook:=qoK hb;simp only at hlook ⊢;by_cases e:l2=l
    ·subst e;rw [if_pos rfl];have key:=h.M.rel l2 s2;unfold qad at key hlook;cases h1:st.all[l2]? with
     |none=>rw [h1]at hlook;cases hlook
     |some b =>
      rw [h1]at key hlook;simp only at key hlook ⊢;rw [qfD];by_cases e2:s2=p.slot
      ·subst e2;rw [if_pos rfl,hlook];rw [qK]at hc';exact ⟨c',hc',hset.rc⟩
      ·rw [if_neg e2];exact key
    ·rw [if_neg e];exact h.M.rel l2 s2
theorem qkG{s:St}:∀(ps:List Place) (vs:List TV) (st:TSt),Rst st s->(∀p v,(p,v)∈ps.zip vs->∀u,qzr s p=some u->RV v u)->Rst (qcF st ps vs) s
 |[],vs,st,h,_=>by cases vs<;>exact h
 |p::ps,[],st,h,_=>h
 |p::ps,v::vs,st,h,hv=>qkG ps vs _ (h.qbL (hv p v (by simp))) λq w hq=>hv q w (by simp [hq])
theorem qto:∀(τ:Ty) (o:Nat) (rs:List Root),qem τ o (.any rs)=none
 |.int _,_,_|.bool,_,_|.str,_,_|.flt,_,_|.cx,_,_|.err,_,_|.mset _,_,_|.nsl _,_,_|.sl _,_,_|.unit,_,_|.pair ..,_,_=>rfl
theorem Rst.get{st:TSt}{s:St}(h:Rst st s){p:Place}(hp:∀rs,st.get p≠.any rs){u:V}(hu:qzr s p=some u):RV (st.get p) u:=by
 unfold TSt.get at hp ⊢;unfold qzr at hu;cases hl:p.lvl with
 |none =>
  rw [hl]at hu hp;simp only at hu hp ⊢;have:=h.E.getD p.slot;rw [<- qk8,List.getD_eq_getElem?_getD,hu]at this;exact this
 |some l =>
  rw [hl]at hu hp;simp only at hu hp ⊢;cases hb:st.box ⟨l,p.slot⟩with
  |none=>rw [hb]at hp;exact absurd rfl (hp [])
  |some cs =>
   obtain ⟨c',hc',hr⟩:=h.box hb;rw [hc']at hu;simp only [qa]at hu;have:=hr.getD p.cell;rw [List.getD_eq_getElem?_getD,List.getD_eq_getElem?_getD,hu]at this;simp only
   rw [List.getD_eq_getElem?_getD];exact this
theorem qnF{st:TSt}{s:St}(h:Rst st s):∀(ps:List (Ty×Nat)) (lv:List Place) (x:denL (ps.map (·.1))),asL ps (lv.map st.get)=some x ->
  ∀p v,(p,v)∈lv.zip (ofL ps x)->∀u,qzr s p=some u->RV v u/\u.qq=[]/\q3 [u]=false
 |[],lv,x,hx,p,v,hm,u,hu=>by simp [ofL]at hm
 |[(τ,o)],lv,x,hx,p,v,hm,u,hu=>by
  match lv,hx,hm with
  |[q],hx,hm =>
   simp only [qh,List.map_nil,asL]at hx;simp only [ofL,List.zip_cons_cons,List.zip_nil_right,List.mem_singleton,Prod.mk.injEq]at hm;obtain ⟨rfl,rfl⟩:=hm;have hg:=h.get (p:=p) (λrs e=>by rw [e,qto]at hx;cases hx) hu;have hr:=qcP _ _ _ _ _ hx hg;have hrv:=rv_ofTy _ _ _ _ hr;exact ⟨hrv,qbJ _ _ _ _ hr,qal (qx.2 ⟨hrv,q6⟩)⟩
  |[],hx,hm=>simp [asL]at hx
  |_::_::_,hx,hm=>simp [asL]at hx
 |(τ,o)::q'::ps,lv,x,hx,p,v,hm,u,hu=>by
  match lv,hx,hm with
  |[],hx,hm=>simp [asL]at hx
  |q::lv,hx,hm =>
   simp only [qh,asL]at hx;obtain ⟨y,hy,hx⟩:=qd.1 hx;obtain ⟨z,hz,hx⟩:=qd.1 hx;simp only [qb]at hx;subst hx;simp only [ofL,List.zip_cons_cons,qk,Prod.mk.injEq]at hm;rcases hm with ⟨rfl,rfl⟩|hm
   ·have hg:=h.get (p:=p) (λrs e=>by rw [e,qto]at hy;cases hy) hu;have hr:=qcP _ _ _ _ _ hy hg;have hrv:=rv_ofTy _ _ _ _ hr;exact ⟨hrv,qbJ _ _ _ _ hr,qal (qx.2 ⟨hrv,q6⟩)⟩
   ·exact qnF h (q'::ps) lv z (by simpa using hz) p v hm u hu
theorem qhg:∀(ps:List (Ty×Nat)) (l:List TV) (x:denL (ps.map (·.1))),asL ps l=some x->(ofL ps x).length=l.length
 |[],l,x,h=>by cases l with
  |nil=>rfl
  |cons=>simp [asL]at h
 |[(τ,o)],l,x,h=>by
  match l,h with
  |[v],h=>rfl
  |[],h=>simp [asL]at h
  |_::_::_,h=>simp [asL]at h
 |(τ,o)::q::ps,l,x,h=>by
  match l,h with
  |[],h=>simp [asL]at h
  |v::l,h =>
   simp only [asL]at h;obtain ⟨y,hy,h⟩:=qd.1 h;obtain ⟨z,hz,h⟩:=qd.1 h;simp only [qb]at h;subst h;simp [ofL,qhg (q::ps) l z hz]
theorem qtC{lv:List Place}{l:Option Nat}{s c:Nat}(h:Place.qBp lv l s c=true):(⟨l,s,c⟩:Place)∈lv:=by
 unfold Place.qBp at h;rw [List.any_eq_true]at h;obtain ⟨p,hp,h⟩:=h;simp only [qe,decide_eq_true_eq]at h;obtain ⟨⟨rfl,rfl⟩,rfl⟩:=h;exact hp
theorem qqS{lv:List Place}{vs:List TV}(hl:vs.length=lv.length){p:Place}(h:p∈lv):∃v,(p,v)∈lv.zip vs:=by
 obtain ⟨i,hi⟩:=List.mem_iff_getElem?.1 h;have hlt:=(qm.1 hi).1;refine ⟨vs[i]'(by omega),List.mem_iff_getElem?.2 ⟨i,?_⟩⟩;rw [List.getElem?_zip_eq_some];exact ⟨hi,List.getElem?_eq_getElem _⟩
theorem qoq{l m:List Root}(h:Go.Tx.subset l m=true):∀r∈l,r∈m:=λr hr=>by
 unfold Go.Tx.subset at h;rw [List.all_eq_true]at h;simpa using h r hr
theorem qwC:∀{v:TV} {r:Root} {o:Nat},qwB v r o=true->v=.ptr r o
 |.ptr r o,r',o',h=>by
  simp only [qwB,qe,decide_eq_true_eq]at h;rw [h.1,h.2]
theorem qtV{s:St}:∀(l:List (Tmp×Root×Nat)) {st:TSt},Rst st s->(∀p∈l,s.E[p.1]?=some (.ptr p.2.1 p.2.2))->Rst (qrp st l) s
 |[],_,h,_=>h
 |p::l,st,h,hl=>by
  refine qtV l ⟨?_,h.M⟩ λq hq=>hl q (List.mem_cons_of_mem _ hq);show RVL (st.E.set p.1 (.ptr p.2.1 p.2.2)).toL s.E;rw [qdD];have h1:=hl p List.mem_cons_self;have h2:=RVL.set p.1 h.E (x:=.ptr p.2.1 p.2.2) (v:=.ptr p.2.1 p.2.2) (by simp only [RV]);have h3:s.E.set p.1 (.ptr p.2.1 p.2.2)=s.E:=by
   apply List.ext_getElem?;intro i;rw [List.getElem?_set];by_cases e:p.1=i
   ·rw [if_pos e,<- e,if_pos (qm.1 h1).1,h1]
   ·rw [if_neg e]
  rwa [h3]at h2
theorem qn8:∀(l:List (Tmp×Root×Nat)) (st:TSt),(qrp st l).Wt=st.Wt/\(qrp st l).Wb=st.Wb/\(qrp st l).L=st.L/\(qrp st l).B=st.B
 |[],_=>⟨rfl,rfl,rfl,rfl⟩
 |p::l,st=>qn8 l {st with E:=st.E.set p.1 (.ptr p.2.1 p.2.2)}
theorem qxa:∀(l:List (Tmp×Root×Nat)) (st:TSt) (t:Nat) (rs:List Root),(qrp st l).E.toL[t]?=some (.any rs)->st.E.toL[t]?=some (.any rs)
 |[],_,_,_,h=>h
 |p::l,st,t,rs,h=>by
  have:=qxa l _ t rs h;simp only at this;rw [qdD,List.getElem?_set]at this;split at this
  ·split at this
   ·cases this
   ·cases this
  ·exact this
theorem qyz{st:TSt}{s:St}(h:Rst st s){j:Join}(hk:st.keeps j=true):∀p∈j.kp,s.E[p.1]?=some (.ptr p.2.1 p.2.2):=by
 intro p hp;unfold TSt.keeps at hk;rw [List.all_eq_true]at hk;have h1:=qwC (hk p hp);obtain ⟨v,hv,hr⟩:=h.E.get (some_get h1 (by simp));simp only [RV]at hr;rw [hv,hr]
theorem qsO{st st2:TSt}{s s':St}{j:Join}{x:denL (j.ps.map (·.1))}(h:Rst st s)(h2:Rst st2 s')(hf:Fr2 st.fresh st2 s s')(ho:st2.outs st j=some x):Rst (st.qdI j (ofL j.ps x)) s':=by
 unfold TSt.outs at ho;split at ho
 ·rename_i hc;simp only [qe]at hc;obtain ⟨⟨hfor,hwr⟩,hlike⟩:=hc;have hcol:=qnF h2 j.ps j.lv x ho;have hlen:(ofL j.ps x).length=j.lv.length:=by rw [qhg _ _ _ ho];simp
  unfold TSt.qjJ at hfor;simp only [qe,List.all_eq_true]at hfor;obtain ⟨⟨hD0,hW⟩,_⟩:=hfor;have hD:∀t∈j.D,∀x,st2.E.toL[t]?=some x->(Place.qBp j.lv none t 0||Go.Tx.subset x.qq (j.qxs t))=true:=λt ht x hx=>by
   have:=qvQ hD0 (λi=>by cases j.D.has i<;>simp [TV.qq,Go.Tx.subset]) hx;rw [Mask.mem_iff]at ht;rw [ht]at this;exact this
  unfold TSt.wrote at hwr;simp only [qe,List.all_eq_true]at hwr;obtain ⟨hwt0,hwb⟩:=hwr;have hwt:∀t∈st2.Wt,t∈j.D:=λt ht=>Mask.qxH hwt0 ht;unfold TSt.qBU at hlike;rw [List.all_eq_true]at hlike;unfold TSt.qdI;refine qkG _ _ _ ⟨?_,?_⟩ λp v hm u hu=>(hcol p v hm u hu).1
  ·-- temporaries
   show RVL (j.wr.foldl (λ(st:TSt) r=>st.forget j.rb r) {st with E:=qdt j.D j.qxs st.E}).E.toL s'.E;rw [qlI];refine qet ?_ λi y v hy hv=>?_
   ·simp only;rw [qlH,hf.elen,h.E.length]
   ·simp only at hy;rw [qid]at hy;split at hy
    ·rename_i hi;obtain ⟨z,hz,rfl⟩:=qc.1 hy;obtain ⟨x2,hx2⟩:∃x2,st2.E.toL[i]?=some x2:=by
      have hlt:=(qm.1 hv).1;have:=h2.E.length;exact ⟨_,List.getElem?_eq_getElem (by omega)⟩
     have hi':=hD i hi x2 hx2;simp only [Bool.or_eq_true]at hi';simp only [RV];rcases hi' with hi'|hi'
     ·obtain ⟨w,hw⟩:=qqS hlen (qtC hi');obtain ⟨_,hp,hlp⟩:=hcol _ w hw v (by unfold qzr;exact hv);exact ⟨by rw [hp];simp,hlp⟩
     ·obtain ⟨v2,hv2,hg⟩:=h2.E.get hx2;rw [hv]at hv2;cases hv2;refine ⟨λr hr=>qoq hi' r (RV.qq _ _ hg r hr),qal (qx.2 ⟨hg,q6⟩)⟩
    ·rename_i hi;have:i∉st2.Wt:=λhh=>hi (hwt i hh);obtain ⟨u,hu,hr⟩:=h.E.get hy;rcases hf.e i this with he|⟨⟨rs,he1⟩,he2⟩
     ·rw [hv]at he;rw [<- he]at hu;cases hu;exact hr
     ·rw [he2]at hv;cases hv;have he1:st.E.toL[i]?=some (.any rs):=he1;rw [hy]at he1;cases he1;exact qaR rs
  ·-- boxes
   show LR (j.wr.foldl (λ(st:TSt) r=>st.forget j.rb r) {st with E:=qdt j.D j.qxs st.E}).all (qcO s');refine ⟨?_,λl sl=>?_,h2.M.nd,h2.M.mp⟩
   ·rw [qlJ];have:=hf.len;have:=h.M.len;simp [TSt.all,qcO]at this ⊢;omega
   ·rw [qf9];have hall:({st with E:=qdt j.D j.qxs st.E}:TSt).all=st.all:=rfl;rw [hall];split
    ·rename_i hm;have hbx:=qK (s:=s') ⟨l,sl⟩;simp only at hbx;have key2:=h2.M.rel l sl;have hnl:∀c,qaj (qcO s') l sl=some c->q3 c=false:=λc hc=>by
      cases hk:qad st2.all l sl with
      |none=>rw [hk]at key2;simp only [RB]at key2;rw [key2]at hc;cases hc
      |some o =>
       rw [hk]at key2;cases o with
       |none=>exact key2 c hc
       |some d =>
        obtain ⟨d',hd',hr⟩:=key2;rw [hd']at hc;cases hc;have hw:=hW _ hm.1;rw [qaK]at hw;simp only [hk,qe,Bool.not_eq_true']at hw;exact qal (hr.rvl hw.1)
     cases hk:qad st.all l sl with
     |none=>exact hnl
     |some o =>
      cases o with
      |none=>exact hnl
      |some cs =>
       have hb:st.cont ⟨l,sl⟩=some cs:=by rw [qaK];simp only;rw [hk]
       have hli:=hlike _ hm.1;rw [hb]at hli;simp only at hli;split at hli
       ·rename_i cs2 hb2;simp only [decide_eq_true_eq]at hli;have hw:=hW _ hm.1;rw [hb2]at hw;simp only [qe,Bool.not_eq_true',List.all_eq_true]at hw;obtain ⟨c',hc',hr⟩:=h2.box (qtr hb2 hw.1);rw [hbx]at hc';refine ⟨c',hc',RVL.rc ?_⟩;refine qet (by simp [hr.length,hli]) λi y v hy hv=>?_;rw [List.getElem?_map]at hy;obtain ⟨z,hz,rfl⟩:=qc.1 hy;have hi:i<cs2.length:=by have:=(qm.1 hz).1;omega
        have hw':=hw.2 i (by simpa using hi);simp only [Bool.or_eq_true]at hw';simp only [RV];rcases hw' with hw'|hw'
        ·obtain ⟨w,hww⟩:=qqS hlen (qtC hw');obtain ⟨_,hp,hlp⟩:=hcol _ w hww v (by unfold qzr;simp only;rw [hbx,hc'];exact hv);exact ⟨by rw [hp];simp,hlp⟩
        ·have hg:=hr.getD i;rw [List.getD_eq_getElem?_getD (l:=c'),hv]at hg;exact ⟨λr hrr=>qoq hw' r (RV.qq _ _ hg r hrr),qal (qx.2 ⟨hg,q6⟩)⟩
       ·cases hli
    ·rename_i hm;have key:=h.M.rel l sl;by_cases hlt:l<st.all.length
     ·have hnr:(⟨l,sl⟩:Root)∉st2.Wb:=λhh=>by
       have:=hwb _ hh;simp only [Bool.or_eq_true,decide_eq_true_eq]at this;rcases this with h3|h3
       ·exact hm ⟨by simpa using h3,hlt⟩
       ·have h4:=h2.len;have h5:=hf.len;have h6:=h.len;simp [TSt.all]at hlt;omega
      rcases hf.b _ hnr with hb|⟨_,hb0,hb1,hb2⟩
      ·rw [qK,qK]at hb;simp only at hb;rw [hb];exact key
      ·rw [qK,qK]at hb1;rw [qK]at hb2;simp only at hb1 hb2;have hb0:st.cont ⟨l,sl⟩=none:=hb0;rw [qaK]at hb0;simp only at hb0;cases hk:qad st.all l sl with
       |none =>
        rw [hk]at key;simp only [RB]at key ⊢;rw [key]at hb1;simpa using hb1
       |some o =>
        cases o with
        |none=>exact hb2
        |some c=>rw [hk]at hb0;cases hb0
     ·have h1:qad st.all l sl=none:=by
       unfold qad;rw [List.getElem?_eq_none (by omega)]
      have h3:qaj (qcO s') l sl=none:=by
       unfold qaj;have hl:=hf.len;have hl2:=h.len;rw [List.getElem?_eq_none];simp [TSt.all,qcO]at hlt ⊢;omega
      rw [h1,h3];rfl
 ·cases ho
theorem qhD{st st2:TSt}{s s':St}{j:Join}{x:denL (j.ps.map (·.1))}(h:Rst st s)(h2:Rst st2 s')(hf:Fr2 st.fresh st2 s s')(ho:st2.outs st j=some x):Rst (st.qbG j (ofL j.ps x)) s':=by
 refine qtV _ (qsO h h2 hf ho) (qyz h2 ?_);unfold TSt.outs at ho;split at ho
 ·rename_i hc;simp only [qe]at hc;have:=hc.1.1;unfold TSt.qjJ at this;simp only [qe]at this;exact this.2
 ·cases ho
theorem qeJ(D:List Tmp)(b:qI)(s:Nat):qU (qau D b) s=if D.contains s then none else qU b s:=by
 induction b with
 |nil=>simp [qau,qU]
 |cons p b ih =>
  obtain ⟨k,c⟩:=p;simp only [qau];by_cases h:D.contains k=true
  ·rw [if_pos h,ih];by_cases e:k=s
   ·subst e;rw [if_pos h,if_pos h]
   ·simp only [qU,if_neg e]
  ·rw [if_neg h];by_cases e:k=s
   ·subst e;simp only [qU,if_true];rw [if_neg h]
   ·simp only [qU,if_neg e,ih]
theorem qaz(D:List Tmp)(b:Level)(s:Nat):qy (qT D b) s=if D.contains s then none else qy b s:=by
 induction b with
 |nil=>simp [qT,qy]
 |cons p b ih =>
  obtain ⟨k,c⟩:=p;simp only [qT];by_cases h:D.contains k=true
  ·rw [if_pos h,ih];by_cases e:k=s
   ·subst e;rw [if_pos h,if_pos h]
   ·simp only [qy,if_neg e]
  ·rw [if_neg h];by_cases e:k=s
   ·subst e;simp only [qy,if_true];rw [if_neg h]
   ·simp only [qy,if_neg e,ih]
theorem qfA{b:Level}(hn:(b.map (·.1)).Nodup){k:Nat}{c:List V}(h:(k,c)∈b):qy b k=some c:=by
 induction b with
 |nil=>cases h
 |cons p b ih =>
  obtain ⟨k',c'⟩:=p;simp only [qh,List.nodup_cons]at hn;rcases qk.1 h with h|h
  ·cases h;simp [qy]
  ·have:k'≠k:=λe=>hn.1 (List.mem_map.2 ⟨_,h,e.symm⟩);simp only [qy,if_neg this];exact ih hn.2 h
theorem qc7{b:qI}{k:Nat}{c:Option (List TV)}(h:qU b k=some c):(k,c)∈b:=by
 induction b with
 |nil=>cases h
 |cons p b ih =>
  obtain ⟨k',c'⟩:=p;simp only [qU]at h;split at h
  ·rename_i e;cases h;subst e;simp
  ·exact qk.2 (.inr (ih h))
theorem qrn{b:Level}{r:Root}(h:r∈qkW b):∃k c,(k,c)∈b/\r∈ptrsL c:=by
 induction b with
 |nil=>simp [qkW]at h
 |cons p b ih =>
  obtain ⟨k,c⟩:=p;simp only [qkW,qj]at h;rcases h with h|h
  ·exact ⟨k,c,by simp,h⟩
  ·obtain ⟨k',c',h1,h2⟩:=ih h;exact ⟨k',c',by simp [h1],h2⟩
theorem qn3{b:qI}{k:Nat}{c:List TV}(h:(k,some c)∈b){r:Root}(hr:r∈ptrsTL c):r∈qjf b:=by
 induction b with
 |nil=>cases h
 |cons p b ih =>
  obtain ⟨k',c'⟩:=p;rcases qk.1 h with h|h'
  ·cases h;simp [qjf,hr]
  ·cases c' with
   |none=>simp only [qjf];exact ih h'
   |some d=>simp only [qjf,qj];exact .inr (ih h')
theorem qtw{b:qI}(hf:quG b=true){k:Nat}{c:Option (List TV)}(h:(k,c)∈b):∃d,c=some d:=by
 induction b with
 |nil=>cases h
 |cons p b ih =>
  obtain ⟨k',c'⟩:=p;simp only [quG,qe]at hf;rcases qk.1 h with h|h
  ·cases h;exact Option.isSome_iff_exists.1 hf.1
  ·exact ih hf.2 h
theorem qsc{D:List Tmp}{b:qI}(h:(qau D b).length=b.length):∀k c,(k,c)∈b->D.contains k=false:=by
 induction b with
 |nil=>simp
 |cons p b ih =>
  obtain ⟨k',c'⟩:=p;have hle:∀b:qI,(qau D b).length<=b.length:=λb=>by
   induction b with
   |nil=>simp [qau]
   |cons p b ih=>obtain ⟨k,c⟩:=p;simp only [qau];split<;>simp<;>omega
  simp only [qau]at h;intro k c hk;split at h
  ·have:=hle b;simp at h;omega
  ·rename_i hn;rcases qk.1 hk with hk|hk
   ·cases hk;simpa using hn
   ·exact ih (by simpa using h) k c hk
theorem qfY{D:List Tmp}{b:Level}(h:∀k c,(k,c)∈b->D.contains k=false):qT D b=b:=by
 induction b with
 |nil=>rfl
 |cons p b ih =>
  obtain ⟨k,c⟩:=p;simp only [qT];rw [if_neg (by rw [h k c (by simp)];simp),ih λk c hk=>h k c (by simp [hk])]
theorem qhh(D:List Tmp)(E:List V)(i:Nat):(qdm D E)[i]?=if i∈D then (E[i]?).map (λ_=>.undef)else E[i]?:=qiQ _ D E i
theorem qlw(D:List Tmp)(E:Env)(i:Nat):(qeD D E).toL[i]?=if i∈D then (E.toL[i]?).map (λ_=>.any [])else E.toL[i]?:=by
 unfold qeD;rw [qid];by_cases h:i∈D
 ·rw [if_pos h,if_pos (Mask.mem_ofList.2 h)]
 ·rw [if_neg h,if_neg (λhh=>h (Mask.mem_ofList.1 hh))]
theorem quw(D:List Tmp){E:Env}{E':List V}(h:RVL E.toL E'):RVL (qeD D E).toL (qdm D E'):=by
 refine qet ?_ λi x v hx hv=>?_
 ·unfold qeD qdm;rw [qlH,qd3,h.length]
 ·rw [qlw]at hx;rw [qhh]at hv;by_cases hm:i∈D
  ·rw [if_pos hm]at hx hv;obtain ⟨_,_,rfl⟩:=qc.1 hx;obtain ⟨_,_,rfl⟩:=qc.1 hv;exact qaR []
  ·rw [if_neg hm]at hx hv;obtain ⟨u,hu,hr⟩:=h.get hx;rw [hv]at hu;cases hu;exact hr
theorem qtT:∀{l:List V} {r:Root},r∈ptrsL l->∃(i:Nat) (v:V),l[i]?=some v/\r∈v.qq
 |[],r,h=>by simp [ptrsL]at h
 |v::l,r,h=>by
  simp only [ptrsL,qj]at h;rcases h with h|h
  ·exact ⟨0,v,rfl,h⟩
  ·obtain ⟨i,u,hu,hr⟩:=qtT h;exact ⟨i+1,u,by simpa using hu,hr⟩
theorem qtz{D:List Tmp}{n:Nat}{b:qI}{k:Nat}{c:Option (List TV)}(h:(k,c)∈b)(hk:D.contains k=true):(⟨n,k⟩:Root)∈qno D n b:=by
 induction b with
 |nil=>cases h
 |cons p b ih =>
  obtain ⟨k',c'⟩:=p;simp only [qno];rcases qk.1 h with h|h
  ·cases h;rw [if_pos hk];simp
  ·split
   ·exact qk.2 (.inr (ih h))
   ·exact ih h
theorem qjC(D:List Tmp)(b:Level):(qT D b).Sublist b:=by
 induction b with
 |nil=>exact .slnil
 |cons p b ih =>
  obtain ⟨k,c⟩:=p;simp only [qT];split
  ·exact ih.cons _
  ·exact ih.cons_cons _
theorem qhi{D:List Tmp}{st st1:TSt}{s:St}(h:Rst st s)(hc:st.clear D=some st1):∃s1,s.clear D=some s1/\Rst st1 s1/\Fr2 st st1 s s1:=by
 have hlen:=h.len;have hEl:s.E.length=st.E.n:=by rw [h.E.length,qgq]
 have hin:∀t,t∈inE st D↔t∈D/\t<st.E.n:=λt=>by simp [inE]
 have hEq:qdm (inE st D) s.E=qdm D s.E:=by
  apply List.ext_getElem?;intro i;rw [qhh,qhh];by_cases h1:i∈D
  ·rw [if_pos h1];by_cases h2:i<st.E.n
   ·rw [if_pos ((hin i).2 ⟨h1,h2⟩)]
   ·rw [if_neg (λh3=>h2 ((hin i).1 h3).2),List.getElem?_eq_none (by omega)];rfl
  ·rw [if_neg h1,if_neg (λh3=>h1 ((hin i).1 h3).1)]
 have hE:=quw (inE st D) h.E;rw [hEq]at hE;have hlastM:st.all[st.L.length]?=some st.B:=by simp [TSt.all]
 have hlastV:(qcO s)[st.L.length]?=some s.B:=by rw [<- hlen];simp [qcO]
 have hB:∀k,RB (qU st.B k) (qy s.B k):=λk=>by
  have:=h.M.rel st.L.length k;unfold qad qaj at this;rw [hlastM,hlastV]at this;exact this
 have hnd:(s.B.map (·.1)).Nodup:=h.M.nd s.B (by simp [qcO]);unfold TSt.clear at hc;simp only at hc;split at hc
 ·rename_i hcond;cases hc;have hv:s.clear D=some {s with E:=qdm D s.E,B:=qT D s.B}:=by
   unfold St.clear;simp only
   rw [if_pos];simp only [Bool.or_eq_true,decide_eq_true_eq,qe]at hcond;rcases hcond with hl|⟨⟨h1,h2⟩,h3⟩
   ·left
    rw [qfY];intro k c hk;have hlk:=qfA hnd hk;have hb:=hB k;cases ht:qU st.B k with
    |none=>rw [ht]at hb;simp only [RB]at hb;rw [hb]at hlk;cases hlk
    |some o=>exact qsc hl k o (qc7 ht)
   ·right
    unfold qcY at h2 ⊢;rw [List.all_eq_true]at h2;simp only [qe,List.all_eq_true];refine ⟨λr hr=>?_,λr hr=>?_⟩
    ·rw [hlen];obtain ⟨i,v,hv,hrv⟩:=qtT hr;obtain ⟨x,hx⟩:∃x,(qeD (inE st D) st.E).toL[i]?=some x:=by
      have hlt:=(qm.1 hv).1;have:=hE.length;exact ⟨_,List.getElem?_eq_getElem (by omega)⟩
     obtain ⟨v2,hv2,hrx⟩:=hE.get hx;rw [hv]at hv2;cases hv2;have h3:=qvQ h1 (λi=>by simp [TV.qq,qcY]) hx;unfold qcY at h3;rw [List.all_eq_true]at h3;exact h3 r (RV.qq _ _ hrx r hrv)
    ·rw [hlen];obtain ⟨k,c,hk,hrc⟩:=qrn hr;have hlk:=qfA (by exact List.Sublist.nodup ((qjC D s.B).map _) hnd) hk;rw [qaz]at hlk;split at hlk
     ·cases hlk
     ·rename_i hkD;have hb:=hB k;cases ht:qU st.B k with
      |none=>rw [ht]at hb;simp only [RB]at hb;rw [hb]at hlk;cases hlk
      |some o =>
       have ht2:qU (qau D st.B) k=some o:=by rw [qeJ,if_neg hkD];exact ht
       obtain ⟨d,rfl⟩:=qtw h3 (qc7 ht2);rw [ht]at hb;obtain ⟨d',hd',hr'⟩:=hb;rw [hd']at hlk;cases hlk;exact h2 r (qn3 (qc7 ht2) (hr'.qq r hrc))
  refine ⟨_,hv,⟨hE,?_⟩,?_⟩
  ·refine ⟨by have:=h.M.len;simpa [TSt.all,qcO]using this,λl k=>?_,λb hb=>?_,λl k c hc hlt=>?_⟩
   rotate_right
   ·have key:=h.M.mp l k;unfold qaj at key hc;by_cases e:l=st.L.length
    ·subst e;have e2:(qcO {s with E:=qdm D s.E,B:=qT D s.B})[st.L.length]?=some (qT D s.B):=by rw [<- hlen];simp [qcO]
     rw [e2]at hc;rw [hlastV]at key;simp only at hc key;rw [qaz]at hc;split at hc
     ·cases hc
     ·exact key c hc hlt
    ·have e2:(qcO {s with E:=qdm D s.E,B:=qT D s.B})[l]?=(qcO s)[l]?:=by
      simp only [qcO];by_cases hlt:l<s.L.length
      ·rw [qg hlt,qg hlt]
      ·rw [List.getElem?_eq_none (by simp;omega),List.getElem?_eq_none (by simp;omega)]
     rw [e2]at hc;exact key c hc hlt
   ·have key:=h.M.rel l k;unfold qad qaj at key ⊢;by_cases e:l=st.L.length
    ·subst e;have e1:({st with E:=qeD (inE st D) st.E,B:=qau D st.B,Wt:=Mask.ofList (inE st D)++st.Wt,Wb:=qno D st.L.length st.B++st.Wb}:TSt).all[st.L.length]?=some (qau D st.B):=by simp [TSt.all]
     have e2:(qcO {s with E:=qdm D s.E,B:=qT D s.B})[st.L.length]?=some (qT D s.B):=by rw [<- hlen];simp [qcO]
     rw [e1,e2];simp only
     rw [qeJ,qaz];split
     ·rfl
     ·exact hB k
    ·have e1:({st with E:=qeD (inE st D) st.E,B:=qau D st.B,Wt:=Mask.ofList (inE st D)++st.Wt,Wb:=qno D st.L.length st.B++st.Wb}:TSt).all[l]?=st.all[l]?:=by
      simp only [TSt.all];by_cases hlt:l<st.L.length
      ·rw [qg hlt,qg hlt]
      ·rw [List.getElem?_eq_none (by simp;omega),List.getElem?_eq_none (by simp;omega)]
     have e2:(qcO {s with E:=qdm D s.E,B:=qT D s.B})[l]?=(qcO s)[l]?:=by
      simp only [qcO];by_cases hlt:l<s.L.length
      ·rw [qg hlt,qg hlt]
      ·rw [List.getElem?_eq_none (by simp;omega),List.getElem?_eq_none (by simp;omega)]
     rw [e1,e2];exact key
   ·simp only [qcO,qj,List.mem_singleton]at hb;rcases hb with hb|rfl
    ·exact h.M.nd b (by simp [qcO,hb])
    ·exact List.Sublist.nodup ((qjC D s.B).map _) hnd
  ·refine ⟨λt ht=>by simp [ht],λr hr=>by simp [hr],λt ht=>.inl ?_,λt ht rs hE=>⟨rs,?_⟩,λr hr=>.inl ?_,λr hr hsm=>?_,rfl,?_⟩
   ·simp only [Mask.mem_append,Mask.mem_ofList,not_or]at ht;simp only
    rw [qhh];by_cases hD:t∈D
    ·have hge:¬ t<st.E.n:=λhlt=>ht.1 ((hin t).2 ⟨hD,hlt⟩);rw [if_pos hD,List.getElem?_eq_none (by omega)];rfl
    ·rw [if_neg hD]
   ·simp only [Mask.mem_append,Mask.mem_ofList,not_or]at ht;rw [qlw,if_neg ht.1]at hE;exact hE
   ·simp only [qj,not_or]at hr;obtain ⟨l,k⟩:=r;rw [qK,qK];simp only
    unfold qaj;by_cases e:l=st.L.length
    ·subst e;have e2:(qcO {s with E:=qdm D s.E,B:=qT D s.B})[st.L.length]?=some (qT D s.B):=by rw [<- hlen];simp [qcO]
     rw [e2,hlastV];simp only
     rw [qaz];split
     ·rename_i hk;have hb:=hB k;cases ht:qU st.B k with
      |none=>rw [ht]at hb;simp only [RB]at hb;exact hb.symm
      |some o=>exact absurd (qtz (qc7 ht) hk) hr.1
     ·rfl
    ·have e2:(qcO {s with E:=qdm D s.E,B:=qT D s.B})[l]?=(qcO s)[l]?:=by
      simp only [qcO];by_cases hlt:l<s.L.length
      ·rw [qg hlt,qg hlt]
      ·rw [List.getElem?_eq_none (by simp;omega),List.getElem?_eq_none (by simp;omega)]
     rw [e2]
   ·simp only [qj,not_or]at hr;obtain ⟨l,k⟩:=r;obtain ⟨c,hc⟩:=Option.isSome_iff_exists.1 hsm;have hlk:=qdR hc;simp only at hlk;have:qad ({st with E:=qeD (inE st D) st.E,B:=qau D st.B,Wt:=Mask.ofList (inE st D)++st.Wt,Wb:=qno D st.L.length st.B++st.Wb}:TSt).all l k=some (some c):=by
     unfold qad at hlk ⊢;by_cases e:l=st.L.length
     ·subst e;rw [hlastM]at hlk;simp only at hlk;have e1:({st with E:=qeD (inE st D) st.E,B:=qau D st.B,Wt:=Mask.ofList (inE st D)++st.Wt,Wb:=qno D st.L.length st.B++st.Wb}:TSt).all[st.L.length]?=some (qau D st.B):=by simp [TSt.all]
      rw [e1];simp only
      rw [qeJ];split
      ·rename_i hk;exact absurd (qtz (qc7 hlk) hk) hr.1
      ·exact hlk
     ·have e1:({st with E:=qeD (inE st D) st.E,B:=qau D st.B,Wt:=Mask.ofList (inE st D)++st.Wt,Wb:=qno D st.L.length st.B++st.Wb}:TSt).all[l]?=st.all[l]?:=by
       simp only [TSt.all];by_cases hlt:l<st.L.length
       ·rw [qg hlt,qg hlt]
       ·rw [List.getElem?_eq_none (by simp;omega),List.getElem?_eq_none (by simp;omega)]
      rw [e1];exact hlk
    rw [qaK];simp only
    rw [this];rfl
   ·exact qd3 _ D s.E
 ·cases hc
end
section
variable {P:Program} {H:Hints} {J:TH} {T:qp6} {O:TOrc} {lib:FuncId->Option (List V->Option V)} {f:FuncId} {ctx:List Tmp}
def Ev(p:Orc->Prop)(P:Program)(H:Hints)(lib:FuncId->Option (List V->Option V)):Prop:=∃n,∀m,n<=m->p (qkV P H lib m)
theorem Ev.and{p q:Orc->Prop}(h:Ev p P H lib)(h':Ev q P H lib):Ev (λC=>p C/\q C) P H lib:=by
 obtain ⟨n,h⟩:=h;obtain ⟨n',h'⟩:=h';exact ⟨max n n',λm hm=>⟨h m (by omega),h' m (by omega)⟩⟩
theorem Ev.imp{p q:Orc->Prop}(h:Ev p P H lib)(hi:∀C,p C->q C):Ev q P H lib:=by
 obtain ⟨n,h⟩:=h;exact ⟨n,λm hm=>hi _ (h m hm)⟩
theorem Ev.qhw:Ev (λC=>C.qhw=H.qhw) P H lib:=⟨1,λm hm=>by
 cases m with
 |zero=>omega
 |succ m=>rfl⟩
theorem Ev.of{p:Orc->Prop}(h:∀C,p C):Ev p P H lib:=⟨0,λm _=>h _⟩
def qx3(P:Program)(H:Hints)(lib:FuncId->Option (List V->Option V))(f:FuncId)(bid:Nat)(c:Code)(s:St)(e:Ex)(s':St):Prop:=Ev (λC=>ex P H C f bid c s=some (e,s')) P H lib
def qp5(P:Program)(H:Hints)(lib:FuncId->Option (List V->Option V))(g:FuncId)(args:List V)(M:List Level)(r:V)(M':List Level):Prop:=Ev (λC=>C.call g args M=some (r,M')) P H lib
def Snd(run:TSt->(R:Type)->(Ex->TSt->Option R)->Option R)(rel:St->Ex->St->Prop):Prop :=
 ∀(st:TSt) (R:Type) (k:Ex->TSt->Option R) (r:R) (s:St),run st R k=some r->Rst st s->∃e st' s',rel s e s'/\Rst st' s'/\Fr2 st st' s s'/\k e st'=some r
theorem qpM(st:TSt)(p:Place)(v:TV):(st.qbL p v).Wt=st.Wt/\(st.qbL p v).Wb=st.Wb:=by
 unfold TSt.qbL;cases p.lvl with
 |none=>exact ⟨rfl,rfl⟩
 |some l =>
  simp only
  cases st.box ⟨l,p.slot⟩with
  |none=>exact ⟨rfl,rfl⟩
  |some cs=>exact ⟨by simp only [TSt.qo];split<;>rfl,rfl⟩
theorem qia:∀(ps:List Place) (vs:List TV) (st:TSt),(qcF st ps vs).Wt=st.Wt/\(qcF st ps vs).Wb=st.Wb
 |[],vs,st=>by cases vs<;>exact ⟨rfl,rfl⟩
 |p::ps,[],st=>⟨rfl,rfl⟩
 |p::ps,v::vs,st=>by
  have h1:=qia ps vs (st.qbL p v);have h2:=qpM st p v;exact ⟨h1.1.trans h2.1,h1.2.trans h2.2⟩
theorem qhe(st:TSt)(r:Root)(c:List TV)(q:Root)(h:(st.cont q).isSome=true):((st.qo r c).cont q).isSome=true:=by
 obtain ⟨l,s⟩:=r;obtain ⟨l',s'⟩:=q;have key:∀b:qI,(match qU b s' with|some (some c)=>some c|_=>none:Option (List TV)).isSome=true->(match qU (qsW b s (some c)) s' with|some (some c)=>some c|_=>none:Option (List TV)).isSome=true:=λb hb=>by
  rw [qfD];by_cases e:s'=s
  ·rw [if_pos e];subst e;cases hl:qU b s' with
   |none=>rw [hl]at hb;cases hb
   |some o=>rfl
  ·rw [if_neg e];exact hb
 unfold TSt.qo TSt.cont at *;simp only at h ⊢;by_cases h1:l=st.L.length
 ·rw [if_pos h1];simp only
  by_cases h2:l'=st.L.length
  ·rw [if_pos h2]at h ⊢;exact key _ h
  ·rw [if_neg h2]at h ⊢;exact h
 ·rw [if_neg h1];simp only [List.length_modify];by_cases h2:l'=st.L.length
  ·rw [if_pos h2]at h ⊢;exact h
  ·rw [if_neg h2]at h ⊢;rw [List.getElem?_modify];cases hb:st.L[l']? with
   |none=>rw [hb]at h;cases h
   |some b =>
    rw [hb]at h;simp only [Option.map_eq_map,qi];by_cases e:l=l'
    ·rw [if_pos e];exact key _ h
    ·rw [if_neg e];exact h
theorem qm0:∀(ps:List Place) (vs:List TV) (st:TSt) (t:Nat),(qcF st ps vs).E.toL[t]?=st.E.toL[t]?\/∃v∈vs,(qcF st ps vs).E.toL[t]?=some v
 |[],vs,st,t=>by cases vs<;>exact .inl rfl
 |p::ps,[],st,t=>.inl rfl
 |p::ps,v::vs,st,t=>by
  rcases qm0 ps vs (st.qbL p v) t with h|⟨u,hu,h⟩
  ·show (qcF (st.qbL p v) ps vs).E.toL[t]?=_\/∃u∈v::vs,(qcF (st.qbL p v) ps vs).E.toL[t]?=some u;rw [h];unfold TSt.qbL;cases p.lvl with
   |none =>
    simp only [qdD,List.getElem?_set];split
    ·split
     ·exact .inr ⟨v,by simp,rfl⟩
     ·rename_i h1 h2;left;rw [List.getElem?_eq_none (by omega)]
    ·exact .inl rfl
   |some l =>
    simp only
    cases st.box ⟨l,p.slot⟩with
    |none=>exact .inl rfl
    |some cs=>left;simp only [TSt.qo];split<;>rfl
  ·exact .inr ⟨u,by simp [hu],h⟩
theorem qrG(st:TSt)(p:Place)(v:TV)(r:Root)(h:(st.cont r).isSome=true):((st.qbL p v).cont r).isSome=true:=by
 unfold TSt.qbL;cases p.lvl with
 |none=>exact h
 |some l =>
  simp only
  cases hb:st.box ⟨l,p.slot⟩with
  |none=>exact h
  |some cs =>
   simp only
   have hbx:({st.qo ⟨l,p.slot⟩ (cs.set p.cell v)with Wb:=st.Wb}:TSt).cont r=(st.qo ⟨l,p.slot⟩ (cs.set p.cell v)).cont r:=rfl;rw [hbx];exact qhe st ⟨l,p.slot⟩ _ r h
theorem qjo:∀(ps:List Place) (vs:List TV) (st:TSt) (r:Root),(st.cont r).isSome=true->((qcF st ps vs).cont r).isSome=true
 |[],vs,st,r,h=>by cases vs<;>exact h
 |p::ps,[],st,r,h=>h
 |p::ps,v::vs,st,r,h=>qjo ps vs _ r (qrG st p v r h)
theorem qtM(τ:Ty)(o:Nat)(x:τ.den):∀rs,ofTy τ o x≠.any rs:=λrs=>by cases τ<;>simp [ofTy]
theorem qwW:∀(ps:List (Ty×Nat)) (x:denL (ps.map (·.1))),∀v∈ofL ps x,∀rs,v≠.any rs
 |[],x,v,hv=>by simp [ofL]at hv
 |[(τ,o)],x,v,hv=>by simp only [ofL,List.mem_singleton]at hv;subst hv;exact qtM τ o x
 |(τ,o)::q::ps,x,v,hv=>by
  simp only [ofL,qk]at hv;rcases hv with rfl|hv
  ·exact qtM τ o x.1
  ·exact qwW (q::ps) x.2 v hv
theorem qsN{st st2:TSt}{s s':St}{j:Join}{x:denL (j.ps.map (·.1))}(h2:Rst st2 s')(hf:Fr2 st.fresh st2 s s')(ho:st2.outs st j=some x):Fr2 st (st.qdI j (ofL j.ps x)) s s':=by
 generalize hvs:ofL j.ps x=vs;have hany:∀v∈vs,∀rs,v≠.any rs:=by rw [<- hvs];exact qwW j.ps x
 unfold TSt.outs at ho;split at ho
 ·rename_i hc;simp only [qe]at hc;obtain ⟨⟨_,hwr⟩,_⟩:=hc;unfold TSt.wrote at hwr;simp only [qe,List.all_eq_true]at hwr;obtain ⟨hwt0,hwb⟩:=hwr;have hwt:∀t∈st2.Wt,t∈j.D:=λt ht=>Mask.qxH hwt0 ht;have hl:=qia j.lv vs {j.wr.foldl (λ(st:TSt) r=>st.forget j.rb r) {st with E:=qdt j.D j.qxs st.E}with Wt:=j.D++st.Wt,Wb:=j.wr++st.Wb};have e1:(st.qdI j vs).Wt=j.D++st.Wt:=hl.1;have e2:(st.qdI j vs).Wb=j.wr++st.Wb:=hl.2;refine ⟨λt ht=>by rw [e1];simp [ht],λr hr=>by rw [e2];simp [hr],λt ht=>?_,λt ht rs hE=>?_,λr hr=>?_,λr hr hsm=>?_,hf.len,hf.elen⟩
  ·rw [e1]at ht;exact hf.e t λhh=>ht (by simp [hwt t hh])
  ·rw [e1]at ht;simp only [Mask.mem_append,not_or]at ht;unfold TSt.qdI at hE;rcases qm0 j.lv vs _ t with h3|⟨v,hv,h3⟩
   ·rw [h3]at hE;have h4:(j.wr.foldl (λ(st:TSt) r=>st.forget j.rb r) {st with E:=qdt j.D j.qxs st.E}).E.toL[t]?=some (.any rs):=hE;rw [qlI]at h4;simp only at h4;rw [qid,if_neg ht.1]at h4;exact ⟨rs,h4⟩
   ·rw [h3]at hE;exact absurd (Option.some.inj hE) (hany v hv rs)
  ·rw [e2]at hr;by_cases hm:r∈st2.Wb
   ·have:=hwb r hm;simp only [Bool.or_eq_true,decide_eq_true_eq]at this;rcases this with h3|h3
    ·exact absurd (by simp at h3;simp [h3]) hr
    ·rw [qK,qK];unfold qaj;have h4:=h2.len;have h5:=hf.len;rw [List.getElem?_eq_none (by simp [qcO];omega),List.getElem?_eq_none (by simp [qcO];omega)];exact .inl rfl
   ·exact hf.b r hm
  ·rw [e2]at hr;simp only [qj,not_or]at hr;unfold TSt.qdI;refine qjo j.lv vs _ r ?_;obtain ⟨c,hc⟩:=Option.isSome_iff_exists.1 hsm;have hlk:=qdR hc;have h3:qad (j.wr.foldl (λ(st:TSt) r=>st.forget j.rb r) {st with E:=qdt j.D j.qxs st.E}).all r.lvl r.slot=some (some c):=by
    rw [qf9,if_neg (λhh=>hr.1 hh.1)];exact hlk
   have h4:({j.wr.foldl (λ(st:TSt) r=>st.forget j.rb r) {st with E:=qdt j.D j.qxs st.E}with Wt:=j.D++st.Wt,Wb:=j.wr++st.Wb}:TSt).cont r=some c:=by
    rw [qaK];show (match qad (j.wr.foldl (λ(st:TSt) r=>st.forget j.rb r) {st with E:=qdt j.D j.qxs st.E}).all r.lvl r.slot with
     |some (some c)=>some c
     |_=>none)=some c
    rw [h3]
   rw [h4];rfl
 ·cases ho
theorem qhC{st st2:TSt}{s s':St}{j:Join}{x:denL (j.ps.map (·.1))}(h2:Rst st2 s')(hf:Fr2 st.fresh st2 s s')(ho:st2.outs st j=some x):Fr2 st (st.qbG j (ofL j.ps x)) s s':=by
 have h:=qsN h2 hf ho;have hl:=qn8 j.kp (st.qdI j (ofL j.ps x));have hc:∀r,(st.qbG j (ofL j.ps x)).cont r=(st.qdI j (ofL j.ps x)).cont r:=λr=>by
  unfold TSt.cont TSt.qbG;rw [hl.2.2.1,hl.2.2.2]
 refine ⟨λt ht=>?_,λr hr=>?_,λt ht=>?_,λt ht rs hE=>?_,λr hr=>?_,λr hr hs=>?_,h.len,h.elen⟩
 ·unfold TSt.qbG;rw [hl.1];exact h.wt t ht
 ·unfold TSt.qbG;rw [hl.2.1];exact h.wb r hr
 ·unfold TSt.qbG at ht;rw [hl.1]at ht;exact h.e t ht
 ·unfold TSt.qbG at ht hE;rw [hl.1]at ht;exact h.an t ht rs (qxa _ _ _ _ hE)
 ·unfold TSt.qbG at hr;rw [hl.2.1]at hr;exact h.b r hr
 ·rw [hc];unfold TSt.qbG at hr;rw [hl.2.1]at hr;exact h.bn r hr hs
theorem qtK{st st2:TSt}{s s':St}(hf:Fr2 st.fresh st2 s s'):Fr2 st (st2.merge st) s s' :=
 ⟨λt ht=>by simp [TSt.merge,ht],λr hr=>by simp [TSt.merge,hr],λt ht=>hf.e t λhh=>ht (by simp [TSt.merge,hh]),λt ht rs hE=>hf.an t (λhh=>ht (by simp [TSt.merge,hh])) rs hE,λr hr=>hf.b r λhh=>hr (by simp [TSt.merge,hh]),λr hr hsm=>hf.bn r (λhh=>hr (by simp [TSt.merge,hh])) hsm,hf.len,hf.elen⟩
theorem Rst.fresh{st:TSt}{s:St}(h:Rst st s):Rst st.fresh s:=⟨h.E,h.M⟩
theorem Rst.merge{st st0:TSt}{s:St}(h:Rst st s):Rst (st.merge st0) s:=⟨h.E,h.M⟩
theorem qla{run:TSt->(R:Type)->(Ex->TSt->Option R)->Option R}{rel:St->Ex->St->Prop}(h:Snd run rel)(j:Option Join):Snd (λst R k=>quQ j st run R k) rel:=by
 intro st R k r s hr hs;simp only [quQ]at hr;cases j with
 |none=>exact h st R k r s hr hs
 |some j =>
  simp only at hr;split at hr
  ·obtain ⟨x,hx,hk⟩:=qd.1 hr;obtain ⟨e,st2,s',hrel,hR,hF,hkk⟩:=h _ _ _ _ s hx hs.fresh;have habn:∀e,(k e (st2.merge st)).map Sum.inr=some x->rel s e s'->∃e st' s',rel s e s'/\Rst st' s'/\Fr2 st st' s s'/\k e st'=some r:=λe hkk hrel=>by
    obtain ⟨y,hy,rfl⟩:=qc.1 hkk;simp only [Sum.elim_inr,qb]at hk;subst hk;exact ⟨e,_,s',hrel,hR.merge,qtK hF,hy⟩
   cases e with
   |normal =>
    obtain ⟨y,hy,rfl⟩:=qc.1 hkk;simp only [Sum.elim_inl]at hk;exact ⟨.normal,_,s',hrel,qhD hs hR hF hy,qhC hR hF hy,hk⟩
   |exit id=>exact habn _ hkk hrel
   |ret=>exact habn _ hkk hrel
  ·obtain ⟨x,hx,hk⟩:=qd.1 hr;obtain ⟨e,st2,s',hrel,hR,hF,hkk⟩:=h _ _ _ _ s hx hs.fresh;cases e with
   |normal=>exact ⟨.normal,_,s',hrel,qhD hs hR hF hkk,qhC hR hF hkk,hk⟩
   |exit id=>cases hkk
   |ret=>cases hkk
def TOk(P:Program)(H:Hints)(lib:FuncId->Option (List V->Option V))(T:qp6):Prop :=
 ∀g args (R:Type) (k:TV->Option R) r vs,T g args R k=some r->RVL args vs->∃x v,k x=some r/\RV x v/\qp5 P H lib g vs [] v []
structure OOk (P:Program) (H:Hints) (lib:FuncId->Option (List V->Option V)) (O:TOrc):Prop where
 call:∀ctx g args M (R:Type) (k:TV->List qI->List Root->Option R) r vs M',O.call ctx g args M R k=some r->RVL args vs->LR M M' ->
  ∃x N wb v N',k x N wb=some r/\RV x v/\LR N N'/\N.length=M.length/\(∀l sl,(⟨l,sl⟩:Root)∉wb->qaj N' l sl=qaj M' l sl/\∀c,qad M l sl=some (some c)->∃c',qad N l sl=some (some c'))/\qp5 P H lib g vs M' v N'
 code:∀ctx f bid c,Snd (λst R k=>O.code ctx f bid c st R k) λs e s'=>Ev (λC=>C.code f bid c s=some (e,s')) P H lib
 born:∀ctx g args (R:Type) (k:TV->TV->Option R) r vs,O.born ctx g args R k=some r->RVL args vs ->
  ∃x τ o l v sl,k x (.t (.mset τ) o l)=some r/\qgN τ=true/\RV x v/\x.onlyMaps=true/\Ev (λC=>C.born g vs=some (v,sl,kvs τ l)) P H lib
 own:∀ctx g args (R:Type) (k:TV->Option R) r vs,O.own ctx g args R k=some r->RVL args vs ->
  ∃x v,k x=some r/\RV x v/\Ev (λC=>C.own g vs=some v) P H lib
theorem qjI(f:Fl):qgv f≠.own:=by cases f<;>simp [qgv]
theorem qqH(f:Fl):qhl f=.own↔f=.own:=by cases f<;>simp [qhl]
theorem qqI(f:Fl):qhm f=.own↔f=.own:=by cases f<;>simp [qhm]
theorem qf4:∀{M:List qI} {L:List qI} {B:qI},qep M=some (L,B)->M=L++[B]
 |[],_,_,h=>by cases h
 |[b],_,_,h=>by simp only [qep,qb,Prod.mk.injEq]at h;simp [<- h.1,<- h.2]
 |b::c::l,L,B,h=>by
  simp only [qep]at h;obtain ⟨⟨x,y⟩,hxy,h2⟩:=qc.1 h;simp only [Prod.mk.injEq]at h2;obtain ⟨rfl,rfl⟩:=h2;simp [qf4 hxy]
theorem qf5:∀(L:List Level) (B:Level),qc5 (L++[B])=some (L,B)
 |[],B=>rfl
 |[a],B=>rfl
 |a::b::L,B=>by
  have:=qf5 (b::L) B;simp only [List.cons_append]at this ⊢;simp only [qc5,this,qi]
theorem qkg{α:Type}:∀{M:List α} {n:Nat},M.length=n+1->∃L B,M=L++[B]
 |[],n,h=>by simp at h
 |[b],n,h=>⟨[],b,rfl⟩
 |b::c::l,n,h=>by
  obtain ⟨L,B,e⟩:=qkg (M:=c::l) (n:=l.length) (by simp);exact ⟨b::L,B,by rw [e];rfl⟩
theorem LR.init{M:List qI}{M':List Level}(h:LR M M'):LR (M++[[]]) (M'++[[]]) where
 len:=by simp [h.len]
 rel:=λl s=>by
  have key:=h.rel l s;unfold qad qaj at key ⊢;have hl:=h.len;by_cases e:l<M.length
  ·rw [qg e,qg (by omega)];exact key
  ·rw [List.getElem?_append_right (by omega),List.getElem?_append_right (by omega),hl];cases l-M.length with
   |zero=>simp [qU,qy,RB]
   |succ n=>simp [RB]
 nd:=λb hb=>by
  simp only [qj,List.mem_singleton]at hb;rcases hb with hb|rfl
  ·exact h.nd b hb
  ·simp
 mp:=λl s c hc hlt=>by
  have key:=h.mp l s c;unfold qaj at key hc;by_cases e:l<M'.length
  ·rw [qg e]at hc;exact key hc hlt
  ·rw [List.getElem?_append_right (by omega)]at hc;cases hm:l-M'.length with
   |zero=>rw [hm]at hc;simp [qy]at hc
   |succ n=>rw [hm]at hc;simp at hc
theorem LR.front{M:List qI}{M':List Level}{b:qI}{b':Level}(h:LR (M++[b]) (M'++[b'])):LR M M' where
 len:=by have:=h.len;simp at this;exact this
 rel:=λl s=>by
  have hl:M'.length=M.length:=by have:=h.len;simp at this;exact this
  have key:=h.rel l s;unfold qad qaj at key ⊢;by_cases e:l<M.length
  ·rw [qg e,qg (by omega)]at key;exact key
  ·rw [List.getElem?_eq_none (by omega),List.getElem?_eq_none (by omega)];rfl
 nd:=λc hc=>h.nd c (by simp [hc])
 mp:=λl s c hc hlt=>by
  have key:=h.mp l s c;unfold qaj at key hc;by_cases e:l<M'.length
  ·rw [qg e]at key;exact key hc hlt
  ·rw [List.getElem?_eq_none (by omega)]at hc;cases hc
theorem qvk(st:TSt)(r:Root)(v:TV):(st.qon r v).all=st.all.modify r.lvl (λb=>qsW b r.slot (some [v])):=qiz st r [v]
theorem qrH{st:TSt}{s:St}(hs:Rst st s){r:Root}{c0:List TV}(hb:st.cont r=some c0){x:LoopState}{pe:Option Code}{g:FuncId}{env:List TV}{env':List V}{ps:List Tmp}{a b:Code}(he:RVL env env') :
  Rst (st.qon r (.lp x pe g env ps a b)) (s.qo r [.lp x pe g env' ps a b]):=by
 have e1:(st.qon r (.lp x pe g env ps a b)).E=st.E:=(show (st.qo r [_]).E=st.E by unfold TSt.qo;split<;>rfl)
 have e2:(s.qo r [.lp x pe g env' ps a b]).E=s.E:=by unfold St.qo;split<;>rfl
 refine ⟨by rw [e1,e2];exact hs.E,?_⟩;rw [qvk,qom];exact LR.qo hs.M _ _ (by rw [qdR hb];simp) ⟨env',rfl,he⟩ (λ_=>rfl)
theorem qm1(st:TSt)(r:Root)(v:TV)(q:Root)(h:(st.cont q).isSome=true):((st.qon r v).cont q).isSome=true:=qhe st r [v] q h
theorem qpC{st:TSt}{s:St}(hs:Rst st s){r:Root}{x:LoopState}{pe:Option Code}{g:FuncId}{env:List TV}{ps:List Tmp}{a b:Code}(h:st.cont r=some [.lp x pe g env ps a b]) :
  ∃env',s.box r=some [.lp x pe g env' ps a b]/\RVL env env':=by
 have:=hs.M.rel r.lvl r.slot;rw [qdR h]at this;obtain ⟨c',h1,env',rfl,h2⟩:=this;exact ⟨env',by rw [qK];exact h1,h2⟩
theorem qoy:∀{E:Env} {E':List V} {ps:List Tmp} {asz:List TV} {vs:List V},RVL E.toL E'->RVL asz vs->RVL (qiD E ps asz).toL (qeb E' ps vs)
 |E,E',[],asz,vs,hE,ha=>by
  cases asz with
  |nil=>simp only [RVL]at ha;subst ha;exact hE
  |cons a asz=>simp only [RVL]at ha;obtain ⟨v,m,rfl,_⟩:=ha;exact hE
 |E,E',t::ps,[],vs,hE,ha=>by simp only [RVL]at ha;subst ha;exact hE
 |E,E',t::ps,a::asz,vs,hE,ha=>by
  simp only [RVL]at ha;obtain ⟨v,m,rfl,h1,h2⟩:=ha;simp only [qiD,qeb];exact qoy (by rw [qdD];exact RVL.set _ hE h1) h2
theorem qz5{E:List V}{L:List Level}{B:Level}{q:Root}(h:q.lvl<L.length):({E,L,B}:St).box q=qaj L q.lvl q.slot:=by
 rw [qK];unfold qaj qcO;simp only
 rw [qg h]
theorem qxr(hO:OOk P H lib O){d:Tmp}{r:Root}{args:List TV}{args':List V}{st:TSt}{s:St}{R:Type}{k:TV->TSt->Option R}{res:R}
  (ha:RVL args args') (hs:Rst st s) (h:qxq O ctx d r args st R k=some res) :
  ∃v st' u s',k v st'=some res/\Ev (λC=>qjx C r args' s=some (u,s')) P H lib/\RV v u/\Rst st' s'/\Fr2 st st' s s'/\st'.E=st.E/\s'.E=s.E:=by
 unfold qxq at h;split at h
 ·rename_i g env ps asz bo hc1;obtain ⟨env',hb1,hre⟩:=qpC hs hc1;split at h
  ·cases h
  ·rename_i hlen;have hlen':¬ args'.length≠ps.length:=by rw [ha.length];exact hlen
   have hE0:RVL (qiD (Env.qeN env env.length) ps (dullL args)).toL (qeb env' ps (args'.map V.hand)):=by
    refine qoy ?_ (ha.qpl qjI rfl);rw [qhL];simpa using hre
   have h0:Rst {E:=qiD (Env.qeN env env.length) ps (dullL args),L:=st.L++[st.B],B:=[],Wt:=.empty,Wb:=[]} {E:=qeb env' ps (args'.map V.hand),L:=s.L++[s.B],B:=[]}:=⟨hE0,hs.M.init⟩
   obtain ⟨e1,t2,s2,hev1,hR2,hF2,h⟩:=hO.code _ _ _ _ _ _ _ _ _ h h0;cases e1 with
   |exit id=>cases h
   |ret=>cases h
   |normal =>
    simp only at h;split at h
    ·rename_i g2 env2 ps2 as2 bo2 hc2;obtain ⟨env2',hb2,hre2⟩:=qpC hR2 hc2;have hset:=qrH hR2 hc2 (x:=.busy) (pe:=none) (g:=g2) (ps:=ps2) (a:=as2) (b:=bo2) hre2;obtain ⟨e3,t3,s3,hev2,hR3,hF3,h⟩:=hO.code _ _ _ _ _ _ _ _ _ h hset;split at h
     ·rename_i x9 pe9 g3 env3 ps3 as3 bo3 hc3;obtain ⟨env3',hb3,hre3⟩:=qpC hR3 hc3;have hset3:=qrH hR3 hc3 (x:=if e3.code.isNone then .ready else .done) (pe:=e3.code) (g:=g3) (ps:=ps3) (a:=as3) (b:=bo3) hre3;split at h
      ·rename_i L B hsp;have hL3:=qf4 hsp;split at h
       ·rename_i hL;have hlen0:=hs.len;have hlA:(s3.qo r [.lp (if e3.code.isNone then .ready else .done) e3.code g3 env3' ps3 as3 bo3]).L.length=L.length+1:=by
         have:=hset3.len;rw [hL3]at this;rw [this];simp
        obtain ⟨L',B',hL3'⟩:=qkg hlA;have hL':L'.length=s.L.length:=by rw [hL3']at hlA;simp at hlA;omega
        have hs3L:s3.L.length=s.L.length+1:=by
         have:=hF3.len;have:=hF2.len;have e9:(s2.qo r [.lp .busy none g2 env2' ps2 as2 bo2]).L.length=s2.L.length:=by unfold St.qo;split<;>simp
         simp only [List.length_append,List.length_singleton]at *;omega
        have ht2:∀q,q∉t3.Wb->q∉t2.Wb:=λq hq hh=>hq (hF3.wb q hh);have hbig:s2.L.length=s.L.length+1:=by have:=hF2.len;simpa using this
        have same2:∀q,q∉t3.Wb->s2.box q=({E:=qeb env' ps (args'.map V.hand),L:=s.L++[s.B],B:=[]}:St).box q:=λq hq=>by
         rcases hF2.b q (ht2 q hq)with h9|⟨h9,_⟩
         ·exact h9
         ·simp at h9
        have same3:∀q,q∉t3.Wb->s3.box q=(s2.qo r [.lp .busy none g2 env2' ps2 as2 bo2]).box q:=λq hq=>by
         rcases hF3.b q hq with h9|⟨h9,_⟩
         ·exact h9
         ·have e9:(s2.qo r [.lp .busy none g2 env2' ps2 as2 bo2]).L.length=s2.L.length:=by unfold St.qo;split<;>simp
          omega
        have low:∀q:Root,q.lvl<=s.L.length->({E:=qeb env' ps (args'.map V.hand),L:=s.L++[s.B],B:=[]}:St).box q=s.box q:=λq hq=>by
         rw [qz5 (by simp;omega),qK];rfl
        have hfin:∀q:Root,q.lvl<=s.L.length->({s with L:=L',B:=B'}:St).box q=(s3.qo r [.lp (if e3.code.isNone then .ready else .done) e3.code g3 env3' ps3 as3 bo3]).box q:=λq hq=>by
         rw [qK,qK];unfold qaj qcO;simp only
         rw [hL3',qg (l₁:=L'++[B']) (by simp;omega)]
        refine ⟨_,_,.val (.bool e3.code.isNone),{s with L:=L',B:=B'},h,((hev1.and hev2)).imp λC ⟨hC1,hC2⟩=>?_,by simp [RV,RTy],⟨hs.E,?_⟩,⟨λt ht=>ht,λq hq=>by simp [hq],λt ht=>.inl rfl,λt ht rs hE=>⟨rs,hE⟩,λq hq=>.inl ?_,λq hq hsm=>?_,hL',rfl⟩,rfl,rfl⟩
        ·unfold qjx;rw [hb1];simp only
         rw [if_neg hlen',hC1];simp only
         rw [hb2];simp only
         rw [hC2];simp only
         rw [hb3];simp only
         rw [hL3',qf5];simp only [hL',if_true]
        ·have h9:=LR.front hset3.M;rw [hL3,hL3']at h9;exact h9
        ·simp only [qj,not_or]at hq;obtain ⟨hq0,hq3,_⟩:=hq;by_cases hlv:q.lvl<=s.L.length
         ·rw [hfin q hlv,qV];by_cases e:q=r
          ·subst e;rw [if_pos rfl,hb3];have hx:e3.code.isNone=true:=by
            cases hx:e3.code.isNone with
            |true=>rfl
            |false=>rw [hx]at hq0;simp at hq0
           have k2:=same2 q hq3;rw [low q hlv,hb1,hb2]at k2;have k3:=same3 q hq3;rw [qV,if_pos rfl,hb2,hb3]at k3;simp only [qi,qb,List.cons.injEq,V.lp.injEq,and_true,true_and]at k2 k3;obtain ⟨a1,a2,a3,a4,a5⟩:=k2;obtain ⟨_,_,b1,b2,b3,b4,b5⟩:=k3;subst a1 a2 a3 a4 a5 b1 b2 b3 b4 b5;rw [hx,hb1];simp only [qi,if_true,Option.isNone_iff_eq_none.1 hx]
          ·rw [if_neg e,same3 q hq3,qV,if_neg e,same2 q hq3,low q hlv]
         ·rw [qK,qK];unfold qaj qcO;simp only
          rw [List.getElem?_eq_none (by simp;omega),List.getElem?_eq_none (by simp;omega)]
        ·simp only [qj,not_or]at hq;obtain ⟨hq0,hq3,_⟩:=hq;have hlv:q.lvl<(st.L++[st.B]).length:=by
          obtain ⟨c,hc⟩:=Option.isSome_iff_exists.1 hsm;have:=qdR hc;unfold qad TSt.all at this;cases hM0:(st.L++[st.B])[q.lvl]? with
          |none=>rw [hM0]at this;cases this
          |some b=>exact (qm.1 hM0).1
         have i0:(({E:=qiD (Env.qeN env env.length) ps (dullL args),L:=st.L++[st.B],B:=[],Wt:=.empty,Wb:=[]}:TSt).cont q).isSome=true:=by
          rw [qaK]at hsm ⊢;unfold qad TSt.all at hsm ⊢;simp only at hsm ⊢;rw [qg hlv];exact hsm
         have i1:=hF2.bn q (ht2 q hq3) i0;have i2:=qm1 t2 r (.lp .busy none g2 env2 ps2 as2 bo2) q i1;have i3:=hF3.bn q hq3 i2;have i4:=qm1 t3 r (.lp (if e3.code.isNone then .ready else .done) e3.code g3 env3 ps3 as3 bo3) q i3;rw [qaK]at i4 ⊢;unfold qad TSt.all at i4 ⊢;rw [hL3,qg (l₁:=L++[B]) (by simp at hlv ⊢;omega)]at i4;exact i4
       ·cases h
      ·cases h
     ·cases h
    ·cases h
 ·cases h
theorem qqm(hT:TOk P H lib T)(hO:OOk P H lib O){d:Tmp}{fv:TV}{fv':V}{args:List TV}{args':List V}{st:TSt}{s:St}{R:Type}{k:TV->TSt->Option R}{r:R}
  (hf:RV fv fv') (ha:RVL args args') (hs:Rst st s) (h:qnC H J T O ctx f d fv args st R k=some r) :
  ∃v st' u s',k v st'=some r/\Ev (λC=>qgA C fv' args' s=some (u,s')/\qb6 C fv'=qdv H fv) P H lib/\RV v u/\Rst st' s'/\Fr2 st st' s s'/\st'.E=st.E/\s'.E=s.E/\qdb fv' args'=qfJ fv args:=by
 unfold qnC at h;split at h
 ·rename_i g first cap;simp only [RV]at hf;obtain ⟨first',cap',rfl,hf1,hc1⟩:=hf;have hall:RVL (first++args++cap) (first'++args'++cap'):=(hf1.append ha).append hc1;split at h
  ·rename_i hk;have hpt:=RVL.ptrs_eq _ _ hk hall;have hpure:qdb (.fn g first' cap') args'=qfJ (.fn g first cap) args:=by
    simp only [qdb,qfJ,hpt]
   split at h
   ·rename_i hp;have hp':(ptrsL (first'++args'++cap')).isEmpty=true:=by rw [hpt];exact hp
    have hshare:RVL (shareL (first++args++cap)) ((first'++args'++cap').map V.share):=by
     have:=RVL.share _ _ hall;rw [qaa]at this;exact this
    have fin:∀{x:TV} {v:V},k (if tightL (first++args++cap)then x else x.qba) st=some r->RV x v->qp5 P H lib g ((first'++args'++cap').map V.share) [] v [] ->
      ∃v st' u s',k v st'=some r/\Ev (λC=>qgA C (.fn g first' cap') args' s=some (u,s')/\qb6 C (.fn g first' cap')=qdv H (.fn g first cap)) P H lib/\RV v u/\Rst st' s'/\Fr2 st st' s s'/\st'.E=st.E/\s'.E=s.E/\qdb (.fn g first' cap') args'=qfJ (.fn g first cap) args:=by
     intro x v hkx hr hev;refine ⟨if tightL (first++args++cap)then x else x.qba,st,if looseL (first'++args'++cap')=true then v.qba else v,s,hkx,(hev.and Ev.qhw).imp λC ⟨hC,hCp⟩=>?_,?_,hs,Fr2.refl _ _,rfl,rfl,hpure⟩
     ·refine ⟨?_,by simp only [qb6,qdv,hCp]⟩;show qeX C g (first'++args'++cap') s=_;unfold qeX;rw [if_pos hp',hC]
     ·cases htg:tightL (first++args++cap)with
      |true =>
       rw [RVL.tight _ _ htg hall];simpa using hr
      |false =>
       simp only [qf,if_false];split
       ·exact RV.lo qqH _ _ hr
       ·exact hr.lo0
    split at h
    ·obtain ⟨x,N,wb,v,N',hkx,hr,hN,hlen,_,hev⟩:=hO.call _ _ _ _ _ _ _ _ [] h hshare ⟨rfl,λl s=>by simp [qad,qaj,RB],by simp,λl s c h=>by simp [qaj]at h⟩;have hN0:N=[]:=List.eq_nil_of_length_eq_zero (by rw [hlen];rfl);subst hN0;have hN0':N'=[]:=List.eq_nil_of_length_eq_zero (by rw [hN.len];rfl);subst hN0';exact fin hkx hr hev
    ·obtain ⟨x,v,hkx,hr,hev⟩:=hT _ _ _ _ _ _ h hshare;exact fin hkx hr hev
   ·rename_i hp;have hp':¬ (ptrsL (first'++args'++cap')).isEmpty=true:=by rw [hpt];exact hp
    split at h
    ·rename_i hpk;split at h
     ·rename_i xs hxs;split at h
      ·rename_i hxp;obtain ⟨us,hus,hru⟩:=peekTL_ok (bt:=st.box) (bx:=s.box) (λr c hc=>by
        obtain ⟨c',h1,h2⟩:=hs.box hc;exact ⟨c',h1,h2,λhlt=>hs.M.mp r.lvl r.slot c' (by rw [<- qK];exact h1) hlt⟩) _ _ _ hxs hall
       obtain ⟨x,v,hkx,hr,hev⟩:=hT _ _ _ _ _ _ h hru;split at hkx
       ·rename_i hmine;refine ⟨x,st,v,s,hkx,(hev.and Ev.qhw).imp λC ⟨hC,hCp⟩=>⟨?_,by simp only [qb6,qdv,hCp]⟩,hr,hs,Fr2.refl _ _,rfl,rfl,hpure⟩;show qeX C g (first'++args'++cap') s=_;have hup:(ptrsL us).isEmpty=true:=by
         rw [List.isEmpty_iff,List.eq_nil_iff_forall_not_mem];intro q hq;have:=RVL.qq _ _ hru q hq;rw [List.isEmpty_iff]at hxp;rw [hxp]at this;cases this
        unfold qeX;rw [if_neg hp',hCp,if_pos hpk,hus];simp only [hup,if_true,hC,RV.qb9 x v hmine hr]
       ·cases hkx
      ·cases h
     ·cases h
    rename_i hpk;have hdull:RVL (dullL (first++args++cap)) ((first'++args'++cap').map V.hand):=hall.qpl qjI rfl;obtain ⟨x,N,wb,v,N',hkx,hr,hN,hlen,hfr,hev⟩:=hO.call _ _ _ _ _ _ _ _ (s.L++[s.B]) h hdull hs.M;split at hkx
    ·rename_i L B hsp;have hNe:=qf4 hsp;subst hNe;split at hkx
     ·rename_i hL;obtain ⟨L',B',rfl⟩:=qkg (M:=N') (n:=L.length) (by rw [hN.len];simp);have hL':L'.length=s.L.length:=by have:=hN.len;have:=hs.len;simp at *;omega
      refine ⟨x,_,v,{s with L:=L',B:=B'},hkx,(hev.and Ev.qhw).imp λC ⟨hC,hCp⟩=>?_,hr,⟨hs.E,hN⟩,⟨λt ht=>ht,λq hq=>by simp [hq],λt ht=>.inl rfl,λt ht rs hE=>⟨rs,hE⟩,λq hq=>.inl ?_,λq hq hsm=>?_,hL',rfl⟩,rfl,rfl,hpure⟩
      ·refine ⟨?_,by simp only [qb6,qdv,hCp]⟩;show qeX C g (first'++args'++cap') s=_;unfold qeX;rw [if_neg hp',hCp,if_neg hpk,hC];simp only [qf5,hL',if_true]
      ·rw [qK,qK];simp only [qj,not_or]at hq;exact (hfr q.lvl q.slot hq.1).1
      ·simp only [qj,not_or]at hq;obtain ⟨c,hc⟩:=Option.isSome_iff_exists.1 hsm;obtain ⟨c',hc'⟩:=(hfr q.lvl q.slot hq.1).2 c (qdR hc);rw [qaK];show (match qad (L++[B]) q.lvl q.slot with
        |some (some c)=>some c
        |_=>none).isSome=true
       rw [hc'];rfl
     ·cases hkx
    ·cases hkx
  ·cases h
 ·rename_i q;simp only [RV]at hf;subst hf;obtain ⟨v,st',u,s',h1,h2,h3,h4,h5,h6,h7⟩:=qxr hO ha hs h;exact ⟨v,st',u,s',h1,h2.imp λC hC=>⟨hC,rfl⟩,h3,h4,h5,h6,h7,rfl⟩
 ·cases h
theorem qdg{x:TV}{ys:List V}(h:RVL [x] ys):∃v,ys=[v]/\RV x v:=by
 simp only [RVL]at h;obtain ⟨v,m,rfl,h1,rfl⟩:=h;exact ⟨v,rfl,h1⟩
def qwg(P:Program)(H:Hints)(f:FuncId)(o:Oper)(xs:List TV)(st:TSt)(R:Type)(k:TV->TSt->Fp->Option R):Option R :=
 if qiV o.op xs then qlc P H f o xs st R k else match qkc o.op xs with
  |none=>qcG P H f (q7 H f o) o.op xs none R λv c=>match c with
   |none=>k v st .none
   |some _=>none
  |some r=>if 16384<=r.slot then none else qcG P H f (q7 H f o) o.op xs (st.box r) R λv c=>match c with
   |none=>k v st (.root r (qbZ P o.op xs).1 (qbZ P o.op xs).2 false)
   |some c=>if (qui o.op xs).all (λp=>decide (p.lvl<=r.lvl))&&decide ((qbZ P o.op xs).1+(qbZ P o.op xs).2<=c.length)then k v (st.qo r c) (.root r (qbZ P o.op xs).1 (qbZ P o.op xs).2 true)else none
theorem qs3{o:Oper}(h:qh4 o.op=true)(xs:List TV)(st:TSt)(R:Type)(k:TV->TSt->Fp->Option R):qkJ P H J T O ctx f o xs st R k=qwg P H f o xs st R k:=by
 unfold qkJ;split
 ·rename_i hop;rw [hop]at h;simp [qh4]at h
 ·rename_i hop;rw [hop]at h;simp [qh4]at h
 ·rename_i hop;rw [hop]at h;simp [qh4]at h
 ·rfl
theorem qs2{o:Oper}{c:Call}{fo:Operand}(hop:o.op=.call c)(hc:c.callee=.value fo)(xs:List TV)(st:TSt)(R:Type)(k:TV->TSt->Fp->Option R) :
  qkJ P H J T O ctx f o xs st R k=match xs with
   |fv::args=>if qo5 H fv args then qzb H O ctx o.dst fv args st R k else qnC H J T O ctx f (o.dst.getD 0) fv args st R λv s=>k v s (if qfJ fv args then .none else if qdv H fv then .looks else .all)
   |[]=>none:=by
 unfold qkJ;obtain ⟨cal,a1,a2⟩:=c;simp only at hc;subst hc;simp only [hop];cases xs<;>rfl
theorem LR.push{M:List qI}{M':List Level}{b:qI}{b':Level}{d:Nat}{c:List TV}{c':List V}(h:LR (M++[b]) (M'++[b']))(hl:M'.length=M.length)(hd:qU b d=none)(hc:RC c c')(hmp:d<16384->qfP c'=false):LR (M++[(d,some c)::b]) (M'++[qb2 d c' b']):=by
 have hkey:∀k,RB (qU b k) (qy b' k):=λk=>by
  have:=h.rel M.length k;unfold qad qaj at this;rw [List.getElem?_append_right (Nat.le_refl _),<- hl,List.getElem?_append_right (Nat.le_refl _)]at this;simpa using this
 have hnone:qy b' d=none:=by
  have h2:=hkey d;rw [hd]at h2;exact h2
 refine ⟨by simp [hl],λl k=>?_,λq hq=>?_,λl k c2 h2 hlt=>?_⟩
 rotate_right
 ·have key:=h.mp l k;unfold qaj at key h2;by_cases e:l<M'.length
  ·rw [qg e]at key h2;exact key c2 h2 hlt
  ·rw [List.getElem?_append_right (by omega)]at key h2;cases hm:l-M'.length with
   |zero =>
    rw [hm]at key h2;simp only [List.getElem?_cons_zero]at key h2;by_cases e2:d=k
    ·subst e2;rw [qhr hnone]at h2;simp only [if_true,qb]at h2;subst h2;exact hmp hlt
    ·rw [qbF e2]at h2;exact key c2 h2 hlt
   |succ n=>rw [hm]at h2;simp at h2
 ·have key:=h.rel l k;unfold qad qaj at key ⊢;by_cases e:l<M.length
  ·rw [qg e,qg (by omega)]at key ⊢;exact key
  ·rw [List.getElem?_append_right (by omega),List.getElem?_append_right (by omega),hl]at key ⊢;cases hm:l-M.length with
   |zero =>
    simp only [List.getElem?_cons_zero];by_cases e2:d=k
    ·subst e2;simp only [qU,qhr hnone,if_true];exact ⟨c',rfl,hc⟩
    ·simp only [qU,qbF e2,if_neg e2];exact hkey k
   |succ n=>simp [RB]
 ·simp only [qj,List.mem_singleton]at hq;rcases hq with hq|rfl
  ·exact h.nd q (by simp [hq])
  ·exact qnV hnone (h.nd b' (by simp))
theorem qeq{st:TSt}{s:St}(hs:Rst st s){d:Nat}(h:qU st.B d=none):qy s.B d=none:=by
 have:=hs.M.rel st.L.length d;unfold qad qaj at this;have e1:st.all[st.L.length]?=some st.B:=by simp [TSt.all]
 have e2:(qcO s)[st.L.length]?=some s.B:=by rw [<- hs.len];simp [qcO]
 rw [e1,e2]at this;simp only at this;rw [h]at this;exact this
theorem qmE{st:TSt}{s:St}(hs:Rst st s){d:Nat}{c:List TV}{c':List V}(hd:qU st.B d=none)(hc:RC c c')(hmp:d<16384->qfP c'=false) :
  Rst {st with B:=(d,some c)::st.B,Wb:=⟨st.L.length,d⟩::st.Wb} {s with B:=qb2 d c' s.B}/\Fr2 st {st with B:=(d,some c)::st.B,Wb:=⟨st.L.length,d⟩::st.Wb} s {s with B:=qb2 d c' s.B}:=by
 refine ⟨⟨hs.E,LR.push hs.M hs.len hd hc hmp⟩,⟨λt ht=>ht,λr hr=>by simp [hr],λt ht=>.inl rfl,λt ht rs hE=>⟨rs,hE⟩,λr hr=>.inl ?_,λr hr hsm=>?_,rfl,rfl⟩⟩
 case refine_2 =>
  simp only [qk,not_or]at hr;obtain ⟨l,sl⟩:=r;unfold TSt.cont at hsm ⊢;simp only at hsm ⊢;by_cases e:l=st.L.length
  ·rw [if_pos e]at hsm ⊢;have:d≠sl:=λe2=>hr.1 (by rw [e2,e]);simp only [qU,if_neg this];exact hsm
  ·rw [if_neg e]at hsm ⊢;exact hsm
 simp only [qk,not_or]at hr;obtain ⟨l,sl⟩:=r;rw [qK,qK];unfold qaj qcO;simp only
 have hlen:=hs.len;by_cases e:l<s.L.length
 ·rw [qg e,qg e]
 ·rw [List.getElem?_append_right (by omega),List.getElem?_append_right (by omega)];cases hm:l-s.L.length with
  |zero =>
   simp only [List.getElem?_cons_zero];have:d≠sl:=λe2=>hr.1 (by rw [e2];congr 1;omega);rw [qbF this]
  |succ n=>simp
theorem qhd(st:TSt)(r:Root)(c:List TV):(st.qo r c).E=st.E/\(st.qo r c).Wt=st.Wt/\(st.qo r c).Wb=r::st.Wb/\(st.qo r c).L.length=st.L.length:=by
 unfold TSt.qo;split<;>simp
theorem qdN(s:St)(r:Root)(c:List V):(s.qo r c).E=s.E/\(s.qo r c).L.length=s.L.length:=by
 unfold St.qo;split<;>simp
theorem qg9{st:TSt}{s:St}(hs:Rst st s){r:Root}{c0 c:List TV}{c':List V}(hb:st.box r=some c0)(hc:RVL c c')(hmp:r.slot<16384->qfP c'=false):Rst (st.qo r c) (s.qo r c')/\Fr2 st (st.qo r c) s (s.qo r c'):=by
 obtain ⟨e1,e2,e3,e4⟩:=qhd st r c;obtain ⟨e5,e6⟩:=qdN s r c';refine ⟨⟨by rw [e1,e5];exact hs.E,?_⟩,⟨λt ht=>by rw [e2];exact ht,λq hq=>by rw [e3];simp [hq],λt ht=>.inl (by rw [e5]),λt ht rs hE=>⟨rs,by rw [<- e1];exact hE⟩,λq hq=>.inl ?_,λq hq hsm=>qhe st r c q hsm,e6,by rw [e5]⟩⟩
 ·rw [qiz,qom];exact LR.qo hs.M _ _ (by rw [qoK hb];simp) hc.rc hmp
 ·rw [e3]at hq;simp only [qk,not_or]at hq;rw [qV,if_neg hq.1]
theorem qtD{x:V}(h:x.oks=true):qfP x.cells=false:=by
 unfold V.oks at h;cases hc:x.cells with
 |nil=>rfl
 |cons y l =>
  rw [hc]at h;simp only [List.all_cons,qe]at h;cases y<;>first|rfl|(simp [V.one]at h)
theorem qfy{x:V}{l m:List V}:qfP (x::l)=qfP (x::m):=by cases x<;>rfl
theorem qlU{cs ys:List V}{off:Nat}(h1:qfP cs=false)(h2:off=0\/cs=[]->qfP ys=false):qfP (qP cs off ys)=false:=by
 unfold qP;cases off with
 |zero =>
  simp only [List.take_zero,List.nil_append,Nat.zero_add];cases ys with
  |nil=>simpa using h1
  |cons y l=>rw [List.cons_append,qfy (m:=l)];exact h2 (.inl rfl)
 |succ n =>
  cases cs with
  |nil=>simpa using h2 (.inr rfl)
  |cons c l=>simp only [List.take_succ_cons,List.cons_append];rw [qfy (m:=l)];exact h1
theorem qsp{g:Fl->Fl}{l:List V}(h:qfP l=false):qfP (reflagL g l)=false:=by
 cases l with
 |nil=>rfl
 |cons x l=>cases x with
  |mp=>simp [qfP]at h
  |room s n =>
   simp only [reflagL,V.reflag];by_cases h1:g .own=.own
   ·rw [if_pos h1];rfl
   ·rw [if_neg h1];by_cases h2:n=0
    ·rw [if_pos h2];rfl
    ·rw [if_neg h2];rfl
  |_=>rfl
theorem qyO{tk:Bool}{o:Op}{ty:TypeId}{ys:List V}{q:Root}{bx:Option (List V)}{u:V}{c':List V}(hr:rootOf o ys=some q)(hb:∀c,bx=some c->qfP c=false)
  (h:qaG P H f tk o ty ys bx=some (u,some c')):qfP c'=false:=by
 obtain ⟨off,rest,rfl,⟨t,a,rfl⟩|⟨t,a,x,rfl⟩⟩:=qbI hr
 ·cases rest with
  |nil =>
   simp only [qaG]at h;split at h
   ·rename_i cs;split at h
    ·cases h
    ·split at h
     ·obtain ⟨y,_,he⟩:=qc.1 h;cases he;refine qlU (hb cs rfl) λh0=>qsp ?_;have h9:=hb cs rfl;cases cs with
      |nil=>simp [qfP]
      |cons c l =>
       rcases h0 with h0|h0
       ·subst h0;simp only [List.drop_zero];cases (if qO P t=true then P.cellsOf t else 1)with
        |zero=>rfl
        |succ n=>simp only [List.take_succ_cons];rw [qfy (m:=l)];exact h9
       ·cases h0
     ·obtain ⟨y,_,he⟩:=qc.1 h;cases he
   ·cases h
  |cons y l=>simp [qaG]at h
 ·match rest,h with
  |[y],h =>
   simp only [qaG]at h;split at h
   ·rename_i cs;split at h
    ·rename_i hc;simp only [qb,Prod.mk.injEq]at h;obtain ⟨_,rfl⟩:=h;exact qlU (hb _ rfl) λ_=>qtD hc.2.2.2.2
    ·cases h
   ·cases h
  |[],h=>simp [qaG]at h
  |_::_::_,h=>simp [qaG]at h
theorem quM{op:Op}{xs:List TV}{ys:List V}(hx:RVL xs ys)(h:qiV op xs=true):qcT op ys=true:=by
 unfold qiV at h;split at h
 ·rfl
 ·rfl
 ·rfl
 ·rfl
 ·simp only [RVL]at hx;obtain ⟨v,m,rfl,h1,rfl⟩:=hx;simp only [RV]at h1;subst h1;rfl
 ·cases h
theorem quN{op:Op}{xs:List TV}{ys:List V}(hx:RVL xs ys)(hn:¬ qiV op xs=true)(hm:qcT op ys=true) :
  qkc op xs=none/\∀tk bx (R:Type) (k:TV->Option (List TV)->Option R),qcG P H f tk op xs bx R k=none:=by
 unfold qcT at hm;split at hm
 ·exact absurd rfl hn
 ·exact absurd rfl hn
 ·exact absurd rfl hn
 ·exact absurd rfl hn
 ·rename_i args argTypes q
  match xs,hx with
  |[x],hx =>
   obtain ⟨v,hv,hr⟩:=qdg hx;cases hv;cases x with
   |any rs=>exact ⟨rfl,λ_ _ _ _=>rfl⟩
   |mref r=>exact absurd rfl hn
   |t τ o x=>cases τ<;>simp [RV,RTy]at hr
   |_=>simp [RV]at hr
  |[],hx=>simp [RVL]at hx
  |x::y::l,hx =>
   have:=hx.length;simp at this
 ·cases hm
theorem qsA{o:Oper}{xs:List TV}{ys:List V}{st:TSt}{s:St}{R:Type}{k:TV->TSt->Fp->Option R}{r:R}(hx:RVL xs ys)(hs:Rst st s)(h:qlc P H f o xs st R k=some r) :
  ∃v st' fp u s',k v st' fp=some r/\mapStep P H f o ys s=some (u,s',fp)/\RV v u/\Rst st' s'/\Fr2 st st' s s'/\st'.E=st.E/\s'.E=s.E:=by
 have hset:∀{q:Root} {τ:Ty} {o':Nat} {l:List τ.den},st.box q=some [.t (.mset τ) o' l]->qgN τ=true/\s.box q=some [.mp (kvs τ l)]/\¬ q.slot<16384:=λ{q τ o' l} hb=>by
  obtain ⟨c',hc',hr⟩:=hs.box hb;obtain ⟨v,rfl,hv⟩:=qdg hr;simp only [RV,RTy]at hv;obtain ⟨hk,rfl⟩:=hv;refine ⟨hk,hc',λhlt=>?_⟩;have:=hs.M.mp q.lvl q.slot _ (by rw [<- qK];exact hc') hlt;simp [qfP]at this
 unfold qlc at h;split at h
 ·-- make
  rename_i t ro hop;split at h
  ·rename_i d kt vt hd hu;split at h
   ·rename_i τ hτ;split at h
    ·rename_i hc;obtain ⟨hn,hk,hci⟩:=hc;have hn':qU st.B (q4 d)=none:=by simpa using hn
     have hrv:RVL [.t (.mset τ) 0 []] [.mp []]:=qx.2 ⟨by simp [RV,RTy,hk],q6⟩;obtain ⟨hR,hF⟩:=qmE hs hn' (RVL.rc hrv) (λhlt=>absurd hlt (by unfold q4;omega));refine ⟨_,_,_,.mref ⟨s.L.length,q4 d⟩,_,h,?_,by simp [RV,hs.len],hR,hF,rfl,rfl⟩;have hci':qjN ys=true:=by
      unfold qlQ at hci;split at hci
      ·simp only [RVL]at hx;subst hx;rfl
      ·obtain ⟨v,rfl,hv⟩:=qdg hx;simp only [RV,RTy]at hv;subst hv;rfl
      ·cases hci
     unfold mapStep;simp only [hop,hd,hu];rw [if_pos ⟨by rw [qeq hs hn'];rfl,hci'⟩,hs.len]
    ·cases h
   ·cases h
  ·cases h
 ·-- look up
  rename_i t mo ko ok hop;split at h
  ·rename_i q x;split at h
   ·rename_i τ o' l kt vt hb hu;split at h
    ·rename_i hf;split at h
     ·rename_i o2 y hz hy;obtain ⟨v1,m1,rfl,hv1,hx⟩:=(by simpa only [RVL]using hx:∃v m,ys=v::m/\RV (.mref q) v/\∃v' m',m=v'::m'/\RV x v'/\m'=[])
      obtain ⟨v2,m2,rfl,hv2,rfl⟩:=hx;simp only [RV]at hv1;subst hv1;obtain ⟨hk,hbs,_⟩:=hset hb;obtain ⟨u,hlk,hru⟩:=qwL (ok:=ok) (l:=l) hu hf hz hy hv2;refine ⟨_,_,_,u,s,h,?_,hru,hs,Fr2.refl _ _,rfl,rfl⟩;unfold mapStep;simp only [hop,hbs,hlk,qi]
     ·cases h
    ·cases h
   ·cases h
  ·cases h
 ·rename_i t mo ko xo hop;split at h
  ·rename_i q x ob;split at h
   ·rename_i τ o' l kt vt hb hu;split at h
    ·rename_i hf;split at h
     ·rename_i y hy;obtain ⟨v1,m1,rfl,hv1,hx⟩:=(by simpa only [RVL]using hx:∃v m,ys=v::m/\RV (.mref q) v/\∃v' m',m=v'::m'/\RV x v'/\∃v'' m'',m'=v''::m''/\RV (.t .bool ob true) v''/\m''=[])
      obtain ⟨v2,m2,rfl,hv2,hx⟩:=hx;obtain ⟨v3,m3,rfl,hv3,rfl⟩:=hx;simp only [RV]at hv1;subst hv1;obtain ⟨hk,hbs,hsl⟩:=hset hb;have hup:=qrT (l:=l) hu hf hy hv2 (by simpa only [RV,RTy]using hv3);have hrv:RVL [.t (.mset τ) 0 (qAk τ l y)] [.mp (kvs τ (qAk τ l y))]:=qx.2 ⟨by simp only [RV,RTy];exact ⟨hk,rfl⟩,q6⟩;obtain ⟨hR,hF⟩:=qg9 hs hb hrv (λhlt=>absurd hlt hsl);refine ⟨_,_,_,.undef,_,h,?_,qaR [],hR,hF,(qhd _ _ _).1,(qdN _ _ _).1⟩;unfold mapStep;simp only [hop,hbs,hup,qi]
     ·cases h
    ·cases h
   ·cases h
  ·cases h
 ·rename_i t mo ko xo hop;split at h
  ·rename_i q x ob;split at h
   ·rename_i τ o' l kt vt hb hu;split at h
    ·rename_i hf;split at h
     ·rename_i y hy;obtain ⟨v1,m1,rfl,hv1,hx⟩:=(by simpa only [RVL]using hx:∃v m,ys=v::m/\RV (.mref q) v/\∃v' m',m=v'::m'/\RV x v'/\∃v'' m'',m'=v''::m''/\RV (.t .bool ob true) v''/\m''=[])
      obtain ⟨v2,m2,rfl,hv2,hx⟩:=hx;obtain ⟨v3,m3,rfl,hv3,rfl⟩:=hx;simp only [RV]at hv1;subst hv1;obtain ⟨hk,hbs,hsl⟩:=hset hb;have hup:=qrT (l:=l) hu hf hy hv2 (by simpa only [RV,RTy]using hv3);have hrv:RVL [.t (.mset τ) 0 (qAk τ l y)] [.mp (kvs τ (qAk τ l y))]:=qx.2 ⟨by simp only [RV,RTy];exact ⟨hk,rfl⟩,q6⟩;obtain ⟨hR,hF⟩:=qg9 hs hb hrv (λhlt=>absurd hlt hsl);refine ⟨_,_,_,.undef,_,h,?_,qaR [],hR,hF,(qhd _ _ _).1,(qdN _ _ _).1⟩;unfold mapStep;simp only [hop,hbs,hup,qi]
     ·cases h
    ·cases h
   ·cases h
  ·cases h
 ·rename_i args argTypes hop;split at h
  ·rename_i q;split at h
   ·rename_i τ o' l kt vt hb hu;split at h
    ·rename_i hm;obtain ⟨v,rfl,hv⟩:=qdg hx;simp only [RV]at hv;subst hv;obtain ⟨hk,hbs,_⟩:=hset hb;refine ⟨_,_,_,.val (.int .i64 (kvs τ l).length),s,h,?_,by simp [RV,RTy,kvs],hs,Fr2.refl _ _,rfl,rfl⟩;unfold mapStep;simp only [hop,hbs,hu,hm,if_true]
    ·cases h
   ·cases h
  ·cases h
 ·cases h
theorem qyb(hO:OOk P H lib O){d:Option Tmp}{fv:TV}{fv':V}{args:List TV}{args':List V}{st:TSt}{s:St}{R:Type}{k:TV->TSt->Fp->Option R}{r:R}
  (hf:RV fv fv') (ha:RVL args args') (hs:Rst st s) (h:qv4 O ctx d fv args st R k=some r) :
  ∃v st' fp u s',k v st' fp=some r/\Ev (λC=>qkY C d fv' args' s=some (u,s',fp)) P H lib/\RV v u/\Rst st' s'/\Fr2 st st' s s'/\st'.E=st.E/\s'.E=s.E:=by
 unfold qv4 at h;split at h
 ·rename_i g first cap d;simp only [RV]at hf;obtain ⟨first',cap',rfl,hf1,hc1⟩:=hf;have hall:RVL (first++args++cap) (first'++args'++cap'):=(hf1.append ha).append hc1;split at h
  ·rename_i hc;simp only [qe,Option.isNone_iff_eq_none]at hc;obtain ⟨⟨⟨hk,hp⟩,htg⟩,hn⟩:=hc;have hpt:=RVL.ptrs_eq _ _ hk hall;have hp':(ptrsL (first'++args'++cap')).isEmpty=true:=by rw [hpt];exact hp
   have hl:=RVL.tight _ _ htg hall;have hshare:RVL (shareL (first++args++cap)) ((first'++args'++cap').map V.share):=by
    have:=RVL.share _ _ hall;rw [qaa]at this;exact this
   obtain ⟨x,τ,o,l,v,sl,hkx,hkt,hr,hom,hev⟩:=hO.born _ _ _ _ _ _ _ h hshare;have hrv:RVL [.t (.mset τ) o l] [.mp (kvs τ l)]:=qx.2 ⟨by simp only [RV,RTy];exact ⟨hkt,rfl⟩,q6⟩;obtain ⟨hR,hF⟩:=qmE hs hn (RVL.rc hrv) (λhlt=>absurd hlt (by unfold q4;omega));refine ⟨_,_,_,v.adopt ⟨s.L.length,q4 d⟩,_,hkx,hev.imp λC hC=>?_,?_,hR,hF,rfl,rfl⟩
   ·unfold qkY;simp only [hC];rw [if_pos (by simp only [qe,Bool.not_eq_true',Option.isNone_iff_eq_none];exact ⟨⟨hp',hl⟩,qeq hs hn⟩),hs.len]
   ·rw [hs.len];exact (rv_adopt _ _ _ hom hr).1
  ·cases h
 ·cases h
theorem quI{n:Nat}{q:Root}{c:List TV}(l sl:Nat):qad (qwu n q c) l sl=if l=q.lvl/\sl=q.slot/\l<n then some (some c)else none:=by
 unfold qad qwu;simp only [List.getElem?_map];by_cases hl:l<n
 ·rw [List.getElem?_range hl];simp only [qi];by_cases h1:l=q.lvl
  ·rw [if_pos h1];simp only [qU];by_cases h2:q.slot=sl
   ·rw [if_pos h2,if_pos ⟨h1,h2.symm,hl⟩]
   ·rw [if_neg h2,if_neg (λe=>h2 e.2.1.symm)]
  ·rw [if_neg h1,if_neg (λe=>h1 e.1)];rfl
 ·rw [List.getElem?_eq_none (by simp;omega),if_neg (λe=>hl e.2.2)];rfl
theorem qnT{n:Nat}{q:Root}{c:List V}(l sl:Nat):qaj (qjK n q c) l sl=if l=q.lvl/\sl=q.slot/\l<n then some c else none:=by
 unfold qaj qjK;simp only [List.getElem?_map];by_cases hl:l<n
 ·rw [List.getElem?_range hl];simp only [qi];by_cases h1:l=q.lvl
  ·rw [if_pos h1];simp only [qy];by_cases h2:q.slot=sl
   ·rw [if_pos h2,if_pos ⟨h1,h2.symm,hl⟩]
   ·rw [if_neg h2,if_neg (λe=>h2 e.2.1.symm)]
  ·rw [if_neg h1,if_neg (λe=>h1 e.1)];rfl
 ·rw [List.getElem?_eq_none (by simp;omega),if_neg (λe=>hl e.2.2)];rfl
theorem qwR(hO:OOk P H lib O){d:Tmp}{g:FuncId}{args:List TV}{args':List V}{q:Root}{st:TSt}{s:St}{R:Type}{k:TV->TSt->Option R}{r:R}
  (ha:RVL args args') (hs:Rst st s) (h:qwQ O ctx d g args q st R k=some r) :
  ∃v st' u s',k v st'=some r/\Ev (λC=>qfO C g args' q s=some (u,s')) P H lib/\RV v u/\Rst st' s'/\Fr2 st st' s s'/\st'.E=st.E/\s'.E=s.E:=by
 unfold qwQ at h;split at h
 ·rename_i τ o l hb;obtain ⟨c',hc',hcr⟩:=hs.box hb;obtain ⟨mv,rfl,hmv⟩:=qdg hcr;simp only [RV,RTy]at hmv;obtain ⟨hkt,rfl⟩:=hmv;have hsl:¬ q.slot<16384:=λhlt=>by
   have:=hs.M.mp q.lvl q.slot _ (by rw [<- qK];exact hc') hlt;simp [qfP]at this
  have hLR:LR (qwu (st.L.length+1) q [.t (.mset τ) o l]) (qjK (s.L.length+1) q [.mp (l.map λx=>(qcw τ x,.bool true))]):=by
   refine ⟨by simp [qwu,qjK,hs.len],λl' sl=>?_,λb hb'=>?_,λl' sl c hc hlt=>?_⟩
   ·rw [quI,qnT,hs.len];split
    ·exact ⟨_,rfl,hcr⟩
    ·rfl
   ·unfold qjK at hb';obtain ⟨x,_,rfl⟩:=List.mem_map.1 hb';split<;>simp
   ·rw [qnT]at hc;split at hc
    ·rename_i e;exact absurd (by rw [<- e.2.1];exact hlt) hsl
    ·cases hc
  have hdull:RVL (dullL args) (args'.map V.hand):=ha.qpl qjI rfl;obtain ⟨x,N,wb,v,N',hkx,hr,hN,hlen,hfr,hev⟩:=hO.call _ _ _ _ _ _ _ _ _ h hdull hLR;split at hkx
  ·rename_i hc;simp only [qe,Bool.not_eq_true',List.isEmpty_iff]at hc;obtain ⟨⟨hkn,hp⟩,hown⟩:=hc;split at hkx
   ·rename_i τ' o' l' hlk;have hrel:=hN.rel q.lvl q.slot;rw [show qad N q.lvl q.slot=some (some [.t (.mset τ') o' l'])from hlk]at hrel;obtain ⟨c2,hc2,hcr2⟩:=hrel;obtain ⟨mv2,rfl,hmv2⟩:=qdg hcr2;have hmv2':=hmv2;simp only [RV,RTy]at hmv2';obtain ⟨hkt2,rfl⟩:=hmv2';obtain ⟨hR,hF⟩:=qg9 hs hb (qx.2 ⟨hmv2,q6⟩) (λhlt=>absurd hlt hsl);have hvo:v.owns=false:=by
     cases hvo:v.owns with
     |false=>rfl
     |true=>rw [RV.owns x v hr hvo]at hown;cases hown
    refine ⟨x,_,v,_,hkx,hev.imp λC hC=>?_,hr,hR,hF,(qhd _ _ _).1,(qdN _ _ _).1⟩;unfold qfO;simp only [hc',hC];rw [if_pos (by rw [RV.ptrs_eq x v hkn hr,hp,hvo];rfl)];rw [show qv6 N' q=qaj N' q.lvl q.slot from rfl,hc2]
   ·cases hkx
  ·cases hkx
 ·cases h
theorem qo4{fv:TV}{fv':V}{g:FuncId}{a b:List TV}(h:RV (.fn g a b) fv'):qqV H fv'=(H.seq g).isSome:=by
 simp only [RV]at h;obtain ⟨a',b',rfl,_⟩:=h;rfl
theorem qAE{d:Option Tmp}{fv:TV}{fv':V}{args:List TV}{args':List V}{st:TSt}{s:St}{R:Type}{k:TV->TSt->Fp->Option R}{r:R}
  (hf:RV fv fv') (ha:RVL args args') (hs:Rst st s) (h:qCq H d fv args st R k=some r) :
  ∃v st' fp u s',k v st' fp=some r/\Ev (λC=>qvE C d fv' args' s=some (u,s',fp)) P H lib/\RV v u/\Rst st' s'/\Fr2 st st' s s'/\st'.E=st.E/\s'.E=s.E:=by
 unfold qCq at h;split at h
 ·rename_i g first cap d;simp only [RV]at hf;obtain ⟨first',cap',rfl,hf1,hc1⟩:=hf;have hall:RVL (first++args++cap) (first'++args'++cap'):=(hf1.append ha).append hc1;split at h
  ·rename_i o1 str o2 sep hl;rw [hl]at hall;simp only [RVL,RV,RTy]at hall;obtain ⟨_,_,hl',rfl,_,_,rfl,rfl,rfl⟩:=hall;split at h
   ·rename_i clos hc;split at h
    ·rename_i hn;rw [Option.isNone_iff_eq_none]at hn;have hrv:RVL [.t .str 0 str] [.val (.string ⟨str.toArray⟩)]:=qx.2 ⟨by simp only [RV,RTy],q6⟩;obtain ⟨hR,hF⟩:=qmE hs hn (RVL.rc hrv) (λ_=>rfl);refine ⟨_,_,_,.fn clos [] [.cptr .shared [.val (.string ⟨sep.toArray⟩)],.ptr ⟨s.L.length,d⟩ 0,.cptr .shared [.val (.int .i64 0)]],_,h,⟨1,λm hm=>?_⟩,?_,hR,hF,rfl,rfl⟩
     ·obtain ⟨m',rfl⟩:∃m',m=m'+1:=⟨m-1,by omega⟩
      unfold qvE;simp only [hl',qkV,hc];rw [if_pos (by rw [Option.isNone_iff_eq_none];exact qeq hs hn),hs.len]
     ·simp only [RV];exact ⟨[],_,rfl,q6,qx.2 ⟨by simp only [RV];exact ⟨.shared,_,rfl,by simp,λ_=>rfl,qx.2 ⟨by simp only [RV,RTy],q6⟩⟩,qx.2 ⟨by simp only [RV,hs.len],qx.2 ⟨by simp only [RV];exact ⟨.shared,_,rfl,by simp,λ_=>rfl,qx.2 ⟨by simp only [RV,RTy],q6⟩⟩,q6⟩⟩⟩⟩
    ·cases h
   ·cases h
  ·cases h
 ·cases h
theorem qiU{fv:TV}{fv':V}{g:FuncId}{a b:List TV}(h:RV (.fn g a b) fv'):qiT H fv'=H.born g:=by
 simp only [RV]at h;obtain ⟨a',b',rfl,_⟩:=h;rfl
theorem qzc(hO:OOk P H lib O){d:Option Tmp}{fv:TV}{fv':V}{args:List TV}{args':List V}{st:TSt}{s:St}{R:Type}{k:TV->TSt->Fp->Option R}{r:R}
  (hf:RV fv fv') (ha:RVL args args') (hs:Rst st s) (h:qzb H O ctx d fv args st R k=some r) :
  qh5 H fv' args'=true/\∃v st' fp u s',k v st' fp=some r/\Ev (λC=>qh0 H C d fv' args' s=some (u,s',fp)) P H lib/\RV v u/\Rst st' s'/\Fr2 st st' s s'/\st'.E=st.E/\s'.E=s.E:=by
 unfold qzb at h;split at h
 ·rename_i hbn;have hb':qiT H fv'=true:=by
   cases fv<;>first|(simp [qlP]at hbn;done)|(rw [qiU (fv:=.any []) hf];exact hbn)
  obtain ⟨v,st',fp,u,s',hk,hev,hr,hR,hF,e1,e2⟩:=qyb hO hf ha hs h;refine ⟨by unfold qh5;rw [hb'];rfl,v,st',fp,u,s',hk,hev.imp λC hC=>?_,hr,hR,hF,e1,e2⟩;unfold qh0;rw [if_pos hb'];exact hC
 rename_i hbn;split at h
 ·rename_i hsq;have hb':qiT H fv'=false:=by
   cases fv<;>first|(simp [qqW]at hsq;done)|(rw [qiU (fv:=.any []) hf];simpa [qlP]using hbn)
  have hs':qqV H fv'=true:=by
   cases fv<;>first|(simp [qqW]at hsq;done)|(rw [qo4 (fv:=.any []) hf];exact hsq)
  obtain ⟨v,st',fp,u,s',hk,hev,hr,hR,hF,e1,e2⟩:=qAE (P:=P) (lib:=lib) hf ha hs h;refine ⟨by unfold qh5;rw [hs',hb'];rfl,v,st',fp,u,s',hk,hev.imp λC hC=>?_,hr,hR,hF,e1,e2⟩;unfold qh0;rw [if_neg (by rw [hb'];simp),if_pos hs'];exact hC
 ·rename_i hsq;split at h
  ·rename_i g first cap q hq;have hb':qiT H fv'=false:=by
    rw [qiU (fv:=.any []) hf];simpa [qlP]using hbn
   have hs':qqV H fv'=false:=by
    rw [qo4 (fv:=.any []) hf];simpa [qqW]using hsq
   have hf':=hf;simp only [RV]at hf';obtain ⟨first',cap',rfl,hf1,hc1⟩:=hf';have hall:RVL (first++args++cap) (first'++args'++cap'):=(hf1.append ha).append hc1;have hkn:knownL (first++args++cap)=true:=by
    unfold qja at hq;simp only at hq;split at hq
    ·assumption
    ·cases hq
   have hq':qgS (.fn g first' cap') args'=some q:=by rw [qnZ hkn hall];exact hq
   obtain ⟨v,st',u,s',hk,hev,hr,hR,hF,e1,e2⟩:=qwR hO hall hs h;refine ⟨by unfold qh5;rw [hq'];simp,v,st',_,u,s',hk,hev.imp λC hC=>?_,hr,hR,hF,e1,e2⟩;unfold qh0;rw [if_neg (by rw [hb'];simp),if_neg (by rw [hs'];simp),hq'];simp only [hC,qi]
  ·cases h
theorem qwh{o:Oper}{xs:List TV}{ys:List V}{st:TSt}{s:St}{R:Type}{k:TV->TSt->Fp->Option R}{r:R}(hx:RVL xs ys)(hs:Rst st s)(h:qwg P H f o xs st R k=some r) :
  ∃v st' fp u s',k v st' fp=some r/\qdl P H f o ys s=some (u,s',fp)/\RV v u/\Rst st' s'/\Fr2 st st' s s'/\st'.E=st.E/\s'.E=s.E:=by
 unfold qwg at h;split at h
 ·rename_i hmo;obtain ⟨v,st',fp,u,s',hk,hm,hr,hR,hF,e1,e2⟩:=qsA hx hs h;refine ⟨v,st',fp,u,s',hk,?_,hr,hR,hF,e1,e2⟩;unfold qdl;rw [if_pos (quM hx hmo),hm]
 rename_i hmo;have hmo':¬ qcT o.op ys=true:=λhm=>by
  obtain ⟨h1,h2⟩:=quN (P:=P) (H:=H) (f:=f) hx hmo hm;rw [h1]at h;simp only [h2]at h;cases h
 split at h
 ·rename_i hr;obtain ⟨z,c,u,c',hk,hsem,hrv,hbo⟩:=qrR (ty:=o.type) (bx:=none) (bx':=none) hx True.intro (by simp) h;split at hk
  ·have hc':c'=none:=hbo;subst hc';have hr':rootOf o.op ys=none:=by
    cases ho:o.op<;>try rfl
    case load t a =>
     rw [ho]at h hr
     match xs,hx,h,hr with
     |[],hx,h,hr=>simp [qcG]at h
     |[x],hx,h,hr =>
      obtain ⟨v,rfl,hv⟩:=qdg hx;cases x<;>simp only [qcG]at h<;>try (cases h;done)
      simp only [RV]at hv;obtain ⟨_,l',rfl,_⟩:=hv;rfl
     |x::y::xs,hx,h,hr =>
      cases x<;>simp [qcG]at h
    case store t a b =>
     rw [ho]at h hr
     match xs,hx,h,hr with
     |[],hx,h,hr=>simp [qcG]at h
     |[x],hx,h,hr=>cases x<;>simp [qcG]at h
     |[x,y],hx,h,hr =>
      cases x<;>simp only [qcG]at h<;>try (cases h;done)
     |x::y::z::xs,hx,h,hr=>cases x<;>simp [qcG]at h
   refine ⟨z,st,.none,u,s,hk,?_,hrv,hs,Fr2.refl _ _,rfl,rfl⟩;unfold qdl;rw [if_neg hmo',hr'];simp only [hsem]
  ·cases hk
 ·rename_i q hr;split at h
  ·cases h
  rename_i hslot;have hslot:q.slot<16384:=Nat.lt_of_not_le hslot;have hmpq:∀c,s.box q=some c->qfP c=false:=λc hc=>hs.M.mp q.lvl q.slot c (by rw [<- qK];exact hc) hslot;obtain ⟨z,c,u,c',hk,hsem,hrv,hbo⟩:=qrR (ty:=o.type) hx (hs.bx q) hmpq h;have hshape:rootOf o.op ys=some q/\qae P o.op ys=qbZ P o.op xs/\(∀p∈qkZ o.op ys,p∈qui o.op xs)/\(∀d,c=some d->∃c0,st.box q=some c0):=by
   cases ho:o.op<;>rw [ho]at hr<;>try (simp [qkc]at hr;done)
   case load t a =>
    rw [ho]at h
    match xs,hx,h,hr with
    |[],hx,h,hr=>simp [qcG]at h
    |[x],hx,h,hr =>
     obtain ⟨v,rfl,hv⟩:=qdg hx;cases x<;>simp only [qkc]at hr<;>try (cases hr;done)
     cases hr;simp only [RV]at hv;subst hv;refine ⟨rfl,rfl,λp hp=>by simp [qkZ]at hp,λd _=>?_⟩;simp only [qcG]at h;split at h
     ·rename_i cs hcs;exact ⟨cs,hcs⟩
     ·cases h
    |x::y::xs,hx,h,hr=>cases x<;>simp [qcG]at h
   case store t a b =>
    rw [ho]at h
    match xs,hx,h,hr with
    |[],hx,h,hr=>simp [qcG]at h
    |[x],hx,h,hr=>cases x<;>simp [qcG]at h
    |[x,y],hx,h,hr =>
     cases x<;>simp only [qkc]at hr<;>try (cases hr;done)
     cases hr;simp only [RVL]at hx;obtain ⟨v,m,rfl,hv,v2,m2,rfl,hv2,rfl⟩:=hx;simp only [RV]at hv;subst hv;simp only [qcG]at h;split at h
     ·rename_i cs hcs;split at h
      ·rename_i hcond;obtain ⟨hcells,_⟩:=RV.cells hcond.2.2.2 hv2;refine ⟨rfl,?_,λp hp=>?_,λd _=>⟨cs,hcs⟩⟩
       ·simp only [qae,qbZ,hcells.length]
       ·simp only [qkZ]at hp;simp only [qui];exact RV.qq _ _ hv2 p hp
      ·cases h
     ·cases h
    |x::y::z::xs,hx,h,hr=>cases x<;>simp [qcG]at h
  obtain ⟨hroot,hrange,hwp,hbx⟩:=hshape;split at hk
  ·have hc':c'=none:=hbo;subst hc';refine ⟨z,st,_,u,s,hk,?_,hrv,hs,Fr2.refl _ _,rfl,rfl⟩;unfold qdl;rw [if_neg hmo',hroot];simp only [hsem,hrange]
  ·rename_i d;obtain ⟨d',rfl,hd⟩:=hbo;split at hk
   ·rename_i hcond;obtain ⟨c0,hc0⟩:=hbx d rfl;obtain ⟨hR,hF⟩:=qg9 hs hc0 hd (λ_=>qyO hroot hmpq hsem);refine ⟨z,_,_,u,s.qo q d',hk,?_,hrv,hR,hF,(qhd st q d).1,(qdN s q d').1⟩;unfold qdl;rw [if_neg hmo',hroot];simp only [hsem,hrange];rw [if_pos];simp only [qe,List.all_eq_true,decide_eq_true_eq]at hcond ⊢;exact ⟨λp hp=>hcond.1 p (hwp p hp),by rw [hd.length];exact hcond.2⟩
   ·cases hk
end
end Go.Tx
end
