/-
  ONE LAW OF A CHAPTER: its program side is run by an interpreter that is proved sound; what it computes is shown to be what the law says. No conditions. Part 8 of 8.
-/
import Derived.Test.YtkcaaaiihhhnmaaGreatDoorMTGg
import Derived.Test.YtkcaaaiihhhnmaaGreatDoorTie
import Derived.Test.YtkcaaaiihhhnmaaGreatDoorCards
import Derived.Lay
import Derived.SevenTiedAt
set_option linter.unusedSimpArgs false
set_option linter.unusedVariables false
set_option linter.unnecessarySimpa false
section
namespace Go.Proofs.YtkcaaaiihhhnmaaGreatDoor
open Go Go.Ab Go.Tx
abbrev Ent:=Nat×Int×Int×List Int
structure SS where
 nA:Nat
 hm:Nat->Bool
 nx:Nat->Nat->Option Nat
def qvN(x:SS)(i:Nat)(e:Ent)(out:List Ent)(a:Nat):List Ent :=
 match x.nx e.1 a with
 |none=>out
 |some t=>if t∈out.map (·.1)then out else out++[(t,(i:Int),(a:Int),e.2.2.2++[(a:Int)])]
def qeL(x:SS)(i:Nat)(e:Ent)(out:List Ent)(n:Nat):List Ent:=(List.range n).foldl (qvN x i e) out
theorem qll(x:SS)(i:Nat)(e:Ent)(out:List Ent)(n:Nat):qeL x i e out (n+1)=qvN x i e (qeL x i e out n) n:=by
 unfold qeL;rw [List.range_succ,List.foldl_append];rfl
def qpj(x:SS)(i:Nat)(out:List Ent):List Ent :=
 match out[i]? with
 |none=>out
 |some e=>if x.hm e.1=true then out else qeL x i e out x.nA
def RA(x:SS)(s:Nat):Nat->List Ent
 |0=>[(s,-1,-1,[])]
 |i+1=>qpj x i (RA x s i)
def qph(x:SS)(s:Nat):List Ent:=RA x s 256
def qBm(x:SS)(out:List Ent)(k:Nat)(e:Ent):Prop :=
 (k=0/\e.2.1 = -1/\e.2.2.1 = -1/\e.2.2.2=[]) \/
 ∃(b a:Nat) (eb:Ent),b<k/\out[b]?=some eb/\a<x.nA/\e.2.1=(b:Int)/\e.2.2.1=(a:Int)/\x.nx eb.1 a=some e.1/\x.hm eb.1=false/\e.2.2.2=eb.2.2.2++[(a:Int)]
structure GA (x:SS) (s:Nat) (out:List Ent):Prop where
 nd:(out.map (·.1)).Nodup
 lt:∀e∈out,e.1<256
 zero:out[0]?=some (s,-1,-1,[])
 aft:∀(k:Nat) e,out[k]?=some e->qBm x out k e
theorem qz8:∀(N:Nat) (l:List Nat),l.Nodup->(∀a∈l,a<N)->l.length<=N
 |0,l,_,h=>by
  cases l with
  |nil=>simp
  |cons a l=>exact absurd (h a (by simp)) (by omega)
 |N+1,l,hd,h=>by
  have h1:=qz8 N (l.filter λa=>decide (a≠N)) (hd.filter _) (λa ha=>by
   simp only [List.mem_filter,decide_eq_true_eq]at ha;have:=h a ha.1;omega)
  have h2:(l.filter λa=>!decide (a≠N)).length<=1:=by
   have hn:(l.filter λa=>!decide (a≠N)).Nodup:=hd.filter _
   match hl:l.filter λa=>!decide (a≠N)with
   |[]=>simp
   |[a]=>simp
   |a::b::t =>
    exfalso
    have ha:a∈l.filter λa=>!decide (a≠N):=by rw [hl];simp
    have hb:b∈l.filter λa=>!decide (a≠N):=by rw [hl];simp
    simp only [List.mem_filter,Bool.not_eq_true',decide_eq_false_iff_not,Decidable.not_not]at ha hb;rw [hl]at hn;have:a≠b:=by
     have:=(List.nodup_cons.1 hn).1;simp only [qk,not_or]at this;exact this.1
    exact this (by rw [ha.2,hb.2])
  have h3:l.length=(l.filter λa=>decide (a≠N)).length+(l.filter λa=>!decide (a≠N)).length:=by
   clear h h1 h2 hd;induction l with
   |nil=>rfl
   |cons a l ih =>
    by_cases e:a=N
    ·simp [e,List.filter_cons]at ih ⊢;omega
    ·simp [e,List.filter_cons]at ih ⊢;omega
  omega
theorem GA.len{x:SS}{s:Nat}{out:List Ent}(h:GA x s out):out.length<=256:=by
 have:=qz8 256 (out.map (·.1)) h.nd (λa ha=>by
  obtain ⟨e,he,rfl⟩:=List.mem_map.1 ha;exact h.lt e he)
 simpa using this
def SS.ok(x:SS):Prop:=∀s a t,s<256->x.nx s a=some t->t<256
theorem qlk{α:Type}{l m:List α}{k:Nat}{a:α}(h:l[k]?=some a):(l++m)[k]?=some a:=by
 have:=(qm.1 h).1;rw [qg this];exact h
theorem qBm.app{x:SS}{out m:List Ent}{k:Nat}{e:Ent}(h:qBm x out k e):qBm x (out++m) k e:=by
 rcases h with h|⟨b,a,eb,h1,h2,h3⟩
 ·exact .inl h
 ·exact .inr ⟨b,a,eb,h1,qlk h2,h3⟩
theorem quc{x:SS}(hx:x.ok){s:Nat}{out:List Ent}(h:GA x s out){i a:Nat}{e:Ent}(he:out[i]?=some e)(hh:x.hm e.1=false)(ha:a<x.nA) :
  GA x s (qvN x i e out a)/\∃l,qvN x i e out a=out++l:=by
 unfold qvN;split
 ·exact ⟨h,[],by simp⟩
 ·rename_i t ht;split
  ·exact ⟨h,[],by simp⟩
  ·rename_i hn;refine ⟨⟨?_,?_,qlk h.zero,?_⟩,_,rfl⟩
   ·rw [List.map_append,List.nodup_append];refine ⟨h.nd,by simp,?_⟩;intro b hb c hc e1;simp only [qh,List.map_nil,List.mem_singleton]at hc;subst e1;subst hc;exact hn hb
   ·intro e' h';rw [qj]at h';rcases h' with h'|h'
    ·exact h.lt e' h'
    ·simp only [List.mem_singleton]at h';subst h';exact hx _ _ _ (h.lt e (List.mem_of_getElem? he)) ht
   ·intro k e' h';by_cases hk:k<out.length
    ·rw [qg hk]at h';exact (h.aft k e' h').app
    ·rw [List.getElem?_append_right (by omega)]at h';have hk0:k-out.length=0:=by
      rcases Nat.eq_zero_or_pos (k-out.length)with h0|h0
      ·exact h0
      ·rw [List.getElem?_eq_none (by simp;omega)]at h';cases h'
     rw [hk0]at h';simp only [List.getElem?_cons_zero,qb]at h';subst h';have:=(qm.1 he).1;exact .inr ⟨i,a,e,by omega,qlk he,ha,rfl,rfl,ht,hh,rfl⟩
theorem qin{x:SS}(hx:x.ok){s:Nat}{out:List Ent}(h:GA x s out){i:Nat}{e:Ent}(he:out[i]?=some e)(hh:x.hm e.1=false) :
  ∀n,n<=x.nA->GA x s (qeL x i e out n)/\∃l,qeL x i e out n=out++l
 |0,_=>⟨h,[],by simp [qeL]⟩
 |n+1,hn=>by
  obtain ⟨h1,l,h2⟩:=qin hx h he hh n (by omega);rw [qll];obtain ⟨h3,l',h4⟩:=quc hx h1 (i:=i) (a:=n) (e:=e) (by rw [h2];exact qlk he) hh (by omega);exact ⟨h3,l++l',by rw [h4,h2,List.append_assoc]⟩
theorem qqJ{x:SS}(hx:x.ok){s:Nat}{out:List Ent}(h:GA x s out)(i:Nat):GA x s (qpj x i out)/\∃l,qpj x i out=out++l:=by
 unfold qpj;split
 ·exact ⟨h,[],by simp⟩
 ·rename_i e he;split
  ·exact ⟨h,[],by simp⟩
  ·rename_i hh;exact qin hx h he (by simpa using hh) _ (by omega)
theorem qjb{x:SS}(hx:x.ok){s:Nat}(hs:s<256):∀i,GA x s (RA x s i)
 |0=>⟨by simp [RA],by simp [RA,hs],rfl,λk e h=>by
   cases k with
   |zero=>simp only [RA,List.getElem?_cons_zero,qb]at h;subst h;exact .inl ⟨rfl,rfl,rfl,rfl⟩
   |succ k=>simp [RA]at h⟩
 |i+1=>(qqJ hx (qjb hx hs i) i).1
theorem qC9{x:SS}(hx:x.ok){s:Nat}(hs:s<256)(i:Nat):∀k,∃l,RA x s (i+k)=RA x s i++l
 |0=>⟨[],by simp⟩
 |k+1=>by
  obtain ⟨l,h⟩:=qC9 hx hs i k;obtain ⟨l',h'⟩:=(qqJ hx (qjb hx hs (i+k)) (i+k)).2;exact ⟨l++l',by show qpj x (i+k) (RA x s (i+k))=_;rw [h',h,List.append_assoc]⟩
theorem qur{x:SS}{s i:Nat}(h:(RA x s i).length<=i):∀k,RA x s (i+k)=RA x s i
 |0=>rfl
 |k+1=>by
  show qpj x (i+k) (RA x s (i+k))=_;rw [qur h k];unfold qpj;rw [List.getElem?_eq_none (by omega)]
theorem qAS{x:SS}{s i:Nat}(hx:x.ok)(hs:s<256)(h:(RA x s i).length<=i):qph x s=RA x s i:=by
 unfold qph;by_cases hi:i<=256
 ·obtain ⟨k,e⟩:∃k,256=i+k:=⟨256-i,by omega⟩
  rw [e];exact qur h k
 ·obtain ⟨k,rfl⟩:∃k,i=256+k:=⟨i-256,by omega⟩
  exact (qur (GA.len (qjb hx hs 256)) k).symm
theorem qh6{x:SS}(hx:x.ok){s:Nat}(hs:s<256):GA x s (qph x s):=qjb hx hs 256
theorem qEF{x:SS}(hx:x.ok){s:Nat}(hs:s<256){i j k:Nat}{e:Ent}(h:(RA x s i)[k]?=some e)(hj:i<=j):(RA x s j)[k]?=some e:=by
 obtain ⟨d,rfl⟩:∃d,j=i+d:=⟨j-i,by omega⟩
 obtain ⟨l,e1⟩:=qC9 hx hs i d;rw [e1];exact qlk h
theorem qDD{x:SS}(hx:x.ok){s:Nat}(hs:s<256):∀{k:Nat} {e:Ent},(qph x s)[k]?=some e->(RA x s k)[k]?=some e:=by
 intro k e h;by_cases hk:k<(RA x s k).length
 ·obtain ⟨e',he'⟩:∃e',(RA x s k)[k]?=some e':=⟨_,List.getElem?_eq_getElem hk⟩
  have hl:=(GA.len (qjb hx hs k))
  have:=qEF hx hs he' (j:=256) (by omega);unfold qph at h;rw [h]at this;rw [he',this]
 ·have:=qAS hx hs (i:=k) (by omega);rw [this,List.getElem?_eq_none (by omega)]at h;cases h
theorem qsW{x:SS}(hx:x.ok){s:Nat}{out:List Ent}(h:GA x s out){i:Nat}{e:Ent}(he:out[i]?=some e)(hh:x.hm e.1=false){a t:Nat}(ht:x.nx e.1 a=some t) :
  ∀n,n<=x.nA->a<n->t∈(qeL x i e out n).map (·.1)
 |0,_,h0=>by omega
 |n+1,hn,h0=>by
  rw [qll];obtain ⟨h1,l,h2⟩:=qin hx h he hh n (by omega);obtain ⟨_,l',h4⟩:=quc hx h1 (i:=i) (a:=n) (e:=e) (by rw [h2];exact qlk he) hh (by omega);by_cases ha:a<n
  ·rw [h4,List.map_append,qj];exact .inl (qsW hx h he hh ht n (by omega) ha)
  ·have:a=n:=by omega
   subst this;unfold qvN;rw [ht];simp only
   split
   ·assumption
   ·simp
theorem qvC{x:SS}(hx:x.ok){s:Nat}(hs:s<256){e:Ent}(he:e∈qph x s)(hh:x.hm e.1=false){a t:Nat}(ha:a<x.nA)(ht:x.nx e.1 a=some t):∃e'∈qph x s,e'.1=t:=by
 obtain ⟨k,hk⟩:=List.mem_iff_getElem?.1 he;have h1:=qDD hx hs hk;have h2:=qsW hx (qjb hx hs k) h1 hh ht x.nA (by omega) ha;have h3:RA x s (k+1)=qeL x k e (RA x s k) x.nA:=by
  show qpj x k (RA x s k)=_;unfold qpj;rw [h1];simp [hh]
 rw [<- h3]at h2;obtain ⟨e',h4,h5⟩:=List.mem_map.1 h2;obtain ⟨j,hj⟩:=List.mem_iff_getElem?.1 h4;have hk':=(GA.len (qh6 hx hs))
 have hlt:=(qm.1 hk).1;exact ⟨e',List.mem_of_getElem? (qEF hx hs hj (j:=256) (by omega)),h5⟩
theorem qAT{x:SS}(hx:x.ok){s:Nat}(hs:s<256)(p:Nat->Prop)(h0:p s)(h:∀u a t,p u->x.hm u=false->a<x.nA->x.nx u a=some t->p t):∀e∈qph x s,p e.1:=by
 have hg:=qh6 hx hs;have key:∀n:Nat,∀k:Nat,k<n->∀e:Ent,(qph x s)[k]?=some e->p e.1:=by
  intro n;induction n with
  |zero=>intro k hk;omega
  |succ n ih =>
   intro k hk e he;rcases hg.aft k e he with ⟨rfl,_⟩|⟨b,a,eb,hb,h1,h2,_,_,h3,h4,_⟩
   ·rw [hg.zero]at he;obtain rfl:=Option.some.inj he;exact h0
   ·exact h _ a _ (ih b (by omega) eb h1) h4 h2 h3
 intro e he;obtain ⟨k,hk⟩:=List.mem_iff_getElem?.1 he;exact key (k+1) k (by omega) e hk
theorem qE3(l:List Int)(m:Int):qfJ I l m=decide (m∈l):=by
 have:=qwA (τ:=I) rfl (l:=l) (k:=m);by_cases h:m∈l
 ·rw [decide_eq_true h];exact this.2 h
 ·rw [decide_eq_false h];cases hm:qfJ I l m with
  |false=>rfl
  |true=>exact absurd (this.1 hm) h
theorem qEU(l:List Int)(m k:Int):m∈qhF I l k↔m∈l\/m=k:=by
 unfold qhF;rw [qE3];by_cases h:k∈l
 ·rw [decide_eq_true h];exact ⟨λh=>.inl h,λh'=>h'.elim id λe=>e▸h⟩
 ·rw [decide_eq_false h];show m∈l++[k]↔_;simp
def nxB(m:Mc)(bar:Nat->Bool)(s a:Nat):Option Nat :=
 if a<m.2.1.length/\bar a=false/\hold (qfj (qyH m a)) s=true then some (qxq (dos (qyH m a)) s)else none
def qen(m:Mc)(bar:Nat->Bool):SS:=⟨m.2.1.length,qs1 m,nxB m bar⟩
theorem qhy{m:Mc}(hv:VM m)(bar:Nat->Bool):(qen m bar).ok:=by
 intro s a t hs h;simp only [qen,nxB]at h;split at h
 ·rename_i hc;cases h;obtain ⟨x,hx⟩:∃x,m.2.1[a]?=some x:=⟨_,List.getElem?_eq_getElem hc.1⟩
  rw [qib hx];have h8:=hv.f8;have hd:=hv.ds x (List.mem_of_getElem? hx);have:=qzc (f:=8) (hd.ok h8) (λy hy=>by have:=hd.1 y hy;omega) (by omega) (s:=s) (by omega);omega
 ·cases h
theorem qqI{m:Mc}(hv:VM m)(bar:Nat->Bool){n:Nat}(hn:n<2 ^ m.1.length):∀e∈qph (qen m bar) n,e.1<2 ^ m.1.length:=by
 have h256:=qlU hv;refine qAT (qhy hv bar) (by omega) (λu=>u<2 ^ m.1.length) hn λu a t hu _ _ ht=>?_;simp only [qen,nxB]at ht;split at ht
 ·rename_i hc;cases ht;obtain ⟨x,hx⟩:∃x,m.2.1[a]?=some x:=⟨_,List.getElem?_eq_getElem hc.1⟩
  rw [qib hx];have hd:=hv.ds x (List.mem_of_getElem? hx);exact qzc (hd.ok hv.f8) (λy hy=>(hd.1 y hy).2) hv.f8 hu
 ·cases ht
def prg(e:Ent):Int×Int×Int×Unit:=((e.1:Int),e.2.1,e.2.2.1,())
theorem qAm(l:List Ent)(t:Nat):((t:Int)∈(l.map λe=>((e.1:Nat):Int)))↔t∈l.map (·.1):=by
 simp only [List.mem_map];constructor
 ·rintro ⟨e,he,h⟩;exact ⟨e,he,by omega⟩
 ·rintro ⟨e,he,h⟩;exact ⟨e,he,by omega⟩
theorem qzp{m:Mc}(hv:VM m){b:Nat}(hb:b<9223372036854775808){s:Nat}{out:List Ent}(hg:GA (qen m b.testBit) s out){i:Nat}{e:Ent}(he:out[i]?=some e)(hh:qs1 m e.1=false){kn:List Int}(hk:∀t,t∈kn↔t∈out.map λe=>((e.1:Nat):Int)) :
  Ok (qG (λ(s7:(Int×(List (Int×Int×Int×Unit))×(List Int))) =>
         bif decide (s7.1<((bm m).1.length:Int))then
          (idx (bm m).1 s7.1).bind λx8 =>
          ((qEg .i64 (b:Int) s7.1).bind λx9 =>
           bif decide (qyM .i64 x9 (1:Int)=0)then
            (qaJ x8 (e.1:Int)).bind λx10 =>
            bif x10 then
             (idx (bm m).2.1 s7.1).bind λx11 =>
             (qbO x11 (e.1:Int)).bind λx12 =>
             (bif !(qfJ I s7.2.2 x12)then
               (app s7.2.1 ([(x12,(i:Int),s7.1,())])).bind λx13 =>
               some (x13,qhF I s7.2.2 x12)
              else
               some (s7.2.1,s7.2.2)).bind λ(p14:((List (Int×Int×Int×Unit))×(List Int))) =>
             some (false,p14.1,p14.2)
            else
             some (false,s7.2.1,s7.2.2)
           else
            some (false,s7.2.1,s7.2.2)).bind λ(p15:(Bool×(List (Int×Int×Int×Unit))×(List Int))) =>
          bif p15.1 then
           some (.inr (.inr (p15.2.1,p15.2.2)))
          else
           some (.inl (w64 (s7.1+1),p15.2.1,p15.2.2))
         else
          some (.inr (.inl (s7.2.1,s7.2.2)))) (0,out.map prg,kn))
   λ(r:((List (Int×Int×Int×Unit))×(List Int))⊕((List (Int×Int×Int×Unit))×(List Int)))=>∃kn',r=.inl ((qeL (qen m b.testBit) i e out m.2.1.length).map prg,kn')/\∀t,t∈kn'↔t∈(qeL (qen m b.testBit) i e out m.2.1.length).map λe=>((e.1:Nat):Int):=by
 have h8:=hv.f8;have h10:=hv.a10;have hE:e.1<256:=hg.lt e (List.mem_of_getElem? he);have hlen:(bm m).1.length=m.2.1.length:=by simp [bm]
 refine qcN m.2.1.length (λj (st:Int×List (Int×Int×Int×Unit)×List Int)=>st.1=(j:Int)/\st.2.1=(qeL (qen m b.testBit) i e out j).map prg/\∀t,t∈st.2.2↔t∈(qeL (qen m b.testBit) i e out j).map λe=>((e.1:Nat):Int)) _ ⟨rfl,rfl,hk⟩ ?_;rintro j ⟨j0,l,kn'⟩ hj ⟨e1,e2,e3⟩;simp only at e1 e2 e3;subst e1;by_cases hlt:j<m.2.1.length
 ·have h0:decide ((j:Int)<((bm m).1.length:Int))=true:=by rw [hlen];simp<;>omega
  obtain ⟨a,ha⟩:∃a,m.2.1[j]?=some a:=⟨_,List.getElem?_eq_getElem hlt⟩
  have hm:=List.mem_of_getElem? ha;have i1:(bm m).1[j]?=some (bt (qfj a)):=by simp [bm,ha]
  have i2:(bm m).2.1[j]?=some (bt (dos a)):=by simp [bm,ha]
  have hsh:=qCF (a:=b) (x:=(j:Int)) (by omega) (by omega);rw [Int.toNat_natCast]at hsh;simp only [h0,cond_true,q7 i1,qa];rw [hsh];simp only [qa];rw [qDM hb];have hgn:qeL (qen m b.testBit) i e out (j+1)=qvN (qen m b.testBit) i e (qeL (qen m b.testBit) i e out j) j:=qll _ _ _ _ _;obtain ⟨hg2,_⟩:=qin (qhy hv _) hg he hh j (by show j<=m.2.1.length;omega);have hl2:=hg2.len;by_cases hbit:b.testBit j=true
  ·have hnx:(qen m b.testBit).nx e.1 j=none:=by simp [qen,nxB,hbit]
   have ht:qvN (qen m b.testBit) i e (qeL (qen m b.testBit) i e out j) j=qeL (qen m b.testBit) i e out j:=by unfold qvN;rw [hnx]
   simp only [hbit,if_true];simp only [show decide ((1:Int)=0)=false from rfl,cond_false,qa];rw [wq (by omega) (by omega),qa1];rw [hgn,ht];exact ⟨hlt,by simp,e2,e3⟩
  ·have hbit':b.testBit j=false:=by simpa using hbit
   simp only [hbit',qf,if_false,decide_true,cond_true];rw [qnr ((hv.nd a hm).ok h8) hE];simp only [qa];by_cases c:hold (qfj a) e.1=true
   ·have hnx:(qen m b.testBit).nx e.1 j=some (qxq (dos a) e.1):=by
     simp only [qen,nxB];rw [qib ha,if_pos ⟨hlt,hbit',c⟩]
    simp only [c,cond_true,q7 i2,qa];rw [qDR ((hv.ds a hm).ok h8) hE];simp only [qa,qE3];by_cases hin:((qxq (dos a) e.1:Nat):Int)∈kn'
    ·have ht:qvN (qen m b.testBit) i e (qeL (qen m b.testBit) i e out j) j=qeL (qen m b.testBit) i e out j:=by
      unfold qvN;rw [hnx];simp only
      rw [if_pos ((qAm _ _).1 ((e3 _).1 hin))]
     rw [decide_eq_true hin];simp only [Bool.not_true,cond_false,qa];rw [wq (by omega) (by omega),qa1];rw [hgn,ht];exact ⟨hlt,by simp,e2,e3⟩
    ·have ht:qvN (qen m b.testBit) i e (qeL (qen m b.testBit) i e out j) j=qeL (qen m b.testBit) i e out j++[(qxq (dos a) e.1,(i:Int),(j:Int),e.2.2.2++[(j:Int)])]:=by
      unfold qvN;rw [hnx];simp only
      rw [if_neg (λh=>hin ((e3 _).2 ((qAm _ _).2 h)))]
     rw [decide_eq_false hin];simp only [Bool.not_false,cond_true];rw [qdz (by rw [e2];simp;omega)];simp only [qa,cond_false];rw [wq (by omega) (by omega),qa1];rw [hgn,ht];refine ⟨hlt,by simp,?_,λt=>?_⟩
     ·rw [e2,List.map_append];rfl
     ·simp only
      rw [qEU,e3,List.map_append,qj];simp
   ·have c':hold (qfj a) e.1=false:=by simpa using c
    have hnx:(qen m b.testBit).nx e.1 j=none:=by
     simp only [qen,nxB];rw [qib ha,if_neg (λh=>c h.2.2)]
    have ht:qvN (qen m b.testBit) i e (qeL (qen m b.testBit) i e out j) j=qeL (qen m b.testBit) i e out j:=by unfold qvN;rw [hnx]
    simp only [c',cond_false,qa];rw [wq (by omega) (by omega),qa1];rw [hgn,ht];exact ⟨hlt,by simp,e2,e3⟩
 ·have:j=m.2.1.length:=by omega
  subst this;have h0:decide ((m.2.1.length:Int)<((bm m).1.length:Int))=false:=by rw [hlen];simp
  simp only [h0,cond_false];rw [qaT];exact ⟨kn',by rw [e2],e3⟩
theorem qoy{m:Mc}(hv:VM m){n b:Nat}(hn:n<256)(hb:b<9223372036854775808):qaN (bm m) (n:Int) (b:Int)=some ((qph (qen m b.testBit) n).map prg):=by
 have hok:=qhy hv b.testBit;unfold qaN;have key:∀o:Option (List (Int×Int×Int×Unit)),Ok o (λr=>r=(qph (qen m b.testBit) n).map prg)->(o.bind λp19=>some p19)=some ((qph (qen m b.testBit) n).map prg):=by
  intro o h;rw [h.eq];rfl
 refine key _ (qu5 (λst=>257-st.2.1.toNat) (λ(st:List (Int×Int×Int×Unit)×Int×List Int)=>∃i:Nat,st.2.1=(i:Int)/\i<=256/\st.1=(RA (qen m b.testBit) n i).map prg/\∀t,t∈st.2.2↔t∈(RA (qen m b.testBit) n i).map λe=>((e.1:Nat):Int)) _ ⟨0,rfl,by omega,rfl,λt=>?_⟩ ?_)
 ·simp only
  rw [qEU];simp [RA]
 ·rintro ⟨l,i0,kn⟩ ⟨i,e1,e0,e2,e3⟩;simp only at e1 e2 e3;subst e1;have hg:=qjb hok hn i;have hl:=hg.len;have hll:l.length=(RA (qen m b.testBit) n i).length:=by rw [e2];simp
  by_cases hlt:i<(RA (qen m b.testBit) n i).length
  ·obtain ⟨e,he⟩:∃e,(RA (qen m b.testBit) n i)[i]?=some e:=⟨_,List.getElem?_eq_getElem hlt⟩
   have hE:e.1<256:=hg.lt e (List.mem_of_getElem? he);have h0:decide ((i:Int)<(l.length:Int))=true:=by simp<;>omega
   have hi:l[i]?=some (prg e):=by rw [e2];simp [he]
   have hst:RA (qen m b.testBit) n (i+1)=if qs1 m e.1=true then RA (qen m b.testBit) n i else qeL (qen m b.testBit) i e (RA (qen m b.testBit) n i) m.2.1.length:=by
    show qpj _ _ _=_;unfold qpj;rw [he];rfl
   simp only [h0,cond_true,q7 hi,qa];rw [show (prg e).1=(e.1:Int)from rfl,qs6 hv hE];simp only [qa];by_cases hh:qs1 m e.1=true
   ·simp only [hh,cond_true,qa];rw [wq (by omega) (by omega),qa1];rw [if_pos hh]at hst;exact ⟨⟨i+1,by simp,by omega,by rw [hst];exact e2,by rw [hst];exact e3⟩,by simp only;omega⟩
   ·have hh':qs1 m e.1=false:=by simpa using hh
    rw [if_neg hh]at hst;simp only [hh',cond_false];obtain ⟨r,hr,kn',rfl,h3⟩:=qzp hv hb hg he hh' e3;rw [<- e2]at hr;rw [hr];simp only [qa,Sum.elim_inl];rw [wq (by omega) (by omega),qa1];exact ⟨⟨i+1,by simp,by omega,by rw [hst],by rw [hst];exact h3⟩,by simp only;omega⟩
  ·have h0:decide ((i:Int)<(l.length:Int))=false:=by simp<;>omega
   simp only [h0,cond_false];rw [qaT,e2,qAS hok hn (i:=i) (by omega)]
theorem GA.path{x:SS}{s:Nat}{out:List Ent}(h:GA x s out):∀(n k:Nat) (e:Ent),k<n->out[k]?=some e->e.2.2.2.length<=k
 |0,_,_,h0,_=>by omega
 |n+1,k,e,h0,he=>by
  rcases h.aft k e he with ⟨rfl,_,_,h1⟩|⟨b,a,eb,hb,h1,_,_,_,_,_,h2⟩
  ·rw [h1];simp
  ·have:=GA.path h n b eb (by omega) h1;rw [h2,List.length_append,List.length_singleton];omega
def hIx(m:Mc)(l:List Ent):Option (Nat×Ent):=qax (λi e=>if qs1 m e.1=true then some (i,e)else none) 0 l
theorem qmo{α ρ π:Type}(g:Nat->α->Option ρ)(f:ρ->π):∀(l:List α) (k:Nat),qax (λi a=>(g i a).map f) k l=(qax g k l).map f
 |[],_=>rfl
 |a::l,k=>by
  unfold qax;cases g k a with
  |some r=>rfl
  |none=>exact qmo g f l (k+1)
theorem qpY{α ρ:Type}{g:Nat->α->Option ρ}:∀(l:List α) (k:Nat) {r:ρ},qax g k l=some r->∃i a,l[i]?=some a/\g (k+i) a=some r
 |[],_,_,h=>by cases h
 |a::l,k,r,h=>by
  unfold qax at h;cases hg:g k a with
  |some r'=>rw [hg]at h;cases h;exact ⟨0,a,rfl,hg⟩
  |none =>
   rw [hg]at h;obtain ⟨i,a',h1,h2⟩:=qpY l (k+1) h;exact ⟨i+1,a',h1,by rw [show k+(i+1)=k+1+i by omega];exact h2⟩
theorem qwn{m:Mc}{l:List Ent}{i:Nat}{e:Ent}(h:hIx m l=some (i,e)):l[i]?=some e/\qs1 m e.1=true:=by
 obtain ⟨j,a,h1,h2⟩:=qpY l 0 h;simp only [Nat.zero_add]at h2;split at h2
 ·rename_i hh;cases h2;exact ⟨h1,hh⟩
 ·cases h2
theorem qyV{x:SS}{s:Nat}{out:List Ent}(hg:GA x s out){k0:Nat}{e0:Ent}(he0:out[k0]?=some e0) :
  qG (λ(s11:((List Int)×Int×Int×Int)) =>
     bif decide (s11.2.2.1>=0)then
      (app s11.1 ([s11.2.2.2])).bind λx12 =>
      (idx (out.map prg) s11.2.2.1).bind λx13 =>
      some (.inl (x12,x13.1,x13.2.1,x13.2.2.1))
     else
      some (.inr s11.1)) ([],(prg e0).1,(prg e0).2.1,(prg e0).2.2.1)=some e0.2.2.2.reverse:=by
 have hl:=hg.len;refine Ok.eq (qu5 (λst=>(st.2.2.1+1).toNat) (λ(st:List Int×Int×Int×Int)=>∃(k:Nat) (e:Ent),out[k]?=some e/\st.2=((e.1:Int),e.2.1,e.2.2.1)/\e0.2.2.2=e.2.2.2++st.1.reverse/\st.1.length<=e0.2.2.2.length) _ ⟨k0,e0,he0,rfl,by simp,by simp⟩ ?_);rintro ⟨acc,q⟩ ⟨k,e,he,e1,e2,e3⟩;simp only at e1 e2 e3;subst e1;have hp0:=hg.path (k0+1) k0 e0 (by omega) he0;have hk0:=(qm.1 he0).1;rcases hg.aft k e he with ⟨rfl,h1,h2,h3⟩|⟨b,a,eb,hb,h1,h2,h3,h4,h5,h6,h7⟩
 ·simp only
  rw [h1];simp only [show decide ((-1:Int)>=0)=false from rfl,cond_false];rw [qaT,e2,h3];simp
 ·simp only
  rw [h3,h4];have h0:decide ((b:Int)>=0)=true:=by simp
  have hi:(out.map prg)[b]?=some (prg eb):=by rw [List.getElem?_map,h1];rfl
  simp only [h0,cond_true];rw [qdz (by omega)];simp only [qa,q7 hi];rw [qa1];refine ⟨⟨b,eb,h1,rfl,?_,?_⟩,?_⟩
  ·simp only
   rw [e2,h7];simp
  ·have:e0.2.2.2.length=(e.2.2.2++acc.reverse).length:=by rw [<- e2]
   rw [h7]at this;simp only [List.length_append,List.length_singleton,List.length_reverse]at this ⊢;omega
  ·rcases hg.aft b eb h1 with ⟨_,h8,_⟩|⟨b',_,_,h8,_,_,h9,_⟩
   ·show (eb.2.1+1).toNat<((b:Int)+1).toNat;rw [h8];omega
   ·show (eb.2.1+1).toNat<((b:Int)+1).toNat;rw [h9];omega
def qrd(m:Mc)(n:Nat):List Int×Int:=match hIx m (qph (qen m λ_=>false) n)with
 |some p=>(p.2.2.2.2,0)
 |none=>([],12)
theorem qv7:Nat.testBit 0=λ_=>false:=by funext k;simp
theorem qzx{m:Mc}(hv:VM m){out:List Ent}(hl:out.length<=256)(hs:∀e∈out,e.1<256) :
  qG (ρ:=Unit⊕Int) (λ(s4:Int) =>
     bif decide (s4<((out.map prg).length:Int))then
      (idx (out.map prg) s4).bind λx5 =>
      (qae (bm m) x5.1).bind λx6 =>
      bif x6 then
       some (.inr (.inr s4))
      else
       some (.inl (w64 (s4+1)))
     else
      some (.inr (.inl ()))) 0=some (qBb ((hIx m out).map λp=>(p.1:Int))):=by
 have h:=qau out (λs4=>(idx (out.map prg) s4).bind λx5 =>
      (qae (bm m) x5.1).bind λx6 =>
      bif x6 then
       some (.inr (.inr s4))
      else
       some (.inl (w64 (s4+1)))) (λi e=>(if qs1 m e.1=true then some (i,e)else none).map λ(p:Nat×Ent)=>(p.1:Int)) (λi e he=>by
  have hi:(out.map prg)[i]?=some (prg e):=by rw [List.getElem?_map,he];rfl
  have:=(qm.1 he).1;rw [q7 hi];simp only [qa];rw [show (prg e).1=(e.1:Int)from rfl,qs6 hv (hs e (List.mem_of_getElem? he))];simp only [qa];by_cases c:qs1 m e.1=true
  ·simp [c,stp]
  ·have c':qs1 m e.1=false:=by simpa using c
   simp only [c',cond_false];rw [wq (by omega) (by omega)];simp [stp])
 rw [List.length_map];refine h.trans ?_;rw [qmo];rfl
theorem qnJ{m:Mc}(hb:MB m)(s:Int):qb8 m s=some (if stE m s=0 then qrd m s.toNat else ([],stE m s)):=by
 unfold qb8;rw [qmy hb];simp only [qa];by_cases h:stE m s=0
 ·obtain ⟨hv,_,ho,n,rfl,hn,hn2⟩:=qDx hb h;simp only [h,decide_true,Bool.not_true,cond_false,if_true,ho,Int.toNat_natCast];have hms:=qoy hv (n:=n) (b:=0) hn2 (by omega);rw [qv7]at hms;rw [show ((0:Nat):Int)=0 from rfl]at hms;rw [hms];simp only [qa];have hg:=qh6 (qhy hv λ_=>false) hn2;have hl:=hg.len;rw [qzx hv hl hg.lt,qaa];unfold qrd;cases hx:hIx m (qph (qen m λ_=>false) n)with
  |none=>rfl
  |some p =>
   obtain ⟨i,e⟩:=p;obtain ⟨h1,h2⟩:=qwn hx;have hi:((qph (qen m λ_=>false) n).map prg)[i]?=some (prg e):=by rw [List.getElem?_map,h1];rfl
   have h0:decide ((i:Int)<0)=false:=by simp
   simp only [qi,qa,h0,cond_false,q7 hi];rw [qyV hg h1];have hp:=hg.path (i+1) i e (by omega) h1;have:=(qm.1 h1).1;simp only [qa];unfold qD9;rw [if_pos (by rw [List.length_reverse];omega),List.reverse_reverse];rfl
 ·simp [h]
theorem qre(x y:Int):∀l:List Int,y∈Go.Ab.quT x l↔y=x\/y∈l
 |[]=>by simp [Go.Ab.quT]
 |z::l=>by
  unfold Go.Ab.quT;split
  ·simp
  ·simp only [qk,qre x y l];constructor
   ·rintro (h|h|h)<;>simp [h]
   ·rintro (h|h|h)<;>simp [h]
theorem qog(y:Int):∀l:List Int,y∈qf8 l↔y∈l
 |[]=>by simp [qf8]
 |x::l=>by
  show y∈Go.Ab.quT x (qf8 l)↔_;rw [qre,qog y l,qk]
theorem qwq(x:Int):∀l:List Int,l.Pairwise (· < ·)->x∉l->(Go.Ab.quT x l).Pairwise (· < ·)
 |[],_,_=>by simp [Go.Ab.quT]
 |z::l,h,hx=>by
  unfold Go.Ab.quT;rw [List.pairwise_cons]at h;rw [qk,not_or]at hx;split
  ·rename_i hz;refine List.pairwise_cons.2 ⟨λy hy=>?_,List.pairwise_cons.2 h⟩;rcases qk.1 hy with rfl|hy
   ·omega
   ·have:=h.1 y hy;omega
  ·rename_i hz;refine List.pairwise_cons.2 ⟨λy hy=>?_,qwq x l h.2 hx.2⟩;rcases (qre x y l).1 hy with rfl|hy
   ·omega
   ·exact h.1 y hy
theorem qtc:∀l:List Int,l.Nodup->(qf8 l).Pairwise (· < ·)
 |[],_=>by simp [qf8]
 |x::l,h=>by
  rw [List.nodup_cons]at h;show (Go.Ab.quT x (qf8 l)).Pairwise _;exact qwq x _ (qtc l h.2) (λhm=>h.1 ((qog x l).1 hm))
theorem qv5:∀{l m:List Int},l.Pairwise (· < ·)->m.Pairwise (· < ·)->(∀x,x∈l↔x∈m)->l=m
 |[],[],_,_,_=>rfl
 |[],b::m,_,_,h=>by have:=(h b).2 List.mem_cons_self;cases this
 |a::l,[],_,_,h=>by have:=(h a).1 List.mem_cons_self;cases this
 |a::l,b::m,h1,h2,h=>by
  rw [List.pairwise_cons]at h1 h2;have e:a=b:=by
   rcases qk.1 ((h a).1 List.mem_cons_self)with e|e
   ·exact e
   ·rcases qk.1 ((h b).2 List.mem_cons_self)with e'|e'
    ·exact e'.symm
    ·have:=h1.1 b e';have:=h2.1 a e;omega
  subst e;rw [qv5 h1.2 h2.2 λx=>?_];constructor
  ·intro hx;rcases qk.1 ((h x).1 (List.mem_cons_of_mem _ hx))with e|e
   ·have:=h1.1 x hx;omega
   ·exact e
  ·intro hx;rcases qk.1 ((h x).2 (List.mem_cons_of_mem _ hx))with e|e
   ·have:=h2.1 x hx;omega
   ·exact e
def qjJ(l:List Ent)(N:Nat):List Int:=List.map (λi:Nat=>(i:Int)) ((List.range N).filter λi=>decide (i∈l.map (·.1)))
theorem qpi(l:List Ent)(N:Nat):(qjJ l N).Pairwise (· < ·):=by
 unfold qjJ;rw [List.pairwise_map];exact List.Pairwise.imp (λh=>by omega) (List.Pairwise.filter _ List.pairwise_lt_range)
theorem qr4{x:SS}{s:Nat}{out:List Ent}(hg:GA x s out){N:Nat}(hN:∀e∈out,e.1<N):qf8 (out.map λe=>((e.1:Nat):Int))=qjJ out N:=by
 refine qv5 (qtc _ ?_) (qpi _ _) λy=>?_
 ·have:=hg.nd;rw [List.Nodup,List.pairwise_map]at this ⊢;exact this.imp λh e=>h (by omega)
 ·rw [qog];unfold qjJ;simp only [List.mem_map,List.mem_filter,List.mem_range,decide_eq_true_eq];constructor
  ·rintro ⟨e,he,rfl⟩;exact ⟨e.1,⟨hN e he,e,he,rfl⟩,rfl⟩
  ·rintro ⟨a,⟨_,e,he,rfl⟩,rfl⟩;exact ⟨e,he,rfl⟩
def qfO(m:Mc)(n:Nat):List Int:=qjJ (qph (qen m λ_=>false) n) (2 ^ m.1.length)
theorem qiV{m:Mc}(hb:MB m)(s:Int):qbf m s=some (if stE m s=0 then (qfO m s.toNat,0)else ([],stE m s)):=by
 unfold qbf;rw [qmy hb];simp only [qa];by_cases h:stE m s=0
 ·obtain ⟨hv,_,ho,n,rfl,hn,hn2⟩:=qDx hb h;simp only [h,decide_true,Bool.not_true,cond_false,if_true,ho,Int.toNat_natCast];have hms:=qoy hv (n:=n) (b:=0) hn2 (by omega);rw [qv7]at hms;rw [show ((0:Nat):Int)=0 from rfl]at hms;rw [hms];simp only [qa];have hg:=qh6 (qhy hv λ_=>false) hn2;have hl:=hg.len;rw [quP ((qph (qen m λ_=>false) n).map prg) (λx6=>x6.1)]
  ·simp only [qa];rw [List.map_map];unfold qAR;rw [if_pos (by simp;omega)];simp only [qa];have:=qr4 hg (qqI hv (λ_=>false) hn);unfold qfO;rw [<- this];rfl
  ·intro i a out ha ho';have hlt:=(qm.1 ha).1;rw [List.length_map]at hlt;have h0:decide ((i:Int)<(((qph (qen m λ_=>false) n).map prg).length:Int))=true:=by rw [List.length_map];simp<;>omega
   simp only [h0,cond_true,q7 ha,qa];rw [qdz (by omega)];simp only [qa];rw [wq (by omega) (by omega)]
  ·intro out ho';have h0:decide ((((qph (qen m λ_=>false) n).map prg).length:Int)<(((qph (qen m λ_=>false) n).map prg).length:Int))=false:=by simp
   simp only [h0,cond_false]
 ·simp [h]
def qyy(m:Mc)(k:Nat):Mc:=(m.1,m.2.1.take k,m.2.2.1,())
theorem qy6{m:Mc}(hb:MB m)(k:Nat):MB (qyy m k) where
 fl:=hb.fl
 ac:=by
  have:=hb.ac;show (m.2.1.take k).length<=12;rw [List.length_take];omega
 hm:=hb.hm
 fn:=hb.fn
 an:=λa ha=>hb.an a (List.mem_of_mem_take ha)
 ht:=hb.ht
theorem qsH{α:Type}{f:Nat->α->Int}:∀{l:List α} {k:Nat},(∀(i:Nat) a,l[i]?=some a->f (k+i) a=0)->(qai f k l).2=0
 |[],k,_=>rfl
 |b::l,k,h=>by
  simp only [qai];rw [if_pos (by simpa using h 0 b rfl)];exact qsH λi a ha=>by
   rw [show k+1+i=k+(i+1) by omega];exact h (i+1) a (by simpa using ha)
theorem qwa{m:Mc}(h:(qfX m).2=0)(k:Nat):(qfX (qyy m k)).2=0:=by
 have hl:(m.2.1.take k).length<=m.2.1.length:=by rw [List.length_take];omega
 unfold qfX at h ⊢;show (if (m.1.length:Int) > 0 then (if (m.1.length:Int)<=8/\((m.2.1.take k).length:Int)<=10/\(m.2.2.1.length:Int)<=4 then
  (if (qai (nmE m.1) 0 m.1).2=0 then (if (qai (acE (qyy m k)) 0 (m.2.1.take k)).2=0 then qai (hmE m) 0 m.2.2.1 else qai (acE (qyy m k)) 0 (m.2.1.take k))else qai (nmE m.1) 0 m.1)else (0,8))else (0,10)).2=0
 split at h
 ·rename_i h0;rw [if_pos h0];split at h
  ·rename_i h1;rw [if_pos ⟨h1.1,by omega,h1.2.2⟩];split at h
   ·rename_i h2;rw [if_pos h2];split at h
    ·rename_i h3;have h4:(qai (acE (qyy m k)) 0 (m.2.1.take k)).2=0:=qsH λi a ha=>by
      rw [List.getElem?_take]at ha;split at ha
      ·rename_i hik;have h5:=qnj h3 i a ha;rw [Nat.zero_add]at h5 ⊢;have e:acE (qyy m k) i a=acE m i a:=by
        unfold acE;have e2:(qyy m k).2.1.take i=m.2.1.take i:=by
         show (m.2.1.take k).take i=_;rw [List.take_take,Nat.min_eq_left (by omega)]
        rw [e2];rfl
       rw [e];exact h5
      ·cases ha
     rw [if_pos h4];exact h
    ·rename_i h3;exact absurd h h3
   ·rename_i h2;exact absurd h h2
  ·simp at h
 ·simp at h
def Sub(m1 m2:Mc):Prop:=m1.1=m2.1/\m1.2.2.1=m2.2.2.1/\∀(i:Nat) a,m1.2.1[i]?=some a->m2.2.1[i]?=some a
theorem qEk(m:Mc)(k:Nat):Sub (qyy m k) m:=⟨rfl,rfl,λi a h=>by
 have h':(m.2.1.take k)[i]?=some a:=h;rw [List.getElem?_take]at h';split at h'
 ·exact h'
 ·cases h'⟩
theorem qCR(m:Mc){j k:Nat}(h:j<=k):Sub (qyy m j) (qyy m k):=⟨rfl,rfl,λi a hi=>by
 have h':(m.2.1.take j)[i]?=some a:=hi;show (m.2.1.take k)[i]?=some a;rw [List.getElem?_take]at h' ⊢;split at h'
 ·rw [if_pos (by omega)];exact h'
 ·cases h'⟩
abbrev no:Nat->Bool:=λ_=>false
abbrev found(m:Mc):List Ent:=qph (qen m no) 0
theorem qsT{m1 m2:Mc}(h1:VM m1)(h2:VM m2)(hs:Sub m1 m2):∀e∈found m1,∃e'∈found m2,e'.1=e.1:=by
 refine qAT (qhy h1 no) (by omega) (λu=>∃e'∈found m2,e'.1=u) ?_ ?_
 ·exact ⟨_,List.mem_of_getElem? (qh6 (qhy h2 no) (s:=0) (by omega)).zero,rfl⟩
 ·rintro u a t ⟨e,he,rfl⟩ hh ha ht;have ht':nxB m1 no e.1 a=some t:=ht;have ha':a<m1.2.1.length:=ha;have hx:m1.2.1[a]?=some m1.2.1[a]:=List.getElem?_eq_getElem ha';have hx2:=hs.2.2 a _ hx;have ha2:a<m2.2.1.length:=(qm.1 hx2).1;have e1:qyH m1 a=qyH m2 a:=by rw [qib hx,qib hx2]
  refine qvC (qhy h2 no) (by omega) he ?_ (a:=a) ha2 ?_
  ·show qs1 m2 e.1=false;have hh':qs1 m1 e.1=false:=hh;unfold qs1 at hh' ⊢;rw [<- hs.2.1];exact hh'
  ·show nxB m2 no e.1 a=some t;unfold nxB at ht' ⊢;rw [e1]at ht';split at ht'
   ·rename_i hc;rw [if_pos ⟨ha2,rfl,hc.2.2⟩];exact ht'
   ·cases ht'
theorem qtM{m:Mc}(hv:VM m)(x:Int):x∈qfO m 0↔∃e∈found m,((e.1:Nat):Int)=x:=by
 have hlt:=qqI hv no (n:=0) (qlU hv).1;unfold qfO qjJ;simp only [List.mem_map,List.mem_filter,List.mem_range,decide_eq_true_eq];constructor
 ·rintro ⟨n,⟨_,e,he,rfl⟩,rfl⟩;exact ⟨e,he,rfl⟩
 ·rintro ⟨e,he,rfl⟩;exact ⟨e.1,⟨hlt e he,e,he,rfl⟩,rfl⟩
theorem qtN{m1 m2:Mc}(h1:VM m1)(h2:VM m2)(hs:Sub m1 m2):∀x∈qfO m1 0,x∈qfO m2 0:=by
 intro x hx;obtain ⟨e,he,rfl⟩:=(qtM h1 x).1 hx;obtain ⟨e',he',h⟩:=qsT h1 h2 hs e he;exact (qtM h2 _).2 ⟨e',he',by rw [h]⟩
theorem qvn(m:Mc):(qfO m 0).Nodup:=List.Pairwise.imp (λh=>by omega) (qpi _ _)
theorem qtL{m:Mc}(hv:VM m):(qfO m 0).length<=256:=by
 unfold qfO qjJ;rw [List.length_map];have h1:=List.length_filter_le (λi=>decide (i∈List.map (λe:Ent=>e.1) (found m))) (List.range (2 ^ m.1.length));rw [List.length_range]at h1;have h2:=(qlU hv).2;exact Nat.le_trans h1 h2
theorem qBO{m:Mc}:(qrd m 0).2=12↔∀e∈found m,qs1 m e.1=false:=by
 unfold qrd;cases h:hIx m (qph (qen m λ_=>false) 0)with
 |none =>
  refine ⟨λ_ e he=>?_,λ_=>rfl⟩;unfold hIx at h;obtain ⟨i,hi⟩:=List.mem_iff_getElem?.1 he;have:=qaQ.1 h i e hi;split at this
  ·cases this
  ·rename_i hn;simpa using hn
 |some p =>
  refine ⟨λh0=>by simp at h0,λh0=>?_⟩;obtain ⟨h1,h2⟩:=qwn (i:=p.1) (e:=p.2) h;have:=h0 p.2 (List.mem_of_getElem? h1);rw [this]at h2;cases h2
theorem qzw{m1 m2:Mc}(h1:VM m1)(h2:VM m2)(hs:Sub m1 m2)(h:(qrd m2 0).2=12):(qrd m1 0).2=12:=by
 rw [qBO]at h ⊢;intro e he;obtain ⟨e',he',h'⟩:=qsT h1 h2 hs e he;have:=h e' he';rw [h']at this;unfold qs1 at this ⊢;rw [hs.2.1];exact this
theorem qwY{m:Mc}(hb:MB m)(h:(qfX m).2=0):stE m 0=0:=by
 have:=(qlU (qfI hb h).1).1;unfold stE;rw [if_pos h,if_pos ⟨by omega,by omega⟩]
theorem qwo{ρ:Type}{own all:List Int}(h:∀x∈own,x∈all)(hl:own.length<=1000)(ha:all.length<=1000)(r:ρ) :
  qG (λ(s31:Int) =>
            bif decide (s31<(own.length:Int))then
             (idx own s31).bind λx32 =>
             (qgy all x32).bind λx33 =>
             bif !x33 then
              some (.inr (.inr r))
             else
              some (.inl (w64 (s31+1)))
            else
             some (.inr (.inl ()))) 0=some (.inl ():Unit⊕ρ):=by
 rw [qau own _ (λ_ _=>(none:Option ρ)) (λi a hi=>by
  have:=qao hi;rw [q7 hi];simp only [qa];rw [qC7 _ _ (by omega),decide_eq_true (h a (List.mem_of_getElem? hi))];simp only [qa,Bool.not_true,cond_false,stp];rw [wid (by omega) (by omega)])]
 have:qax (λ_ _=>(none:Option ρ)) 0 own=none:=qaQ.2 (λ_ _ _=>rfl);rw [this];rfl
theorem qEE(m:Mc)(gs:List Gt):∃b,qks m gs=some b/\(b=true->MB m/\GB gs):=by
 unfold qks;obtain ⟨b1,e1,h1⟩:=qER m;obtain ⟨b2,e2,h2⟩:=quN gs;rw [e1];cases b1 with
 |false=>exact ⟨false,rfl,by simp⟩
 |true=>exact ⟨b2,by simp only [qa,cond_true,e2],λh=>⟨h1 rfl,h2 h⟩⟩
def qwf(gs:List Gt)(l:List Sg)(m:Mc)(i:Nat):Mc:=qyy m ((level gs (l.take i)).toNat+2)
theorem qzn{gs:List Gt}{l:List Sg}{m:Mc}(hb:GB gs)(hm:MB m)(hg:(qc6 gs).2=0)(hs:qfs gs.length l=0)(h0:(qfX m).2=0){i:Nat}(hi:i<=l.length){lv:Int}{last:List Int}
  (hlv:0<=lv/\lv<=level gs (l.take i)) (hla:last.length<=256) (hin:∀x∈last,x∈qfO (qwf gs l m i) 0) :
  0<=level gs (l.take i)/\level gs (l.take i)<=gs.length/\VM (qwf gs l m i)/\VM m:=by
 obtain ⟨n,e,hn,_⟩:=qf9 gs (l.take i);exact ⟨by omega,by omega,(qfI (qy6 hm _) (qwa h0 _)).1,(qfI hm h0).1⟩
theorem qk5(hsh:qfu=some true)(gs:List Gt)(l:List Sg)(m:Mc):qdS gs l m=some true:=by
 unfold qdS;rw [hsh];simp only [qa,Bool.not_true,cond_false];obtain ⟨b,e1,h1⟩:=qEE m gs;rw [e1];simp only [qa];cases b with
 |false=>rfl
 |true =>
  obtain ⟨hm,hb⟩:=h1 rfl;simp only [Bool.not_true,cond_false];rw [qup hb];simp only [qa];by_cases hg:(qc6 gs).2=0
  rotate_left
  ·simp [hg]
  simp only [hg,decide_true,Bool.not_true,cond_false];by_cases hl:(l.length:Int) > 20
  ·simp [hl]
  simp only [hl,decide_false,cond_false];rw [qus];simp only [qa];by_cases hs:qfs (gs.length:Int) l=0
  rotate_left
  ·simp [hs]
  simp only [hs,decide_true,Bool.not_true,cond_false];unfold qeB;rw [qnH hm];simp only [qa];by_cases h0:(qfX m).2=0
  rotate_left
  ·simp [h0]
  simp only [h0,decide_true,Bool.not_true,cond_false];by_cases h8:(m.2.1.length:Int) > 8
  ·simp [h8]
  simp only [h8,decide_false,cond_false];rw [qso hb];simp only [qa];obtain ⟨w1,w2⟩:=qui hb hg;rw [w1];simp only [qa];rw [w2];simp only [qa,decide_true,Bool.not_true,cond_false];rw [qpw hb];simp only [qa,Bool.not_true,cond_false];rw [qyE hm];simp only [qa];have hv:=(qfI hm h0).1;rw [qiV hm,qnJ hm,qwY hm h0];simp only [if_true,qa,decide_true,Bool.not_true,cond_false,Int.toNat_zero];have hr:=qtL hv;have d1:decide (((qfO m 0).length:Int) > 256)=false:=by simp<;>omega
  simp only [d1,cond_false];refine Ok.eq (qvf.2 ?_);refine (qcN (l.length+1) (λi (s:Int×List Int×Int)=>s.2.2=(i:Int)/\(0<=s.1/\s.1<=level gs (l.take i))/\s.2.1.length<=256/\∀x∈s.2.1,x∈qfO (qwf gs l m i) 0) (λr=>r=.inl ()) ?_ ?_).mono ?_
  ·obtain ⟨n,e,hn,_⟩:=qf9 gs (l.take 0);exact ⟨rfl,⟨by simp,by simp only;omega⟩,by simp,by simp⟩
  ·rintro i ⟨lv,last,i0⟩ hi ⟨e0,hlv,hla,hin⟩;simp only at e0 hlv hla hin;subst e0;by_cases hlt:i<=l.length
   rotate_left
   ·have d0:decide ((i:Int)<=(l.length:Int))=false:=by simp<;>omega
    simp only [d0,cond_false];rw [qaT]
   ·have d0:decide ((i:Int)<=(l.length:Int))=true:=by simp<;>omega
    simp only [d0,cond_true];obtain ⟨p1,p2,p3,_⟩:=qzn hb hm hg hs h0 hlt hlv hla hin;have hbl:l.length<=20:=by omega
    have etk:slc l 0 (i:Int)=some (l.take i):=by
     rw [qqG ⟨by omega,by omega,by omega⟩];simp
    rw [etk];simp only [qa];have htl:(l.take i).length<=l.length:=by rw [List.length_take];omega
    rw [qsp (by omega)];simp only [qa];have hsn:=(qhd.1 hs).2.2;have hst:qfs gs.length (l.take i)=0:=qAM hs htl (λx hx=>List.mem_of_mem_take hx) (List.Sublist.nodup (List.take_sublist _ _) hsn);rw [qxd hb (qCG hst),if_pos hg,if_pos hst];simp only [qa,decide_true,Bool.not_true,cond_false];have d2:decide (level gs (l.take i)<lv)=false:=by simp<;>omega
    have d3:decide (level gs (l.take i) > (gs.length:Int))=false:=by simp<;>omega
    simp only [d2,d3,cond_false,qa];obtain ⟨k,hk⟩:∃k:Nat,level gs (l.take i)=(k:Int):=⟨(level gs (l.take i)).toNat,by omega⟩
    have hgl:=hb.len;have ew:w64 (level gs (l.take i)+2)=((k+2:Nat):Int):=by rw [hk,wid (by omega) (by omega)];omega
    rw [ew];have ecut:(bif decide ((m.2.1.length:Int) > ((k+2:Nat):Int))then
           (slc m.2.1 0 ((k+2:Nat):Int)).bind λx24 =>
           some (m.1,x24,m.2.2.1)
          else
           some (m.1,m.2.1,m.2.2.1))=some (m.1,m.2.1.take (k+2),m.2.2.1):=by
     by_cases c:(m.2.1.length:Int) > ((k+2:Nat):Int)
     ·simp only [c,decide_true,cond_true];rw [qDv (by omega)];rfl
     ·simp only [c,decide_false,cond_false];rw [List.take_of_length_le (by omega)]
    rw [ecut];simp only [qa];have efew:qwf gs l m i=qyy m (k+2):=by unfold qwf;rw [hk,Int.toNat_natCast]
    have e2:((m.1,m.2.1.take (k+2),m.2.2.1,()):Mc)=qwf gs l m i:=by rw [efew];rfl
    rw [e2];have hmf:MB (qwf gs l m i):=qy6 hm _;have hvf:VM (qwf gs l m i):=p3;have hcf:(qfX (qwf gs l m i)).2=0:=qwa h0 _;have hsf:Sub (qwf gs l m i) m:=qEk m _;rw [qyE hmf];simp only [qa];rw [qiV hmf,qnJ hmf,qwY hmf hcf];simp only [if_true,qa,decide_true,Bool.not_true,cond_false,Int.toNat_zero];have hrf:=qtL hvf;have hsub:=qtN hvf hv hsf;have hle:=qoG (qvn (qwf gs l m i)) hsub;have d4:decide (((qfO (qwf gs l m i) 0).length:Int) > ((qfO m 0).length:Int))=false:=by simp<;>omega
    simp only [d4,cond_false];have eh:(bif decide ((qrd m 0).2=12)then
             some (!(decide ((qrd (qwf gs l m i) 0).2=12)))
            else
             some false)=some false:=by
     by_cases c:(qrd m 0).2=12
     ·rw [decide_eq_true c,decide_eq_true (qzw hvf hv hsf c)];rfl
     ·rw [decide_eq_false c];rfl
    rw [eh];simp only [qa,cond_false];rw [qwo hsub (by omega) (by omega)];simp only [qa,Sum.elim_inl];rw [qwo hin (by omega) (by omega)];simp only [qa,Sum.elim_inl];rw [wid (by omega) (by omega),qa1];refine ⟨by omega,by simp,⟨by simp only;omega,?_⟩,hrf,?_⟩
    ·simp only
     exact qqd λx hx=>by
      rw [List.mem_iff_getElem?]at hx ⊢;obtain ⟨j,hj⟩:=hx;rw [List.getElem?_take]at hj;refine ⟨j,?_⟩;rw [List.getElem?_take];split at hj
      ·rw [if_pos (by omega)];exact hj
      ·cases hj
    ·simp only
     intro x hx;have hvn:VM (qwf gs l m (i+1)):=(qfI (qy6 hm _) (qwa h0 _)).1;refine qtN hvf hvn (qCR m ?_) x hx;have hmo:level gs (l.take i)<=level gs (l.take (i+1)):=qqd λx hx=>by
      rw [List.mem_iff_getElem?]at hx ⊢;obtain ⟨j,hj⟩:=hx;rw [List.getElem?_take]at hj;refine ⟨j,?_⟩;rw [List.getElem?_take];split at hj
      ·rw [if_pos (by omega)];exact hj
      ·cases hj
     omega
  ·rintro x rfl;exact ⟨true,rfl,rfl⟩
end Go.Proofs.YtkcaaaiihhhnmaaGreatDoor
end
section
namespace Go.Proofs.YtkcaaaiihhhnmaaGreatDoor.topSafetyGate
open Go Go.Ab Go.Tx Go.ChangeShapes Go.WideShapes Go.ChangeAt Go.RowKit
theorem true_(x:denP ([(.sl (.pair .str (.pair (.sl .str) (.pair I .unit)))),(.sl (.pair I (.pair .str (.pair .str .unit)))),(.pair (.sl .str) (.pair (.sl (.pair .str (.pair (.sl I) (.pair (.sl I) (.pair (.sl I) (.pair (.sl I) .unit)))))) (.pair (.sl (.pair (.sl I) (.pair (.sl I) .unit))) .unit)))].map Pm.ty))(hx:qEG maxLen [(.sl (.pair .str (.pair (.sl .str) (.pair I .unit)))),(.sl (.pair I (.pair .str (.pair .str .unit)))),(.pair (.sl .str) (.pair (.sl (.pair .str (.pair (.sl I) (.pair (.sl I) (.pair (.sl I) (.pair (.sl I) .unit)))))) (.pair (.sl (.pair (.sl I) (.pair (.sl I) .unit))) .unit)))] x):qbE.F x=some true:=qk5 rfl x.1 x.2.1 x.2.2
set_option maxRecDepth 100000 in
theorem contract(H:Type)(enc:TypeId×Value->H)(W:World)(base:Nat)(args:Array Value)(ds gs:List (DataW H))(before:List MemPlace)
  (hval:∀(j:Nat) t v,Tryz.f6.params[j]?=some t->args[j]?=some v->Value.okWide Tryz.prog W .any base t v)
  (hW:DataW.Whole enc Tryz.prog Tryz.f6.params.toList Rows.topSafetyGateSpec.vars false W args.toList ds gs before) (hgl:qgu W (cx0 W)) :
  Calls Tryz.prog 6 args W λe W'=>∃v,e=.returned v/\Rows.topSafetyGateSpec.post enc Tryz.prog Tryz.f6 false true false false W args v W' :=
 qtj (τs:=[(.sl (.pair .str (.pair (.sl .str) (.pair I .unit)))),(.sl (.pair I (.pair .str (.pair .str .unit)))),(.pair (.sl .str) (.pair (.sl (.pair .str (.pair (.sl I) (.pair (.sl I) (.pair (.sl I) (.pair (.sl I) .unit)))))) (.pair (.sl (.pair (.sl I) (.pair (.sl I) .unit))) .unit)))]) (ts:=[48,67,26]) (tb:=4) (F:=qbE.F) follows qcT qxC qBZ Tryz.func6 (by kernel_rfl) (by kernel_rfl) (by kernel_rfl) (by kernel_rfl) (by kernel_rfl) (by kernel_rfl) Tryz.underlying4 qjz true_ rfl
  (λH ds h=>by
   match ds,h with
   |[d1,d2,d3],_=>rfl) H enc W base args ds gs before hval hW hgl
set_option maxRecDepth 100000 in
theorem lifted(os:Os)(started:os.Started)(H:Type)(enc:TypeId×Value->H) :
  ReturnsInHanded {} Tryz.checked os 6 .any (λw args=>(Rows.topSafetyGateSpec.pre enc Tryz.prog Tryz.f6 Rows.topSafetyGateRow.domain false w args/\laidMetH Tryz.prog qjv w)/\sizedMet enc Tryz.prog Tryz.f6 (OpenSpec.ofChange Rows.topSafetyGateSpec) false w args)
   (Rows.topSafetyGateSpec.post enc Tryz.prog Tryz.f6 false true false false):=by
 refine qek (C:=Tryz.checked) (X:=λw _=>laidMetH Tryz.prog qjv w) (λ_ _ _ hh h=>h.of_heap hh) own started (by kernel_rfl) Tryz.func6
  (ChangeSpec.witness_shaped (enc:=enc) (C:=Tryz.checked) (os:=os) (X:=λw _=>laidMetH Tryz.prog qjv w) false (World.laidAll Tryz.prog os qjv) #[.slice none 0 0,.slice none 0 0,.agg #[.slice none 0 0,.slice none 0 0,.slice none 0 0]] 8 (World.laidAll_os _ _ _)
   (World.shaped_of_ZipB (by kernel_rfl) (by kernel_rfl)) (by kernel_rfl) (by kernel_rfl) (by kernel_rfl)
   (by rw [MakeChecks.laidMetH_plain _ _ _ (by kernel_rfl)];exact laidMet_laidAll _ (by kernel_rfl) (by kernel_rfl))) ?_
 intro W base args ds gs before hval hW hS hL;exact contract H enc W base args ds gs before hval hW (qDT hS hL)
theorem said:Rows.TopSafetyGateSaid :=
 OpenClaim.holds_of_wide 6 Tryz.f6 rfl rfl rfl rfl rfl rfl rfl ⟨rfl,rfl,rfl,rfl,rfl⟩ rfl rfl rfl rfl rfl (by kernel_rfl) Tryz.func6 (by kernel_rfl)
  (of_decide_eq_true (by kernel_rfl)) (by unfold Func.isWrapper;first|(rw [if_pos (by decide +kernel)];kernel_rfl)|(rw [if_neg (by decide +kernel)];exact ⟨rfl,rfl⟩))
  (λos started H enc _=>lifted os started H enc)
theorem proved:Rows.TopSafetyGateCardSaid :=
 Claim7.holds_tied_plain_at .later [] [.data, .data, .data, .data, .sentinel, .sentinel, .pinned] true (true, "e1fab70e5dba04e5b9d943c364cb30e45070e78fb89e0c99eb25930192b6c822") true
  said (λ_ h=>by cases h) (by kernel_rfl) (λ_ h=>by cases h) topSafetyGate_row_tie rfl ⟨rfl,rfl⟩ (by kernel_rfl) rfl
  (λf fn hf hfn=>by
   obtain rfl : f = 6 := Option.some.inj ((show Tryz.prog.funcNamed "ductility/ductilitytop.TopSafetyGate" = some 6 by kernel_rfl).symm.trans hf) |>.symm
   obtain rfl:fn=Tryz.f6:=(Option.some.inj (Tryz.func6.symm.trans hfn)).symm;exact ⟨by kernel_rfl,λj t ht=>by
    have hp:Tryz.f6.params=#[48,67,26]:=by kernel_rfl
    rw [hp]at ht;rcases j with _|_|_|j
    ·simp at ht;subst ht;exact (show Tryz.prog.wantsStandIn 48=false by kernel_rfl)
    ·simp at ht;subst ht;exact (show Tryz.prog.wantsStandIn 67=false by kernel_rfl)
    ·simp at ht;subst ht;exact (show Tryz.prog.wantsStandIn 26=false by kernel_rfl)
    ·simp at ht⟩)
  (by kernel_rfl)
end Go.Proofs.YtkcaaaiihhhnmaaGreatDoor.topSafetyGate
end
