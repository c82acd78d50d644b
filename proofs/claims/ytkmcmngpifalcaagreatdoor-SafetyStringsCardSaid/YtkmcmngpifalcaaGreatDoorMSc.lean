/-
  ONE LAW OF A CHAPTER: its program side is run by an interpreter that is proved sound; what it computes is shown to be what the law says. No conditions. Part 3 of 8.
-/
import Derived.Test.YtkmcmngpifalcaaGreatDoorMSb
import Ieee.Arith
import Derived.Laws.ComplexArith
set_option linter.unusedSimpArgs false
set_option linter.unusedVariables false
set_option linter.unnecessarySimpa false
section
namespace Go.Ab
open Go
section
variable {P:Program} {H:Hints} {f:FuncId} {w w':World} {X X':Cx}
def tv(tmps:Array Value)(t:Tmp):Value:=tmps.getD t undef
def evT(tmps:Array Value):Operand->Value
 |.tmp t=>tv tmps t
 |.const v=>v
 |_=>undef
def qeD(P:Program)(H:Hints)(f:FuncId)(E:List V)(o:Oper)(tmps:Array Value)(w:World)(X:Cx):Prop :=
 match o.op,o.dst with
 |.move (.tmp a),some d=>tv tmps d=tv tmps a
 |.indexAddr t (.tmp a) i,some d=>∀elem,P.underlying t=some (.slice elem)->∃b off len cap k n,tv tmps a=.slice (some ⟨b,off,none⟩) len cap/\evT tmps i=.int k n/\0<=n/\n<(len:Int)/\tv tmps d=.pointer (some ⟨b,off+n.toNat*P.cellsOf elem,none⟩)
 |.fieldAddr t (.tmp a) fd,some d=>∀b off o',tv tmps a=.pointer (some ⟨b,off,none⟩)->qnx P t fd=some o'->tv tmps d=.pointer (some ⟨b,off+o',none⟩)
 |.load t (.tmp a),some d=>qN P t=false->if H.link f a=true then (∃b off v,tv tmps a=.pointer (some ⟨b,off,none⟩)/\w.cell? ⟨b,off,none⟩=some v/\tv tmps d=v/\∃e fz,X.ω b=some (e,fz)/\off<e)
   else ∀r o',E[a]?=some (.ptr r o')->∃b v,tv tmps a=.pointer (some ⟨b,o',none⟩)/\w.cell? ⟨b,o',none⟩=some v/\tv tmps d=v
 |_,_=>True
theorem qbx{o:Oper}{x:Operand}{t:Tmp}(hx:x∈o.op.operands.toList)(e:x=.tmp t):t∈tmpsOf o:=by
 subst e;exact List.mem_filterMap.2 ⟨.tmp t,hx,rfl⟩
theorem qs9{tmps tmps':Array Value}{i:Operand}(h:∀t,i=.tmp t->tv tmps' t=tv tmps t):evT tmps' i=evT tmps i:=by
 cases i<;>first|rfl|exact h _ rfl
theorem qeD.qpV{E E':List V}{o:Oper}{tmps tmps':Array Value}(h:qeD P H f E o tmps w X)(hd:∀d,o.dst=some d->tv tmps' d=tv tmps d)(ht:∀t∈tmpsOf o,tv tmps' t=tv tmps t)
  (hn:qiB H f o=true->(∀b e fz,X.ω b=some (e,fz)->∃e' fz',X'.ω b=some (e',fz')/\e<=e')/\∀b e fz i v,X.ω b=some (e,fz)->i<e->w.cell? ⟨b,i,none⟩=some v->w'.cell? ⟨b,i,none⟩=some v)
  (hb:qn2 H f o=true->∀a∈tmpsOf o,∀r o',E'[a]?=some (.ptr r o')->E[a]?=some (.ptr r o')/\∀b,tv tmps a=.pointer (some ⟨b,o',none⟩)->w'.cell? ⟨b,o',none⟩=w.cell? ⟨b,o',none⟩):qeD P H f E' o tmps' w' X':=by
 unfold qeD at h ⊢;split
 ·rename_i a d hop hdst;rw [hop,hdst]at h;rw [hd d hdst,ht a (qbx (by rw [hop];exact List.mem_singleton.2 rfl) rfl)];exact h
 ·rename_i t a i d hop hdst;rw [hop,hdst]at h;intro elem hu;obtain ⟨b,off,len,cap,k,n,h1,h2,h3,h4,h5⟩:=h elem hu;refine ⟨b,off,len,cap,k,n,?_,?_,h3,h4,?_⟩
  ·rw [ht a (qbx (x:=.tmp a) (by rw [hop];show _∈[Operand.tmp a,i];simp) rfl)];exact h1
  ·rw [qs9 (λt' e=>ht t' (qbx (by rw [hop];show i∈[Operand.tmp a,i];simp) e))];exact h2
  ·rw [hd d hdst];exact h5
 ·rename_i t a fd d hop hdst;rw [hop,hdst]at h;intro b off o' h1 h2;rw [ht a (qbx (by rw [hop];exact List.mem_singleton.2 rfl) rfl)]at h1;rw [hd d hdst];exact h b off o' h1 h2
 ·rename_i t a d hop hdst;rw [hop,hdst]at h;have ha:a∈tmpsOf o:=qbx (by rw [hop];exact List.mem_singleton.2 rfl) rfl;intro hag;have h:=h hag;by_cases hl:H.link f a=true
  ·rw [if_pos hl]at h ⊢;obtain ⟨b,off,v,h1,h2,h3,e,fz,h4,h5⟩:=h;obtain ⟨hω,hc⟩:=hn (by unfold qiB;rw [hop];exact hl);obtain ⟨e',fz',h6,h7⟩:=hω b e fz h4;exact ⟨b,off,v,by rw [ht a ha];exact h1,hc b e fz off v h4 h5 h2,by rw [hd d hdst];exact h3,e',fz',h6,by omega⟩
  ·rw [if_neg hl]at h ⊢;intro r o' hE;have hbl:qn2 H f o=true:=by unfold qn2;rw [hop];simpa using hl
   obtain ⟨h1,h2⟩:=hb hbl a ha r o' hE;obtain ⟨b,v,h3,h4,h5⟩:=h r o' h1;exact ⟨b,v,by rw [ht a ha];exact h3,by rw [h2 b h3];exact h4,by rw [hd d hdst];exact h5⟩
 ·trivial
theorem qqd{ops:Array Oper}{d:Tmp}:∀{k c:Nat},qpN ops k d=some c->c<k/\∃o,ops[c]?=some o/\o.dst=some d
 |0,c,h=>by simp [qpN]at h
 |k+1,c,h=>by
  simp only [qpN]at h;split at h
  ·rename_i hk;cases h;cases ho:ops[k]? with
   |none=>rw [ho]at hk;simp at hk
   |some o=>rw [ho]at hk;exact ⟨by omega,o,rfl,by simpa using hk⟩
  ·obtain ⟨h1,h2⟩:=qqd h;exact ⟨by omega,h2⟩
theorem getD_at{tmps:Array Value}{t:Nat}{v:Value}(h:tmps[t]?=some v):tv tmps t=v:=by
 unfold tv;rw [Array.getD_eq_getD_getElem?,h];rfl
theorem qB2{st:St}{tmps:Array Value}{O:Pl->List Nat}(h:Rel st tmps w X O){i:Operand}{j:Nat}(hi:idxOf st.E i=some j){k:IntKind}{n:Int}(hv:evT tmps i=.int k n):n.toNat=j:=by
 have key:∀x:V,qkS x=some j->∀v O,Rep w X x v O->v=.int k n->n.toNat=j:=by
  intro x hx v O hr hv;unfold qkS at hx;split at hx
  ·simp only [Rep]at hr;rw [hr.1]at hv;cases hv;split at hx
   ·exact Option.some.inj hx
   ·cases hx
  ·cases hx
 cases i with
 |tmp t =>
  simp only [idxOf]at hi;cases hE:st.E[t]? with
  |none=>rw [List.getD_eq_getElem?_getD,hE]at hi;simp [qkS]at hi
  |some x =>
   obtain ⟨v,h1,h2⟩:=h.env t x hE;rw [List.getD_eq_getElem?_getD,hE]at hi;exact key x (by simpa using hi) v _ h2 (by rw [<- getD_at h1];exact hv)
 |const u =>
  simp only [idxOf]at hi;exact key (.val u) hi u [] (by simp [Rep]) hv
 |_=>simp [idxOf]at hi
theorem qDs{ops:Array Oper}{st:St}{tmps:Array Value}{O:Pl->List Nat}(h:Rel st tmps w X O){s:Nat}{S:List Tmp}(hf:∀c oc,ops[c]?=some oc->qmD H f oc=true->c<s->(∀d,oc.dst=some d->d∈S)->qeD P H f st.E oc tmps w X) :
  ∀(n k:Nat) (d:Tmp) (rt:Rt) (p:Path) (ptr:Bool),k<=s->(∀t∈qcF H f ops n k d,t∈S)->qbp P H f ops st.E n k d=some (rt,p,ptr) ->
   ∃v0,qjs w X tmps rt v0/\(if ptr=true then ∃b k,tv tmps d=.pointer (some ⟨b,k,none⟩)/\qFB w v0 p b k else SlF w v0 p.reverse (tv tmps d)):=by
 intro n;induction n with
 |zero=>intro k d rt p ptr _ _ hx;simp [qbp]at hx
 |succ n ih =>
  intro k d rt p ptr hks hS hx;simp only [qbp]at hx;simp only [qcF]at hS;split at hx
  ·simp only [qb,Prod.mk.injEq]at hx;obtain ⟨rfl,rfl,rfl⟩:=hx;exact ⟨tv tmps d,rfl,by simp [SlF]⟩
  ·rename_i hlk;have hlk:H.link f d=true:=by simpa using hlk
   split at hx
   ·cases hx
   ·rename_i c hc;obtain ⟨hck,oc,hoc,hdst⟩:=qqd hc;have hfact:=hf c oc hoc (by unfold qmD;rw [hdst];exact hlk) (by omega) (λd' hd'=>by rw [hdst]at hd';cases hd';exact hS d (by simp));rw [hc]at hS;simp only [hlk,hoc,qi,Bool.true_eq_false,if_false]at hS;rw [hoc]at hx;simp only [qi]at hx;unfold qeD at hfact;split at hx
    ·-- move
     rename_i a hop;rw [Option.some.inj hop,hdst]at hfact;simp only at hfact;obtain ⟨v0,h1,h2⟩:=ih c a rt p ptr (by omega) (λt ht=>hS t (by rw [Option.some.inj hop];simp [ht])) hx;exact ⟨v0,h1,by rw [hfact];exact h2⟩
    ·-- indexAddr
     rename_i t a i hop;have hS':∀x∈qcF H f ops n c a,x∈S:=λx hx=>hS x (by rw [Option.some.inj hop];simp [hx]);rw [Option.some.inj hop,hdst]at hfact;simp only at hfact;split at hx
     ·rename_i r q j elem hq hj hu;simp only [qb,Prod.mk.injEq]at hx;obtain ⟨rfl,rfl,rfl⟩:=hx;obtain ⟨v0,h1,h2⟩:=ih c a _ _ _ (by omega) hS' hq;simp only [qf,if_false]at h2;obtain ⟨b,off,len,cap,kk,m,h3,h4,h5,h6,h7⟩:=hfact elem hu;have hj':=qB2 h hj h4;rw [h3]at h2;refine ⟨v0,h1,?_⟩;simp only [if_true];refine ⟨b,_,h7,off,len,cap,h2,by omega,by rw [hj'];omega⟩
     ·cases hx
    ·-- fieldAddr
     rename_i t a fd hop;have hS':∀x∈qcF H f ops n c a,x∈S:=λx hx=>hS x (by rw [Option.some.inj hop];simp [hx]);rw [Option.some.inj hop,hdst]at hfact;simp only at hfact;split at hx
     ·rename_i r j o sz q o' hq ho';simp only [qb,Prod.mk.injEq]at hx;obtain ⟨rfl,rfl,rfl⟩:=hx;obtain ⟨v0,h1,h2⟩:=ih c a _ _ _ (by omega) hS' hq;simp only [if_true]at h2 ⊢;obtain ⟨b,kk,h3,off,len,cap,h4,h5,rfl⟩:=h2;exact ⟨v0,h1,b,_,hfact b _ o' h3 ho',off,len,cap,h4,h5,by omega⟩
     ·cases hx
    ·-- load
     rename_i t a hop;rw [Option.some.inj hop,hdst]at hfact;simp only at hfact;split at hx
     ·cases hx
     ·rename_i hag;have hfact:=hfact (by simpa using hag);split at hx
      ·rename_i hla;rw [if_pos hla]at hfact;have hS':∀x∈qcF H f ops n c a,x∈S:=λx hx=>hS x (by rw [Option.some.inj hop];simp [hla,hx]);split at hx
       ·rename_i r q hq;simp only [qb,Prod.mk.injEq]at hx;obtain ⟨rfl,rfl,rfl⟩:=hx;obtain ⟨v0,h1,h2⟩:=ih c a _ _ _ (by omega) hS' hq;simp only [if_true]at h2;obtain ⟨b,kk,h3,hpr⟩:=h2;obtain ⟨b',off',v,h4,h5,h6,_⟩:=hfact;rw [h3]at h4;cases h4;refine ⟨v0,h1,?_⟩;simp only [qf,if_false];cases q with
        |nil=>exact hpr.elim
        |cons e q =>
         obtain ⟨j,o,sz⟩:=e;obtain ⟨off,len,cap,h7,h8,rfl⟩:=hpr;rw [qh5,h6];exact h7.snoc h8 h5
       ·cases hx
      ·rename_i hla;rw [if_neg hla]at hfact;split at hx
       ·rename_i r off hE;simp only [qb,Prod.mk.injEq]at hx;obtain ⟨rfl,rfl,rfl⟩:=hx;have hE':st.E[a]?=some (.ptr r off):=by
         rw [List.getD_eq_getElem?_getD]at hE;cases hh:st.E[a]? with
         |none=>rw [hh]at hE;simp at hE
         |some x=>rw [hh]at hE;simpa using hE
        obtain ⟨b,v,h3,h4,h5⟩:=hfact r off hE';obtain ⟨u,hu,hr⟩:=h.env a _ hE';simp only [Rep]at hr;obtain ⟨_,b',hb',rfl⟩:=hr;rw [getD_at hu]at h3;cases h3;exact ⟨v,⟨b,hb',h4⟩,by simp [SlF,h5]⟩
       ·cases hx
    ·cases hx
theorem qFK{ops:Array Oper}{st:St}{tmps:Array Value}{O:Pl->List Nat}(h:Rel st tmps w X O){s:Nat}(hf:∀c oc,ops[c]?=some oc->qmD H f oc=true->c<s->qeD P H f st.E oc tmps w X) :
  ∀(n k:Nat) (d:Tmp) (rt:Rt) (p:Path) (ptr:Bool),k<=s->qbp P H f ops st.E n k d=some (rt,p,ptr) ->
   ∃v0,qjs w X tmps rt v0/\(if ptr=true then ∃b k,tv tmps d=.pointer (some ⟨b,k,none⟩)/\qFB w v0 p b k else SlF w v0 p.reverse (tv tmps d)):=by
 intro n k d rt p ptr hks hx;exact qDs (S:=qcF H f ops n k d) h (s:=s) (λc oc hoc hl hc _=>hf c oc hoc hl hc) n k d rt p ptr hks (λ_ h=>h) hx
theorem qei{ops:Array Oper}{E E':List V}:∀(n k:Nat) (d:Tmp),(∀t∈qcF H f ops n k d,E'[t]?=E[t]?)->qbp P H f ops E' n k d=qbp P H f ops E n k d
 |0,k,d,h=>rfl
 |n+1,k,d,h=>by
  simp only [qbp];simp only [qcF]at h;split
  ·rfl
  ·rename_i hlk;have hlk:H.link f d=true:=by simpa using hlk
   simp only [hlk,Bool.true_eq_false,if_false]at h;cases hc:qpN ops k d with
   |none=>rfl
   |some c =>
    rw [hc]at h;simp only at h ⊢;split
    ·rename_i a hop;rw [hop]at h;exact qei n c a λt ht=>h t (by simp [ht])
    ·rename_i t a i hop;rw [hop]at h;have h1:qbp P H f ops E' n c a=qbp P H f ops E n c a:=qei n c a λt ht=>h t (by simp [ht]);have h2:idxOf E' i=idxOf E i:=by
      cases i with
      |tmp x =>
       simp only [idxOf];rw [getD_congr (h x (by simp))]
      |_=>rfl
     rw [h1,h2]
    ·rename_i t a fd hop;rw [hop]at h;rw [qei n c a λt ht=>h t (by simp [ht])]
    ·rename_i t a hop;rw [hop]at h;simp only at h;by_cases hla:H.link f a=true
     ·rw [if_pos hla,if_pos hla,qei n c a λt ht=>h t (by simp [hla,ht])]
     ·rw [if_neg hla,if_neg hla,getD_congr (h a (by simp))]
    ·rfl
theorem qfp{ops:Array Oper}{E:List V}:∀(n k:Nat) (d r:Tmp) (p:Path) (b:Bool),qbp P H f ops E n k d=some (.tmp r,p,b)->r∈qcF H f ops n k d
 |0,k,d,r,p,b,hx=>by simp [qbp]at hx
 |n+1,k,d,r,p,b,hx=>by
  simp only [qbp]at hx;simp only [qcF];split at hx
  ·simp only [qb,Prod.mk.injEq,Rt.tmp.injEq]at hx;rw [hx.1];simp
  ·rename_i hlk;have hlk:H.link f d=true:=by simpa using hlk
   simp only [hlk,Bool.true_eq_false,if_false];cases hc:qpN ops k d with
   |none=>rw [hc]at hx;cases hx
   |some c =>
    rw [hc]at hx;simp only at hx ⊢;split at hx
    ·rename_i a hop;first|rw [hop]|skip
     simp [qfp n c a r p b hx]
    ·rename_i t a i hop;first|rw [hop]|skip
     split at hx
     ·rename_i r' p' j elem hq hj hu;simp only [qb,Prod.mk.injEq]at hx;obtain ⟨rfl,_,_⟩:=hx;simp [qfp n c a r _ _ hq]
     ·cases hx
    ·rename_i t a fd hop;first|rw [hop]|skip
     split at hx
     ·rename_i r' j o sz p' o' hq ho';simp only [qb,Prod.mk.injEq]at hx;obtain ⟨rfl,_,_⟩:=hx;simp [qfp n c a r _ _ hq]
     ·cases hx
    ·rename_i t a hop;first|rw [hop]|skip
     split at hx
     ·cases hx
     ·by_cases hla:H.link f a=true
      ·rw [if_pos hla]at hx;split at hx
       ·rename_i r' p' hq;simp only [qb,Prod.mk.injEq]at hx;obtain ⟨rfl,_,_⟩:=hx;simp [hla,qfp n c a r _ _ hq]
       ·cases hx
      ·rw [if_neg hla]at hx;split at hx<;>simp at hx
    ·cases hx
end
section
variable {P:Program} {H:Hints} {f:FuncId} {C:Orc} {w w':World} {X X':Cx}
theorem qsp{t:TypeId}{d:TypeDesc}{b off:Nat}{v:Value}(hu:P.underlying t=some d)(hag:qN P t=false)(hc:w.cell? ⟨b,off,none⟩=some v):(Instr.loadAt t (.pointer (some ⟨b,off,none⟩))).run P w=.ok v w:=by
 simp only [Instr.loadAt,Instr.sureAddr,Sem.run_bind,Sem.run_pure,Result.andThen_ok];refine qen (vals:=[v]) hu (λi u hi=>?_) (by simp [hag]);cases i with
 |zero=>simp at hi;subst hi;simpa using hc
 |succ i=>simp at hi
theorem qFA{F:Fence}{o:Oper}{a:Act}{K:Act->World->Prop}{Q:Exit->Act->World->Prop}{v:Value}(hnd:∀c,o.op≠.defer c)(hrun:(execOp a.eval o).run P w=.ok (.value v) w') :
  o.wpIn F 0 P a w K Q↔(∀g,o.about P w a.eval=some g->F.fn g)/\K (a.put o.dst v) w':=by
 unfold Oper.wpIn;rw [Oper.semAt_eq _ _ _ hnd,hrun,Oper.uponIn_value]
theorem qus(ρ:Operand->Value)(o:Oper){s:Sem Value}{v:Value}(h:execOp ρ o=(do pure (Next.value (<- s))))(hs:s.run P w=.ok v w'):(execOp ρ o).run P w=.ok (.value v) w':=by
 rw [h];exact qss hs
theorem qmR{o:Oper}{st st':St}{fp:Fp}(hx:qeH P H C f o st=some (st',fp)) :
  (qab H f o=true->qfs (tmpsOf o)=true)/\∃z s,qbh P H C f o (o.op.operands.toList.map (rd H f o st.E)) {st with E:=qz st.E (if qab H f o=true then tmpsOf o else [])}=some (z,s,fp)/\st'=s.put o.dst z:=by
 unfold qeH at hx;split at hx
 ·cases hx
 ·rename_i hn0;obtain ⟨⟨z,s,fp'⟩,hm,he⟩:=qc.1 hx;obtain ⟨rfl,rfl⟩:=Prod.mk.inj he;refine ⟨λht=>by simpa [ht]using hn0,z,s,?_,rfl⟩;rw [<- hm];congr 1
  split<;>rfl
theorem qxq{w0:World}{X0:Cx}{Md:Md}{n:Nat}{st st':St}{a:Act}{O:Pl->List Nat}{o:Oper}{fp:Fp}(h:Rel st a.tmps w X O)(hF:Fr w0 X0 Md n st w X O)(hx:qeH P H C f o st=some (st',fp))(ht:qdu o.op=true) :
  (∀c,o.op≠.defer c)/\∃v w',(execOp a.eval o).run P w=.ok (.value v) w'/\∀b,b<w.heap.size->X.ω b=none->w'.heap[b]?=w.heap[b]?:=by
 obtain ⟨hn,z,s,hm,_⟩:=qmR hx;obtain ⟨Oin,hrep,hs,hlin⟩:=qce (H:=H) (f:=f) h o _ hn;rcases qpz hm with ⟨t,d,z0,hop,_⟩|⟨t,ao,d,x,hop,_⟩|⟨c,fo,fv,args,hop,hcal,_⟩|⟨hr,hsem,rfl,_⟩|⟨r,hr,hsem,rfl,_⟩|⟨r,c,hr,hsem,hall,rfl,_⟩|⟨c,fo,fv,args,hop,hcal,_⟩|⟨hmo,hmp⟩
 ·rw [hop]at ht;simp [qdu]at ht
 ·rw [hop]at ht;simp [qdu]at ht
 ·rw [hop]at ht;obtain ⟨cal,a1,a2⟩:=c;simp only at hcal;subst hcal;simp [qdu]at ht
 ·have hnd:∀c,o.op≠.defer c:=by intro c hc;rw [hc]at hsem;simp [qaL]at hsem
  obtain ⟨v,w',X',O',hrun,heff,_⟩:=qw6 h.dom hlin hsem hrep;refine ⟨hnd,v,w',hrun,λb hb hω=>heff.kept b hb λhbO=>?_⟩;obtain ⟨e,he⟩:=repL_own _ _ _ hrep b hbO;rw [hω]at he;cases he
 ·obtain ⟨off,rest,hxs,hop⟩:=qbM hr;rcases hop with ⟨t,ao,hop⟩|⟨t,ao,xo,hop⟩
  ·have hops:o.op.operands.toList=[ao]:=by rw [hop];rfl
   rw [hops]at hrep hxs;simp only [qh,List.map_nil,List.cons.injEq]at hxs;obtain ⟨hx1,rfl⟩:=hxs;simp only [qh,List.map_nil,RepL]at hrep;obtain ⟨u,vs,O1,O2,hu,rfl,hr1,rfl,rfl⟩:=hrep;simp only [List.cons.injEq,and_true]at hu;subst hu;rw [hx1]at hr1;refine ⟨(by intro c hc;rw [hop]at hc;cases hc),?_⟩;have hbx:∃cs,st.box r=some cs:=by
    cases hh:st.box r with
    |some cs=>exact ⟨cs,rfl⟩
    |none=>rw [hops,qh,List.map_nil,hx1,hop,qc7,hh]at hsem;simp [qaL]at hsem
   obtain ⟨cs,hcs⟩:=hbx;rw [hops,qh,List.map_nil,hx1,hop,qc7,hcs]at hsem;simp only [qaL]at hsem;obtain ⟨v,hrun,_⟩:=qig (dst:=o.dst) (tk:=qab H f o) h hF hr1 hcs hsem;exact ⟨v,w,by simp only [execOp,hop,Sem.run_bind,hrun,Result.andThen_ok,Sem.run_pure],λ_ _ _=>rfl⟩
  ·rw [hop]at ht;simp [qdu]at ht
 ·obtain ⟨off,rest,hxs,hop⟩:=qbM hr;rcases hop with ⟨t,ao,hop⟩|⟨t,ao,xo,hop⟩
  ·have hops:o.op.operands.toList=[ao]:=by rw [hop];rfl
   rw [hops]at hrep hxs;simp only [qh,List.map_nil,List.cons.injEq]at hxs;obtain ⟨hx1,rfl⟩:=hxs;simp only [qh,List.map_nil,RepL]at hrep;obtain ⟨u,vs,O1,O2,hu,rfl,hr1,rfl,rfl⟩:=hrep;simp only [List.cons.injEq,and_true]at hu;subst hu;rw [hx1]at hr1;refine ⟨(by intro c hc;rw [hop]at hc;cases hc),?_⟩;have hbx:∃cs,st.box r=some cs:=by
    cases hh:st.box r with
    |some cs=>exact ⟨cs,rfl⟩
    |none=>rw [hops,qh,List.map_nil,hx1,hop,qc7,hh]at hsem;simp [qaL]at hsem
   obtain ⟨cs,hcs⟩:=hbx;rw [hops,qh,List.map_nil,hx1,hop,qc7,hcs]at hsem;simp only [qaL]at hsem;obtain ⟨v,hrun,_⟩:=qig (dst:=o.dst) (tk:=qab H f o) h hF hr1 hcs hsem;exact ⟨v,w,by simp only [execOp,hop,Sem.run_bind,hrun,Result.andThen_ok,Sem.run_pure],λ_ _ _=>rfl⟩
  ·rw [hop]at ht;simp [qdu]at ht
 ·rw [hop]at ht;obtain ⟨cal,a1,a2⟩:=c;simp only at hcal;subst hcal;simp [qdu]at ht
 ·obtain ⟨v,w',r,hrun,hr,hk,_⟩:=qqC (n:=n) (h.taken (if qab H f o=true then tmpsOf o else [])) (Fr.taken h hF _) hrep hmp;obtain ⟨rfl,rfl⟩:=hk ht;exact ⟨λc hc=>(by rw [hc]at hmo;simp [qcY]at hmo),v,_,hrun,λ_ _ _=>rfl⟩
theorem qCV(hC:OrcOk P C){F:Fence}(hFF:F=Fence.wide\/∃l,F=Fence.wide.inRound l){w0:World}{X0:Cx}{Md:Md}{n:Nat}{st st':St}{a:Act}{O:Pl->List Nat}{o:Oper}{fp:Fp}(h:Rel st a.tmps w X O)(hF:Fr w0 X0 Md n st w X O)
  (hx:qeH P H C f o st=some (st',fp)) {K:Act->World->Prop} {Q:Exit->Act->World->Prop}
  (hK:∀v w',Sim w0 X0 Md n st' (a.put o.dst v).tmps w'->(qdu o.op=true->(∀b,b<w.heap.size->X.ω b=none->w'.heap[b]?=w.heap[b]?)/\∀v0,(execOp a.eval o).run P w=.ok (.value v0) w->v=v0/\w'=w)->K (a.put o.dst v) w'):o.wpIn F 0 P a w K Q:=by
 have hstep:qlk P H C f o st=some st':=by unfold qlk;rw [hx];rfl
 cases ht:qdu o.op with
 |false=>exact qwb hC hFF ⟨X,O,h,hF⟩ hstep λv w' hS=>hK v w' hS λh=>by rw [ht]at h;cases h
 |true =>
  obtain ⟨hnd,v,w1,hrun,hkept⟩:=qxq h hF hx ht;have h1:o.wpIn F 0 P a w (λa' w'=>Sim w0 X0 Md n st' a'.tmps w') Q:=qwb hC hFF ⟨X,O,h,hF⟩ hstep λv w' hS=>hS;rw [qFA hnd hrun]at h1 ⊢;refine ⟨h1.1,hK v w1 h1.2 λ_=>⟨hkept,λv0 h0=>?_⟩⟩;rw [hrun]at h0;simp only [Result.ok.injEq,Next.value.injEq]at h0;exact h0
theorem qxw{a:Act}{d:Option Tmp}{v:Value}{t:Tmp}(h:d≠some t):tv (a.put d v).tmps t=tv a.tmps t:=by
 unfold tv Act.put;cases d with
 |none=>rfl
 |some d =>
  have:d≠t:=λe=>h (by rw [e]);simp [Array.getD_eq_getD_getElem?,this]
theorem qpH{a:Act}{d:Tmp}{v:Value}(h:d<a.tmps.size):tv (a.put (some d) v).tmps d=v:=by
 unfold tv Act.put;simp [Array.getD_eq_getD_getElem?,h]
theorem qxK{w0:World}{X0:Cx}{Md:Md}{n:Nat}{st st':St}{a:Act}{O:Pl->List Nat}{o:Oper}{fp:Fp}(h:Rel st a.tmps w X O)(hF:Fr w0 X0 Md n st w X O)(hlk:qmD H f o=true)(hself:∀d,o.dst=some d->d∉tmpsOf o)(hgate:qeG H f o st.E=true)
  (hx:qeH P H C f o st=some (st',fp)) :
  (∀E' tmps' w' X',qeD P H f E' o tmps' w' X')\/(qdu o.op=true/\∃v,(execOp a.eval o).run P w=.ok (.value v) w/\∀(E':List V) (X':Cx),(∀b e fz,X.ω b=some (e,fz)->∃e' fz',X'.ω b=some (e',fz')/\e<=e') ->
   (∀t∈tmpsOf o,∀r o',E'[t]?=some (.ptr r o')->st.E[t]?=some (.ptr r o'))->qeD P H f E' o (a.put o.dst v).tmps w X'):=by
 obtain ⟨hn,z,s,hm,_⟩:=qmR hx;obtain ⟨Oin,hrep,hs,hlin⟩:=qce (H:=H) (f:=f) h o _ hn;obtain ⟨d,hdst⟩:∃d,o.dst=some d:=by
  cases hd:o.dst with
  |none=>unfold qmD at hlk;rw [hd]at hlk;cases hlk
  |some d=>exact ⟨d,rfl⟩
 have hgate':=hgate;unfold qeG at hgate';rw [hlk,hdst]at hgate';simp only [Bool.not_true,Bool.false_or,qe,decide_eq_true_eq]at hgate';obtain ⟨hdlt,hgl⟩:=hgate';have hdsz:d<a.tmps.size:=by rw [h.size];exact hdlt
 have hdn:=hself d hdst;have htv:∀t∈tmpsOf o,∀v,tv (a.put o.dst v).tmps t=tv a.tmps t:=λt ht v=>qxw (λe=>hdn (by rw [hdst]at e;cases e;exact ht));have htvd:∀v,tv (a.put o.dst v).tmps d=v:=λv=>by rw [hdst];exact qpH hdsz
 have hev:∀t,a.eval (.tmp t)=tv a.tmps t:=λt=>rfl;by_cases hkind:(∃a0,o.op=.move (.tmp a0))\/(∃t a0 i,o.op=.indexAddr t (.tmp a0) i)\/(∃t a0 fd,o.op=.fieldAddr t (.tmp a0) fd)\/(∃t a0,o.op=.load t (.tmp a0))
 case neg =>
  left
  intro E' tmps' w' X';unfold qeD;split
  ·rename_i a0 _ hop _;exact absurd (.inl ⟨a0,hop⟩) hkind
  ·rename_i t a0 i _ hop _;exact absurd (.inr (.inl ⟨t,a0,i,hop⟩)) hkind
  ·rename_i t a0 fd _ hop _;exact absurd (.inr (.inr (.inl ⟨t,a0,fd,hop⟩))) hkind
  ·rename_i t a0 _ hop _;exact absurd (.inr (.inr (.inr ⟨t,a0,hop⟩))) hkind
  ·trivial
 case pos =>
 right
 rcases hkind with ⟨a0,hop⟩|⟨t,a0,i,hop⟩|⟨t,a0,fd,hop⟩|⟨t,a0,hop⟩
 ·refine ⟨by rw [hop];rfl,a.eval (.tmp a0),by simp [execOp,hop],λE' X' _ _=>?_⟩;unfold qeD;rw [hop,hdst];simp only
  rw [<- hdst,htvd,htv a0 (qbx (by rw [hop];exact List.mem_singleton.2 rfl) rfl)];exact hev a0
 ·have hops:o.op.operands.toList=[.tmp a0,i]:=by rw [hop];rfl
  rw [hops]at hrep hm;simp only [qh,List.map_nil,RepL]at hrep;obtain ⟨u,vs,O1,O2,hu,rfl,hr1,u2,vs2,O3,O4,hu2,rfl,hr2,rfl,rfl⟩:=hrep;simp only [List.cons.injEq]at hu;obtain ⟨rfl,rfl⟩:=hu;simp only [List.cons.injEq,and_true]at hu2;subst hu2;have hy:∃y,qa4 P t (rd H f o st.E (.tmp a0)) (rd H f o st.E i)=some y:=by
   rw [qW (by rw [hop];rfl)]at hm;unfold qdw at hm;rw [hop,if_neg (by simp [qcY])]at hm;simp only [qh,List.map_nil,rootOf,qaL]at hm;cases hv:qa4 P t (rd H f o st.E (.tmp a0)) (rd H f o st.E i)with
   |none=>rw [hv]at hm;simp at hm
   |some y=>exact ⟨y,rfl⟩
  obtain ⟨y,hy⟩:=hy;obtain ⟨v',hrun,_⟩:=qmL hy hr1 hr2;refine ⟨by rw [hop];rfl,v',qus _ _ (by simp only [execOp,hop]) hrun,λE' X' _ _=>?_⟩;unfold qeD;rw [hop,hdst];simp only
  intro elem hul;rw [<- hdst,htvd,htv a0 (qbx (x:=.tmp a0) (by rw [hops];simp) rfl)];have hev2:evT (a.put o.dst v').tmps i=evT a.tmps i:=qs9 λt' e=>htv t' (qbx (x:=i) (by rw [hops];simp) e) v';rw [hev2];have hy':=hy;unfold qa4 at hy';split at hy'
  ·rename_i k m hi0;rw [hi0]at hr2;simp only [Rep]at hr2;obtain ⟨hiv,_⟩:=hr2;rw [hul]at hy';split at hy'
   ·rename_i hh _;cases hh
   ·rename_i hh _;cases hh
   ·rename_i el fl c l hh hx0;cases hh;split at hy'
    ·rename_i h0;split at hy'
     ·rename_i e he;split at hy'
      ·rename_i hc;obtain ⟨hlen,hok,hz0,_⟩:=hc;rw [hx0]at hr1;simp only [Rep]at hr1;obtain ⟨_,hr1⟩:=hr1;rcases hr1 with ⟨rfl,_⟩|⟨b,off,cap,sz,vals,O',hv1,hcap,_⟩
       ·simp at he
       ·have hlt:m<(l.length:Int):=by have:=(qm.1 he).1;omega
        have hrun2:(Instr.indexAt t (a.eval (.tmp a0)) (a.eval i)).run P w=.ok (.pointer (some ⟨b,off+m.toNat*P.cellsOf elem,none⟩)) w:=by
         rw [hv1,hiv];simp [Instr.indexAt,asIntOf,run_underlying hul,h0,hlt,qar hz0,Addr.add_lit]
        rw [hrun]at hrun2;simp only [Result.ok.injEq,and_true]at hrun2;refine ⟨b,off,l.length,cap,k,m,by rw [<- hev];exact hv1,?_,h0,hlt,hrun2⟩;cases i with
        |tmp t'=>exact hiv
        |const u=>exact hiv
        |_=>simp only [rd]at hi0;cases hi0
      ·cases hy'
     ·cases hy'
    ·cases hy'
   ·cases hy'
  ·cases hy'
 ·have hops:o.op.operands.toList=[.tmp a0]:=by rw [hop];rfl
  rw [hops]at hrep hm;simp only [qh,List.map_nil,RepL]at hrep;obtain ⟨u,vs,O1,O2,hu,rfl,hr1,rfl,rfl⟩:=hrep;simp only [List.cons.injEq,and_true]at hu;subst hu;have hy:∃y,qcq P t (rd H f o st.E (.tmp a0)) fd=some y:=by
   rw [qW (by rw [hop];rfl)]at hm;unfold qdw at hm;rw [hop,if_neg (by simp [qcY])]at hm;simp only [qh,List.map_nil,rootOf,qaL]at hm;cases hv:qcq P t (rd H f o st.E (.tmp a0)) fd with
   |none=>rw [hv]at hm;simp at hm
   |some y=>exact ⟨y,rfl⟩
  obtain ⟨y,hy⟩:=hy;obtain ⟨v',hrun,_⟩:=qmK hy hr1;refine ⟨by rw [hop];rfl,v',qus _ _ (by simp only [execOp,hop]) hrun,λE' X' _ _=>?_⟩;unfold qeD;rw [hop,hdst];simp only
  intro b off o' hv1 ho';rw [<- hdst,htvd];rw [<- hdst,htv a0 (qbx (x:=.tmp a0) (by rw [hops];simp) rfl)]at hv1;have hy':=hy;unfold qcq at hy';unfold qnx at ho';cases hul:P.underlying t with
  |none=>rw [hul]at hy';cases hy'
  |some td =>
   rw [hul]at hy' ho';cases td with
   |struct fields =>
    simp only at hy' ho';cases hf:fields[fd]? with
    |none=>rw [hf]at ho';cases ho'
    |some g =>
     rw [hf]at hy' ho';simp only [qi,qb]at ho';subst ho';simp only at hy';by_cases hz0:P.cellsOf g.type=0
     ·rw [if_pos hz0]at hy';cases hy'
     ·have hrun2:(Instr.fieldAt t (a.eval (.tmp a0)) fd).run P w=.ok (.pointer (some ⟨b,off+g.offset,none⟩)) w:=by
       rw [hev,hv1];simp [Instr.fieldAt,run_underlying hul,hf,Instr.sureAddr,fieldPlace,qar hz0,hz0,Addr.add_lit]
      rw [hrun]at hrun2;simp only [Result.ok.injEq,and_true]at hrun2;exact hrun2
   |_=>cases ho'
 ·have hops:o.op.operands.toList=[.tmp a0]:=by rw [hop];rfl
  have htame:qdu o.op=true:=by rw [hop];rfl
  obtain ⟨_,v,w1,hrun0,_⟩:=qxq h hF hx htame;rw [hops]at hrep hm;simp only [qh,List.map_nil,RepL]at hrep;obtain ⟨u,vs,O1,O2,hu,rfl,hr1,rfl,rfl⟩:=hrep;simp only [List.cons.injEq,and_true]at hu;subst hu;have hma:a0∈tmpsOf o:=qbx (x:=.tmp a0) (by rw [hops];simp) rfl
  have hcase:∃td,P.underlying t=some td/\((∃fl cs,rd H f o st.E (.tmp a0)=.cptr fl cs/\∃y,q4 P t cs=some y)\/∃r off cs,rd H f o st.E (.tmp a0)=.ptr r off/\st.box r=some cs/\qfy cs=false/\∃y,q4 P t (cs.drop off)=some y):=by
   rw [qW (by rw [hop];rfl)]at hm;unfold qdw at hm;rw [hop,if_neg (by simp [qcY])]at hm;simp only [qh,List.map_nil]at hm;have hu':∀cs y,q4 P t cs=some y->∃td,P.underlying t=some td:=λcs y hy=>by
    unfold q4 at hy;cases hul:P.underlying t with
    |none=>rw [hul]at hy;cases hy
    |some td=>exact ⟨td,rfl⟩
   cases hx0:rd H f o st.E (.tmp a0)with
   |cptr fl cs =>
    rw [hx0]at hm;simp only [rootOf,qaL]at hm;cases hy:q4 P t cs with
    |none=>rw [hy]at hm;simp at hm
    |some y=>obtain ⟨td,htd⟩:=hu' cs y hy;exact ⟨td,htd,.inl ⟨fl,cs,rfl,y,hy⟩⟩
   |ptr r off =>
    rw [hx0]at hm;simp only [rootOf,qaL,qc7]at hm;cases hbx:st.box r with
    |none=>rw [hbx]at hm;simp at hm
    |some cs =>
     rw [hbx]at hm;simp only at hm;cases hlp:qfy cs with
     |true=>rw [hlp]at hm;simp at hm
     |false =>
      cases hy:q4 P t (cs.drop off)with
      |none=>rw [hlp,hy]at hm;simp at hm
      |some y=>obtain ⟨td,htd⟩:=hu' _ y hy;exact ⟨td,htd,.inr ⟨r,off,cs,rfl,hbx,hlp,y,hy⟩⟩
   |_=>rw [hx0]at hm;simp [rootOf,qaL]at hm
  obtain ⟨td,htd,hcase⟩:=hcase
  have hw1:w1=w:=by
   rcases hcase with ⟨fl,cs,hx0,y,hy⟩|⟨r,off,cs,hx0,hbx,hlp,y,hy⟩
   ·rw [hx0]at hr1;simp only [Rep]at hr1;obtain ⟨_,b,off,vals,hv1,hseg,_,hl,_⟩:=hr1;obtain ⟨v2,_,_,_,hvv,_⟩:=qgX hy hl;have:(execOp a.eval o).run P w=.ok (.value v2) w:=qus (s:=Instr.loadAt t (a.eval (.tmp a0))) _ _ (by simp only [execOp,hop]) (by
     rw [hv1];simp only [Instr.loadAt,Instr.sureAddr,Sem.run_bind,Sem.run_pure,Result.andThen_ok];exact qen htd hseg hvv)
    rw [hrun0]at this;cases this;rfl
   ·rw [hx0]at hr1;obtain ⟨v2,hrun2,_⟩:=qig (tk:=false) (t:=t) (ao:=.tmp a0) (dst:=none) (z:=y.q6) (c:=none) h hF hr1 hbx (by rw [hlp,hy];rfl);have:(execOp a.eval o).run P w=.ok (.value v2) w:=qus _ _ (by simp only [execOp,hop]) hrun2;rw [hrun0]at this;cases this;rfl
  subst hw1;refine ⟨htame,v,hrun0,λE' X' hω hE=>?_⟩;have hload:∀{b off:Nat} {v2:Value},qN P t=false->tv a.tmps a0=.pointer (some ⟨b,off,none⟩)->w1.cell? ⟨b,off,none⟩=some v2->v=v2:=λhag hp hc=>by
   have:=qsp htd hag hc;have h2:=qus (P:=P) (w:=w1) a.eval o (s:=Instr.loadAt t (a.eval (.tmp a0))) (by simp only [execOp,hop]) (by rw [hev,hp];exact this);rw [hrun0]at h2;cases h2;rfl
  unfold qeD;rw [hop,hdst];simp only
  intro hag;rw [<- hdst,htvd];by_cases hla:H.link f a0=true
  ·rw [if_pos hla];rw [hop]at hgl;simp only [hla,Bool.not_true,Bool.false_or]at hgl;have hcp:∃fl cs,rd H f o st.E (.tmp a0)=.cptr fl cs/\∃y,q4 P t cs=some y:=by
    rcases hcase with h1|⟨r,off,cs,hx0,_⟩
    ·exact h1
    ·exfalso
     simp only [rd]at hx0;cases hE0:st.E.getD a0 .undef with
     |cptr fl l=>rw [hE0]at hx0;split at hx0<;>simp [V.q6,V.reflag]at hx0
     |_=>rw [hE0]at hgl;simp [qwO]at hgl
   obtain ⟨fl,cs,hx0,y,hy⟩:=hcp;rw [hx0]at hr1;simp only [Rep]at hr1;obtain ⟨_,b,off,vals,hv1,hseg,⟨e,fz,hωb,hle,_⟩,hl,_⟩:=hr1;have hy':=hy;unfold q4 at hy';rw [htd]at hy';simp only [hag,qf,if_false]at hy';cases cs with
   |nil=>simp at hy'
   |cons c0 cs =>
    have hl':=qF _ _ _ hl;cases vals with
    |nil=>simp at hl'
    |cons v2 vals =>
     have hc:=hseg 0 v2 rfl;simp only [Nat.add_zero]at hc;obtain ⟨e',fz',h1,h2⟩:=hω b e fz hωb;have hvv:=hload hag (by rw [<- hev];exact hv1) hc;refine ⟨b,off,v2,?_,hc,hvv,e',fz',h1,?_⟩
     ·rw [htv a0 hma,<- hev];exact hv1
     ·simp only [List.length_cons]at hle;omega
  ·rw [if_neg hla];intro r o' hE';have hE0:=hE a0 hma r o' hE';obtain ⟨u0,hu0,hr0⟩:=h.env a0 _ hE0;simp only [Rep]at hr0;obtain ⟨_,b,hb,rfl⟩:=hr0;have hrd:rd H f o st.E (.tmp a0)=.ptr r o':=by
    simp only [rd,List.getD_eq_getElem?_getD,hE0,Option.getD_some];split<;>rfl
   rcases hcase with ⟨fl,cs,hx0,_⟩|⟨r2,off,cs,hx0,hbx,hlp,y,hy⟩
   ·rw [hrd]at hx0;cases hx0
   ·rw [hrd]at hx0;cases hx0;obtain ⟨b',hb',_,_,hbr⟩:=h.box r cs hbx;rw [hb]at hb';cases hb';obtain ⟨arr,ty,harr,hl⟩:=hbr.cells hlp;have hy':=hy;unfold q4 at hy';rw [htd]at hy';simp only [hag,qf,if_false,List.head?_drop]at hy';obtain ⟨v2,Oi,hv2,_⟩:=qnO o' hl hy';have hc:w1.cell? ⟨b,o',none⟩=some v2:=by simp only [World.cell?,harr];simpa using hv2
    refine ⟨b,v2,?_,hc,hload hag (getD_at hu0) hc⟩;rw [htv a0 hma];exact getD_at hu0
end
section
variable {P:Program} {H:Hints} {f:FuncId} {C:Orc} {w w':World} {X X':Cx}
theorem RepE.swap{s:Nat}:∀{l:List V} {vals:List Value} {O:List Nat} (j:Nat) {e:V},RepE w X s l vals O->l[j]?=some e ->
  ∃u O1 Oe O2,O=O1++Oe++O2/\Rep w X e u Oe/\u.cells.size=s/\(∀i,i<s->vals[j*s+i]?=u.cells.toList[i]?) /\
   ∀(e':V) (Oe':List Nat),Rep w X e' u Oe'->RepE w X s (l.set j e') vals (O1++Oe'++O2)
 |[],vals,O,j,e,h,hj=>by simp at hj
 |y::l,vals,O,0,e,h,hj=>by
  simp only [RepE]at h;obtain ⟨u,vs,A,B,rfl,hsz,rfl,h1,h2⟩:=h;simp at hj;subst hj;have hl:u.cells.toList.length=s:=by simpa using hsz
  refine ⟨u,[],A,B,by simp,h1,hsz,λi hi=>?_,λe' Oe' hr=>?_⟩
  ·rw [Nat.zero_mul,Nat.zero_add,qg (by omega)]
  ·simp only [List.set_cons_zero,RepE,List.nil_append];exact ⟨u,vs,Oe',B,rfl,hsz,rfl,hr,h2⟩
 |y::l,vals,O,j+1,e,h,hj=>by
  simp only [RepE]at h;obtain ⟨u0,vs,A,B,rfl,hsz0,rfl,h1,h2⟩:=h;obtain ⟨u,O1,Oe,O2,rfl,hr,hsz,hc,hk⟩:=RepE.swap (j:=j) h2 (by simpa using hj);have hl:u0.cells.toList.length=s:=by simpa using hsz0
  refine ⟨u,A++O1,Oe,O2,by simp,hr,hsz,λi hi=>?_,λe' Oe' hr'=>?_⟩
  ·rw [show (j+1)*s+i=s+(j*s+i) by rw [Nat.succ_mul];omega,List.getElem?_append_right (by omega),hl,Nat.add_sub_cancel_left];exact hc i hi
  ·simp only [List.set_cons_succ,RepE];exact ⟨u0,vs,A,O1++Oe'++O2,rfl,hsz0,by simp,h1,hk e' Oe' hr'⟩
theorem qEs{j o s:Nat}{x u y:V}{v:Value}{O:List Nat}(hx:qCZ j o s x=some (u,y))(h:Rep w X x v O) :
  ∃uv A B,Rep w X u uv A/\Rep w X y v B/\(∀k,A.count k+B.count k<=O.count k)/\u.qq=[]/\y.qq=[]/\(∀z,SlF w v [(j,o,s)] z->z=uv):=by
 unfold qCZ at hx;split at hx
 ·rename_i c l;split at hx
  ·rename_i c' l' he;split at hx
   ·rename_i hos;obtain ⟨rfl,rfl⟩:=hos;simp only [qb,Prod.mk.injEq]at hx;obtain ⟨rfl,rfl⟩:=hx;obtain ⟨b,off,cap,vals,O',rfl,rfl,hcap,hc,hlen,hs0,hxs,hsg,hω,hsp,h0,hE,hnp⟩:=qsh (s:=1) h he (by rfl);obtain ⟨uv,O1,Oe,O2,rfl,hr,hsz,hat,hk⟩:=RepE.swap j hE he;have hr2:=hk _ _ (qgW hr);refine ⟨uv,Oe,b::(O1++[]++O2),hr,qo7 hcap hc hlen hs0 hxs hω h0 hnp (by rfl) (by simp [V.q6,V.reflag,V.qq]) rfl hsg hsp hr2,λk=>?_,by simp [V.qq],by simp [V.qq],?_⟩
    ·simp only [List.count_cons,List.count_append,List.append_nil]<;>omega
    ·rintro z ⟨b1,off1,len1,cap1,z1,hv,hj,hcell,hz⟩;simp only [SlF]at hz;subst hz;simp only [Value.slice.injEq,qb,Addr.mk.injEq]at hv;obtain ⟨⟨rfl,rfl,_⟩,rfl,rfl⟩:=hv;have h1:=hat 0 (by omega);have huc:uv.cells.toList=[uv]:=by rw [qb5 (qjX (by rfl) hr)]
     rw [huc]at h1;have h2:=hsg (j*1+0) uv (by rw [h1];rfl);have h3:off+j*1+0=off+(j*1+0):=by omega
     rw [h3,h2]at hcell;cases hcell;rfl
   ·cases hx
  ·cases hx
 ·cases hx
theorem qzd{w0:World}{X0:Cx}{Md:Md}{n:Nat}{ops:Array Oper}{s:Nat}{o:Oper}{st st1:St}{tmps:Array Value}{O:Pl->List Nat}(h:Rel st tmps w X O)(hF:Fr w0 X0 Md n st w X O)
  (hpath:∀d rt p,qyY o=some d->qbp P H f ops st.E ops.size s d=some (rt,p,false)->∃v0,qjs w X tmps rt v0/\SlF w v0 p.reverse (tv tmps d)) (hx:qd8 P H f ops s o st=some st1) :
  ∃O',Rel st1 tmps w X O'/\Fr w0 X0 Md n st1 w X O'/\∀(t:Nat) (r:Root) (off:Nat),st1.E[t]?=some (V.ptr r off)->st.E[t]?=some (V.ptr r off):=by
 have hap:∀{d:Tmp} {callee:Callee} {args:Array Operand} {argTypes:Array TypeId},o.op=.call {callee,args,argTypes}->(args[0]?:Option Operand)=some (.tmp d)->qyY o=some d:=λh1 h2=>by unfold qyY;rw [h1];simp only [h2]
 unfold qd8 at hx;split at hx
 ·rename_i hop0;split at hx
  ·rename_i d hd0;split at hx
   ·rename_i r j c k hlk;split at hx
    ·cases hx
    ·rename_i hne;simp only [not_or,Nat.not_le]at hne;obtain ⟨hrd,hdl⟩:=hne;split at hx
     ·rename_i u y htk;simp only [qb]at hx;subst hx;obtain ⟨v0,hroot,hsl⟩:=hpath d _ _ (hap hop0 hd0) hlk;simp only [qjs]at hroot;have hr0:st.E[r]?=some (st.E.getD r .undef):=by
       cases hE:st.E[r]? with
       |none =>
        exfalso
        have:st.E.getD r .undef=.undef:=by simp [hE]
        rw [this]at htk;simp [qCZ]at htk
       |some x=>simp [hE]
      obtain ⟨v,hv,hrep⟩:=h.env r _ hr0;have hv0:v0=v:=by rw [<- hroot];simp [hv]
      subst hv0;obtain ⟨uv,A,B,hu,hy,hcnt,hup,hyp,hz⟩:=qEs htk hrep;have hrl : @LT.lt Nat _ r st.E.length:=(qm.1 hr0).1;have htd:tv tmps d=uv:=hz _ hsl;have hds:d<tmps.size:=by rw [h.size];exact hdl
      have htd':tmps[d]?=some uv:=by
       rw [<- htd];unfold tv;simp [hds]
      let O':Pl->List Nat:=λp=>match p with
       |.tmp t=>if t=d then A else if t=r then B else O (.tmp t)
       |q=>O q
      have hAO:∀b∈A,b∈O (.tmp r):=λb hb=>List.count_pos_iff.1 (by have:=hcnt b;have:=List.count_pos_iff.2 hb;omega);have hBO:∀b∈B,b∈O (.tmp r):=λb hb=>List.count_pos_iff.1 (by have:=hcnt b;have:=List.count_pos_iff.2 hb;omega);have hAB:∀b∈A,b∉B:=λb hb hb'=>by
       have:=hcnt b;have:=List.count_pos_iff.2 hb;have:=List.count_pos_iff.2 hb';have:=h.lin (.tmp r) b;omega
      have hO'd:O' (.tmp d)=A:=by simp [O']
      have hO'r:O' (.tmp r)=B:=by simp [O',hrd]
      have hO'o:∀p,p≠.tmp d->p≠.tmp r->O' p=O p:=λp h1 h2=>by
       cases p with
       |tmp t =>
        have e1:t≠d:=λe=>h1 (by rw [e]);have e2:t≠r:=λe=>h2 (by rw [e]);simp [O',e1,e2]
       |box q=>rfl
      have hsrc:∀p b,b∈O' p->b∈O (if p=.tmp d then .tmp r else p):=λp b hb=>by
       by_cases h1:p=.tmp d
       ·subst h1;rw [hO'd]at hb;rw [if_pos rfl];exact hAO b hb
       ·rw [if_neg h1];by_cases h2:p=.tmp r
        ·subst h2;rw [hO'r]at hb;exact hBO b hb
        ·rw [hO'o p h1 h2]at hb;exact hb
      have hE1:∀t:Nat,((st.E.set r y).set d u)[t]?=if t=d then some u else if t=r then some y else st.E[t]?:=λt=>by
       by_cases h1:t=d
       ·subst h1;rw [if_pos rfl,List.getElem?_set_self (by simpa using hdl)]
       ·rw [if_neg h1,List.getElem?_set_ne (λe=>h1 e.symm)];by_cases h2:t=r
        ·subst h2;rw [if_pos rfl,List.getElem?_set_self hrl]
        ·rw [if_neg h2,List.getElem?_set_ne (λe=>h2 e.symm)]
      have hptr:∀(t:Nat) (q:Root) (off:Nat),((st.E.set r y).set d u)[t]?=some (V.ptr q off)->st.E[t]?=some (V.ptr q off):=λt q off ht=>by
       rw [hE1]at ht;split at ht
       ·cases ht;simp [V.qq]at hup
       ·split at ht
        ·cases ht;simp [V.qq]at hyp
        ·exact ht
      refine ⟨O',?_,?_,hptr⟩
      ·exact {
        size:=by rw [h.size];simp
        env:=λt x hx=>by
         have hx':((st.E.set r y).set d u)[t]?=some x:=hx;rw [hE1]at hx';by_cases h1:t=d
         ·subst h1;rw [if_pos rfl]at hx';cases hx';exact ⟨uv,htd',by rw [hO'd];exact hu⟩
         ·rw [if_neg h1]at hx';by_cases h2:t=r
          ·subst h2;rw [if_pos rfl]at hx';cases hx';exact ⟨v0,hv,by rw [hO'r];exact hy⟩
          ·rw [if_neg h2]at hx';obtain ⟨v,h3,h4⟩:=h.env t x hx';have e:O' (.tmp t)=O (.tmp t):=hO'o (.tmp t) (λe=>h1 (by cases e;rfl)) (λe=>h2 (by cases e;rfl));exact ⟨v,h3,by rw [e];exact h4⟩
        envD:=λt ht=>by
         have ht':st.E.length<=t:=by have:((st.E.set r y).set d u).length<=t:=ht;simpa using this
         have e:O' (.tmp t)=O (.tmp t):=hO'o (.tmp t) (λe=>by cases e;omega) (λe=>by cases e;omega);rw [e];exact h.envD t ht'
        box:=λq c hq=>by
         have:O' (.box q)=O (.box q):=rfl;rw [this];exact h.box q c hq
        boxD:=λq hq=>h.boxD q hq
        inj:=h.inj
        lin:=λp k=>by
         by_cases h1:p=.tmp d
         ·subst h1;rw [hO'd];have:=hcnt k;have:=h.lin (.tmp r) k;omega
         ·by_cases h2:p=.tmp r
          ·subst h2;rw [hO'r];have:=hcnt k;have:=h.lin (.tmp r) k;omega
          ·rw [hO'o p h1 h2];exact h.lin p k
        dis:=λp q hpq b hb hq=>by
         by_cases h1:p=.tmp d
         ·subst h1;by_cases h2:q=.tmp r
          ·subst h2;rw [hO'd]at hb;rw [hO'r]at hq;exact hAB b hb hq
          ·have h3:=hsrc (.tmp d) b hb;have h4:=hsrc q b hq;rw [if_pos rfl]at h3;rw [if_neg (λe=>hpq e.symm)]at h4;exact h.dis _ _ (λe=>h2 e.symm) b h3 h4
         ·by_cases h2:q=.tmp d
          ·subst h2;by_cases h3:p=.tmp r
           ·subst h3;rw [hO'd]at hq;rw [hO'r]at hb;exact hAB b hq hb
           ·have h4:=hsrc p b hb;have h5:=hsrc (.tmp d) b hq;rw [if_pos rfl]at h5;rw [if_neg h1]at h4;exact h.dis _ _ h3 b h4 h5
          ·have h4:=hsrc p b hb;have h5:=hsrc q b hq;rw [if_neg h1]at h4;rw [if_neg h2]at h5;exact h.dis _ _ hpq b h4 h5
        ptrE:=λq hq=>by
         obtain ⟨x,hx,hqx⟩:=qC.1 hq;obtain ⟨t,ht⟩:=List.mem_iff_getElem?.1 hx;rw [hE1]at ht;split at ht
         ·cases ht;rw [hup]at hqx;simp at hqx
         ·split at ht
          ·cases ht;rw [hyp]at hqx;simp at hqx
          ·exact h.ptrE q (qC.2 ⟨x,List.mem_of_getElem? ht,hqx⟩)
        ptrB:=h.ptrB
        up:=h.up
        dom:=h.dom}
      ·exact {
        size:=hF.size
        kept:=hF.kept
        grew:=hF.grew
        β:=hF.β
        own:=λp b hb=>hF.own _ b (hsrc p b hb)
        boxM:=hF.boxM
        lev:=hF.lev
        live:=hF.live
        os:=hF.os
        out:=hF.out
        tape:=hF.tape
        gl:=hF.gl
        gm:=hF.gm}
     ·cases hx
   ·cases hx
  ·cases hx
 ·cases hx
end
section
variable {P:Program} {H:Hints} {f:FuncId} {C:Orc} {w w':World} {X X':Cx}
def Inv(P:Program)(H:Hints)(f:FuncId)(ops:Array Oper)(done:Nat->Prop)(E:List V)(tmps:Array Value)(w:World)(X:Cx):Prop :=
 (∃(s:Nat) (o:Oper),ops[s]?=some o/\qhc H f o=true/\¬ done s)->∀(c:Nat) (oc:Oper),ops[c]?=some oc->qmD H f oc=true->done c->qeD P H f E oc tmps w X
def qxD(P:Program)(H:Hints)(f:FuncId)(ops:Array Oper)(done:Nat->Prop)(w0:World)(X0:Cx)(Md:Md)(n:Nat)(st:St)(a:Act)(w:World):Prop :=
 ∃X O,Rel st a.tmps w X O/\Fr w0 X0 Md n st w X O/\qd7 w0 w X a.defers/\Inv P H f ops done st.E a.tmps w X
theorem qxD.qF1{ops:Array Oper}{done:Nat->Prop}{w0:World}{X0:Cx}{Md:Md}{n:Nat}{st:St}{a:Act}(h:qxD P H f ops done w0 X0 Md n st a w):qls w0 X0 Md n st a w:=by
 obtain ⟨X,O,h1,h2,h3,_⟩:=h;exact ⟨X,O,h1,h2,h3⟩
theorem qls.qF9{ops:Array Oper}{w0:World}{X0:Cx}{Md:Md}{n:Nat}{st:St}{a:Act}(h:qls w0 X0 Md n st a w):qxD P H f ops (λ_=>False) w0 X0 Md n st a w:=by
 obtain ⟨X,O,h1,h2,h3⟩:=h;exact ⟨X,O,h1,h2,h3,λ_ c oc _ _ hd=>hd.elim⟩
theorem qxD.mono{ops:Array Oper}{done done':Nat->Prop}{w0:World}{X0:Cx}{Md:Md}{n:Nat}{st:St}{a:Act}(h:qxD P H f ops done w0 X0 Md n st a w)(hd:∀i,i<ops.size->(done' i↔done i)):qxD P H f ops done' w0 X0 Md n st a w:=by
 obtain ⟨X,O,h1,h2,h3,h4⟩:=h;have hlt:∀{i:Nat} {o:Oper},ops[i]?=some o->i<ops.size:=λh=>(Array.getElem?_eq_some_iff.1 h).1;refine ⟨X,O,h1,h2,h3,λ⟨s,o,ho,hls,hs⟩ c oc hoc hlk hc=>h4 ⟨s,o,ho,hls,λh=>hs ((hd s (hlt ho)).2 h)⟩ c oc hoc hlk ((hd c (hlt hoc)).1 hc)⟩
theorem qiD{ops:Array Oper}{i:Nat}{st st':St}{ft:Foot}(hx:qjm P H C f ops i st=some (st',ft)) :
  ∃o,ops[i]?=some o/\((qhc H f o=true/\qji P H f ops i o st=some st')\/(qhc H f o=false/\qmW H f o=true/\qmD H f o=false/\∃st1,qd8 P H f ops i o st=some st1/\qho P H C f ops i st1=some (st',ft)) \/
   (qhc H f o=false/\qmW H f o=false/\qeG H f o st.E=true/\qho P H C f ops i st=some (st',ft))):=by
 unfold qjm at hx;cases ho:ops[i]? with
 |none=>rw [ho]at hx;cases hx
 |some o =>
  rw [ho]at hx;simp only at hx;refine ⟨o,rfl,?_⟩;cases hls:qhc H f o with
  |true =>
   rw [hls,if_pos rfl]at hx;obtain ⟨s,h1,h2⟩:=qc.1 hx;cases h2;exact .inl ⟨rfl,h1⟩
  |false =>
   rw [hls]at hx;simp only [qf,if_false]at hx;cases hap:qmW H f o with
   |true =>
    rw [hap]at hx;simp only [if_true]at hx;split at hx
    ·cases hx
    ·rename_i hk;obtain ⟨s1,h1,h2⟩:=qd.1 hx;exact .inr (.inl ⟨rfl,rfl,by simpa using hk,s1,h1,h2⟩)
   |false =>
    rw [hap]at hx;simp only [qf,if_false]at hx;split at hx
    ·rename_i hg;exact .inr (.inr ⟨rfl,rfl,hg,hx⟩)
    ·cases hx
theorem qvP{x:V}{r:Root}{o:Nat}(h:x.q6=.ptr r o):x=.ptr r o:=by
 cases x with
 |room s n =>
  simp only [V.q6,V.reflag,qV]at h;by_cases h2:n=0<;>simp [h2]at h
 |_=>simp_all [V.q6,V.reflag]
theorem qpa{x:V}{r:Root}{o:Nat}(h:x.qef=.ptr r o):x=.ptr r o:=by
 unfold V.qef at h;split at h
 ·cases h
 ·exact h
theorem ql7{E:List V}{T:List Tmp}{t:Nat}{r:Root}{o:Nat}(h:(qz E T)[t]?=some (.ptr r o)):E[t]?=some (.ptr r o):=by
 rw [qf4]at h;split at h
 ·obtain ⟨x,h1,h2⟩:=qc.1 h;rw [h1,qvP h2]
 ·exact h
theorem qwl{ys:List V}{p:Path}{x y:V}(h:qsL ys p x=some y):∃c l,y=.sl .own c l:=by
 unfold qsL at h;split at h
 ·cases h
 ·split at h
  ·split at h
   ·split at h
    ·split at h
     ·cases h;exact ⟨_,_,rfl⟩
     ·cases h
    ·split at h
     ·obtain ⟨z,_,h2⟩:=qc.1 h;exact ⟨_,_,h2.symm⟩
     ·cases h
   ·cases h
  ·cases h
 ·cases h
theorem qGc{ops:Array Oper}{s:Nat}{o:Oper}{st st':St}(h:qji P H f ops s o st=some st'){t:Nat}{r:Root}{off:Nat}(hE:st'.E[t]?=some (.ptr r off)):st.E[t]?=some (.ptr r off):=by
 unfold qji at h;split at h
 ·simp only at h;split at h
  ·split at h
   ·rename_i r0 p hlk;split at h
    ·cases h
    ·split at h
     ·rename_i y hy;split at h
      ·cases h
      ·simp only [qb]at h;subst h;simp only [List.getElem?_set]at hE;split at hE
       ·split at hE
        ·obtain ⟨c,l,rfl⟩:=qwl hy;cases hE
        ·cases hE
       ·rw [List.getElem?_map]at hE;obtain ⟨x,h1,h2⟩:=qc.1 hE;rw [qpa h2]at h1;exact ql7 h1
     ·cases h
   ·split at h
    ·split at h
     ·split at h
      ·split at h
       ·cases h
       ·simp only [qb]at h;subst h;simp only [List.getElem?_map]at hE;obtain ⟨x,h1,h2⟩:=qc.1 hE;rw [qpa h2]at h1;exact ql7 h1
      ·cases h
     ·cases h
    ·cases h
   ·cases h
  ·cases h
 ·cases h
structure Fits (H:Hints) (f:FuncId) (ops:Array Oper) (done:Nat->Prop) (i:Nat):Prop where
 new:¬ done i
 after:∀(c:Nat) (oc o:Oper),ops[c]?=some oc->ops[i]?=some o->qmD H f oc=true->done c->ql6 H f oc o=true
 self:∀(o:Oper),ops[i]?=some o->qmD H f o=true->o.guard=none/\∀d,o.dst=some d->d∉tmpsOf o
 ls:∀(o:Oper),ops[i]?=some o->qhc H f o=true->∀(c:Nat) (oc:Oper),ops[c]?=some oc->qmD H f oc=true->c<i->done c
 apl:∀(o:Oper) (d:Tmp),ops[i]?=some o->qmW H f o=true->qyY o=some d->∀(c:Nat) (oc:Oper),ops[c]?=some oc->qmD H f oc=true->c<i->(∀x,oc.dst=some x->x∈qcF H f ops ops.size i d)->done c
 ap:∀(o:Oper),ops[i]?=some o->qmW H f o=true->∃(s:Nat) (os:Oper),ops[s]?=some os/\qhc H f os=true/\¬ done s
 lone:∀(c:Nat) (oc:Oper),ops[c]?=some oc->qmD H f oc=true->qiB H f oc=true->∀(s s':Nat) (o o':Oper),ops[s]?=some o->ops[s']?=some o'->qhc H f o=true->qhc H f o'=true->s=s'
theorem qt4{oc oi:Oper}(h:ql6 H f oc oi=true):(∀d,oi.dst=some d->oc.dst≠some d/\d∉tmpsOf oc)/\(qn2 H f oc=true->qdu oi.op=true\/qhc H f oi=true):=by
 unfold ql6 at h;simp only [qe,Bool.or_eq_true,Bool.not_eq_true']at h;refine ⟨λd hd=>?_,λhb=>?_⟩
 ·have h1:=h.1;rw [hd]at h1;simp at h1;exact ⟨h1.1,h1.2⟩
 ·rcases h.2 with (h2|h2)|h2
  ·rw [hb]at h2;cases h2
  ·exact .inl h2
  ·exact .inr h2
theorem qoh{F:Fence}{X0:Cx}{Md:Md}{n:Nat}(h:FOk F X0 Md n):F=Fence.wide\/∃l,F=Fence.wide.inRound l:=by
 rcases h.1 with h|⟨r,l,h,_⟩
 ·exact .inl h
 ·exact .inr ⟨l,h⟩
theorem qt8(hC:OrcOk P C){F:Fence}{w0:World}{X0:Cx}{Md:Md}{n:Nat}(hFO:FOk F X0 Md n){ops:Array Oper}{done:Nat->Prop}{i:Nat}{st st':St}{ft:Foot}{a:Act}(hS:qxD P H f ops done w0 X0 Md n st a w)
  {o:Oper} (ho:ops[i]?=some o) (hls:qhc H f o=false) (hgate:qeG H f o st.E=true) (hx:qho P H C f ops i st=some (st',ft)) (hfit:Fits H f ops done i) {K:Act->World->Prop} {Q:Exit->Act->World->Prop} (hK:∀a' w',qxD P H f ops (λk=>done k\/k=i) w0 X0 Md n st' a' w'->K a' w'):wpOpIn F 0 P ops Q i K a w:=by
 have hFF:=qoh hFO;obtain ⟨X,O,h,hF,hM,hI⟩:=hS;obtain ⟨Md2,hFb,hkd,lift⟩:=qAN h hF hM;obtain ⟨o',ho',b,z,m,A⟩:=qdl.1 hx;rw [ho]at ho';cases ho';have hE':∀t,o.dst≠some t->∀r off,st'.E[t]?=some (.ptr r off)->st.E[t]?=some (.ptr r off):=λt ht r off hE=>by
  rw [A.res]at hE;simp only [qsj]at hE;rw [if_neg (λhh=>ht hh.1)]at hE;exact ql7 hE
 have key:∀(v:Value) (w':World),Sim w X Md2 n st' (a.put o.dst v).tmps w'->(qdu o.op=true->∀b,b<w.heap.size->X.ω b=none->w'.heap[b]?=w.heap[b]?) ->
   (qmD H f o=true->∀X':Cx,(∀b e fz,X.ω b=some (e,fz)->∃e' fz',X'.ω b=some (e',fz')/\e<=e')->qeD P H f st'.E o (a.put o.dst v).tmps w' X') ->
   qxD P H f ops (λk=>done k\/k=i) w0 X0 Md n st' (a.put o.dst v) w':=by
  rintro v w' ⟨X',O',hR',hFr'⟩ htame hnew;obtain ⟨hF',hM'⟩:=lift _ _ _ _ hFr';have hdef:(a.put o.dst v).defers=a.defers:=by cases o.dst<;>rfl
  have hω:∀b e fz,X.ω b=some (e,fz)->∃e' fz',X'.ω b=some (e',fz')/\e<=e':=λb e fz hb=>by
   obtain ⟨e',fz',h1,h2,_⟩:=hFr'.grew b e fz hb;exact ⟨e',fz',h1,h2⟩
  refine ⟨X',O',hR',hF',by rw [hdef];exact hM',λ⟨s,os,hos,hlss,hs⟩ c oc hoc hlk hc=>?_⟩;have hfacts:=hI ⟨s,os,hos,hlss,λhd=>hs (.inl hd)⟩;rcases hc with hc|rfl
  ·obtain ⟨h1,h2⟩:=qt4 (hfit.after c oc o hoc ho hlk hc);refine (hfacts c oc hoc hlk hc).qpV (λd hd=>qxw (λe=>(h1 d e).1 hd)) (λt ht=>qxw (λe=>(h1 t e).2 ht)) (λ_=>⟨hω,λb e fz k v hb hk hcell=>?_⟩) (λhbl t' ht' r o' hE=>?_)
   ·obtain ⟨e',fz',_,_,_,h4⟩:=hFr'.grew b e fz hb;exact h4 k v hk hcell
   ·have hE0:=hE' t' (λe=>(h1 t' e).2 ht') r o' hE;refine ⟨hE0,λb' hb'=>?_⟩;obtain ⟨u,hu,hr⟩:=h.env t' _ hE0;simp only [Rep]at hr;obtain ⟨_,b2,hb2,rfl⟩:=hr;rw [getD_at hu]at hb';cases hb'
    have hlive:=h.ptrE r (qC.2 ⟨_,List.mem_of_getElem? hE0,by simp [V.qq]⟩);obtain ⟨cs,hcs⟩:=Option.isSome_iff_exists.1 hlive;obtain ⟨b3,hb3,hlt,hω0,_⟩:=h.box r cs hcs;rw [hb2]at hb3;cases hb3;have ht:qdu o.op=true:=by
     rcases h2 hbl with h2|h2
     ·exact h2
     ·rw [hls]at h2;cases h2
    exact cell_of_heap (htame ht _ hlt hω0)
  ·rw [ho]at hoc;cases hoc;exact hnew hlk X' hω
 unfold wpOpIn;rw [ho];simp only
 rw [quN h A.wanted];cases b with
 |false =>
  simp only [qf,if_false];refine ⟨λg _=>qlH hFF g,hK _ _ (key undef w ?_ (λ_ _ _ _=>rfl) (λhlk=>?_))⟩
  ·obtain ⟨rfl,rfl,_⟩:=qeX A.mem;refine ⟨X,qiF O [] o.dst st.E.length [],?_⟩;have hst':st'=st.put o.dst (.val undef):=by rw [A.res,put_eq];rfl
   rw [hst',qcx];exact ⟨h.qjU o.dst (by simp [Rep]) Lin.nil (by simp) (by simp [V.qq]),hFb.qjU o.dst (by simp)⟩
  ·have:=(hfit.self o ho hlk).1;have hw:=A.wanted;unfold qcA at hw;rw [this]at hw;cases hw
 |true =>
  simp only [if_true];have hstep:qeH P H C f o st=some (st',ft.fp):=by
   have h2:=hx;unfold qho at h2;rw [ho]at h2;simp only [A.wanted]at h2;obtain ⟨⟨s1,fp⟩,h3,h4⟩:=qc.1 h2;simp only [Prod.mk.injEq]at h4;obtain ⟨rfl,rfl⟩:=h4;exact h3
  refine qCV hC hFF h hFb hstep λv w' hSim ht=>hK _ _ (key v w' hSim (λh1=>(ht h1).1) λhlk X' hω=>?_);obtain ⟨_,hself⟩:=hfit.self o ho hlk;rcases qxK h hFb hlk hself hgate hstep with hall|⟨htm,v0,hrun,hfact⟩
  ·exact hall _ _ _ _
  ·obtain ⟨rfl,rfl⟩:=(ht htm).2 v0 hrun;exact hfact _ _ hω (λt ht' r o' hE=>hE' t (λe=>hself t e ht') r o' hE)
theorem qAA(hC:OrcOk P C){F:Fence}{w0:World}{X0:Cx}{Md:Md}{n:Nat}(hFO:FOk F X0 Md n){ops:Array Oper}{done:Nat->Prop}{i:Nat}{st st':St}{ft:Foot}{a:Act}(hS:qxD P H f ops done w0 X0 Md n st a w)
  (hx:qjm P H C f ops i st=some (st',ft)) (hfit:Fits H f ops done i) {K:Act->World->Prop} {Q:Exit->Act->World->Prop} (hK:∀a' w',qxD P H f ops (λk=>done k\/k=i) w0 X0 Md n st' a' w'->K a' w'):wpOpIn F 0 P ops Q i K a w:=by
 have hFF:=qoh hFO;have hS0:=hS;obtain ⟨X,O,h,hF,hM,hI⟩:=hS;obtain ⟨o,ho,⟨hls,hx⟩|⟨hls,hap,hnk,st1,hx1,hx⟩|⟨hls,hap,hgate,hx⟩⟩:=qiD hx
 ·-- the store
  obtain ⟨t,d,xo,hop,hld⟩:∃t d xo,o.op=.store t (.tmp d) xo/\H.link f d=true:=by
   unfold qhc at hls;split at hls
   ·rename_i t d xo hop;exact ⟨t,d,xo,hop,hls⟩
   ·cases hls
  have hpend:∃(s:Nat) (o:Oper),ops[s]?=some o/\qhc H f o=true/\¬ done s:=⟨i,o,ho,hls,hfit.new⟩
  have hfacts:=hI hpend;have hpath:∀rt p,qbp P H f ops st.E ops.size i d=some (rt,p,true)->∃v0 b k,qjs w X a.tmps rt v0/\a.tmps.getD d undef=.pointer (some ⟨b,k,none⟩)/\qFB w v0 p b k:=λrt p hlk=>by
   obtain ⟨v0,h1,h2⟩:=qFK h (s:=i) (λc oc hoc hl hci=>hfacts c oc hoc hl (hfit.ls o ho hls c oc hoc hl hci)) ops.size i d rt p true (Nat.le_refl _) hlk;simp only [if_true]at h2;obtain ⟨b,k,h3,h4⟩:=h2;exact ⟨v0,b,k,h1,h3,h4⟩
  obtain ⟨hdst,hgd,w',b,hrun,hW,hsz,O',hR',hF',hM'⟩:=qFN h hF (λh0=>hFO.2 h0) hM hop hpath hx;unfold wpOpIn;rw [ho];have hwant:Region.wanted o (yielded ops a.tmps)=true:=by unfold Region.wanted;rw [hgd]
  simp only [hwant,if_true];refine ⟨λg _=>qlH hFF g,?_⟩;rw [Oper.semAt_eq _ _ _ (by intro c hc;rw [hop]at hc;cases hc)];have hrun':(execOp a.eval o).run P w=.ok .skip w':=by simp only [execOp,hop,Sem.run_bind,hrun,Result.andThen_ok,Sem.run_pure]
  rw [hrun',Oper.uponIn_skip];refine hK _ _ ?_;have hput:a.put o.dst undef=a:=by rw [hdst];rfl
  rw [hput];refine ⟨X,O',hR',hF',hM',λhp c oc hoc hlk hc=>?_⟩;have hci:done c:=by
   rcases hc with hc|rfl
   ·exact hc
   ·rw [ho]at hoc;cases hoc;unfold qmD at hlk;rw [hdst]at hlk;cases hlk
  refine (hfacts c oc hoc hlk hci).qpV (λ_ _=>rfl) (λ_ _=>rfl) (λhn=>?_) (λhb t' ht' r o' hE=>?_)
  ·obtain ⟨s,o2,ho2,hls2,hd2⟩:=hp;exact absurd (.inr (hfit.lone c oc hoc hlk hn s i o2 o ho2 ho hls2 hls)) hd2
  ·have hE0:=qGc hx hE;refine ⟨hE0,λb' hb'=>?_⟩;obtain ⟨u,hu,hr⟩:=h.env t' _ hE0;simp only [Rep]at hr;obtain ⟨_,b2,hb2,rfl⟩:=hr;rw [getD_at hu]at hb';cases hb'
   have hlive:=h.ptrE r (qC.2 ⟨_,List.mem_of_getElem? hE0,by simp [V.qq]⟩);obtain ⟨cs,hcs⟩:=Option.isSome_iff_exists.1 hlive;obtain ⟨b3,hb3,_,hω,_⟩:=h.box r cs hcs;rw [hb2]at hb3;cases hb3;obtain ⟨e,he⟩:=hW.ω;exact cell_of_heap (hW.kept _ (λe'=>by rw [e',he]at hω;cases hω))
 ·-- an append to what is taken out
  have hfacts:=hI (hfit.ap o ho hap);obtain ⟨O1,h1,hF1,hptr⟩:=qzd (P:=P) (H:=H) (f:=f) h hF (λd rt p hd hlk=>by
   obtain ⟨v0,h1,h2⟩:=qDs (S:=qcF H f ops ops.size i d) h (s:=i) (λc oc hoc hl hci hS=>hfacts c oc hoc hl (hfit.apl o d ho hap hd c oc hoc hl hci hS)) ops.size i d rt p false (Nat.le_refl _) (λ_ h=>h) hlk;exact ⟨v0,h1,by simpa using h2⟩) hx1
  refine qt8 hC hFO (st:=st1) ⟨X,O1,h1,hF1,hM,λhp c oc hoc hlk hc=>?_⟩ ho hls (by unfold qeG;rw [hnk];rfl) hx hfit hK;exact (hI hp c oc hoc hlk hc).qpV (λ_ _=>rfl) (λ_ _=>rfl) (λ_=>⟨λb e fz hb=>⟨e,fz,hb,Nat.le_refl _⟩,λb e fz k v _ _ hcell=>hcell⟩) (λ_ t' _ r o' hE=>⟨hptr t' r o' hE,λ_ _=>rfl⟩)
 ·exact qt8 hC hFO hS0 ho hls hgate hx hfit hK
end
section
variable {P:Program} {H:Hints} {f:FuncId} {C:Orc} {w:World}
theorem qqB{ops:Array Oper}{j:Nat}{x y:Oper}{st s1:St}{fx:Foot}(hx:ops[j]?=some x)(h1:qho P H C f ops j st=some (s1,fx))(hd:∀d,x.dst=some d->d∉looksAt ops y)(hm:∀t∈fx.took,t∉qbq H f ops y) :
  (∀t∈looksAt ops y,qhp st.E s1.E t)/\s1.E.length=st.E.length:=by
 obtain ⟨x',hx',b,z,m,A⟩:=qdl.1 h1;rw [hx]at hx';cases hx';have hE1:s1.E=qyw x.dst z (qz st.E (qcz H f x b)):=by rw [A.res]
 rw [hE1];exact ⟨(qlY (z:=z) hd A.took hm).2,by rw [qnN,qir]⟩
theorem qvm(x:V):qwO x.q6=qwO x:=by
 cases x with
 |room s n =>
  simp only [V.q6,V.reflag];split
  ·rfl
  ·split<;>rfl
 |_=>rfl
theorem qqq{ops:Array Oper}{y:Oper}{E E':List V}(h:∀t∈looksAt ops y,qhp E E' t)(hl:E'.length=E.length):qeG H f y E'=qeG H f y E:=by
 unfold qeG;rw [hl];congr 2
 split
 ·rename_i t a hop;have:=(h a (List.mem_append_left _ (qbx (x:=.tmp a) (by rw [hop];exact List.mem_singleton.2 rfl) rfl))).getD;grind [qvm]
 ·rfl
def qy1(H:Hints)(f:FuncId)(o:Oper):Bool:=qhc H f o||qmW H f o
theorem qsf{ops:Array Oper}{i:Nat}{o:Oper}{st st':St}{ft:Foot}(ho:ops[i]?=some o)(hls:qy1 H f o=false)(hg:qeG H f o st.E=true)(h:qho P H C f ops i st=some (st',ft)):qjm P H C f ops i st=some (st',ft):=by
 simp_all [Bool.or_eq_false_iff,qf,if_false,if_true,qy1,qjm]
theorem qnL{ops:Array Oper}{i:Nat}{o:Oper}{st st':St}{ft:Foot}(ho:ops[i]?=some o)(hls:qy1 H f o=false)(h:qjm P H C f ops i st=some (st',ft)):qeG H f o st.E=true/\qho P H C f ops i st=some (st',ft):=by
 grind [Bool.or_eq_false_iff,qiD,qy1]
theorem qBf{ops:Array Oper}{i j:Nat}{x y:Oper}{st s1 s2:St}{fx fy:Foot}(hx:ops[j]?=some x)(hy:ops[i]?=some y)(hlx:qy1 H f x=false)(hly:qy1 H f y=false)(hap:qcg ops x y=true)(h1:qjm P H C f ops j st=some (s1,fx))(h2:qjm P H C f ops i s1=some (s2,fy))
  (hcl:fx.qgx fy=false):∃s1',qjm P H C f ops i st=some (s1',fy)/\qjm P H C f ops j s1'=some (s2,fx):=by
 obtain ⟨g1,r1⟩:=qnL hx hlx h1;obtain ⟨g2,r2⟩:=qnL hy hly h2;obtain ⟨s1',r3,r4⟩:=qnT hx hy hap r1 r2 hcl;obtain ⟨d1,d2,d3⟩:=qki hap;obtain ⟨x',hx',b,z,m,A⟩:=qdl.1 r1;rw [hx]at hx';cases hx';obtain ⟨y',hy',b',z',m',B⟩:=qdl.1 r2;rw [hy]at hy';cases hy';simp only [Foot.qgx,Bool.or_eq_false_iff]at hcl;obtain ⟨⟨hc,hm1⟩,hm2⟩:=hcl;have hm1':=qcb hm1;have hm2':=qcb hm2;rw [B.looks]at hm1';rw [A.looks]at hm2';obtain ⟨k1,l1⟩:=qqB (y:=y) hx r1 d1 hm1';obtain ⟨k2,l2⟩:=qqB (y:=x) hy r3 d3 hm2';exact ⟨s1',qsf hy hly (by rw [<- qqq (H:=H) (f:=f) k1 l1];exact g2) r3,qsf hx hlx (by rw [qqq (H:=H) (f:=f) k2 l2];exact g1) r4⟩
theorem qBh{j o s:Nat}{x u y:V}(hx:qCZ j o s x=some (u,y)):y.q6=x.q6:=by
 unfold qCZ at hx;split at hx
 ·rename_i c l;split at hx
  ·rename_i c' l' he;split at hx
   ·simp only [qb,Prod.mk.injEq]at hx;obtain ⟨rfl,rfl⟩:=hx;show V.sl .q6 c (reflagL qV (l.set j (V.q6 (.sl .own c' l'))))=V.sl .q6 c (reflagL qV l);rw [qB,qB];congr 1
    apply List.ext_getElem?;intro i;rw [List.getElem?_map,List.getElem?_map];by_cases hi:i=j
    ·subst hi;have hlt:i<l.length:=(qm.1 he).1
     simp_all [List.getElem?_set_self,congrArg,dull_dull,V.q6]
    grind
   grind
  grind
 grind
theorem qfb{ops:Array Oper}{s:Nat}{o:Oper}{st g:St}(h:qd8 P H f ops s o st=some g) :
  ∃d r j c k u y,qyY o=some d/\qbp P H f ops st.E ops.size s d=some (.tmp r,[(j,c,k)],false)/\r≠d/\d<st.E.length/\qCZ j c k (st.E.getD r .undef)=some (u,y)/\g={st with E:=(st.E.set r y).set d u}:=by
 unfold qd8 at h;split at h
 ·rename_i hop;split at h
  ·rename_i d hd;split at h
   ·rename_i r j c k hlk;split at h
    ·cases h
    ·rename_i hne;simp only [not_or,Nat.not_le]at hne;split at h
     ·rename_i u y htk;simp only [qb]at h;exact ⟨d,r,j,c,k,u,y,by simp_all [qyY],hlk,hne.1,hne.2,htk,h.symm⟩
     ·cases h
   ·cases h
  ·cases h
 ·cases h
theorem qsV{ops:Array Oper}{s:Nat}{o:Oper}{st:St}{d r:Tmp}{j c k:Nat}{u y:V}(hop:∃cl,o.op=.call cl)(hd:qyY o=some d)(hlk:qbp P H f ops st.E ops.size s d=some (.tmp r,[(j,c,k)],false))(hne:r≠d)(hl:d<st.E.length)(htk:qCZ j c k (st.E.getD r .undef)=some (u,y)) :
  qd8 P H f ops s o st=some {st with E:=(st.E.set r y).set d u}:=by
 obtain ⟨cl,hop⟩:=hop;unfold qyY at hd;unfold qd8;grind
theorem qop{o:Oper}(h:qmW H f o=true):∃cl,o.op=.call cl:=by
 grind [qmW]
theorem qjy{ops:Array Oper}{c:Nat}{oc oi:Oper}(h:qkr H f ops c oc oi=true):∃a x d,oi.op=.move (.tmp a)/\oi.dst=some x/\qyY oc=some d/\oi.guard=none/\qab H f oi=false/\qy1 H f oi=false/\a≠d/\x∉qcF H f ops ops.size c d:=by
 unfold qkr at h;split at h
 ·simp_all [qe,Bool.not_eq_true',decide_eq_true_eq,qy1]
 ·cases h
theorem qnJ{ops:Array Oper}{j:Nat}{x:Oper}{a:Tmp}(hx:ops[j]?=some x)(hop:x.op=.move (.tmp a))(hg:x.guard=none)(ht:qab H f x=false)(st:St) :
  qho P H C f ops j st=some (st.put x.dst (st.E.getD a .undef).q6,⟨.none,[],qbq H f ops x⟩):=by
 unfold qho;rw [hx];have hw:qcA ops st.E x=some true:=by unfold qcA;rw [hg]
 simp only [hw];have hs:qeH P H C f x st=some (st.put x.dst (st.E.getD a .undef).q6,.none):=by
  unfold qeH;simp only [ht,Bool.false_and,qf,if_false];have hops:x.op.operands.toList=[.tmp a]:=by rw [hop];rfl
  rw [hops];simp only [qh,List.map_nil,rd,ht,qf,if_false];unfold qbh;rw [hop];rfl
 simp_all [qfQ]
theorem qze{ops:Array Oper}{c:Nat}{oc:Oper}{st:St}{x d:Tmp}(z:V)(hap:qmW H f oc=true)(hd:qyY oc=some d)(hx:x∉qcF H f ops ops.size c d) :
  qd8 P H f ops c oc (st.put (some x) z)=(qd8 P H f ops c oc st).map λg=>g.put (some x) z:=by
 have hne:∀t∈qcF H f ops ops.size c d,(st.put (some x) z).E[t]?=st.E[t]?:=λt ht=>by
  show (st.E.set x z)[t]?=_;grind
 have hpath:=qei (P:=P) ops.size c d hne;have hlen:(st.put (some x) z).E.length=st.E.length:=List.length_set ..;have key:∀{st1:St} {r:Tmp} {p:Path} {b:Bool},qbp P H f ops st1.E ops.size c d=some (.tmp r,p,b)->x≠r:=λh e=>hx (by grind [qfp]);cases hA:qd8 P H f ops c oc st with
 |some g =>
  obtain ⟨d',r,j,k1,k2,u,y,h1,h2,h3,h4,h5,rfl⟩:=qfb hA;rw [hd]at h1;cases h1;have hxr:=key h2;have hxd:x≠d:=λe=>hx (by
   rw [e];cases hn:ops.size with
   |zero=>simp_all [qbp]
   |succ n=>simp [qcF])
  grind [getD_congr,List.getElem?_set_ne,qsV,qop,qi,List.set_comm,undef,St.put]
 |none =>
  cases hB:qd8 P H f ops c oc (st.put (some x) z)with
  |none=>rfl
  |some g =>
   exfalso
   obtain ⟨d',r,j,k1,k2,u,y,h1,h2,h3,h4,h5,rfl⟩:=qfb hB;rw [hd]at h1;cases h1;have hxr:=key h2;have hr:(st.put (some x) z).E.getD r .undef=st.E.getD r .undef:=getD_congr (by show (st.E.set x z)[r]?=_;grind);have:=qsV (st:=st) (qop hap) hd (by rw [<- hpath];exact h2) h3 (by grind) (by rw [<- hr];exact h5);grind
theorem qwt{ops:Array Oper}{c:Nat}{oc:Oper}{st g:St}{a d:Tmp}(hA:qd8 P H f ops c oc st=some g)(hd:qyY oc=some d)(had:a≠d):(g.E.getD a .undef).q6=(st.E.getD a .undef).q6:=by
 grind [qfb,getD_congr,List.getElem?_set_ne,qBh,List.set_eq_of_length_le,set,undef,LT.lt]
theorem qse{ops:Array Oper}{i:Nat}{o:Oper}{st st':St}{ft:Foot}(ho:ops[i]?=some o)(hap:qmW H f o=true):qjm P H C f ops i st=some (st',ft)↔(qhc H f o=false/\qmD H f o=false/\∃g,qd8 P H f ops i o st=some g/\qho P H C f ops i g=some (st',ft)):=by
 have hls:qhc H f o=false:=by
  grind [qop,qhc]
 constructor
 ·grind [qiD]
 simp_all [qf,if_false,if_true,qa,qjm]
theorem qtk{x:Oper}{a:Tmp}(hop:x.op=.move (.tmp a)){E E':List V}(hl:E'.length=E.length):qeG H f x E'=qeG H f x E:=by
 simp_all [qeG]
theorem qyQ{ops:Array Oper}{i j:Nat}{x y:Oper}{st s1 s2:St}{fx fy:Foot}(hx:ops[j]?=some x)(hy:ops[i]?=some y)(hap:qmW H f y=true)(hfr:qkr H f ops i y x=true)(hda:qcg ops x y=true)(h1:qjm P H C f ops j st=some (s1,fx))(h2:qjm P H C f ops i s1=some (s2,fy))
  (hcl:fx.qgx fy=false):∃s1',qjm P H C f ops i st=some (s1',fy)/\qjm P H C f ops j s1'=some (s2,fx):=by
 obtain ⟨a,xd,d,hop,hdst,hd,hg,htk,hto,had,hxl⟩:=qjy hfr;obtain ⟨g1,r1⟩:=qnL hx hto h1;obtain ⟨hls,hlk,g,hA,r2⟩:=(qse hy hap).1 h2;rw [qnJ hx hop hg htk]at r1;obtain ⟨rfl,rfl⟩:=Prod.mk.inj (Option.some.inj r1);rw [hdst,qze _ hap hd hxl]at hA;obtain ⟨g0,hA0,rfl⟩:=qc.1 hA;have r3:qho P H C f ops j g0=some (g0.put (some xd) (st.E.getD a .undef).q6,⟨.none,[],qbq H f ops x⟩):=by
  rw [qnJ hx hop hg htk,hdst,qwt hA0 hd had]
 obtain ⟨s1',r4,r5⟩:=qnT hx hy hda r3 r2 hcl;refine ⟨s1',(qse hy hap).2 ⟨hls,hlk,g0,hA0,r4⟩,qsf hx hto ?_ r5⟩;rw [qtk hop (E:=st.E)]
 ·exact g1
 ·obtain ⟨y',hy',b,z,m,A⟩:=qdl.1 r4;obtain ⟨_,r,_,_,_,u,yy,_,_,_,_,_,rfl⟩:=qfb hA0;rw [A.res];simp [qnN,qir]
theorem qyP{ops:Array Oper}{i j:Nat}{x y:Oper}{st s1 s2:St}{fx fy:Foot}(hx:ops[j]?=some x)(hy:ops[i]?=some y)(hap:qmW H f x=true)(hfr:qkr H f ops j x y=true)(hda:qcg ops x y=true)(h1:qjm P H C f ops j st=some (s1,fx))(h2:qjm P H C f ops i s1=some (s2,fy))
  (hcl:fx.qgx fy=false):∃s1',qjm P H C f ops i st=some (s1',fy)/\qjm P H C f ops j s1'=some (s2,fx):=by
 obtain ⟨a,xd,d,hop,hdst,hd,hg,htk,hto,had,hxl⟩:=qjy hfr;obtain ⟨hls,hlk,g,hA,r1⟩:=(qse hx hap).1 h1;obtain ⟨g2,r2⟩:=qnL hy hto h2;obtain ⟨s1',r3,r4⟩:=qnT hx hy hda r1 r2 hcl;have hfy:=r3;rw [qnJ hy hop hg htk]at r3;obtain ⟨rfl,rfl⟩:=Prod.mk.inj (Option.some.inj r3);rw [hdst,qwt hA hd had]at r4;have hA2:qd8 P H f ops j x (st.put (some xd) (st.E.getD a .undef).q6)=some (g.put (some xd) (st.E.getD a .undef).q6):=by
  simp_all [qze]
 refine ⟨st.put (some xd) (st.E.getD a .undef).q6,qsf hy hto ?_ (by simp_all [qnJ]),(qse hx hap).2 ⟨hls,hlk,_,hA2,r4⟩⟩;rw [qtk hop (E:=s1.E)]
 ·exact g2
 ·obtain ⟨y',hy',b,z,m,A⟩:=qdl.1 r1;obtain ⟨_,r,_,_,_,u,yy,_,_,_,_,_,rfl⟩:=qfb hA;rw [A.res];simp [qnN,qir]
def Two(H:Hints)(f:FuncId)(ops:Array Oper)(j i:Nat)(x y:Oper):Prop :=
 (qy1 H f x=false/\qy1 H f y=false)\/(qmW H f y=true/\qkr H f ops i y x=true)\/(qmW H f x=true/\qkr H f ops j x y=true)
theorem qCX{ops:Array Oper}{i j:Nat}{x y:Oper}{st s1 s2:St}{fx fy:Foot}(hx:ops[j]?=some x)(hy:ops[i]?=some y)(htwo:Two H f ops j i x y)(hda:qcg ops x y=true)(h1:qjm P H C f ops j st=some (s1,fx))(h2:qjm P H C f ops i s1=some (s2,fy))
  (hcl:fx.qgx fy=false):∃s1',qjm P H C f ops i st=some (s1',fy)/\qjm P H C f ops j s1'=some (s2,fx):=by
 rcases htwo with ⟨h3,h4⟩|⟨h3,h4⟩|⟨h3,h4⟩
 ·simp_all [qBf]
 ·simp_all [qyQ]
 simp_all [qyP]
theorem qDv{ops:Array Oper}{i:Nat}{o:Oper}{st st':St}{ft:Foot}(ho:ops[i]?=some o)(hls:qhc H f o=false)(h:qjm P H C f ops i st=some (st',ft)):∃st1 st2,qho P H C f ops i st1=some (st2,ft):=by
 grind [qiD]
theorem qdH{ops:Array Oper}{i:Nat}{l:List Nat}{st s:St}{fps:List (Nat×Foot)}:qgC P H C f ops (i::l) st=some (s,fps)↔∃s1 ft fps',qjm P H C f ops i st=some (s1,ft)/\qgC P H C f ops l s1=some (s,fps')/\fps=(i,ft)::fps':=by
 grind [qc,Prod.exists,qb,Prod.mk.injEq,qgC,qjm]
theorem qoV{ops:Array Oper}{i:Nat}{y:Oper}(hy:ops[i]?=some y){B:List Nat}:∀(A:List Nat) (st s:St) (fps:List (Nat×Foot)),qgC P H C f ops (A++i::B) st=some (s,fps) ->
  (∀j∈A,∃x,ops[j]?=some x/\Two H f ops j i x y/\qcg ops x y=true/\∀fx fy,(j,fx)∈fps->(i,fy)∈fps->fx.qgx fy=false) ->
  ∃fps',qgC P H C f ops (i::(A++B)) st=some (s,fps')/\∀p,p∈fps'↔p∈fps
 |[],st,s,fps,h,_=>⟨fps,h,λ_=>Iff.rfl⟩
 |j::A,st,s,fps,h,hA=>by
  rw [List.cons_append,qdH]at h;obtain ⟨s1,fj,fps1,h1,h2,rfl⟩:=h;obtain ⟨fps2,h3,h4⟩:=qoV hy A s1 s fps1 h2 (λk hk=>by
   obtain ⟨x,hx,hlx,hd,hc⟩:=hA k (by simp [hk]);exact ⟨x,hx,hlx,hd,λfx fy h1 h2=>hc fx fy (by simp [h1]) (by simp [h2])⟩)
  rw [qdH]at h3;obtain ⟨s2,fi,fps3,h5,h6,rfl⟩:=h3;obtain ⟨x,hx,hlx,hd,hc⟩:=hA j (by simp);obtain ⟨s1',h7,h8⟩:=qCX hx hy hlx hd h1 h5 (hc fj fi (by simp) (by
   have:=(h4 (i,fi)).1 (by simp);simp [this]))
  refine ⟨(i,fi)::(j,fj)::fps3,?_,λp=>?_⟩
  ·rw [qdH];exact ⟨s1',fi,(j,fj)::fps3,h7,by rw [List.cons_append,qdH];exact ⟨s2,fj,fps3,h8,h6,rfl⟩,rfl⟩
  ·have:=h4 p;simp only [qk]at this ⊢;rw [<- this];constructor
   ·rintro (h|h|h)<;>simp [h]
   ·rintro (h|h|h)<;>simp [h]
theorem qod{ops:Array Oper}:∀(l:List Nat) (st s:St) (fps:List (Nat×Foot)),qgC P H C f ops l st=some (s,fps)->∀k ft,(k,ft)∈fps->k∈l/\∃s1 s2,qjm P H C f ops k s1=some (s2,ft)
 |[],st,s,fps,h,k,ft,hk=>by simp_all [qb,Prod.mk.injEq,qgC]
 |i::l,st,s,fps,h,k,ft,hk=>by
  obtain ⟨s1,fi,fps',h1,h2,rfl⟩:=qdH.1 h;rcases qk.1 hk with hk|hk
  ·cases hk;exact ⟨by simp,_,_,h1⟩
  ·obtain ⟨h3,h4⟩:=qod l s1 s fps' h2 k ft hk;exact ⟨by simp [h3],h4⟩
theorem qEN{ops:List Oper}(hb:∀(k:Nat) (o:Oper),ops[k]?=some o->∀j∈qbk o,j<k):∀(n i:Nat) (o:Oper),i<=n->ops[i]?=some o->∀j∈(qka ops).getD i [],j<i:=by
 intro n;induction n with
 |zero =>
  intro i o hi ho j hj;rw [qnr ops i o ho (hb i o ho)]at hj;obtain ⟨e,he,_⟩:=List.mem_flatMap.1 (qe4 hj);grind
 |succ n ih =>
  intro i o hi ho j hj;rw [qnr ops i o ho (hb i o ho)]at hj;obtain ⟨e,he,hj⟩:=List.mem_flatMap.1 (qe4 hj);have hei:=hb i o ho e he;rcases qk.1 hj with rfl|hj
  ·exact hei
  ·have hlt:i<ops.length:=(qm.1 ho).1;have:=ih e ops[e] (by omega) (List.getElem?_eq_getElem (by omega)) j hj;omega
structure LinkOk (H:Hints) (f:FuncId) (ops:Array Oper) (bef:Nat->Nat->Prop):Prop where
 self:∀(c:Nat) (oc:Oper),ops[c]?=some oc->qmD H f oc=true->oc.guard=none/\∀d,oc.dst=some d->d∉tmpsOf oc
 after:∀(c i:Nat) (oc oi:Oper),ops[c]?=some oc->ops[i]?=some oi->qmD H f oc=true->i=c\/bef i c\/ql6 H f oc oi=true
 ls:∀(c i:Nat) (oc oi:Oper),ops[c]?=some oc->ops[i]?=some oi->qhc H f oc=true->i=c\/bef i c\/bef c i
 apt:∀(c i:Nat) (oc oi:Oper),ops[c]?=some oc->ops[i]?=some oi->qmW H f oc=true->i=c\/bef i c\/bef c i\/qkr H f ops c oc oi=true
 ap:∀(c:Nat) (oc:Oper),ops[c]?=some oc->qmW H f oc=true->∃(s:Nat) (os:Oper),ops[s]?=some os/\qhc H f os=true/\bef c s
 lone:∀(c:Nat) (oc:Oper),ops[c]?=some oc->qmD H f oc=true->qiB H f oc=true->∀(s s':Nat) (o o':Oper),ops[s]?=some o->ops[s']?=some o'->qhc H f o=true->qhc H f o'=true->s=s'
theorem qxQ{α:Type}{p:α->Bool}{l:List α}(h:(l.filter p).length<=1):∀{i j:Nat} {a b:α},l[i]?=some a->l[j]?=some b->p a=true->p b=true->i=j:=by
 induction l with
 |nil=>grind
 |cons x l ih =>
  intro i j a b hi hj ha hb;have hmem:∀{k:Nat} {c:α},l[k]?=some c->p c=true->0<(l.filter p).length:=λhk hc =>
   List.length_pos_of_mem (List.mem_filter.2 ⟨List.mem_of_getElem? hk,hc⟩)
  grind
theorem qoP{draw:Bool}{ops:Array Oper}(h:qoO H f draw ops=true):LinkOk H f ops (λi c=>qlx draw (qka ops.toList) i c=true):=by
 have key:∀(c:Nat) (oc:Oper),ops[c]?=some oc->qoQ H f draw (qka ops.toList) ops (decide ((ops.toList.filter (qhc H f)).length<=1)) c oc=true:=λc oc hoc=>by
  grind [Array.getElem?_eq_some_iff,List.all_eq_true,qoO]
 have part:∀(c:Nat) (oc:Oper),ops[c]?=some oc->_:=λc oc hoc=>by
  have:=key c oc hoc;unfold qoQ at this;simp only [qe,Bool.or_eq_true,Bool.not_eq_true']at this;exact this
 refine {self:=λc oc hoc hlk=>?_,after:=λc i oc oi hoc hoi hlk=>?_,ls:=λc i oc oi hoc hoi hls=>?_,apt:=λc i oc oi hoc hoi hap=>?_,ap:=λc oc hoc hap=>?_,lone:=λc oc hoc hlk hn s s' o o' hs hs' hl hl'=>?_}
 ·obtain ⟨⟨⟨⟨h1,_⟩,_⟩,_⟩,_⟩:=part c oc hoc;rcases h1 with h1|h1
  ·rw [hlk]at h1;cases h1
  ·refine ⟨by simpa using h1.1.1,λd hd=>?_⟩
   simp_all
 ·grind
 ·grind
 ·grind
 ·grind
 ·obtain ⟨⟨⟨_,h1⟩,_⟩,_⟩:=part c oc hoc;rcases h1 with h1|h1
  ·rw [hlk,hn]at h1;cases h1
  ·simp only [decide_eq_true_eq]at h1;exact qxQ h1 (by simpa using hs) (by simpa using hs') hl hl'
theorem qA4(hC:OrcOk P C){F:Fence}{w0:World}{X0:Cx}{Md:Md}{n:Nat}(hFO:FOk F X0 Md n){ops:Array Oper}(hlk:qoO H f false ops=true){Q:Exit->Act->World->Prop}:∀(m i:Nat) (st st':St) (fps:List (Nat×Foot)) (a:Act) (w:World),i+m=ops.size ->
  qxD P H f ops (λk=>k<i) w0 X0 Md n st a w->qgC P H C f ops (List.range' i m) st=some (st',fps)->(∀a' w',qls w0 X0 Md n st' a' w'->Q .normal a' w')->wpOpsIn F 0 P ops Q (List.range' i m) a w
 |0,i,st,st',fps,a,w,_,hS,hx,hK=>by
  simp only [List.range'_zero,qgC,qb,Prod.mk.injEq]at hx;obtain ⟨rfl,_⟩:=hx;exact hK a w hS.qF1
 |m+1,i,st,st',fps,a,w,him,hS,hx,hK=>by
  rw [List.range'_succ]at hx ⊢;obtain ⟨s1,ft,fps',h1,h2,_⟩:=qdH.1 hx;rw [wpOpsIn_cons];have L:=qoP hlk;refine qAA hC hFO hS h1 ?_ λa' w' hS'=>qA4 hC hFO hlk m (i+1) s1 st' fps' a' w' (by omega) (hS'.mono λk _=>by omega) h2 hK;exact {
   new:=by omega
   after:=λc oc o hoc ho hl hc=>by
    rcases L.after c i oc o hoc ho hl with h3|h3|h3
    ·omega
    ·simp [qlx]at h3;omega
    ·exact h3
   self:=λo ho hl=>L.self i o ho hl
   ls:=λo ho hl c oc hoc hlc hci=>hci
   apl:=λo d ho hap hd c oc hoc hlc hci hx=>hci
   ap:=λo ho hap=>by
    obtain ⟨s,os,h3,h4,h5⟩:=L.ap i o ho hap;refine ⟨s,os,h3,h4,?_⟩;simp [qlx]at h5;omega
   lone:=L.lone}
theorem qvU(hC:OrcOk P C){F:Fence}{w0:World}{X0:Cx}{Md:Md}{n:Nat}(hFO:FOk F X0 Md n){ops:Array Oper}{U:List (Nat×Nat)}(hreg:qeT H f U ops=true)(hlk:qoO H f true ops=true){Q:Exit->Act->World->Prop} :
  ∀(fuel:Nat) (listed:Array Bool) (st st':St) (fps:List (Nat×Foot)) (a:Act) (w:World),listed.size=ops.size->Down ops listed->((List.range ops.size).filter λk=>!listed.getD k true).length<=fuel ->
   qgC P H C f ops ((List.range ops.size).filter λk=>!listed.getD k true) st=some (st',fps)->(∀i j fi fj,(i,j)∈U->(i,fi)∈fps->(j,fj)∈fps->fi.qgx fj=false) ->
   qxD P H f ops (λk=>listed.getD k true=true) w0 X0 Md n st a w->(∀a' w',qls w0 X0 Md n st' a' w'->Q .normal a' w')->wpAnyIn F 0 P .any ops Q fuel listed a w:=by
 have hrow:∀i y,ops[i]?=some y->(∀j∈qbk y,j<i)/\∀j,j<i->j∈(qka ops.toList).getD i []\/∃x,ops[j]?=some x/\qcg ops x y=true/\(qgq H f ops x y=true\/(j,i)∈U):=by
  intro i y hy;have hilt:i<ops.size:=(Array.getElem?_eq_some_iff.1 hy).1;unfold qeT at hreg;grind
 have hanclt:∀(c:Nat) (oc:Oper),ops[c]?=some oc->∀j∈(qka ops.toList).getD c [],j<c:=λc oc hoc =>
  qEN (λk o ho=>(hrow k o (by grind)).1) c c oc (Nat.le_refl _) (by grind)
 have L:=qoP hlk;have hbef:∀i c,qlx true (qka ops.toList) i c=true↔i∈(qka ops.toList).getD c []:=λi c=>by simp [qlx]
 have hempty:∀(listed:Array Bool),listed.size=ops.size->Down ops listed->Region.ready .any ops listed=[]->((List.range ops.size).filter λk=>!listed.getD k true)=[]:=by
  intro listed hsz hd hr;cases hR:(List.range ops.size).filter λk=>!listed.getD k true with
  |nil=>rfl
  |cons k R =>
   exfalso
   have hsorted:((List.range ops.size).filter λk=>!listed.getD k true).Pairwise (· < ·):=List.Pairwise.filter _ List.pairwise_lt_range;have hk:k∈(List.range ops.size).filter λk=>!listed.getD k true:=by rw [hR];simp
   rw [hR]at hsorted;obtain ⟨hklt,hkun⟩:=List.mem_filter.1 hk;have hklt:=List.mem_range.1 hklt;obtain ⟨o,ho⟩:∃o,ops[k]?=some o:=⟨ops[k],Array.getElem?_eq_getElem hklt⟩
   have:k∈Region.ready .any ops listed:=by
    rw [mem_ready];refine ⟨by simpa using hkun,o,ho,λe he hb=>?_⟩;have hek:=(hrow k o ho).1 e.on (qio.2 ⟨e,he,hb,rfl⟩);cases hc:listed.getD e.on true with
    |true =>
     grind
    |false =>
     have hmem:e.on∈(List.range ops.size).filter λk=>!listed.getD k true:=List.mem_filter.2 ⟨List.mem_range.2 (by omega),by simp [hc]⟩;grind [qk,List.pairwise_cons]
   grind
 intro fuel;induction fuel with
 |zero =>
  intro listed st st' fps a w hsz hd hlen hx hconf hS hQ;have hnil:((List.range ops.size).filter λk=>!listed.getD k true)=[]:=List.eq_nil_of_length_eq_zero (by omega);rw [hnil]at hx;simp only [qgC,qb,Prod.mk.injEq]at hx;obtain ⟨rfl,_⟩:=hx;refine ⟨?_,hQ a w hS.qF1⟩;cases hr:Region.ready .any ops listed with
  |nil=>rfl
  |cons i R =>
   have hi:i∈Region.ready .any ops listed:=by rw [hr];simp
   obtain ⟨h1,o,ho,_⟩:=mem_ready.1 hi;have:i∈(List.range ops.size).filter λk=>!listed.getD k true:=List.mem_filter.2 ⟨List.mem_range.2 (Array.getElem?_eq_some_iff.1 ho).1,by simp [h1]⟩;grind
 |succ fuel ih =>
  intro listed st st' fps a w hsz hd hlen hx hconf hS hQ;refine ⟨λhr=>?_,λi hi=>?_⟩
  ·have hnil:=hempty listed hsz hd hr;rw [hnil]at hx;simp only [qgC,qb,Prod.mk.injEq]at hx;obtain ⟨rfl,_⟩:=hx;exact hQ a w hS.qF1
  ·obtain ⟨hun,y,hy,hall⟩:=mem_ready.1 hi;have hilt:i<ops.size:=(Array.getElem?_eq_some_iff.1 hy).1;have hiR:i∈(List.range ops.size).filter λk=>!listed.getD k true:=List.mem_filter.2 ⟨List.mem_range.2 hilt,by simp [hun]⟩;have hsorted:((List.range ops.size).filter λk=>!listed.getD k true).Pairwise (· < ·):=List.Pairwise.filter _ List.pairwise_lt_range;obtain ⟨A,B,hAB⟩:=List.append_of_mem hiR;rw [hAB]at hx hsorted;obtain ⟨_,hs2,hs3⟩:=List.pairwise_append.1 hsorted;have hAi:∀j∈A,j<i:=λj hj=>hs3 j hj i (by simp);have hiB:∀j∈B,i<j:=λj hj=>(List.pairwise_cons.1 hs2).1 j hj;have hlistedE:∀j∈qbk y,listed.getD j true=true:=λj hj=>by
    grind [qio]
   have hanc:=qim hsz (λk o ho=>(hrow k o ho).1) hd i i y (Nat.le_refl _) hy hlistedE;obtain ⟨fps',h1,h2⟩:=qoV hy A st st' fps hx (λj hj=>by
    have hjR:j∈(List.range ops.size).filter λk=>!listed.getD k true:=by rw [hAB];simp [hj]
    have hjun:listed.getD j true=false:=by simpa using (List.mem_filter.1 hjR).2
    rcases (hrow i y hy).2 j (hAi j hj)with h3|⟨x,hx1,hx2,hx3⟩
    ·have:=hanc j h3;rw [hjun]at this;cases this
    ·have hnanc:j∉(qka ops.toList).getD i []:=λh3=>by have:=hanc j h3;rw [hjun]at this;cases this
     have hnanc2:i∉(qka ops.toList).getD j []:=λh3=>by have:=hanclt j x hx1 i h3;have:=hAi j hj;omega
     have hly:qhc H f y=false:=by
      cases hl:qhc H f y with
      |false=>rfl
      |true =>
       rcases L.ls i j y x hy hx1 hl with h3|h3|h3
       ·have:=hAi j hj;omega
       ·exact absurd ((hbef j i).1 h3) hnanc
       ·exact absurd ((hbef i j).1 h3) hnanc2
     have hlx:qhc H f x=false:=by
      cases hl:qhc H f x with
      |false=>rfl
      |true =>
       rcases L.ls j i x y hx1 hy hl with h3|h3|h3
       ·have:=hAi j hj;omega
       ·exact absurd ((hbef i j).1 h3) hnanc2
       ·exact absurd ((hbef j i).1 h3) hnanc
     have htwo:Two H f ops j i x y:=by
      cases hay:qmW H f y with
      |true =>
       rcases L.apt i j y x hy hx1 hay with h3|h3|h3|h3
       ·have:=hAi j hj;omega
       ·exact absurd ((hbef j i).1 h3) hnanc
       ·exact absurd ((hbef i j).1 h3) hnanc2
       ·exact .inr (.inl ⟨hay,h3⟩)
      |false =>
       cases hax:qmW H f x with
       |true =>
        rcases L.apt j i x y hx1 hy hax with h3|h3|h3|h3
        ·have:=hAi j hj;omega
        ·exact absurd ((hbef i j).1 h3) hnanc2
        ·exact absurd ((hbef j i).1 h3) hnanc
        ·exact .inr (.inr ⟨hax,h3⟩)
       |false=>exact .inl ⟨by simp [qy1,hlx,hax],by simp [qy1,hly,hay]⟩
     refine ⟨x,hx1,htwo,hx2,λfx fy h4 h5=>?_⟩;rcases hx3 with hx3|hx3
     ·obtain ⟨_,_,_,e1⟩:=qod _ _ _ _ hx j fx h4;obtain ⟨_,_,_,e2⟩:=qod _ _ _ _ hx i fy h5;obtain ⟨_,_,e1'⟩:=qDv hx1 hlx e1;obtain ⟨_,_,e2'⟩:=qDv hy hly e2;exact qqb hx1 hy e1' e2' hx3
     ·exact hconf j i fx fy hx3 h4 h5)
   obtain ⟨s1,fi,fps2,h3,h4,rfl⟩:=qdH.1 h1;have hfit:Fits H f ops (λk=>listed.getD k true=true) i:={
    new:=by rw [hun];simp
    after:=λc oc o hoc ho hl hc=>by
     rcases L.after c i oc o hoc ho hl with h5|h5|h5
     ·subst h5;rw [hun]at hc;cases hc
     ·have hE:∀j∈qbk oc,listed.getD j true=true:=hd c oc hoc hc;have:=qim hsz (λk o ho=>(hrow k o ho).1) hd c c oc (Nat.le_refl _) hoc hE i ((hbef i c).1 h5);rw [hun]at this;cases this
     omega
    self:=λo ho hl=>L.self i o ho hl
    ls:=λo ho hl c oc hoc hlc hci=>by
     rcases L.ls i c o oc ho hoc hl with h5|h5|h5
     ·omega
     ·exact hanc c ((hbef c i).1 h5)
     ·have:=hanclt c oc hoc i ((hbef i c).1 h5);omega
    apl:=λo d ho hap hd c oc hoc hlc hci hx=>by
     rcases L.apt i c o oc ho hoc hap with h5|h5|h5|h5
     ·omega
     ·exact hanc c ((hbef c i).1 h5)
     ·have:=hanclt c oc hoc i ((hbef i c).1 h5);omega
     ·obtain ⟨a,xd,d',_,hdst,hd',_,_,_,_,hxl⟩:=qjy h5;rw [hd]at hd';cases hd';exact absurd (hx xd hdst) hxl
    ap:=λo ho hap=>by
     obtain ⟨s,os,h5,h6,h7⟩:=L.ap i o ho hap;refine ⟨s,os,h5,h6,λhs=>?_⟩;have hE:∀j∈qbk os,listed.getD j true=true:=hd s os h5 hs;have:=qim hsz (λk o ho=>(hrow k o ho).1) hd s s os (Nat.le_refl _) h5 hE i ((hbef i s).1 h7);rw [hun]at this;cases this
    lone:=L.lone}
   refine qAA hC hFO hS h3 hfit λa' w' hS'=>?_;have hR':((List.range ops.size).filter λk=>!(listed.setIfInBounds i true).getD k true)=A++B:=by
    have e1:((List.range ops.size).filter λk=>!(listed.setIfInBounds i true).getD k true)=((List.range ops.size).filter λk=>!listed.getD k true).filter (λk=>decide (k≠i)):=by
     rw [List.filter_filter];refine List.filter_congr λk hk=>?_;have hklt:=List.mem_range.1 hk;by_cases hki:k=i
     ·subst hki;have:k<listed.size:=by omega
      simp [Array.getD,this]
     ·rw [getD_set_ne true (Ne.symm hki)];simp [hki]
    rw [e1,hAB,List.filter_append,List.filter_cons];simp only [ne_eq,not_true_eq_false,decide_false,qf,if_false];rw [List.filter_eq_self.2 (λj hj=>by have:=hAi j hj;simp;omega),List.filter_eq_self.2 (λj hj=>by have:=hiB j hj;simp;omega)]
   have hd':Down ops (listed.setIfInBounds i true):=by
    intro k o ho hk j hj;by_cases hji:j=i
    ·subst hji;have:j<listed.size:=by omega
     simp [Array.getD,this]
    ·rw [getD_set_ne true (Ne.symm hji)];by_cases hki:k=i
     ·subst hki;rw [hy]at ho;cases ho;exact hlistedE j hj
     ·rw [getD_set_ne true (Ne.symm hki)]at hk;exact hd k o ho hk j hj
   refine ih (listed.setIfInBounds i true) s1 st' fps2 a' w' (by simp [hsz]) hd' ?_ (by rw [hR'];exact h4) (λi' j' fi' fj' hu h5 h6=>hconf i' j' fi' fj' hu ((h2 _).1 (by simp [h5])) ((h2 _).1 (by simp [h6]))) (hS'.mono λk hk=>?_) hQ
   ·grind
   ·by_cases hki:k=i
    ·subst hki;have:k<listed.size:=by omega
     simp [Array.getD,this]
    ·rw [getD_set_ne true (Ne.symm hki)];simp [hki]
theorem qA5{w0:World}{X0:Cx}{Md:Md}{n:Nat}{st:St}{a:Act}(hS:qls w0 X0 Md n st a w):qls w0 X0 Md n st a {w with drawn:=w.drawn+1}:=by
 obtain ⟨X,O,h,hF,hM⟩:=hS;have heff:Eff w X {w with drawn:=w.drawn+1} X [] :=
  ⟨Nat.le_refl _,λ_ _ _=>rfl,λ_ _ _=>rfl,by simp,rfl,h.dom,rfl,rfl,rfl⟩
 have h1:=h.put (T:=[]) (Oin:=[]) (O':=[]) (z:=.undef) (v:=undef) none (by simp) heff (by simp [Rep]) Lin.nil (by simp) (by simp [V.qq]);have hF1:=Fr.put (z:=.undef) h hF (T:=[]) (Oin:=[]) (O':=[]) none (by simp) heff (by simp);exact ⟨X,_,h1,hF1,hM.of λ_ _ _ _=>⟨rfl,rfl⟩⟩
theorem qAO(hC:OrcOk P C)(hm:P.follows .mixedOrders=true){F:Fence}{w0:World}{X0:Cx}{Md:Md}{n:Nat}(hFO:FOk F X0 Md n){bid id:Nat}{ops:Array Oper}{draw:Bool}{st st':St}{e:Ex}{a:Act}(hS:qls w0 X0 Md n st a w)
  {st0:St} (hcl:st0.clear (H.pre f id)=some st) (hnt:qij H ops draw=none) (hls:qxU H f ops=true) (hx:ex P H C f bid (.region id ops draw) st0=some (e,st')):(Code.region id ops draw).wpIn F 0 P (λe' a' w'=>e'=e.qve/\qls w0 X0 Md n st' a' w') a w:=by
 simp only [ex,hcl,hnt,hls,if_true]at hx;split at hx
 ·rename_i hok;simp only [qe,Bool.or_eq_true,Bool.not_eq_true']at hok;obtain ⟨hlk,hreg⟩:=hok;split at hx
  ·rename_i s fps hex;split at hx
   ·rename_i hconf;simp only [qb,Prod.mk.injEq]at hx;obtain ⟨rfl,rfl⟩:=hx;cases draw with
    |false =>
     refine wpIn_region ?_;have hr:List.range ops.size=List.range' 0 ops.size:=List.range_eq_range';rw [hr]at hex ⊢;exact qA4 hC hFO hlk ops.size 0 st s fps a w (by omega) ((hS.qF9 (P:=P) (H:=H) (f:=f) (ops:=ops)).mono λk _=>by simp) hex λa' w' hS'=>⟨rfl,hS'⟩
    |true =>
     have hreg':qeT H f (H.pairs f id) ops=true:=by grind
     have hconf':qhQ (H.pairs f id) fps=true:=by grind
     refine wpIn_region_any hm (qvU hC hFO hreg' hlk ops.size _ st s fps a _ (by simp) (λk o ho hk=>?_) (by grind) (by rw [qhs];exact hex) (qoY hconf') (((qA5 hS).qF9 (P:=P) (H:=H) (f:=f) (ops:=ops)).mono λk hk=>?_) λa' w' hS'=>⟨rfl,hS'⟩)
     ·have:=(Array.getElem?_eq_some_iff.1 ho).1
      simp_all
     simp_all
   grind
  grind
 grind
end
section
variable {P:Program} {H:Hints} {f:FuncId} {C:Orc} {w w':World} {X:Cx}
def qDi(w:World)(b off:Nat)(vs:List Value)(w':World):Prop :=
 ∃(w1:World) (n:Nat) (os:Array Obj),w'={w1 with drawn:=w1.drawn+n,heap:=w1.heap++os}/\w1.heap.size=w.heap.size/\(∀k,k≠b->w1.heap[k]?=w.heap[k]?) /\
  (∀arr ty,w.heap[b]?=some (.cells arr ty (0,0))->w1.heap[b]?=some (.cells (rowAt arr off vs) ty (0,0)))/\w1.os=w.os/\w1.output=w.output/\w1.tape=w.tape
def qwr(P:Program)(g:FuncId)(F:List Int->Option (List Int)):Prop :=
 ∀zs zs',F zs=some zs'->zs'.length=zs.length /\
  (zs≠[]->∀(w:World) (b off cap:Nat) (arr:Array Value) (ty:TypeId),w.heap[b]?=some (.cells arr ty (0,0))->off+zs.length<=arr.size->Seg w b off (zs.map (Value.int .i64))->zs.length<=cap ->
   qsP True P g #[.slice (some ⟨b,off,none⟩) zs.length cap] w λ_ w'=>qDi w b off (zs'.map (Value.int .i64)) w') /\
  (zs=[]->∀(w:World) (a:Option Addr) (cap:Nat),qsP True P g #[.slice a 0 cap] w λ_ w'=>∃(n:Nat) (os:Array Obj),w'={w with drawn:=w.drawn+n,heap:=w.heap++os})
def qrm(P:Program)(H:Hints):Prop:=∀g F,H.turn g=some F->qwr P g F
def qke (P : Program) (H : Hints) : Prop := (∀ (g : FuncId) (fn : Func), P.funcs[g]? = some fn -> fn.body.isSome = true -> (fn.name == "runtime.NumGoroutine") = false) /\ qrm P H /\ qDh P H
theorem quC{w0:World}{X0:Cx}{Md:Md}{n:Nat}{st:St}{a:Act}(hS:qls w0 X0 Md n st a w)(k:Nat)(os:Array Obj)(d:Option Tmp)(v:Value):qls w0 X0 Md n (st.put d .undef) (a.put d v) {w with drawn:=w.drawn+k,heap:=w.heap++os}:=by
 obtain ⟨X,O,h,hF,hM⟩:=hS;have hold:∀i,i<w.heap.size->(w.heap++os)[i]?=w.heap[i]?:=λi hi=>by rw [Array.getElem?_append_left hi]
 have heff:Eff w X {w with drawn:=w.drawn+k,heap:=w.heap++os} X [] :=
  ⟨by simp,λb hb _=>hold b hb,λ_ _ _=>rfl,by simp,rfl,λb e fz hb=>by have:=h.dom b e fz hb;simp;omega,rfl,rfl,rfl⟩
 have h1:=h.put (T:=[]) (Oin:=[]) (O':=[]) (z:=.undef) (v:=v) d (by simp) heff (by simp [Rep]) Lin.nil (by simp) (by simp [V.qq]);have hF1:=Fr.put (z:=.undef) h hF (T:=[]) (Oin:=[]) (O':=[]) d (by simp) heff (by simp);have hdef:(a.put d v).defers=a.defers:=by cases d<;>rfl
 refine ⟨X,_,?_,hF1,?_⟩
 ·rw [qcx];exact h1
 ·rw [hdef];exact hM.of λk' hk _ _=>⟨hold k' (Array.getElem?_eq_some_iff.1 hk).1,rfl⟩
theorem qtt:∀{l:List V} {zs:List Int},qdA l=some zs->l=qdj zs
 |[],zs,h=>by simp only [qdA,qb]at h;subst h;rfl
 |x::l,zs,h=>by
  unfold qdA at h;split at h
  ·rename_i heq;simp at heq
  ·rename_i n l' heq;obtain ⟨m,hm,rfl⟩:=qc.1 h;simp only [List.cons.injEq]at heq;obtain ⟨rfl,rfl⟩:=heq;rw [qtt hm];rfl
  ·cases h
theorem quk:∀{s:Nat} {zs:List Int} {vals:List Value} {O:List Nat},RepE w X s (qdj zs) vals O->vals=zs.map (Value.int .i64)/\O=[]
 |s,[],vals,O,h=>by simpa only [qdj,List.map_nil,RepE]using h
 |s,n::zs,vals,O,h=>by
  simp only [qdj,qh,RepE]at h;obtain ⟨u,vs',O1,O2,rfl,_,rfl,h1,h2⟩:=h;obtain ⟨rfl,rfl⟩:=quk (zs:=zs) h2;simp only [Rep]at h1;obtain ⟨rfl,rfl⟩:=h1;exact ⟨rfl,rfl⟩
theorem qqT:∀(zs:List Int),RepE w X 1 (qdj zs) (zs.map (Value.int .i64)) []
 |[]=>by simp [RepE,qdj]
 |n::zs=>by
  simp only [qdj,qh,RepE];exact ⟨.int .i64 n,_,[],[],rfl,rfl,rfl,by simp [Rep],qqT zs⟩
theorem que:∀zs:List Int,ptrsL (qdj zs)=[]
 |[]=>rfl
 |n::zs=>by simp only [qdj,qh,ptrsL,V.qq,List.nil_append];exact que zs
theorem qiu(zs:List Int):∀x∈qdj zs,x.cells.length=1:=by
 intro x hx;obtain ⟨n,_,rfl⟩:=List.mem_map.1 hx;rfl
theorem ql5(zs:List Int):(qdj zs).length=zs.length:=by simp [qdj]
theorem qxl{α:Type}:∀{l:List α} {i:Nat} {x:α},l[i]?=some x->l.set i x=l
 |[],i,x,h=>by simp at h
 |y::l,0,x,h=>by simp at h;subst h;rfl
 |y::l,i+1,x,h=>by simp only [List.set_cons_succ,qxl (by simpa using h:l[i]?=some x)]
theorem qwk{ops:Array Oper}{draw:Bool}{F:List Int->Option (List Int)}{t e:Tmp}{d:Option Tmp}(h:qij H ops draw=some (F,t,e,d)) :
  draw=false/\∃m o c g,ops=#[m,o]/\m.op=.move (.tmp t)/\m.dst=some e/\m.guard=none/\t≠e/\o.op=.call c/\c.callee=.value (.func g)/\c.args=#[.tmp e]/\H.turn g=some F/\o.guard=none/\o.dst=d:=by
 unfold qij at h;split at h
 ·rename_i m o hops;split at h
  ·rename_i t' e' g args _ hm hd hg hop hgo;split at h
   ·rename_i e2 F' hargs hF;split at h
    ·rename_i hc;obtain ⟨rfl,hne⟩:=hc;simp only [qb,Prod.mk.injEq]at h;obtain ⟨rfl,rfl,rfl,rfl⟩:=h;refine ⟨rfl,m,o,_,g,?_,hm,hd,hg,hne,hop,rfl,?_,hF,hgo,rfl⟩
     ·apply Array.ext';simpa using hops
     ·apply Array.ext';simpa using hargs
    ·cases h
   ·cases h
  ·cases h
 ·cases h
theorem qBw{G:List Int->Option (List Int)}{g:FuncId}(hTg:qwr P g G){F:Fence}{w0:World}{X0:Cx}{Md:Md}{n:Nat}(hFO:FOk F X0 Md n){st s:St}{a:Act}{t:Tmp}{d:Option Tmp}(hS:qls w0 X0 Md n st a w)(hx1:qiO G t d st=some s) :
  qsP True P g #[a.tmps.getD t undef] w (λv w'=>qls w0 X0 Md n s (a.put d v) w'):=by
 have hS0:=hS;obtain ⟨X,O,h,hF,hM⟩:=hS;unfold qiO at hx1;split at hx1
 ·rename_i hL;simp only [qe,List.isEmpty_iff]at hL;obtain ⟨hL,hnl⟩:=hL;have empty:∀(a0:Option Addr) (cap:Nat) (zs':List Int),a.tmps.getD t undef=.slice a0 0 cap->G []=some zs'->qsP True P g #[a.tmps.getD t undef] w (λv w'=>qls w0 X0 Md n (st.put d .undef) (a.put d v) w'):=by
   intro a0 cap zs' hv hG0;obtain ⟨_,_,h3⟩:=hTg [] zs' hG0;rw [hv];refine (h3 rfl w a0 cap).mono (λh=>h) ?_;rintro v w' ⟨k,os,rfl⟩;exact quC hS0 k os d v
  have hgetD:∀x,st.E.getD t .undef=x->x≠.undef->∃v,st.E[t]?=some x/\a.tmps[t]?=some v/\a.tmps.getD t undef=v/\Rep w X x v (O (.tmp t)):=by
   intro x hx hne;rw [List.getD_eq_getElem?_getD]at hx;cases hE:st.E[t]? with
   |none=>rw [hE]at hx;simp at hx;exact absurd hx.symm hne
   |some y =>
    rw [hE]at hx;simp at hx;subst hx;obtain ⟨v,hv,hr⟩:=h.env t y hE;exact ⟨v,rfl,hv,by rw [Array.getD_eq_getD_getElem?,hv];rfl,hr⟩
  split at hx1
  ·rename_i c' l hE;obtain ⟨v,hEt,hvt,hv,hr⟩:=hgetD _ hE (by simp);split at hx1
   ·rename_i zs hzs;have hl:=qtt hzs;subst hl;split at hx1
    ·rename_i zs' hG1;split at hx1
     ·rename_i hz0;have hz0:zs=[]:=by simpa using hz0
      subst hz0;simp only [qb]at hx1;subst hx1;have hve:∃a0 cap,v=.slice a0 0 cap:=by
       simp only [Rep]at hr;rcases hr.2 with ⟨_,_,rfl|⟨hh,_⟩⟩|⟨b,off,cap,s,vals,O',rfl,_⟩
       ·exact ⟨none,0,rfl⟩
       ·exact absurd rfl hh
       ·exact ⟨_,cap,rfl⟩
      obtain ⟨a0,cap,rfl⟩:=hve;have hz':zs'=[]:=List.length_eq_zero_iff.1 (hTg [] zs' hG1).1;have hset:st.E.set t (.sl .own c' (qdj zs'))=st.E:=by
       subst hz';exact qxl hEt
      rw [hset];exact empty a0 cap zs' hv hG1
     ·rename_i hz0;have hz0:zs≠[]:=by simpa using hz0
      simp only [qb]at hx1;subst hx1;obtain ⟨hlen',h2,_⟩:=hTg zs zs' hG1;simp only [Rep]at hr;obtain ⟨hnp,hr⟩:=hr;rcases hr with ⟨hl0,_⟩|⟨b,off,cap,s1,vals,O',rfl,hcap,hc,hlen,hs0,hxs,hsg,⟨e1,fz,hω,hle,h1a,h1b,⟨arr,ty,harr,hsz⟩,h1d⟩,hRE,hO,_⟩
      ·have:=ql5 zs;rw [hl0]at this;exact absurd (List.length_eq_zero_iff.1 this.symm) hz0
      ·subst h1a;obtain ⟨rfl,rfl⟩:=quk hRE;rw [ql5]at hcap hc hlen hv hvt;have hs1:s1=1:=by
        obtain ⟨z,hz⟩:=List.exists_mem_of_ne_nil _ hz0;exact (hxs (.val (.int .i64 z)) (List.mem_map.2 ⟨z,hz,rfl⟩)).symm
       subst hs1;rw [List.length_map]at hle h1b h1d;have hfit:off+zs.length<=arr.size:=by omega
       have hcall:=h2 hz0 w b off cap arr ty harr hfit hsg hcap;rw [hv];refine hcall.mono (λh=>h) ?_;rintro v2 w2 ⟨w1,k,os,rfl,hsz1,hk1,hb1,hos,hout,htape⟩;have hb1':=hb1 arr ty harr;have hW:Wrote w X w1 b:=⟨⟨e1,hω⟩,hk1⟩
       have hOt:O (.tmp t)=[b]:=hO trivial;have hA:Rep w1 X (.sl .own c' (qdj zs')) (.slice (some ⟨b,off,none⟩) zs.length cap) [b]:=by
        simp only [Rep];rw [ql5,hlen'];refine ⟨que zs',.inr ⟨b,off,cap,1,zs'.map (Value.int .i64),[],rfl,hcap,hc,by simp [hlen'],by simp,qiu zs',?_,⟨e1,false,hω,by rw [List.length_map];omega,rfl,by rw [List.length_map];omega,⟨_,ty,hb1',by unfold rowAt;simp;omega⟩,λh0=>h1d (by rw [List.length_map]at h0;omega)⟩,qqT zs',λ_=>rfl,λhh=>absurd rfl hh⟩⟩;intro i u hi;have hi':=(qm.1 hi).1;rw [List.length_map]at hi';simp only [World.cell?,hb1'];have e2:(rowAt arr off (zs'.map (Value.int .i64)))[off+i]?=(rowAt arr off (zs'.map (Value.int .i64))).toList[off+i]?:=by simp
        simp only [Option.isSome_none,qf,if_false];rw [e2];unfold rowAt;rw [qiN (by simp;omega),if_pos ⟨by omega,by simp;omega⟩,Nat.add_sub_cancel_left];exact hi
       obtain ⟨O2,hR2,hF2,hM2⟩:=qr4 (st':={st with E:=(st.E.map V.qef).set t (.sl .own c' (qdj zs')),B:=qkt st.B}) h hF (λh0=>hFO.2 h0) hM hL hnl hW hsz1 hos hout htape (T:=[]) (Ox:=[]) (pl:=.tmp t) (by simp) Lin.nil (by simp) (by rw [hOt];simp) (by simp) hL
        (λt' x' hx'=>by
         simp only [List.getElem?_set]at hx';by_cases hrt:t=t'
         ·subst hrt;rw [if_pos rfl]at hx';split at hx'
          ·cases hx'
           exact .inr ⟨rfl,by simp only [V.qq],_,hvt,[b],hA,λk=>by rw [hOt];simp⟩
          ·cases hx'
         ·rw [if_neg hrt,List.getElem?_map]at hx';obtain ⟨x0,h2,rfl⟩:=qc.1 hx';exact .inl ⟨λe=>hrt (by cases e;rfl),x0,by rw [qu8];exact h2,rfl⟩)
        (λq=>by
         rw [qeE (st:=({st with E:=_,B:=qkt st.B}:St)) hL,qeE hL];simp only [qck];split
         ·simp
         ·rfl)
        (λq c' hq=>by
         rw [qeE (st:=({st with E:=_,B:=qkt st.B}:St)) hL]at hq;rw [qeE hL];simp only [qck]at hq;split at hq
         ·rename_i h0;obtain ⟨c,hc,rfl⟩:=qc.1 hq;exact ⟨c,by rw [if_pos h0];exact hc,.inl ⟨by simp,rfl⟩⟩
         ·cases hq)
       exact quC (w:=w1) ⟨X,O2,hR2,hF2,hM2⟩ k os d v2
    ·cases hx1
   ·cases hx1
  ·rename_i hE;obtain ⟨v,_,_,hv,hr⟩:=hgetD _ hE (by simp);simp only [Rep]at hr;obtain ⟨zs',hG0,hs⟩:=qc.1 hx1;subst hs;exact empty none 0 zs' (by rw [hv];exact hr.1) hG0
  ·cases hx1
 ·cases hx1
theorem qCO{w0:World}{X0:Cx}{Md:Md}{n:Nat}{st:St}{a:Act}(hS:qls w0 X0 Md n st a w)(d:Option Tmp)(v:Value):qls w0 X0 Md n (st.put d .undef) (a.put d v) w:=by
 obtain ⟨X,O,h,hF,hM⟩:=hS;have hdef:(a.put d v).defers=a.defers:=by cases d<;>rfl
 refine ⟨X,qiF O [] d st.E.length [],?_,hF.qjU d (by simp),by rw [hdef];exact hM⟩;rw [qcx];exact h.qjU d (by simp [Rep]) Lin.nil (by simp) (by simp [V.qq])
theorem qvV(hT:qrm P H){F:Fence}{w0:World}{X0:Cx}{Md:Md}{n:Nat}(hFO:FOk F X0 Md n){bid id:Nat}{ops:Array Oper}{draw:Bool}{st st':St}{e:Ex}{a:Act}{p}(hS:qls w0 X0 Md n st a w)
  {st0:St} (hcl:st0.clear (H.pre f id)=some st) (hnt:qij H ops draw=some p) (hx:ex P H C f bid (.region id ops draw) st0=some (e,st')):(Code.region id ops draw).wpIn F 0 P (λe' a' w'=>e'=e.qve/\qls w0 X0 Md n st' a' w') a w:=by
 obtain ⟨G,t,e1,d⟩:=p;simp only [ex,hcl,hnt]at hx;split at hx
 ·rename_i hlt;obtain ⟨s,hx1,hx2⟩:=qc.1 hx;simp only [Prod.mk.injEq]at hx2;obtain ⟨rfl,rfl⟩:=hx2;obtain ⟨rfl,m,o,c,g,rfl,hmop,hmd,hmg,hne,hop,hcal,hargs,hG,hgd,rfl⟩:=qwk hnt;have hFF:=qoh hFO;have hsz:e1<a.tmps.size:=by
   obtain ⟨X,O,h,_,_⟩:=hS;rw [h.size];exact hlt
  refine wpIn_region ?_;have hr:List.range (#[m,o]:Array Oper).size=[0,1]:=rfl;rw [hr,wpOpsIn_cons];unfold wpOpIn;have hm0:(#[m,o]:Array Oper)[0]?=some m:=rfl;rw [hm0];have hwant:Region.wanted m (yielded #[m,o] a.tmps)=true:=by unfold Region.wanted;rw [hmg]
  simp only [hwant,if_true];refine ⟨λg _=>qlH hFF g,?_⟩;rw [Oper.semAt_eq _ _ _ (by intro c hc;rw [hmop]at hc;cases hc)];have hrun1:(execOp a.eval m).run P w=.ok (.value (a.tmps.getD t undef)) w:=by simp only [execOp,hmop,Sem.run_pure]<;>rfl
  rw [hrun1,Oper.uponIn_value,hmd];have hS1:=qCO hS (some e1) (a.tmps.getD t undef);have hv1:(a.put (some e1) (a.tmps.getD t undef)).tmps.getD e1 undef=a.tmps.getD t undef:=qpH hsz;have hv2:(a.put (some e1) (a.tmps.getD t undef)).tmps.getD t undef=a.tmps.getD t undef:=qxw (by intro h;cases h;exact hne rfl);have key:=qBw (hT g G hG) hFO hS1 hx1;rw [hv2]at key;generalize ha1:a.put (some e1) (a.tmps.getD t undef)=a1 at key hv1;rw [wpOpsIn_cons];unfold wpOpIn;have ho:(#[m,o]:Array Oper)[1]?=some o:=rfl;rw [ho];have hwant2:Region.wanted o (yielded #[m,o] a1.tmps)=true:=by unfold Region.wanted;rw [hgd]
  simp only [hwant2,if_true];refine ⟨λg _=>qlH hFF g,?_⟩;rw [Oper.semAt_eq _ _ _ (by intro c hc;rw [hop]at hc;cases hc)];have hexec:execOp a1.eval o=(do let d <- resolve a1.eval c o.type;invoke d.target d.args):=by simp only [execOp,hop]
  have hres:resolve a1.eval c o.type=Deferred.ofValue (a1.eval (.func g)) (c.args.map a1.eval):=by simp only [resolve,hcal]
  have hev:a1.eval (.func g)=.func (.func g) #[] #[]:=rfl;rw [hexec,hres,hev,hargs];have hrun:(Deferred.ofValue (.func (.func g) #[] #[]) ((#[.tmp e1]:Array Operand).map a1.eval) >>= λd=>invoke d.target d.args).run P w=(callFunc g #[a.tmps.getD t undef]).run P w:=by
   simp only [Deferred.ofValue,Sem.run_bind,Sem.run_pure,Result.andThen_ok,invoke];congr 2
   apply Array.ext';simp [Act.eval,hv1]
  rw [hrun];refine qg5 hFF (key.mono (λh=>h) λv w' hS'=>?_);exact ⟨rfl,hS'⟩
 ·cases hx
end
section
variable {P:Program} {H:Hints} {f:FuncId} {C:Orc} {w:World} {X:Cx}
theorem qEW(hC:OrcOk P C)(hm:P.follows .mixedOrders=true)(hT:qrm P H):∀(c:Code) (bid:Nat) (st:St) (e:Ex) (st':St),ex P H C f bid c st=some (e,st')->qy5 P c st e st':=by
 intro c;induction c with
 |skip =>
  intro bid st e st' hx F w0 X0 Md n a w hF hS;simp only [ex,qb,Prod.mk.injEq]at hx;obtain ⟨rfl,rfl⟩:=hx;exact wpIn_skip ⟨rfl,hS⟩
 |region id ops draw =>
  intro bid st e st' hx F w0 X0 Md n a w hF hS;cases hcl:st.clear (H.pre f id)with
  |none=>simp only [ex,hcl]at hx;cases hx
  |some st1 =>
  replace hS:=qiq hS hcl
  cases hnt:qij H ops draw with
  |some p=>exact qvV hT hF hS hcl hnt hx
  |none =>
  cases hls:qxU H f ops with
  |true=>exact qAO hC hm hF hS hcl hnt hls hx
  |false =>
  obtain ⟨X,Md2,hS2,_,_,lift⟩:=qFj hS;refine wpIn_mono (qAP hC hm hF.qBP hS2 hcl hnt hls hx) ?_;rintro e' a' w' ⟨rfl,hd,hS'⟩;have:=lift _ _ _ hS';rw [<- hd]at this;exact ⟨rfl,this⟩
 |seq x y ihx ihy =>
  intro bid st e st' hx F w0 X0 Md n a w hF hS;simp only [ex]at hx;refine wpIn_seq ?_;cases h1:ex P H C f bid x st with
  |none=>rw [h1]at hx;cases hx
  |some p =>
   obtain ⟨e1,s⟩:=p;rw [h1]at hx;refine wpIn_mono (ihx bid st e1 s h1 F w0 X0 Md n a w hF hS).wp ?_;rintro e' a' w' ⟨rfl,hS'⟩;cases e1 with
   |normal=>exact (ihy bid s e st' hx F w0 X0 Md n a' w' hF hS').wp
   |exit id=>simp only [qb,Prod.mk.injEq]at hx;obtain ⟨rfl,rfl⟩:=hx;exact ⟨rfl,hS'⟩
   |ret=>simp only [qb,Prod.mk.injEq]at hx;obtain ⟨rfl,rfl⟩:=hx;exact ⟨rfl,hS'⟩
 |cond c x y ihx ihy =>
  intro bid st e st' hx F w0 X0 Md n a w hF hS;simp only [ex]at hx;split at hx
  ·rename_i t ht;have hev:a.eval c=.bool t:=by
    obtain ⟨X,O,hR,_⟩:=hS;have:=qqP (H:=H) (f:=f) hR c;rw [ht]at this;simp only [Rep]at this;exact this.1
   refine wpIn_cond hev ?_;cases t with
   |true=>exact (ihx bid st e st' hx F w0 X0 Md n a w hF hS).wp
   |false=>exact (ihy bid st e st' hx F w0 X0 Md n a w hF hS).wp
  ·cases hx
 |block id c ih =>
  intro bid st e st' hx F w0 X0 Md n a w hF hS;simp only [ex]at hx;refine wpIn_block ?_;cases h1:ex P H C f id c st with
  |none=>rw [h1]at hx;cases hx
  |some p =>
   obtain ⟨e1,s⟩:=p;rw [h1]at hx;refine wpIn_mono (ih id st e1 s h1 F w0 X0 Md n a w hF hS).wp ?_;rintro e' a' w' ⟨rfl,hS'⟩;cases e1 with
   |normal=>simp only [qb,Prod.mk.injEq]at hx;obtain ⟨rfl,rfl⟩:=hx;exact ⟨rfl,hS'⟩
   |ret=>simp only [qb,Prod.mk.injEq]at hx;obtain ⟨rfl,rfl⟩:=hx;exact ⟨rfl,hS'⟩
   |exit i =>
    simp only at hx;simp only [Ex.qve,Exit.inBlock];by_cases hi:i=id
    ·rw [if_pos hi]at hx ⊢;simp only [qb,Prod.mk.injEq]at hx;obtain ⟨rfl,rfl⟩:=hx;exact ⟨rfl,hS'⟩
    ·rw [if_neg hi]at hx ⊢;simp only [qb,Prod.mk.injEq]at hx;obtain ⟨rfl,rfl⟩:=hx;exact ⟨rfl,hS'⟩
 |loop c ih =>
  intro bid st e st' hx F w0 X0 Md n a w hF hS;simp only [ex]at hx;split at hx
  ·rename_i st1 hcl;have hS1:=qiq hS hcl;refine qhq.close ?_;cases h1:ex P H C f bid c st1 with
   |none=>rw [h1]at hx;cases hx
   |some p =>
    obtain ⟨e1,s⟩:=p;rw [h1]at hx;refine wpIn_mono (ih bid st1 e1 s h1 F w0 X0 Md n a w hF hS1).wp ?_;rintro e' a' w' ⟨rfl,hS'⟩;cases e1 with
    |normal=>exact hC.code _ _ _ _ _ _ hx F w0 X0 Md n a' w' hF hS'
    |exit id=>simp only [qb,Prod.mk.injEq]at hx;obtain ⟨rfl,rfl⟩:=hx;exact ⟨rfl,hS'⟩
    |ret=>simp only [qb,Prod.mk.injEq]at hx;obtain ⟨rfl,rfl⟩:=hx;exact ⟨rfl,hS'⟩
  ·cases hx
 |rangeFunc g ps asz bo iha ihb =>
  intro bid st e st' hx;exact qug hC hx
 |exit id =>
  intro bid st e st' hx F w0 X0 Md n a w hF hS;simp only [ex,qb,Prod.mk.injEq]at hx;obtain ⟨rfl,rfl⟩:=hx;exact wpIn_exit ⟨rfl,hS⟩
 |ret =>
  intro bid st e st' hx F w0 X0 Md n a w hF hS;simp only [ex,qb,Prod.mk.injEq]at hx;obtain ⟨rfl,rfl⟩:=hx;exact wpIn_ret ⟨rfl,hS⟩
 |_=>intro bid st e st' hx;simp [ex]at hx
end
section
variable {P:Program} {H:Hints} {f:FuncId} {C:Orc} {w:World} {X:Cx}
def qsK:Bool×Nat×Nat->Pl
 |(false,t,_)=>.tmp t
 |(true,l,s)=>.box ⟨l,s⟩
def quq(tmps:Array Value):ResultVar->Sem Value
 |.tmp t=>pure (tmps.getD t undef)
 |.cell a t=>do loadVar t (<- asAddr (tmps.getD a undef))
theorem qwL{st:St}{tmps:Array Value}{O:Pl->List Nat}(h:Rel st tmps w X O)(t:Nat):Rep w X (st.E.getD t .undef) (tmps.getD t undef) (O (.tmp t)):=by
 by_cases hlt:t<st.E.length
 ·obtain ⟨v,hv,hr⟩:=h.env t _ (List.getElem?_eq_getElem hlt);have e1:tmps.getD t undef=v:=by rw [Array.getD_eq_getD_getElem?,hv];rfl
  have e2:st.E.getD t .undef=st.E[t]:=by simp [hlt]
  rw [e1,e2];exact hr
 ·have e2:st.E.getD t .undef=.undef:=by simp [List.getElem?_eq_none (Nat.not_lt.1 hlt)]
  rw [e2,h.envD t (by omega)];simp [Rep]
theorem qyD{st:St}{tmps:Array Value}{O:Pl->List Nat}(h:Rel st tmps w X O){rv:ResultVar}{x:V}(hx:qdq P st rv=some x) :
  ∃v Ox,(quq tmps rv).run P w=.ok v w/\Rep w X x v Ox/\(∀b,Ox.count b<=(O (qsK (qL st rv))).count b)/\∀r∈x.qq,(st.box r).isSome=true:=by
 cases rv with
 |tmp t =>
  simp only [qdq,qb]at hx;subst hx;exact ⟨_,_,rfl,qwL h t,λb=>Nat.le_refl _,λr hr=>h.ptrE r (qol hr)⟩
 |cell a t =>
  simp only [qdq]at hx;split at hx
  ·rename_i r off hE;split at hx
   ·rename_i cs hcs;split at hx
    ·cases hx
    ·rename_i hlp;have ha:=qwL h a;rw [hE]at ha;simp only [Rep]at ha;obtain ⟨_,b,hb,hv⟩:=ha;obtain ⟨b',hb',hlt,hω,hbx⟩:=h.box r cs hcs;obtain rfl:b=b':=by rw [hb]at hb';exact Option.some.inj hb'
     obtain ⟨arr,ty,hw,hl⟩:=hbx.cells (by simpa using hlp);have hseg:Seg w b off (arr.toList.drop off):=qld hw;obtain ⟨v,Ox,Ob,hrep,hvv,⟨d,hd⟩,_,hcnt⟩:=qh4 hx hl;have hkey:qsK (qL st (.cell a t))=.box r:=by simp only [qL,hE,qsK]
     refine ⟨v,Ox,?_,hrep,λk=>by rw [hkey];have:=hcnt k;omega,λr' hr'=>h.ptrB r cs hcs r' (qcQ (qby hx r' hr'))⟩;simp only [quq,hv,asAddr,Sem.run_bind,Sem.run_pure,Result.andThen_ok];exact qen hd hseg hvv
   ·cases hx
  ·cases hx
theorem qqX{st:St}{tmps:Array Value}{O:Pl->List Nat}(h:Rel st tmps w X O):∀(l:List ResultVar) (rs:List V),qfR (l.map (qdq P st))=some rs ->
  ∃vals Or,(l.mapM (quq tmps)).run P w=.ok vals w/\RepL w X rs vals Or/\(∀b,Or.count b<=(l.map λr=>(O (qsK (qL st r))).count b).sum)/\∀r∈ptrsL rs,(st.box r).isSome=true
 |[],rs,hx=>by
  simp only [List.map_nil,qfR,qb]at hx;subst hx;exact ⟨[],[],rfl,by simp [RepL],by simp,by simp [ptrsL]⟩
 |rv::l,rs,hx=>by
  simp only [qh]at hx;cases h1:qdq P st rv with
  |none=>rw [h1]at hx;simp [qfR]at hx
  |some x =>
   rw [h1]at hx;simp only [qfR]at hx;obtain ⟨rs',h2,rfl⟩:=qc.1 hx;obtain ⟨v,Ox,hr,hrep,hc,hp⟩:=qyD h h1;obtain ⟨vals,Or,hr',hrep',hc',hp'⟩:=qqX h l rs' h2;refine ⟨v::vals,Ox++Or,?_,by simp only [RepL];exact ⟨v,vals,Ox,Or,rfl,rfl,hrep,hrep'⟩,λb=>?_,λr hr=>?_⟩
   ·simp only [List.mapM_cons,Sem.run_bind,hr,Result.andThen_ok,hr',Sem.run_pure]
   ·simp only [qh,List.sum_cons,List.count_append];have:=hc b;have:=hc' b;omega
   ·simp only [ptrsL,qj]at hr;rcases hr with hr|hr
    ·exact hp r hr
    ·exact hp' r hr
theorem qCA{st:St}{r r':ResultVar}(h:qsK (qL st r)=qsK (qL st r')):qL st r=qL st r':=by
 have key:∀r:ResultVar,(∃t,qL st r=(false,t,0))\/∃l s,qL st r=(true,l,s):=λr=>by
  cases r with
  |tmp t=>exact .inl ⟨t,rfl⟩
  |cell a t=>right;simp only [qL];split<;>exact ⟨_,_,rfl⟩
 rcases key r with ⟨t,e⟩|⟨l,s,e⟩<;>rcases key r' with ⟨t',e'⟩|⟨l',s',e'⟩<;>rw [e,e']at h ⊢<;>simp_all [qsK]
theorem qxo{α:Type}(c:α->Nat):∀l:List α,(∀x∈l,c x=0)->(l.map c).sum=0
 |[],_=>rfl
 |x::l,h=>by
  simp only [qh,List.sum_cons,h x (by simp),qxo c l λy hy=>h y (by simp [hy])]
theorem qq8{O:Pl->List Nat}(hl:∀p,Lin (O p))(hd:∀p q,p≠q->∀b∈O p,b∉O q){st:St}(b:Nat):∀(l:List ResultVar),distinct (l.map (qL st))=true->(l.map λr=>(O (qsK (qL st r))).count b).sum<=1
 |[],_=>by simp
 |r::l,h=>by
  simp only [qh,distinct,qe,Bool.not_eq_true']at h;have ih:=qq8 hl hd b l h.2;simp only [qh,List.sum_cons];by_cases hb:b∈O (qsK (qL st r))
  ·have h1:=hl (qsK (qL st r)) b;have h0:(l.map λr=>(O (qsK (qL st r))).count b).sum=0:=by
    have:∀r'∈l,(O (qsK (qL st r'))).count b=0:=λr' hr'=>List.count_eq_zero.2 λhb'=>by
     have hne:qsK (qL st r)≠qsK (qL st r'):=λe=>by
      have:=qCA e;have hm:qL st r∈l.map (qL st):=by rw [this];exact List.mem_map.2 ⟨r',hr',rfl⟩
      have h2:=h.1;simp only [List.contains_eq_mem,decide_eq_false_iff_not]at h2;exact h2 hm
     exact hd _ _ hne b hb hb'
    exact qxo _ l this
   omega
  ·have:(O (qsK (qL st r))).count b=0:=List.count_eq_zero.2 hb;omega
theorem qiK{rs:List V}{vals:List Value}{Or:List Nat}(h:RepL w X rs vals Or):Rep w X (packed rs) (if hs:vals.toArray.size=1 then vals.toArray[0]else .tuple vals.toArray) Or:=by
 match rs,vals,h with
 |[],vals,h=>simp only [RepL]at h;obtain ⟨rfl,rfl⟩:=h;simp [packed,Rep,RepL]
 |[r],vals,h =>
  simp only [RepL]at h;obtain ⟨u,vs,O1,O2,rfl,rfl,h1,rfl,rfl⟩:=h;simpa [packed]using h1
 |r::r'::rs,vals,h =>
  have hl:=qF _ _ _ h;have hne:¬ vals.toArray.size=1:=by simp at hl ⊢;omega
  rw [dif_neg hne];simp only [packed,Rep];exact ⟨vals,rfl,h⟩
theorem qmF{fn:Func}{tmps:Array Value}{R:Ending->World->Prop}:∀(ks:List Nat) (w:World),ks.Nodup->(∀k∈ks,w.heap[k]?=some (.deferred (some []))) ->
  (∀w':World,w'.heap.size=w.heap.size->(∀k,k∉ks->w'.heap[k]?=w.heap[k]?)->w'.os=w.os->w'.output=w.output->w'.tape=w.tape->∃v,(results fn tmps).run P w'=.ok v w'/\R (.returned v) w') ->
  LeavesInM Fence.wide 0 P fn tmps R (ks.map λk=>{target:=.collected k,args:=#[]}) .returning w
 |[],w,_,_,hR=>hR w rfl (λ_ _=>rfl) rfl rfl rfl
 |k::ks,w,hnd,hk,hR=>by
  have hw:=hk k (by simp);obtain ⟨hnk,hnd'⟩:=List.nodup_cons.1 hnd;refine ⟨by simp,.inl ⟨k,w.putObj k (.deferred none),rfl,run_takeDeferred hw,?_⟩⟩;refine qmF ks _ hnd' (λk' hk'=>?_) (λw' h1 h2 h3 h4 h5=>?_)
  ·rw [World.putObj_heap_other (λe=>hnk (by rw [<- e];exact hk'))];exact hk k' (by simp [hk'])
  ·refine hR w' (by rw [h1];simp [World.putObj]) (λk' hk'=>?_) h3 h4 h5;simp only [qk,not_or]at hk';rw [h2 k' hk'.2,World.putObj_heap_other hk'.1]
end
section
variable {P:Program} {H:Hints} {f:FuncId} {C:Orc} {w:World} {X:Cx}
theorem Rel.same{st:St}{tmps:Array Value}{O:Pl->List Nat}{w':World}(h:Rel st tmps w X O)(hsz:w'.heap.size=w.heap.size)
  (hω:∀k e fz,X.ω k=some (e,fz)->w'.heap[k]?=w.heap[k]?) (hb:∀k c A,qp5 w X k c A->w'.heap[k]?=w.heap[k]?):Rel st tmps w' X O:=by
 have hext:∀R,Ext R w X w' X (λ_=>False):=λR=>{
  β:=λ_ _=>rfl
  ω:=λb e fz h=>⟨e,fz,h,Nat.le_refl _,id,λ_=>⟨rfl,rfl⟩⟩
  cell:=λb e fz i v h _ hc=>by grind [cell_of_heap]
  obj:=λb e fz c t _ h hc=>⟨c,by grind,rfl⟩}
 exact {
  size:=h.size
  env:=λt x hx=>by
   obtain ⟨v,hv,hr⟩:=h.env t x hx;exact ⟨v,hv,Rep.ext (hext _) _ _ _ (λ_ h=>h) (by simp) hr⟩
  envD:=h.envD
  box:=λr c hr=>by
   obtain ⟨b,h1,h2,h3,h4⟩:=h.box r c hr;exact ⟨b,h1,by omega,h3,h4.qpV (hb b c _ h4) λl vals A _ _ hr=>RepL.ext (hext _) _ _ _ (λ_ h=>h) (by simp) hr⟩
  boxD:=h.boxD
  inj:=h.inj
  lin:=h.lin
  dis:=h.dis
  ptrE:=h.ptrE
  ptrB:=h.ptrB
  up:=h.up
  dom:=λb e fz hb=>by have:=h.dom b e fz hb;omega}
theorem qBc{α:Type}(c:α->Nat):∀l:List α,0<(l.map c).sum->∃x∈l,0<c x
 |[],h=>by simp at h
 |x::l,h=>by
  simp only [qh,List.sum_cons]at h;by_cases hx:0<c x
  ·grind
  simp_all [qBc]
theorem qqW:∀n,RepL w X (List.replicate n .undef) (List.replicate n undef) []
 |0=>by simp [RepL]
 |n+1=>by
  simp only [List.replicate_succ,RepL];exact ⟨undef,_,[],[],rfl,rfl,by simp [Rep],qqW n⟩
theorem qqM:∀n,ptrsL (List.replicate n .undef)=[]
 |0=>rfl
 |n+1=>by simp [List.replicate_succ,ptrsL,V.qq,qqM n]
theorem qvX{fn:Func}{tmps:Array Value}{vals:List Value}(h:(fn.results.toList.mapM (quq tmps)).run P w=.ok vals w) :
  (results fn tmps).run P w=.ok (if hs:vals.toArray.size=1 then vals.toArray[0]else .tuple vals.toArray) w:=by
 have e:results fn tmps=(fn.results.mapM (quq tmps) >>= λvs=>pure (if h:vs.size=1 then vs[0]else .tuple vs)):=by
  unfold results;refine congrArg (λ(g:ResultVar->Sem Value)=>(fn.results.mapM g >>= λvs=>pure (if h:vs.size=1 then vs[0]else .tuple vs))) ?_;funext r;cases r<;>rfl
 simp_all [Array.mapM_eq_mapM_toList]
theorem qpr(hC:OrcOk P C)(hm:P.follows .mixedOrders=true)(qcw:qke P H){g:FuncId}{args:List V}{M:List Level}{R:World->Cx->(Root->List Nat)->Value->World->Prop}{fn:Func}{c:Code}{e:Ex}{st:St}{rs:List V}
  (hfn:P.funcs[g]?=some fn) (hbody:fn.body=some c) (hex:ex P H C g 0 c {E:=args++List.replicate (fn.ntmps-args.length) .undef,L:=M,B:=[]}=some (e,st)) (he:e=.normal\/e=.ret) (hrs:qfR (fn.results.toList.map (qdq P st))=some rs)
  (hfin:∀(w:World) (X:Cx) (O:Root->List Nat) (w2:World) (X1:Cx) (O1:Pl->List Nat) (tmps:Array Value) (vs:List Value) (Or:List Nat),LRel M w X O->(M=[]->∀b e fz,X.ω b=some (e,fz)->fz=true)->Rel st tmps w2 X1 O1->Fr w X (Mod M X O) M.length st w2 X1 O1->RepL w2 X1 rs vs Or ->
   (∀b,Or.count b<=(fn.results.toList.map λrv=>(O1 (qsK (qL st rv))).count b).sum)->(∀q∈ptrsL rs,(st.box q).isSome=true)->R w X O (if hs:vs.toArray.size=1 then vs.toArray[0]else .tuple vs.toArray) w2) :
  ∀(w:World) (X:Cx) (vals:List Value) (O:Root->List Nat),RepL w X args vals []->qhi w X->LRel M w X O->(∀q∈ptrsL args,(qa6 M q).isSome=true)->(M=[]->∀b e fz,X.ω b=some (e,fz)->fz=true) ->
  qsP (M=[]) P g vals.toArray w λv w'=>R w X O v w':=by
 intro w X vals O ha hgl hL hp hfz;left
 have hbs:fn.body.isNone=false:=by rw [hbody];rfl
 refine ⟨?_,?_⟩
 ·simp only [callFunc,Sem.run_bind,run_program,Result.andThen_ok,hfn,qcw.1 g fn hfn (by rw [hbody];rfl),hbs,qf,if_false,Sem.run_pure]
 ·refine callsIn_wide.1 (callsIn_of_wp_marks (n:=0) hfn hbody trivial ?_);have hlen:=qF _ _ _ ha;have hE:RepL w X (args++List.replicate (fn.ntmps-args.length) .undef) (vals.toArray++Array.replicate (fn.ntmps-vals.toArray.size) undef).toList []:=by
   have:=qaB ha (qqW (w:=w) (X:=X) (fn.ntmps-args.length));simpa [hlen]using this
  obtain ⟨hR0,hF0⟩:=quj hgl hL (tmps:=vals.toArray++Array.replicate (fn.ntmps-vals.toArray.size) undef) hE (λq hq=>by
   rw [qal,qqM,List.append_nil]at hq;exact hp q hq)
  refine wpIn_mono (qEW hC hm qcw.2.1 c 0 _ e st hex Fence.wide w X _ _ {tmps:=_,defers:=[]} w ⟨.inl rfl,λh0=>hfz (List.eq_nil_of_length_eq_zero h0)⟩ ⟨X,_,hR0,hF0,[],rfl,.nil,by simp⟩).wp ?_;rintro e' a' w1 ⟨rfl,X1,O1,hR,hF,ks,hD,hnd,hks⟩;have hgoal:LeavesInM Fence.wide 0 P fn a'.tmps (λe w'=>∃v,e=.returned v/\R w X O v w') a'.defers .returning w1:=by
   rw [hD];refine qmF ks w1 hnd (λk hk=>(hks k hk).2.1) λw2 hsz hsame hos hout htape=>?_;have hωs:∀k e fz,X1.ω k=some (e,fz)->w2.heap[k]?=w1.heap[k]?:=λk e fz hω=>hsame k λhk=>by rw [(hks k hk).2.2]at hω;cases hω
   have hR2:Rel st a'.tmps w2 X1 O1:=hR.same hsz hωs λk c A hb=>hsame k λhk=>qwZ hb (hks k hk).2.1 rfl;have hF2:Fr w X (Mod M X O) M.length st w2 X1 O1:={
    size:=by have:=hF.size;omega
    kept:=λb hb hM=>by
     obtain ⟨h1,h2⟩:=hF.kept b hb hM;grind
    grew:=λb e fz hω=>by
     obtain ⟨e1,fz1,h1,h2,h3,h4⟩:=hF.grew b e fz hω;grind [cell_of_heap]
    β:=hF.β
    own:=hF.own
    boxM:=hF.boxM
    lev:=hF.lev
    live:=hF.live
    os:=by rw [hos,hF.os]
    out:=by rw [hout,hF.out]
    tape:=by rw [htape,hF.tape]
    gl:=hF.gl
    gm:=hF.gm}
   grind [qqX,qvX]
  rcases he with rfl|rfl
  ·exact hgoal
  ·exact hgoal
theorem qEg(hC:OrcOk P C)(hm:P.follows .mixedOrders=true)(qcw:qke P H){g:FuncId}{args:List V}{M M':List Level}{r:V}
  (hx:qEJ P H C g args M=some (r,M')):qan P g args M r M':=by
 unfold qEJ at hx;split at hx
 ·rename_i fn hfn;split at hx
  ·rename_i c hbody;split at hx
   ·rename_i e st hex;split at hx
    ·rename_i he;split at hx
     ·rename_i rs hrs;split at hx
      ·rename_i hchk;obtain ⟨rfl,rfl⟩:=Prod.mk.inj (Option.some.inj hx);simp only [qe]at hchk;obtain ⟨hptr,hkeys⟩:=hchk;simp only [qtL,qe]at hkeys;obtain ⟨hdist,hklv⟩:=hkeys;refine qpr (R:=λw X O v w'=>qFG _ _ _ w X O v w') hC hm qcw hfn hbody hex he hrs λw X O w2 X1 O1 tmps vs Or hL hfz hR2 hF2 hrep hcnt hpl=>?_;have hlin:Lin Or:=λb=>Nat.le_trans (hcnt b) (qq8 hR2.lin hR2.dis b _ hdist);have hwhere:∀b∈Or,∃p,b∈O1 p/\∀q:Root,q.lvl<M.length->p≠.box q:=λb hb=>by
        have h1:=List.count_pos_iff.2 hb;obtain ⟨rv,hrv,h2⟩:=qBc _ _ (Nat.lt_of_lt_of_le h1 (hcnt b));refine ⟨_,List.count_pos_iff.1 h2,λq hq e=>?_⟩;have h3:=List.all_eq_true.1 hklv (qL st rv) (List.mem_map.2 ⟨rv,hrv,rfl⟩);generalize hkey:qL st rv=key at e h3;obtain ⟨kb,kl,ks'⟩:=key;cases kb with
        |false=>simp [qsK]at e
        |true =>
         simp only [qsK,Pl.box.injEq]at e;grind
       obtain ⟨hlr,hlen',hkind⟩:=qpj hR2 hF2;have hplv:∀q∈ptrsL rs,(qa6 st.L q).isSome=true:=λq hq=>by
        simp_all [List.all_eq_true,qdD,if_pos]
       by_cases hset:(M.isEmpty&&!ownsL rs)=true
       ·rw [if_pos hset];simp only [qe,Bool.not_eq_true']at hset;have hM:M=[]:=by simpa using hset.1
        have hOr:Or=[]:=repL_noowns rs vs Or hset.2 hrep;subst hOr;subst hM;have hL0:st.L=[]:=List.eq_nil_of_length_eq_zero (by omega);have hnoM:∀b,¬ Mod [] X O b:=λb hb=>by
         rcases hb with ⟨q,h1,_⟩|⟨q,h1⟩
         ·simp [qa6]at h1
         ·rw [hL.boxD q (by simp [qa6])]at h1;simp at h1
        have hold:∀b,b<w.heap.size->X1.ω b=X.ω b:=λb hb=>(hF2.kept b hb (hnoM b)).2;let X2:Cx:={β:=X1.β,ω:=λb=>(X1.ω b).map λp=>(p.1,true)}
        have hX2:∀b e fz,X1.ω b=some (e,fz)->X2.ω b=some (e,true):=λb e fz h=>by simp [X2,h]
        have hX2o:∀b,b<w.heap.size->X2.ω b=X.ω b:=λb hb=>by
         show (X1.ω b).map _=_;rw [hold b hb];cases hω:X.ω b with
         |none=>rfl
         |some p=>grind
        have hrep2:RepL w2 X2 (reflagL qit rs) vs []:=RepL.flags' (X:=X1) (X':=X2) (S:=λ_=>False) {β:=rfl,own:=λf=>by cases f<;>simp [qit],ω:=λb e fz h=>⟨true,hX2 b e fz h,λh=>h.elim⟩,sh:=λf b e fz h _ _ _=>hX2 b e fz h} _ _ _ (by simp) hrep;refine ⟨X2,λ_=>[],[],qiK hrep2,?_,Lin.nil,by simp,?_,hlen',hkind,?_⟩
        ·rw [hL0];exact {
             box:=λr c hc=>by simp [qa6]at hc,boxD:=λ_ _=>rfl,inj:=λr r' b h1=>by simp [qa6]at h1,lin:=λ_=>Lin.nil,dis:=λ_ _ _ _ h=>by simp at h,ptrB:=λr c hc=>by simp [qa6]at hc,up:=λr c hc=>by simp [qa6]at hc
             dom:=λb e fz hω=>by
              obtain ⟨p,hp,_⟩:=qc.1 hω;exact hR2.dom b p.1 p.2 hp}
        ·intro q hq;have:q∈ptrsL rs:=by
          have hpk:∀l:List V,q∈(packed l).qq->q∈ptrsL l:=λl hq=>by
           match l,hq with
           |[],hq=>simpa [packed,V.qq]using hq
           |[x],hq=>simpa [packed,ptrsL]using hq
           |x::y::l,hq=>simpa only [packed,V.qq]using hq
          grind [ptrsL_reflag]
         exact hplv q this
        ·exact {
          size:=hF2.size
          kept:=λb hb hM=>⟨(hF2.kept b hb hM).1,hX2o b hb⟩
          grew:=λb e fz hω=>by
           have hb:=hL.dom b e fz hω;exact ⟨e,fz,by rw [hX2o b hb];exact hω,Nat.le_refl _,id,λi v hi hc=>by rw [cell_of_heap (hF2.kept b hb (hnoM b)).1];exact hc⟩
          β:=hF2.β
          own:=λb hb=>by
           grind
          os:=hF2.os
          out:=hF2.out
          tape:=hF2.tape}
       ·rw [if_neg hset];refine ⟨X1,qjg M.length O1,Or,qiK hrep,hlr,hlin,λq b hb hbq=>?_,λq hq=>?_,hlen',hkind,qDp hF2 λb hb=>?_⟩
        ·obtain ⟨p,h1,h2⟩:=hwhere b hb;unfold qjg at hbq;split at hbq
         ·rename_i hq;exact hR2.dis p (.box q) (h2 q hq) b h1 hbq
         ·simp at hbq
        ·have hpk:∀l:List V,q∈(packed l).qq->q∈ptrsL l:=λl hq=>by
          match l,hq with
          |[],hq=>simpa [packed,V.qq]using hq
          |[x],hq=>simpa [packed,ptrsL]using hq
          |x::y::l,hq=>simpa only [packed,V.qq]using hq
         exact hplv q (hpk _ hq)
        grind [qqF]
      ·split at hx
       ·rename_i hchk;simp only [qe,List.isEmpty_iff]at hchk;obtain ⟨hM,_⟩:=hchk;split at hx
        ·rename_i xs hxs;split at hx
         ·rename_i hxp;obtain ⟨rfl,rfl⟩:=Prod.mk.inj (Option.some.inj hx);refine qpr (R:=λw X O v w'=>qFG _ _ _ w X O v w') hC hm qcw hfn hbody hex he hrs λw X O w2 X1 O1 tmps vs Or hL hfz hR2 hF2 hrep hcnt hpl=>?_;subst hM;obtain ⟨hlr,hlen',hkind⟩:=qpj hR2 hF2;have hL0:st.L=[]:=List.eq_nil_of_length_eq_zero (by omega);have hnoM:∀b,¬ Mod [] X O b:=λb hb=>by
           rcases hb with ⟨q,h1,_⟩|⟨q,h1⟩
           ·simp [qa6]at h1
           ·rw [hL.boxD q (by simp [qa6])]at h1;simp at h1
          have hold:∀b,b<w.heap.size->X1.ω b=X.ω b:=λb hb=>(hF2.kept b hb (hnoM b)).2;let X2:Cx:={β:=X1.β,ω:=λb=>match X1.ω b with
           |some p=>some (p.1,true)
           |none=>if w.heap.size<=b then (match w2.heap[b]? with
            |some (.cells arr _ _)=>some (arr.size,true)
            |_=>none)else none}
          have hX2:∀b e fz,X1.ω b=some (e,fz)->X2.ω b=some (e,true):=λb e fz h=>by simp [X2,h]
          have hX2o:∀b,b<w.heap.size->X2.ω b=X.ω b:=λb hb=>by
           grind
          have hfl:Flags qK X1 X2 (λ_=>True) true :=
           {β:=rfl,own:=λf=>by simp [qK],dul:=λ_ _=>rfl,ω:=λ_ b e fz h=>⟨true,hX2 b e fz h⟩,sh:=λf b e fz h _ _ _ _=>hX2 b e fz h}
          have hrep2:RepL w2 X2 xs vs []:=peekL_okX (Ob:=λq=>O1 (.box q)) hfl (λq c hq=>by
           obtain ⟨b,h1,h2,h3,h4⟩:=hR2.box q c hq;refine ⟨b,h1,h2,h3,h4,λarr t m h5=>?_⟩;have hge:w.heap.size<=b:=by
            rcases hF2.boxM q b (by rw [hq];rfl) h1 with h6|h6
            ·exact h6
            ·exact absurd h6 (hnoM b)
           grind) _ _ _ _ hxs hrep
          refine ⟨X2,λ_=>[],[],qiK hrep2,?_,Lin.nil,by simp,?_,hlen',hkind,?_⟩
          ·rw [hL0];exact {
               box:=λr c hc=>by simp [qa6]at hc,boxD:=λ_ _=>rfl,inj:=λr r' b h1=>by simp [qa6]at h1,lin:=λ_=>Lin.nil,dis:=λ_ _ _ _ h=>by simp at h,ptrB:=λr c hc=>by simp [qa6]at hc,up:=λr c hc=>by simp [qa6]at hc
               dom:=λb e fz hω=>by
                cases h1:X1.ω b with
                |some p=>exact hR2.dom b p.1 p.2 h1
                |none =>
                 grind}
          ·intro q hq;exfalso
           have hpk:∀l:List V,q∈(packed l).qq->q∈ptrsL l:=λl hq=>by
            match l,hq with
            |[],hq=>simpa [packed,V.qq]using hq
            |[x],hq=>simpa [packed,ptrsL]using hq
            |x::y::l,hq=>simpa only [packed,V.qq]using hq
           grind
          ·exact {
            size:=hF2.size
            kept:=λb hb hM=>⟨(hF2.kept b hb hM).1,hX2o b hb⟩
            grew:=λb e fz hω=>by
             have hb:=hL.dom b e fz hω;exact ⟨e,fz,by rw [hX2o b hb];exact hω,Nat.le_refl _,id,λi v hi hc=>by rw [cell_of_heap (hF2.kept b hb (hnoM b)).1];exact hc⟩
            β:=hF2.β
            own:=λb hb=>by
             simp_all
            os:=hF2.os
            out:=hF2.out
            tape:=hF2.tape}
         ·cases hx
        grind
       grind
     grind
    grind
   grind
  grind
 grind
theorem qBF(hC:OrcOk P C)(hm:P.follows .mixedOrders=true)(qcw:qke P H){g:FuncId}{args:List V}{r:V}{s:Nat}{es:List (Value×Value)}
  (hx:qzm P H C g args=some (r,s,es)):qy4 P g args r s es:=by
 unfold qzm at hx;split at hx
 ·rename_i fn hfn;split at hx
  ·rename_i c hbody;split at hx
   ·rename_i e st hex;split at hx
    ·rename_i he;split at hx
     ·rename_i rs hrs;split at hx
      ·rename_i xs hxs;split at hx
       ·rename_i r0 hptr;split at hx
        ·rename_i hl0;split at hx
         ·rename_i es0 hbx;split at hx
          ·rename_i hom;simp only [qb,Prod.mk.injEq]at hx;obtain ⟨rfl,rfl,rfl⟩:=hx;have hpk:∀(l:List V) (q:Root),q∈(packed l).qq->q∈ptrsL l:=λl q hq=>by
            match l,hq with
            |[],hq=>simpa [packed,V.qq]using hq
            |[x],hq=>simp_all [packed,ptrsL]
            |x::y::l,hq=>simp_all [packed,V.qq]
           have hpo:∀l:List V,onlyMapsL l=true->(packed l).onlyMaps=true:=λl hl=>by
            match l,hl with
            |[],hl=>rfl
            |[x],hl=>simp_all [packed,onlyMapsL]
            |x::y::l,hl=>simp_all [packed,V.onlyMaps]
           have hr0:r0=⟨0,r0.slot⟩:=by cases r0;grind
           refine ⟨hpo _ hom,λk hk=>?_,λw X vals ha hgl hd hp hfz=>?_⟩
           ·grind
           ·have hL:LRel [] w X (λ_=>[]) :=
             {box:=λr c hc=>by simp [qa6]at hc,boxD:=λ_ _=>rfl,inj:=λr r' b h1=>by simp [qa6]at h1,lin:=λ_=>Lin.nil,dis:=λ_ _ _ _ h=>by simp at h,ptrB:=λr c hc=>by simp [qa6]at hc,up:=λr c hc=>by simp [qa6]at hc,dom:=hd}
            refine (qpr (M:=[]) (R:=λw X O v w'=>(∀r,O r=[])->∃X' b ents ck,Rep w' X' (packed xs) v []/\Dom w' X'/\X'.β ⟨0,r0.slot⟩=some b/\w.heap.size<=b/\b<w'.heap.size/\X'.ω b=none/\w'.heap[b]?=some (.map ents ck)/\ents.toList.map kv=es0 /\
             Aft w X (Mod [] X (λ_=>[])) 0 w' X' (λ_=>False)) hC hm qcw hfn hbody hex he hrs ?_ w X vals (λ_=>[]) ha hgl hL (by rw [hp];simp) (λ_=>hfz)).mono (λ_=>trivial) (λv w' h=>h λ_=>rfl)
            clear hL ha hgl hd hp hfz;intro w X O w2 X1 O1 tmps vs Or hL hfz hR2 hF2 hrep hcnt hpl hO;have hnoM:∀b,¬ Mod [] X O b:=λb hb=>by
             rcases hb with ⟨q,h1,_⟩|⟨q,h1⟩
             ·simp [qa6]at h1
             grind
            have hold:∀b,b<w.heap.size->X1.ω b=X.ω b:=λb hb=>(hF2.kept b hb (hnoM b)).2;let X2:Cx:={β:=X1.β,ω:=λb=>match X1.ω b with
             |some p=>some (p.1,true)
             |none=>if w.heap.size<=b then (match w2.heap[b]? with
              |some (.cells arr _ _)=>some (arr.size,true)
              |_=>none)else none}
            have hX2:∀b e fz,X1.ω b=some (e,fz)->X2.ω b=some (e,true):=λb e fz h=>by simp [X2,h]
            have hX2o:∀b,b<w.heap.size->X2.ω b=X.ω b:=λb hb=>by
             grind
            have hfl:Flags qK X1 X2 (λ_=>True) true :=
             {β:=rfl,own:=λf=>by simp [qK],dul:=λ_ _=>rfl,ω:=λ_ b e fz h=>⟨true,hX2 b e fz h⟩,sh:=λf b e fz h _ _ _ _=>hX2 b e fz h}
            have hrep2:RepL w2 X2 xs vs []:=peekL_okX (Ob:=λq=>O1 (.box q)) hfl (λq c hq=>by
             obtain ⟨b,h1,h2,h3,h4⟩:=hR2.box q c hq;refine ⟨b,h1,h2,h3,h4,λarr t m h5=>?_⟩;have hge:w.heap.size<=b:=by
              rcases hF2.boxM q b (by rw [hq];rfl) h1 with h6|h6
              ·exact h6
              ·exact absurd h6 (hnoM b)
             grind) _ _ _ _ hxs hrep
            obtain ⟨b,hβ,hlt,hω,hbxr⟩:=hR2.box r0 _ hbx;obtain ⟨ents,ck,hw,hes,_⟩:=hbxr.map;have hge:w.heap.size<=b:=by
             rcases hF2.boxM r0 b (by rw [hbx];rfl) hβ with h6|h6
             ·exact h6
             ·exact absurd h6 (hnoM b)
            refine ⟨X2,b,ents,ck,qiK hrep2,λb e fz hω=>?_,by rw [<- hr0];exact hβ,hge,hlt,by simp [X2,hω,hw],hw,hes,?_⟩
            ·cases h1:X1.ω b with
             |some p=>exact hR2.dom b p.1 p.2 h1
             |none =>
              grind
            ·exact {
              size:=hF2.size
              kept:=λb hb hM=>⟨(hF2.kept b hb (hnoM b)).1,hX2o b hb⟩
              grew:=λb e fz hω=>by
               have hb:=hL.dom b e fz hω;exact ⟨e,fz,by rw [hX2o b hb];exact hω,Nat.le_refl _,id,λi v hi hc=>by rw [cell_of_heap (hF2.kept b hb (hnoM b)).1];exact hc⟩
              β:=λr hr=>hF2.β r hr
              own:=λb hb=>hb.elim
              os:=hF2.os
              out:=hF2.out
              tape:=hF2.tape}
          grind
         grind
        grind
       grind
      grind
     grind
    grind
   grind
  grind
 grind
theorem qwB{v:V}(h:v≠.val (.slice none 0 0)):v.qep=v:=by
 simp_all [V.qep,absurd]
theorem qAR{w:World}{X:Cx}{x:V}{v:Value}{O:List Nat}(h:Rep w X x v O):Rep w X x.qep v O/\x.qep.qq=x.qq:=by
 by_cases hx:x=.val (.slice none 0 0)
 ·simp_all [Rep,V.qep,ptrsL,V.qq]
 simp_all [qwB]
theorem qqU{w:World}{X:Cx}:∀{l:List V} {vals:List Value} {O:List Nat},RepL w X l vals O->RepL w X (l.map V.qep) vals O/\ptrsL (l.map V.qep)=ptrsL l
 |[],_,_,h=>⟨h,rfl⟩
 |x::l,vals,O,h=>by
  simp only [RepL]at h;obtain ⟨u,vs,O1,O2,rfl,rfl,h1,h2⟩:=h;obtain ⟨a1,a2⟩:=qAR h1;obtain ⟨b1,b2⟩:=qqU h2;exact ⟨by simp only [qh,RepL];exact ⟨u,vs,O1,O2,rfl,rfl,a1,b1⟩,by simp only [qh,ptrsL,a2,b2]⟩
theorem qxI{g:FuncId}{args:List V}{M M':List Level}{r:V}(h:qan P g (dnA H g args) M r M'):qan P g args M r M':=by
 unfold dnA at h;cases hd:H.qep g with
 |false=>grind
 |true =>
  rw [hd]at h;intro w X vals O ha hgl hL hp hfz;obtain ⟨h1,h2⟩:=qqU ha;exact h w X vals O h1 hgl hL (λq hq=>hp q (by grind)) hfz
theorem qvI(hm:P.follows .mixedOrders=true)(qcw:qke P H){lib:FuncId->Option (List V->Option V)}
  (qxW:∀g h args r,lib g=some h->h args=some r->qan P g args [] r []):∀n,OrcOk P (qvH P H lib n)
 |0=>⟨λ_ _ _ _ _ h=>by simp [qvH]at h,λ_ _ _ _ _ _ h=>by simp [qvH]at h,λ_ _ _ _ _ h=>by simp [qvH]at h,λ_ _ h=>by simp [qvH]at h⟩
 |n+1=>by
  have ih:=qvI hm qcw qxW n;refine ⟨λg args M r M' h=>?_,λf bid c st e st' h=>qEW ih hm qcw.2.1 c bid st e st' h,λg args r s es h=>qBF ih hm qcw h,λg c h=>qcw.2.2 g c h⟩;simp only [qvH]at h;split at h
  ·rename_i h0 hl;split at h
   ·rename_i hM;obtain ⟨v,h1,h2⟩:=qc.1 h;obtain ⟨rfl,rfl⟩:=Prod.mk.inj h2;have:M=[]:=by simpa using hM
    subst this;exact qxW g h0 args v hl h1
   ·cases h
  ·exact qxI (qEg ih hm qcw h)
end
end Go.Ab
end
section
namespace Go.Tx
section
structure Mask where
 bits:Nat
 deriving DecidableEq
def Mask.has(m:Mask)(t:Nat):Bool:=Nat.testBit m.bits t
instance:Membership Nat Mask:=⟨λm t=>m.has t=true⟩
instance (t:Nat) (m:Mask):Decidable (t∈m):=inferInstanceAs (Decidable (m.has t=true))
def Mask.empty:Mask:=⟨0⟩
def Mask.ins(t:Nat)(m:Mask):Mask:=⟨Nat.lor m.bits (Nat.shiftLeft 1 t)⟩
def Mask.union(a b:Mask):Mask:=⟨Nat.lor a.bits b.bits⟩
instance:Append Mask:=⟨Mask.union⟩
def Mask.sub(a b:Mask):Bool:=Nat.beq (Nat.lor a.bits b.bits) b.bits
def Mask.ofList(l:List Nat):Mask:=l.foldr Mask.ins .empty
theorem Mask.mem_iff{m:Mask}{t:Nat}:t∈m↔m.has t=true:=Iff.rfl
@[simp] theorem Mask.mem_empty {t:Nat}:¬ t∈Mask.empty:=by
 rw [Mask.mem_iff];unfold Mask.has Mask.empty;simp
@[simp] theorem Mask.mem_ins {m:Mask} {t u:Nat}:u∈Mask.ins t m↔u=t\/u∈m:=by
 rw [Mask.mem_iff,Mask.mem_iff];unfold Mask.has Mask.ins;have e:Nat.lor m.bits (Nat.shiftLeft 1 t)=m.bits ||| (1 <<< t):=rfl
 simp only [e,Nat.testBit_or,Bool.or_eq_true,Nat.one_shiftLeft,Nat.testBit_two_pow,decide_eq_true_eq];constructor
 ·rintro (h|h)
  ·exact .inr h
  ·exact .inl h.symm
 ·rintro (h|h)
  ·exact .inr h.symm
  ·exact .inl h
@[simp] theorem Mask.mem_append {a b:Mask} {t:Nat}:t∈a++b↔t∈a\/t∈b:=by
 show t∈Mask.union a b↔_;rw [Mask.mem_iff,Mask.mem_iff,Mask.mem_iff];unfold Mask.has Mask.union;have e:Nat.lor a.bits b.bits=a.bits ||| b.bits:=rfl
 simp only [e,Nat.testBit_or,Bool.or_eq_true]
@[simp] theorem Mask.mem_ofList {l:List Nat} {t:Nat}:t∈Mask.ofList l↔t∈l:=by
 induction l with
 |nil=>simp [Mask.ofList]
 |cons a l ih =>
  have:Mask.ofList (a::l)=Mask.ins a (Mask.ofList l):=rfl;rw [this,Mask.mem_ins,ih];simp
theorem Mask.qBb{a b:Mask}(h:a.sub b=true){t:Nat}(ht:t∈a):t∈b:=by
 unfold Mask.sub at h;have h1:=Nat.eq_of_beq_eq_true h;rw [Mask.mem_iff]at ht ⊢;unfold Mask.has at ht ⊢;rw [<- h1];have e:Nat.lor a.bits b.bits=a.bits ||| b.bits:=rfl
 rw [e,Nat.testBit_or,ht];rfl
theorem Mask.qFq{a b:Mask}(h:∀t,t∈a->t∈b):a.sub b=true:=by
 unfold Mask.sub;have:Nat.lor a.bits b.bits=b.bits:=by
  apply Nat.eq_of_testBit_eq;intro i;have e:Nat.lor a.bits b.bits=a.bits ||| b.bits:=rfl
  rw [e,Nat.testBit_or];have h1:=h i;rw [Mask.mem_iff,Mask.mem_iff]at h1;unfold Mask.has at h1;cases ha:a.bits.testBit i with
  |false=>rfl
  |true=>rw [h1 ha];rfl
 rw [this];exact Nat.beq_refl _
inductive Tr (α:Type) where
 |nil
 |node (v:α) (l r:Tr α)
section
variable {α:Type} (d:α)
noncomputable def Tr.get(t:Tr α):Nat->α :=
 Tr.rec (motive:=λ_=>Nat->α) (λ_=>d) (λv l r gl gr i=>Bool.rec (motive:=λ_=>α) (Bool.rec (motive:=λ_=>α) (gr (Nat.pred (Nat.div i 2))) (gl (Nat.div i 2)) (Nat.beq (Nat.mod i 2) 1)) v (Nat.beq i 0)) t
noncomputable def Tr.one(k:Nat):Nat->α->Tr α :=
 Nat.rec (motive:=λ_=>Nat->α->Tr α) (λ_ _=>.nil) (λ_ g i v=>Bool.rec (motive:=λ_=>Tr α) (Bool.rec (motive:=λ_=>Tr α) (.node d .nil (g (Nat.pred (Nat.div i 2)) v)) (.node d (g (Nat.div i 2) v) .nil) (Nat.beq (Nat.mod i 2) 1)) (.node v .nil .nil) (Nat.beq i 0)) k
noncomputable def Tr.set(t:Tr α):Nat->α->Tr α :=
 Tr.rec (motive:=λ_=>Nat->α->Tr α) (λi v=>Tr.one d (Nat.succ i) i v) (λu l r gl gr i v=>Bool.rec (motive:=λ_=>Tr α) (Bool.rec (motive:=λ_=>Tr α) (.node u l (gr (Nat.pred (Nat.div i 2)) v)) (.node u (gl (Nat.div i 2) v) r) (Nat.beq (Nat.mod i 2) 1)) (.node v l r) (Nat.beq i 0)) t
theorem Tr.get_nil(i:Nat):(Tr.nil:Tr α).get d i=d:=rfl
theorem qzq{β:Type}(a b:β)(c:Bool):Bool.rec (motive:=λ_=>β) b a c=if c=true then a else b:=by cases c<;>rfl
theorem Tr.qbZ(v:α)(l r:Tr α)(i:Nat):(Tr.node v l r).get d i=if i=0 then v else if i % 2=1 then l.get d (i / 2)else r.get d (i / 2-1):=by
 have e:(Tr.node v l r).get d i=Bool.rec (motive:=λ_=>α) (Bool.rec (motive:=λ_=>α) (r.get d (Nat.pred (Nat.div i 2))) (l.get d (Nat.div i 2)) (Nat.beq (Nat.mod i 2) 1)) v (Nat.beq i 0):=rfl;rw [e,qzq,qzq];simp only [Nat.beq_eq];rfl
theorem Tr.qCp(k i:Nat)(v:α):Tr.one d (k+1) i v=if i=0 then .node v .nil .nil else if i % 2=1 then .node d (Tr.one d k (i / 2) v) .nil else .node d .nil (Tr.one d k (i / 2-1) v):=by
 have e:Tr.one d (k+1) i v=Bool.rec (motive:=λ_=>Tr α) (Bool.rec (motive:=λ_=>Tr α) (.node d .nil (Tr.one d k (Nat.pred (Nat.div i 2)) v)) (.node d (Tr.one d k (Nat.div i 2) v) .nil) (Nat.beq (Nat.mod i 2) 1)) (.node v .nil .nil) (Nat.beq i 0):=rfl;rw [e,qzq,qzq];simp only [Nat.beq_eq];rfl
theorem Tr.set_nil(i:Nat)(v:α):(Tr.nil:Tr α).set d i v=Tr.one d (i+1) i v:=rfl
theorem Tr.qCN(u:α)(l r:Tr α)(i:Nat)(v:α):(Tr.node u l r).set d i v=if i=0 then .node v l r else if i % 2=1 then .node u (l.set d (i / 2) v) r else .node u l (r.set d (i / 2-1) v):=by
 have e:(Tr.node u l r).set d i v=Bool.rec (motive:=λ_=>Tr α) (Bool.rec (motive:=λ_=>Tr α) (.node u l (r.set d (Nat.pred (Nat.div i 2)) v)) (.node u (l.set d (Nat.div i 2) v) r) (Nat.beq (Nat.mod i 2) 1)) (.node v l r) (Nat.beq i 0):=rfl;rw [e,qzq,qzq];simp only [Nat.beq_eq];rfl
theorem half(i j:Nat):(i % 2=1->j % 2=1->(i=j↔i / 2=j / 2))/\(i≠0->j≠0->i % 2≠1->j % 2≠1->(i=j↔i / 2-1=j / 2-1)):=by
 constructor<;>intros<;>omega
theorem Tr.qvk:∀(k i:Nat) (v:α) (j:Nat),i<k->(Tr.one d k i v).get d j=if i=j then v else d
 |0,i,v,j,h=>by omega
 |k+1,i,v,j,h=>by
  rw [Tr.qCp];obtain ⟨h1,h2⟩:=half i j;by_cases i0:i=0
  ·rw [if_pos i0,Tr.qbZ];by_cases j0:j=0
   ·rw [if_pos j0,if_pos (show i=j by omega)]
   ·rw [if_neg j0,if_neg (show ¬ i=j by omega)];by_cases jo:j % 2=1
    ·rw [if_pos jo];rfl
    ·rw [if_neg jo];rfl
  ·rw [if_neg i0];by_cases io:i % 2=1
   ·rw [if_pos io,Tr.qbZ];by_cases j0:j=0
    ·rw [if_pos j0,if_neg (show ¬ i=j by omega)]
    ·rw [if_neg j0];by_cases jo:j % 2=1
     ·rw [if_pos jo,Tr.qvk k _ v _ (by omega)];simp only [h1 io jo]
     ·rw [if_neg jo,if_neg (show ¬ i=j by omega)];rfl
   ·rw [if_neg io,Tr.qbZ];by_cases j0:j=0
    ·rw [if_pos j0,if_neg (show ¬ i=j by omega)]
    ·rw [if_neg j0];by_cases jo:j % 2=1
     ·rw [if_pos jo,if_neg (show ¬ i=j by omega)];rfl
     ·rw [if_neg jo,Tr.qvk k _ v _ (by omega)];simp only [h2 i0 j0 io jo]
theorem Tr.qrF:∀(t:Tr α) (i:Nat) (v:α) (j:Nat),(t.set d i v).get d j=if i=j then v else t.get d j
 |.nil,i,v,j=>by rw [Tr.set_nil,Tr.qvk d _ _ _ _ (by omega),Tr.get_nil]
 |.node u l r,i,v,j=>by
  rw [Tr.qCN];obtain ⟨h1,h2⟩:=half i j;by_cases i0:i=0
  ·rw [if_pos i0,Tr.qbZ,Tr.qbZ];by_cases j0:j=0
   ·rw [if_pos j0,if_pos (show i=j by omega)]
   ·rw [if_neg j0,if_neg j0,if_neg (show ¬ i=j by omega)]
  ·rw [if_neg i0];by_cases io:i % 2=1
   ·rw [if_pos io,Tr.qbZ,Tr.qbZ];by_cases j0:j=0
    ·rw [if_pos j0,if_pos j0,if_neg (show ¬ i=j by omega)]
    ·rw [if_neg j0,if_neg j0];by_cases jo:j % 2=1
     ·rw [if_pos jo,if_pos jo,Tr.qrF l];simp only [h1 io jo]
     ·rw [if_neg jo,if_neg jo,if_neg (show ¬ i=j by omega)]
   ·rw [if_neg io,Tr.qbZ,Tr.qbZ];by_cases j0:j=0
    ·rw [if_pos j0,if_pos j0,if_neg (show ¬ i=j by omega)]
    ·rw [if_neg j0,if_neg j0];by_cases jo:j % 2=1
     ·rw [if_pos jo,if_pos jo,if_neg (show ¬ i=j by omega)]
     ·rw [if_neg jo,if_neg jo,Tr.qrF r];simp only [h2 i0 j0 io jo]
noncomputable def Tr.fill(n:Nat)(f:Nat->α->α)(k:Nat):Nat->Nat->Tr α :=
 Nat.rec (motive:=λ_=>Nat->Nat->Tr α) (λ_ _=>.nil) (λ_ g a b=>Bool.rec (motive:=λ_=>Tr α) .nil (.node (f b d) (g (Nat.mul 2 a) (Nat.add a b)) (g (Nat.mul 2 a) (Nat.add (Nat.mul 2 a) b))) (Nat.ble (Nat.succ b) n)) k
noncomputable def Tr.qvA(n:Nat)(f:Nat->α->α)(t:Tr α):Nat->Nat->Tr α :=
 Tr.rec (motive:=λ_=>Nat->Nat->Tr α) (λa b=>Tr.fill d n f n a b) (λv l r gl gr a b=>.node (f b v) (gl (Nat.mul 2 a) (Nat.add a b)) (gr (Nat.mul 2 a) (Nat.add (Nat.mul 2 a) b))) t
noncomputable def Tr.allI(p:Nat->α->Bool)(t:Tr α):Nat->Nat->Bool :=
 Tr.rec (motive:=λ_=>Nat->Nat->Bool) (λa b=>true) (λv l r gl gr a b=>Bool.rec (motive:=λ_=>Bool) false (Bool.rec (motive:=λ_=>Bool) false (gr (Nat.mul 2 a) (Nat.add (Nat.mul 2 a) b)) (gl (Nat.mul 2 a) (Nat.add a b))) (p b v)) t
noncomputable def Tr.qAh(p:α->Bool)(t:Tr α):Nat->Nat->Nat :=
 Tr.rec (motive:=λ_=>Nat->Nat->Nat) (λa b=>0) (λv l r gl gr a b=>Nat.lor (Nat.lor (gl (Nat.mul 2 a) (Nat.add a b)) (gr (Nat.mul 2 a) (Nat.add (Nat.mul 2 a) b))) (Bool.rec (motive:=λ_=>Nat) 0 (Nat.shiftLeft 1 b) (p v))) t
theorem Tr.qrD(n:Nat)(f:Nat->α->α):∀(k a b j:Nat),1<=a->n<=b+k->a*j+b<n->(Tr.fill d n f k a b).get d j=f (a*j+b) d
 |0,a,b,j,ha,hk,hj=>by have:=Nat.le_add_left b (a*j);omega
 |k+1,a,b,j,ha,hk,hj=>by
  have hb:b<n:=by have:=Nat.le_add_left b (a*j);omega
  have e:Tr.fill d n f (k+1) a b=Bool.rec (motive:=λ_=>Tr α) .nil (.node (f b d) (Tr.fill d n f k (2*a) (a+b)) (Tr.fill d n f k (2*a) (2*a+b))) (Nat.ble (b+1) n):=rfl;rw [e,qzq,if_pos (by rw [Nat.ble_eq];omega),Tr.qbZ];by_cases j0:j=0
  ·rw [if_pos j0];subst j0;simp
  ·rw [if_neg j0];by_cases jo:j % 2=1
   ·have e1:2*a*(j / 2)+(a+b)=a*j+b:=by
     have:j=2*(j / 2)+1:=by omega
     conv=>rhs;rw [this]
     rw [Nat.mul_add,<- Nat.mul_assoc,Nat.mul_comm a 2];omega
    rw [if_pos jo,Tr.qrD n f k _ _ _ (by omega) (by omega) (by omega),e1]
   ·have e1:2*a*(j / 2-1)+(2*a+b)=a*j+b:=by
     have:j=2*(j / 2-1)+2:=by omega
     conv=>rhs;rw [this]
     rw [Nat.mul_add,<- Nat.mul_assoc,Nat.mul_comm a 2];omega
    rw [if_neg jo,Tr.qrD n f k _ _ _ (by omega) (by omega) (by omega),e1]
theorem Tr.qrE(n:Nat)(f:Nat->α->α):∀(t:Tr α) (a b j:Nat),1<=a->a*j+b<n->(t.qvA d n f a b).get d j=f (a*j+b) (t.get d j)
 |.nil,a,b,j,ha,hj=>Tr.qrD d n f n a b j ha (by omega) hj
 |.node v l r,a,b,j,ha,hj=>by
  have e:(Tr.node v l r).qvA d n f a b=.node (f b v) (l.qvA d n f (2*a) (a+b)) (r.qvA d n f (2*a) (2*a+b)):=rfl;rw [e,Tr.qbZ,Tr.qbZ];by_cases j0:j=0
  ·rw [if_pos j0,if_pos j0];subst j0;simp
  ·rw [if_neg j0,if_neg j0];by_cases jo:j % 2=1
   ·have e1:2*a*(j / 2)+(a+b)=a*j+b:=by
     have:j=2*(j / 2)+1:=by omega
     conv=>rhs;rw [this]
     rw [Nat.mul_add,<- Nat.mul_assoc,Nat.mul_comm a 2];omega
    rw [if_pos jo,if_pos jo,Tr.qrE n f l _ _ _ (by omega) (by omega),e1]
   ·have e1:2*a*(j / 2-1)+(2*a+b)=a*j+b:=by
     have:j=2*(j / 2-1)+2:=by omega
     conv=>rhs;rw [this]
     rw [Nat.mul_add,<- Nat.mul_assoc,Nat.mul_comm a 2];omega
    rw [if_neg jo,if_neg jo,Tr.qrE n f r _ _ _ (by omega) (by omega),e1]
theorem Tr.qrn{p:Nat->α->Bool}(hp:∀i,p i d=true):∀(t:Tr α) (a b j:Nat),t.allI p a b=true->p (a*j+b) (t.get d j)=true
 |.nil,a,b,j,h=>hp _
 |.node v l r,a,b,j,h=>by
  have e:(Tr.node v l r).allI p a b=Bool.rec (motive:=λ_=>Bool) false (Bool.rec (motive:=λ_=>Bool) false (r.allI p (2*a) (2*a+b)) (l.allI p (2*a) (a+b))) (p b v):=rfl;rw [e,qzq,qzq]at h;have hv:p b v=true:=by
   cases hh:p b v with
   |true=>rfl
   |false=>rw [hh]at h;simp at h
  have hl:l.allI p (2*a) (a+b)=true:=by
   cases hh:l.allI p (2*a) (a+b)with
   |true=>rfl
   |false=>rw [hh]at h;simp at h
  have hr:r.allI p (2*a) (2*a+b)=true:=by rw [hv,hl]at h;simpa using h
  rw [Tr.qbZ];by_cases j0:j=0
  ·rw [if_pos j0];subst j0;simpa using hv
  ·rw [if_neg j0];by_cases jo:j % 2=1
   ·have e1:2*a*(j / 2)+(a+b)=a*j+b:=by
     have:j=2*(j / 2)+1:=by omega
     conv=>rhs;rw [this]
     rw [Nat.mul_add,<- Nat.mul_assoc,Nat.mul_comm a 2];omega
    rw [if_pos jo,<- e1];exact Tr.qrn hp l _ _ _ hl
   ·have e1:2*a*(j / 2-1)+(2*a+b)=a*j+b:=by
     have:j=2*(j / 2-1)+2:=by omega
     conv=>rhs;rw [this]
     rw [Nat.mul_add,<- Nat.mul_assoc,Nat.mul_comm a 2];omega
    rw [if_neg jo,<- e1];exact Tr.qrn hp r _ _ _ hr
theorem Tr.qoU{p:α->Bool}(hp:p d=false):∀(t:Tr α) (a b j:Nat),p (t.get d j)=true->(t.qAh p a b).testBit (a*j+b)=true
 |.nil,a,b,j,h=>by rw [Tr.get_nil,hp]at h;cases h
 |.node v l r,a,b,j,h=>by
  have e:(Tr.node v l r).qAh p a b=(l.qAh p (2*a) (a+b) ||| r.qAh p (2*a) (2*a+b)) ||| Bool.rec (motive:=λ_=>Nat) 0 (1 <<< b) (p v):=rfl
  rw [e,qzq,Nat.testBit_or,Nat.testBit_or];rw [Tr.qbZ]at h;by_cases j0:j=0
  ·rw [if_pos j0]at h;subst j0;rw [h];simp [Nat.one_shiftLeft]
  ·rw [if_neg j0]at h;by_cases jo:j % 2=1
   ·have e1:2*a*(j / 2)+(a+b)=a*j+b:=by
     have:j=2*(j / 2)+1:=by omega
     conv=>rhs;rw [this]
     rw [Nat.mul_add,<- Nat.mul_assoc,Nat.mul_comm a 2];omega
    rw [if_pos jo]at h;have:=Tr.qoU hp l (2*a) (a+b) _ h;rw [e1]at this;rw [this];rfl
   ·have e1:2*a*(j / 2-1)+(2*a+b)=a*j+b:=by
     have:j=2*(j / 2-1)+2:=by omega
     conv=>rhs;rw [this]
     rw [Nat.mul_add,<- Nat.mul_assoc,Nat.mul_comm a 2];omega
    rw [if_neg jo]at h;have:=Tr.qoU hp r (2*a) (2*a+b) _ h;rw [e1]at this;rw [this];simp
end
end
end Go.Tx
end
section
namespace Go.Tx
open Go Go.Ab
section
inductive Ty where
 |int (k:IntKind)
 |bool
 |str
 |flt
 |cx
 |err
 |mset (t:Ty)
 |sl (t:Ty)
 |unit
 |pair (a b:Ty)
 deriving DecidableEq
@[reducible] def Ty.den:Ty->Type
 |.int _=>Int
 |.bool=>Bool
 |.str=>List UInt8
 |.flt=>Int
 |.cx=>Int×Int
 |.err=>Bool
 |.mset t=>List t.den
 |.sl t=>List t.den
 |.unit=>Unit
 |.pair a b=>a.den×b.den
def Ty.depth:Ty->Nat
 |.sl t=>t.depth+1
 |.pair a b=>max a.depth b.depth
 |_=>0
def Ty.one:Ty->Bool
 |.unit|.pair .. | .mset _=>false
 |_=>true
def Ty.qba:Ty->Nat
 |.unit=>0
 |.pair _ b=>b.qba+1
 |_=>1
def Ty.isSet:Ty->Bool
 |.mset _=>true
 |.pair a b=>a.isSet||b.isSet
 |_=>false
def Ty.qpq:Ty->Bool
 |.unit=>true
 |.pair a b=>a.one&&b.qpq
 |_=>false
def Ty.qbY:Ty->Bool
 |.unit=>true
 |.mset _=>false
 |.pair a b=>a.one&&b.qpq
 |_=>true
def Ty.ok:Ty->Bool
 |.sl t=>t.qbY&&t.ok
 |.pair a b=>a.one&&a.ok&&b.qpq&&b.ok
 |_=>true
def qaY(o:Nat):Bool:=!(decide (o=0)||(decide (o=1000)||decide (o=2000)))
def nx(o:Nat):Nat:=if qaY o then o-1 else o
def dl(o:Nat):Nat:=if o=1000 then 1000 else 0
def lo(o:Nat):Nat:=if 1000<=o/\o<2000 then o-1000 else o
def sure(o d:Nat):Bool:=if o<1000 then decide (d<=o)else if o<2000 then true else decide (d<=o-2000)
def nf(o d:Nat):Nat:=if o<1000 then min o d else o
def fits:Nat->Nat->Nat->Bool
 |0,_,_=>true
 |d+1,o',o=>decide (o=2000)||((qaY o'==qaY o)&&!decide (o'=2000)&&(!decide (o=1000)||decide (o'=1000))&&fits d (nx o') (nx o))
inductive TV where
 |any (rs:List Root)
 |t (τ:Ty) (own:Nat) (x:τ.den)
 |clp (τ:Ty) (x:List τ.den)
 |room (a s:Nat)
 |empty (o:Nat)
 |val (v:Value)
 |agg (l:List TV)
 |tuple (l:List TV)
 |fn (g:FuncId) (first cap:List TV)
 |ptr (r:Root) (off:Nat)
 |cptr (sh:Bool) (l:List TV)
 |iface (t:TypeId) (v:TV)
 |mref (r:Root)
 |bsl (r:Root) (off n:Nat)
 |yld (r:Root)
 |lp (state:LoopState) (pend:Option Code) (f:FuncId) (env:List TV) (params:List Tmp) (assign body:Code)
instance:Inhabited TV:=⟨.any []⟩
structure Env where
 n:Nat
 t:Tr TV
noncomputable def Env.get(e:Env)(i:Nat):TV:=Env.rec (motive:=λ_=>TV) (λn t=>Bool.rec (motive:=λ_=>TV) (.any []) (t.get (.any []) i) (Nat.ble (Nat.succ i) n)) e
noncomputable def Env.set(e:Env)(i:Nat)(v:TV):Env:=Env.rec (motive:=λ_=>Env) (λn t=>⟨n,t.set (.any []) i v⟩) e
noncomputable def Env.qvA(f:Nat->TV->TV)(e:Env):Env:=Env.rec (motive:=λ_=>Env) (λn t=>⟨n,t.qvA (.any []) n f 1 0⟩) e
noncomputable def Env.all(p:Nat->TV->Bool)(e:Env):Bool:=e.t.allI p 1 0
noncomputable def Env.mask(p:TV->Bool)(e:Env):Mask:=⟨e.t.qAh p 1 0⟩
noncomputable def qtc:List TV->Nat->Tr TV->Tr TV
 |[],_,t=>t
 |v::l,i,t=>qtc l (i+1) (t.set (.any []) i v)
noncomputable def Env.qhf(args:List TV)(n:Nat):Env:=⟨args.length+(n-args.length),qtc args 0 .nil⟩
noncomputable def Env.toL(e:Env):List TV:=(List.range e.n).map λi=>e.t.get (.any []) i
noncomputable def qdI(D:Mask)(rs:Nat->List Root)(e:Env):Env:=e.qvA λi v=>Bool.rec (motive:=λ_=>TV) v (.any (rs i)) (D.has i)
def TV.cells:TV->List TV
 |.agg l=>l
 |v=>[v]
def TV.one:TV->Bool
 |.any _|.agg _|.tuple _|.room .. | .lp ..=>false
 |.t τ _ _=>τ.one
 |.val u=>match u with
  |.agg _=>false
  |.tuple _=>false
  |_=>true
 |_=>true
def TV.oks(x:TV):Bool:=x.cells.all TV.one
mutual
def TV.q6:TV->TV
 |.any rs=>.any rs
 |.t τ o x=>.t τ (dl o) x
 |.clp τ x=>.clp τ x
 |.room a s=>match a with
  |0=>.empty 0
  |_+1=>.room 2 s
 |.empty o=>.empty (dl o)
 |.val v=>.val v
 |.agg l=>.agg (dullL l)
 |.tuple l=>.tuple (dullL l)
 |.fn g a b=>.fn g (dullL a) (dullL b)
 |.ptr r o=>.ptr r o
 |.mref r=>.mref r
 |.bsl r o n=>.bsl r o n
 |.yld r=>.yld r
 |.lp s pe f env ps a b=>.lp s pe f env ps a b
 |.cptr s l=>.cptr s (dullL l)
 |.iface t v=>.iface t v.q6
def dullL:List TV->List TV
 |[]=>[]
 |v::l=>v.q6::dullL l
end
mutual
def TV.share:TV->TV
 |.any rs=>.any rs
 |.t τ _ x=>.t τ 1000 x
 |.clp τ x=>.t (.sl τ) 1000 x
 |.room a s=>match a with
  |0=>.empty 1000
  |_+1=>.room 2 s
 |.empty _=>.empty 1000
 |.val v=>.val v
 |.agg l=>.agg (shareL l)
 |.tuple l=>.tuple (shareL l)
 |.fn g a b=>.fn g (shareL a) (shareL b)
 |.ptr r o=>.ptr r o
 |.mref r=>.mref r
 |.bsl r o n=>.bsl r o n
 |.yld r=>.yld r
 |.lp s pe f env ps a b=>.lp s pe f env ps a b
 |.cptr _ l=>.cptr true (shareL l)
 |.iface t v=>.iface t v.share
def shareL:List TV->List TV
 |[]=>[]
 |v::l=>v.share::shareL l
end
mutual
def TV.qa9:TV->TV
 |.any rs=>.any rs
 |.t τ o x=>.t τ (lo o) x
 |.clp τ x=>.clp τ x
 |.room a s=>.room a s
 |.empty o=>.empty (lo o)
 |.val v=>.val v
 |.agg l=>.agg (loosenL l)
 |.tuple l=>.tuple (loosenL l)
 |.fn g a b=>.fn g (loosenL a) (loosenL b)
 |.ptr r o=>.ptr r o
 |.mref r=>.mref r
 |.bsl r o n=>.bsl r o n
 |.yld r=>.yld r
 |.lp s pe f env ps a b=>.lp s pe f env ps a b
 |.cptr _ l=>.cptr false (loosenL l)
 |.iface t v=>.iface t v.qa9
def loosenL:List TV->List TV
 |[]=>[]
 |v::l=>v.qa9::loosenL l
end
mutual
def TV.qq:TV->List Root
 |.any rs=>rs
 |.ptr r _=>[r]
 |.mref r=>[r]
 |.bsl r _ _=>[r]
 |.yld r=>[r]
 |.lp _ _ _ env _ _ _=>ptrsTL env
 |.cptr _ cs=>ptrsTL cs
 |.fn _ a b=>ptrsTL a++ptrsTL b
 |.iface _ v=>v.qq
 |.agg l=>ptrsTL l
 |.tuple l=>ptrsTL l
 |_=>[]
def ptrsTL:List TV->List Root
 |[]=>[]
 |v::l=>v.qq++ptrsTL l
end
mutual
def TV.owns:TV->Bool
 |.any _=>true
 |.t τ o _=>(qaY o||decide (o=2000))&&decide (0<τ.depth)
 |.room ..=>true
 |.empty o=>qaY o||decide (o=2000)
 |.fn _ a b=>ownsTL a||ownsTL b
 |.cptr _ l=>ownsTL l
 |.iface _ v=>v.owns
 |.agg l=>ownsTL l
 |.tuple l=>ownsTL l
 |_=>false
def ownsTL:List TV->Bool
 |[]=>false
 |v::l=>v.owns||ownsTL l
end
mutual
def TV.known:TV->Bool
 |.any _=>false
 |.lp _ _ _ env _ _ _=>knownL env
 |.fn _ a b=>knownL a&&knownL b
 |.cptr _ l=>knownL l
 |.iface _ _=>false
 |.agg l=>knownL l
 |.tuple l=>knownL l
 |_=>true
def knownL:List TV->Bool
 |[]=>true
 |v::l=>v.known&&knownL l
end
mutual
def TV.firm:TV->Bool
 |.any _=>false
 |.room ..=>false
 |.t τ o _=>sure o τ.depth
 |.clp _ _=>false
 |.fn _ a b=>firmL a&&firmL b
 |.cptr s l=>s&&firmL l
 |.iface _ v=>v.firm
 |.agg l=>firmL l
 |.tuple l=>firmL l
 |_=>true
def firmL:List TV->Bool
 |[]=>true
 |v::l=>v.firm&&firmL l
end
mutual
def TV.tight:TV->Bool
 |.any _=>false
 |.room ..=>false
 |.t τ o _=>sure o τ.depth
 |.empty o=>sure o 1
 |.clp _ _=>false
 |.fn _ a b=>tightL a&&tightL b
 |.cptr s l=>s&&tightL l
 |.iface _ v=>v.tight
 |.agg l=>tightL l
 |.tuple l=>tightL l
 |_=>true
def tightL:List TV->Bool
 |[]=>true
 |v::l=>v.tight&&tightL l
end
def TV.isAny:TV->Bool
 |.any _=>true
 |_=>false
def TV.qef(x:TV):TV:=if x.firm then x else .any x.qq
def qsW(k:IntKind):List TV->Option (List Int)
 |[]=>some []
 |.t (.int k') _ x::l=>if k'=k then (qsW k l).map λm=>x::m else none
 |_::_=>none
section
variable (bx:Root->Option (List TV))
mutual
def peekTV:TV->Option TV
 |.ptr r off=>match bx r with
  |some c=>if off<=c.length/\r.slot<16384 then some (.cptr true (shareL (c.drop off)))else none
  |none=>none
 |.fn g a b=>match peekTL a,peekTL b with
  |some x,some y=>some (.fn g x y)
  |_,_=>none
 |.iface t v=>(peekTV v).map (.iface t)
 |.agg l=>(peekTL l).map .agg
 |.tuple l=>(peekTL l).map .tuple
 |.cptr _ cs=>some (.cptr true (shareL cs))
 |.t τ _ x=>bif τ.isSet then none else some (.t τ 1000 x)
 |.mref _=>none
 |.bsl r off n=>match bx r with
  |some c=>if off+n<=c.length/\r.slot<16384 then (qsW .i64 ((c.drop off).take n)).map λl=>.t (.sl (.int .i64)) 1000 l else none
  |none=>none
 |.clp τ x=>some (.t (.sl τ) 1000 x)
 |.room ..=>none
 |.empty _=>some (.empty 1000)
 |.val v=>some (.val v)
 |.any _=>none
 |.yld _=>none
 |.lp ..=>none
def peekTL:List TV->Option (List TV)
 |[]=>some []
 |v::l=>match peekTV v,peekTL l with
  |some x,some xs=>some (x::xs)
  |_,_=>none
end
end
def quI:Ty->Nat->Bool
 |.sl t,o=>qaY o&&quI t (nx o)
 |.pair a b,o=>quI a o&&quI b o
 |.mset _,_=>false
 |_,_=>true
mutual
def TV.qcB:TV->Bool
 |.t τ o _=>quI τ o
 |.empty o=>qaY o
 |.val _=>true
 |.fn _ a b=>mineTL a&&mineTL b
 |.iface _ v=>v.qcB
 |.agg l=>mineTL l
 |.tuple l=>mineTL l
 |_=>false
def mineTL:List TV->Bool
 |[]=>true
 |v::l=>v.qcB&&mineTL l
end
mutual
def ofTy:(τ:Ty)->Nat->τ.den->TV
 |.unit,_,_=>.agg []
 |.pair a b,o,x=>.agg (ofTy a o x.1::ofTyC b o x.2)
 |.int k,o,x=>.t (.int k) o x
 |.bool,o,x=>.t .bool o x
 |.str,o,x=>.t .str o x
 |.flt,o,x=>.t .flt o x
 |.cx,o,x=>.t .cx o x
 |.err,o,x=>.t .err o x
 |.mset t,o,x=>.t (.mset t) o x
 |.sl t,o,x=>.t (.sl t) o x
def ofTyC:(τ:Ty)->Nat->τ.den->List TV
 |.pair a b,o,x=>ofTy a o x.1::ofTyC b o x.2
 |_,_,_=>[]
end
def cast'{τ τ':Ty}(h:τ'=τ)(x:τ'.den):τ.den:=h▸x
def qg8:(τ:Ty)->Nat->TV->Option τ.den
 |.unit,_,.agg []=>some ()
 |.pair a b,o,.agg (v::l)=>(qg8 a o v).bind λx=>(qg8 b o (.agg l)).bind λy=>some (x,y)
 |.sl _,o,.empty o'=>if fits 1 o' o=true then some []else none
 |τ,o,.t τ' o' x=>if h:τ'=τ then (if fits τ.depth o' o=true then some (cast' h x)else none)else none
 |_,_,_=>none
@[reducible] def denL:List Ty->Type
 |[]=>Unit
 |[τ]=>τ.den
 |τ::τ'::l=>τ.den×denL (τ'::l)
def asL:(ps:List (Ty×Nat))->List TV->Option (denL (ps.map (·.1)))
 |[],[]=>some ()
 |[(τ,o)],[v]=>qg8 τ o v
 |(τ,o)::q::ps,v::l=>(qg8 τ o v).bind λx=>(asL (q::ps) l).bind λy=>some (x,y)
 |_,_=>none
def ofL:(ps:List (Ty×Nat))->denL (ps.map (·.1))->List TV
 |[],_=>[]
 |[(τ,o)],x=>[ofTy τ o x]
 |(τ,o)::q::ps,x=>ofTy τ o x.1::ofL (q::ps) x.2
def idx{α:Type}(l:List α)(n:Int):Option α:=if 0<=n then l[n.toNat]? else none
def app{α:Type}(l l2:List α):Option (List α):=if l.length+l2.length<=4294967296 then some (l++l2)else none
def slc{α:Type}(l:List α)(lo hi:Int):Option (List α):=if 0<=lo/\lo<=hi/\hi<=l.length then some ((l.take hi.toNat).drop lo.toNat)else none
def mkS{α:Type}(z:α)(n:Int):Option (List α):=if 0<=n/\n<=4294967296 then some (List.replicate n.toNat z)else none
def qdi{σ ρ:Type}(f:σ->Option (σ⊕ρ)):Nat->σ->Option ρ
 |0,_=>none
 |n+1,s=>match f s with
  |some (.inl s')=>qdi f n s'
  |some (.inr r)=>some r
  |none=>none
open Classical in
noncomputable def qA{σ ρ:Type}(f:σ->Option (σ⊕ρ))(s:σ):Option ρ :=
 if h:∃n r,qdi f n s=some r then some (Classical.choose (Classical.choose_spec h))else none
abbrev qG:=List (Nat×Option (List TV))
structure TSt where
 E:Env
 L:List qG
 B:qG
 Wt:Mask
 Wb:List Root
def qU:qG->Nat->Option (Option (List TV))
 |[],_=>none
 |(k,c)::l,s=>if k=s then some c else qU l s
def qyI:qG->Nat->Option (List TV)->qG
 |[],_,_=>[]
 |(k,c)::l,s,c'=>if k=s then (k,c')::l else (k,c)::qyI l s c'
def isRec:List TV->Bool
 |.lp ..::_=>true
 |_=>false
def qoZ(b:qG):Bool:=b.all λp=>match p.2 with
 |some c=>!isRec c
 |none=>true
def TSt.cont(st:TSt)(r:Root):Option (List TV) :=
 match if r.lvl=st.L.length then qU st.B r.slot else match st.L[r.lvl]? with|some b=>qU b r.slot|none=>none with
 |some (some c)=>some c
 |_=>none
def TSt.box(st:TSt)(r:Root):Option (List TV) :=
 match st.cont r with
 |some c=>if isRec c then none else some c
 |none=>none
def TSt.qp(st:TSt)(r:Root)(c:List TV):TSt :=
 if r.lvl=st.L.length then {st with B:=qyI st.B r.slot (some c),Wb:=r::st.Wb}
 else {st with L:=st.L.modify r.lvl λb=>qyI b r.slot (some c),Wb:=r::st.Wb}
noncomputable def TSt.put(st:TSt)(d:Option Tmp)(v:TV):TSt :=
 match d with
 |some t=>{st with E:=st.E.set t v,Wt:=Mask.ins t st.Wt}
 |none=>st
def qmT(precise:Bool):Value->TV
 |.int k n=>.t (.int k) 0 n
 |.bool b=>.t .bool 0 b
 |.string s=>.t .str 0 s.data.toList
 |.float .f64 0=>.t .flt 0 0
 |.complex .f64 0 0=>.t .cx 0 (0,0)
 |.slice none 0 0=>if precise then .val (.slice none 0 0)else .empty 1
 |v=>.val v
def qn8(precise:Bool):Value->TV
 |.agg cs=>.agg (cs.toList.map (qmT precise))
 |v=>qmT precise v
structure Place where
 lvl:Option Nat
 slot:Nat
 cell:Nat
structure Join where
 lv:List Place
 ps:List (Ty×Nat)
 abn:Bool:=false
 D:Mask
 wr:List Root:=[]
 rs:List Root:=[]
 rb:List Root:=[]
 Dn:Mask:=.empty
 kp:List (Tmp×Root×Nat):=[]
noncomputable def Join.qAX(j:Join)(t:Nat):List Root:=Bool.rec (motive:=λ_=>List Root) j.rs [] (j.Dn.has t)
inductive Kind where
 |loop (id:Nat)|block (id:Nat)|cond (t:Tmp)|region (id:Nat)|inl (d:Tmp)
 deriving DecidableEq
structure TH where
 lib:FuncId->Bool:=λ_=>false
 join:List Tmp->FuncId->Kind->Option Join
 inl:List Tmp->FuncId->Tmp->Bool
abbrev qsM:=FuncId->List TV->(R:Type)->(TV->Option R)->Option R
section
variable (P:Program) (H:Hints) (f:FuncId)
def qbC:Nat->TypeId->Option (List Ty)
 |0,_=>none
 |d+1,t=>match P.underlying t with
  |some (.int k)=>some [.int k]
  |some .bool=>some [.bool]
  |some .string=>some [.str]
  |some (.float .f64)=>some [.flt]
  |some (.complex .f64)=>some [.cx]
  |some (.slice e)=>match qbC d e,P.underlying e with
   |some cs,some (.struct _)=>some [.sl (cs.foldr .pair .unit)]
   |some cs,some (.array ..)=>some [.sl (cs.foldr .pair .unit)]
   |some [τ],_=>some [.sl τ]
   |_,_=>none
  |some (.struct fields)=>(fields.toList.mapM λfd=>qbC d fd.type).map List.flatten
  |some (.array n e)=>(qbC d e).map λcs=>(List.replicate n cs).flatten
  |_=>none
def qDF(t:TypeId):Option Ty :=
 match qbC P 10 t with
 |some cs=>if qN P t then some (cs.foldr .pair .unit)else cs.head?
 |none=>none
def qaQ(t:TypeId)(cs:List TV):Option TV :=
 match P.underlying t with
 |none=>none
 |some _=>if qN P t then (if P.cellsOf t<=cs.length then some (.agg (cs.take (P.cellsOf t)))else none)else cs.head?
def quS(t:TypeId):Option TV:=((P.info? t).bind (·.zero)).map (qn8 (H.precise f))
def qmg(cs:List TV)(off:Nat)(vs:List TV):List TV:=cs.take off++vs++cs.drop (off+vs.length)
def qtb(place:Nat->Option (Nat×Nat))(cs:List TV):List (Nat×TV)->Option (List TV)
 |[]=>some cs
 |(i,v)::rest =>
  match place i with
  |none=>none
  |some (off,size)=>if v.cells.length≠size\/off+v.cells.length > cs.length\/v.oks=false then none else qtb place (qmg cs off v.cells) rest
def qBl(t:TypeId)(parts:List (Nat×TV)):Option TV :=
 match quS P H f t,P.underlying t with
 |some z,some (.struct fields) =>
  match fields.toList.mapM (λf=>(P.info? f.type).map λi=>(f.offset,i.size))with
  |some places=>(qtb (places.toArray[·]?) z.cells parts).map .agg
  |none=>none
 |some z,some (.array _ elem) =>
  match P.info? elem with
  |some ie=>(qtb (λi=>some (i*ie.size,ie.size)) z.cells parts).map .agg
  |none=>none
 |_,_=>none
def qmz(agg:Bool)(s:Nat):Nat->List TV->List TV
 |0,_=>[]
 |n+1,cs=>(if agg then .agg (cs.take s)else cs.headD (.any []))::qmz agg s n (cs.drop s)
mutual
def TV.lev:TV->Option Nat
 |.t τ o _=>if τ.depth=0 then none else some (nf o τ.depth)
 |.empty o=>if qaY o then none else some o
 |.agg l=>levL l
 |_=>none
def levL:List TV->Option Nat
 |[]=>none
 |v::l=>match v.lev with
  |some n=>some n
  |none=>levL l
end
mutual
def TV.hasEmpty:TV->Bool
 |.empty _=>true
 |.agg l=>hasEmptyL l
 |_=>false
def hasEmptyL:List TV->Bool
 |[]=>false
 |v::l=>v.hasEmpty||hasEmptyL l
end
def qye(l:List TV):Nat:=(levL l).getD (if hasEmptyL l then 1 else 0)
def qzh(τ:Ty)(o:Nat):List TV->Option (List τ.den)
 |[]=>some []
 |v::l=>(qg8 τ o v).bind λx=>(qzh τ o l).bind λy=>some (x::y)
def qj2(t:TypeId)(len:Nat)(parts:List (Nat×TV)):Option TV :=
 match P.underlying t with
 |some (.slice elem) =>
  match P.info? elem,quS P H f elem,qDF P elem with
  |some ie,some z,some τ =>
   if ie.size=0\/(qN P elem=false/\ie.size≠1)\/z.cells.length≠ie.size\/len*ie.size > 16777216\/τ.ok=false\/τ.qbY=false then none else
   match qtb (λi=>some (i*ie.size,ie.size)) ((List.replicate len z.cells).flatten) parts with
   |some cs=>if cs.all TV.one&&(ptrsTL cs).isEmpty&&qaY (qye (qmz (qN P elem) ie.size len cs)+1)then
     (qzh τ (qye (qmz (qN P elem) ie.size len cs)) (qmz (qN P elem) ie.size len cs)).map λl=>.t (.sl τ) (qye (qmz (qN P elem) ie.size len cs)+1) l else none
   |none=>none
  |_,_,_=>none
 |_=>none
def qBn(t:TypeId)(x:TV)(fd:Nat):Option TV :=
 match P.underlying t,x with
 |some (.struct fields),.agg cs =>
  match fields[fd]? with
  |some d=>qaQ P d.type (cs.drop d.offset)
  |none=>none
 |_,_=>none
def qmm(t:TypeId)(x:TV)(fd:Nat):Option TV :=
 match P.underlying t with
 |some (.struct fields) =>
  match fields[fd]? with
  |some d=>if P.cellsOf d.type=0 then none else
   match x with
   |.ptr r off=>some (.ptr r (off+d.offset))
   |.cptr s cs=>if d.offset<=cs.length then some (.cptr s (cs.drop d.offset))else none
   |_=>none
  |none=>none
 |_=>none
def qEx(R:Type)(i:Int)(k:Nat->Option R):Nat->Nat->Option R
 |0,_=>none
 |n+1,j=>bif decide (i=(j:Int))then k j else qEx R i k n (j+1)
def qBp(elem:TypeId)(len:Nat)(cs:List TV)(i:Int)(R:Type)(k:TV->Option R):Option R :=
 if P.cellsOf elem=0 then none else
 qEx R i (λj=>match qaQ P elem (cs.drop (j*P.cellsOf elem))with
  |some v=>k v
  |none=>none) len 0
def qmn(t:TypeId)(x:TV)(i:Int)(R:Type)(k:TV->Option R):Option R :=
 match P.underlying t,x with
 |some (.array len elem),.ptr r off=>if P.cellsOf elem=0 then none else qEx R i (λj=>k (.ptr r (off+j*P.cellsOf elem))) len 0
 |some (.array len elem),.cptr s cs=>if P.cellsOf elem=0 then none else qEx R i (λj=>if j*P.cellsOf elem<=cs.length then k (.cptr s (cs.drop (j*P.cellsOf elem)))else none) len 0
 |some (.slice elem),.t (.sl τ) o l=>if P.cellsOf elem=τ.qba/\τ.qba≠0/\τ.ok=true/\τ.qbY=true then (idx l i).bind λe=>k (.cptr (decide (o=1000)) (ofTy τ (dl (nx o)) e).cells)else none
 |some (.slice elem),.clp τ l=>if P.cellsOf elem=τ.qba/\τ.qba≠0/\τ.ok=true/\τ.qbY=true then (idx l i).bind λe=>k (.cptr false (ofTy τ 0 e).cells)else none
 |_,_=>none
def qFu{α:Type}(R:Type)(mk:α->TV)(l:List α):Nat->Nat->List TV->(List TV->Option R)->Option R
 |0,_,acc,k=>k acc
 |n+1,i,acc,k=>(idx l (i:Int)).bind λe=>qFu R mk l n (i+1) (acc++[mk e]) k
def qsA(t:TypeId)(x:TV)(R:Type)(k:TV->Option R):Option R :=
 match P.underlying t,x with
 |some (.array n _),.t (.sl (.int kk)) o l=>if n=0 then none else qFu R (λe:Int=>.t (.int kk) 0 e) l n 0 [] λcs=>k (.cptr (decide (o=1000)) cs)
 |_,_=>none
def flo(n:Int):Option Int:=if n.natAbs<9007199254740992 then some n else none
def qFZ(k:IntKind)(a b:Int):Option Int:=if 0<=b then some (k.wrap (a*2 ^ (min b.toNat k.bits)))else none
def qF0(k:IntKind)(a b:Int):Option Int:=if 0<=b then some (a.fdiv (2 ^ (min b.toNat k.bits)))else none
def qFC(k:IntKind)(a b:Int):Int:=k.wrap (BitVec.ofInt k.bits a &&& BitVec.ofInt k.bits b).toNat
def orI(k:IntKind)(a b:Int):Int:=k.wrap (BitVec.ofInt k.bits a ||| BitVec.ofInt k.bits b).toNat
def qFE(k:IntKind)(a b:Int):Int:=k.wrap (BitVec.ofInt k.bits a ^^^ BitVec.ofInt k.bits b).toNat
def qro(k:IntKind)(a b:Int):Int:=k.wrap (BitVec.ofInt k.bits a &&& ~~~ BitVec.ofInt k.bits b).toNat
def qyT:TV->Option Int
 |.t (.int _) _ n=>some n
 |_=>none
def qBu(t:TypeId)(x:TV)(lo hi mx:Option TV)(R:Type)(k:TV->Option R):Option R :=
 let lo':Option Int:=match lo with|none=>some 0|some v=>qyT v
 match P.underlying t,x with
 |some (.slice elem),.t (.sl τ) o l =>
  if qaY o=true\/o=2000\/P.cellsOf elem=0\/P.cellsOf elem≠τ.qba\/τ.ok=false\/τ.qbY=false then none else
  match lo',(match hi with|none=>some (l.length:Int)|some v=>qyT v)with
  |some a,some b =>
   match mx with
   |none=>(slc l a b).bind λl'=>k (.t (.sl τ) o l')
   |some m=>match qyT m with
    |some c=>if hi.isSome then (slc l a b).bind λl'=>bif decide (c=b)then k (.clp τ l')else none else none
    |none=>none
  |_,_=>none
 |some (.slice elem),.empty o =>
  if qaY o=true\/o=2000\/P.cellsOf elem=0 then none else
  match lo',(match hi with|none=>some 0|some v=>qyT v),mx with
  |some a,some b,none=>bif decide (a=0)&&decide (b=0)then k (.empty o)else none
  |_,_,_=>none
 |some .string,.t .str _ s =>
  match lo',(match hi with|none=>some (s.length:Int)|some v=>qyT v),mx with
  |some a,some b,none=>(slc s a b).bind λl'=>k (.t .str 0 l')
  |_,_,_=>none
 |_,_=>none
def qwj(t:TypeId)(x:TV)(lo hi mx:Option TV)(R:Type)(k:TV->Option R):Option R :=
 match P.underlying t,x with
 |some (.slice elem),.val (.slice none 0 0) =>
  if P.cellsOf elem=0 then none else
  match (match lo with|none=>some 0|some v=>qyT v),(match hi with|none=>some 0|some v=>qyT v),mx with
  |some a,some b,none=>bif decide (a=0)&&decide (b=0)then k (.val (.slice none 0 0))else none
  |_,_,_=>none
 |some (.slice elem),.room a s =>
  if P.cellsOf elem=0\/2<=a then none else
  match lo,hi,mx with
  |none,some (.t (.int _) _ b),none=>bif decide (b=0)then k (.room 0 s)else none
  |_,_,_=>none
 |some (.array n elem),.ptr r off=>if P.cellsOf elem=1 then (match lo,hi,mx with
  |none,none,none=>k (.bsl r off n)
  |_,_,_=>none)else none
 |_,_=>none
def TV.bare:TV->Bool
 |.val (.slice none 0 0)=>true
 |.room ..=>true
 |.ptr ..=>true
 |_=>false
def qmo(t:TypeId)(len cap:TV)(R:Type)(k:TV->Option R):Option R :=
 match P.underlying t with
 |some (.slice elem) =>
  match quS P H f elem,qDF P elem,qyT len,qyT cap with
  |some z,some τ,some n,some c =>
   if P.cellsOf elem≠0/\z.cells.length=P.cellsOf elem/\z.oks=true/\P.bytesOf elem<=8192/\τ.ok=true/\τ.qbY=true/\qaY (qye [z]+1)=true then
    match qg8 τ (qye [z]) z with
    |some x=>(mkS x n).bind λl=>bif decide (c=n)then k (.t (.sl τ) (qye [z]+1) l)else none
    |none=>none
   else none
  |_,_,_,_=>none
 |_=>none
def tail?(yt:TypeDesc):TV->Option (Σ τ:Ty,Nat×List τ.den)
 |.t (.sl τ) o l=>match yt with
  |.slice _=>some ⟨τ,(nx o,l)⟩
  |_=>none
 |.clp τ l=>match yt with
  |.slice _=>some ⟨τ,(0,l)⟩
  |_=>none
 |.t .str _ s=>match yt with
  |.string=>some ⟨.int .u8,(0,s.map λc=>(c.toNat:Int))⟩
  |_=>none
 |_=>none
def qwd(argTypes:Array TypeId)(x y:TV)(R:Type)(k:TV->Option R):Option R :=
 match (argTypes[0]?).bind P.underlying,(argTypes[1]?).bind P.underlying with
 |some (.slice elem),some yt =>
  match y with
  |.empty _=>(match yt,x with
   |.slice _,.t (.sl τ) o l=>if qaY o=true/\τ.qba=P.cellsOf elem/\P.cellsOf elem≠0/\((P.info? elem).bind (·.zero)).map (λz=>z.cells.size)=some (P.cellsOf elem)/\P.bytesOf elem<=8192/\τ.ok=true/\τ.qbY=true then (app l []).bind λl'=>k (.t (.sl τ) o l')else none
   |.slice _,.empty o=>if qaY o=true/\P.cellsOf elem≠0/\((P.info? elem).bind (·.zero)).map (λz=>z.cells.size)=some (P.cellsOf elem)/\P.bytesOf elem<=8192 then k (.empty o)else none
   |_,_=>none)
  |y=>match tail? yt y with
  |none=>none
  |some ⟨τ,(o2,l2)⟩ =>
   if τ.qba=P.cellsOf elem/\P.cellsOf elem≠0/\((P.info? elem).bind (·.zero)).map (λz=>z.cells.size)=some (P.cellsOf elem)/\P.bytesOf elem<=8192/\τ.ok=true/\τ.qbY=true then
    match x with
    |.t (.sl τ') o l=>if h:τ'=τ then (if qaY o=true then (app (cast' (congrArg Ty.sl h) l:(Ty.sl τ).den) l2).bind λl'=>k (.t (.sl τ) (if fits τ.depth o2 (nx o)=true then o else 2001) l')else none)else none
    |.empty o=>if qaY o=true/\qaY (o2+1)=true then (app [] l2).bind λl'=>k (.t (.sl τ) (o2+1) l')else none
    |.clp τ' l=>if h:τ'=τ then (app (cast' (congrArg Ty.sl h) l:(Ty.sl τ).den) l2).bind λl'=>k (.t (.sl τ) 2000 l')else none
    |_=>none
   else none
 |_,_=>none
def qsz(argTypes:Array TypeId)(x y:TV)(R:Type)(k:TV->Option R):Option R :=
 match (argTypes[0]?).bind P.underlying,(argTypes[1]?).bind P.underlying with
 |some (.slice elem),some yt =>
  if P.cellsOf elem≠0/\((P.info? elem).bind (·.zero)).map (λz=>z.cells.size)=some (P.cellsOf elem)/\P.bytesOf elem<=8192 then
   match x,yt,y with
   |.val (.slice none 0 0),.int _,.t (.int .i64) _ n=>bif decide (0<n)&&decide (n<=4294967296)then k (.room 1 (P.cellsOf elem))else none
   |x,yt,y=>match tail? yt y with
    |none=>none
    |some ⟨τ,(o2,l2)⟩ =>
     if τ.qba=P.cellsOf elem/\τ.ok=true/\τ.qbY=true/\qaY (o2+1)=true then
      match x,y with
      |.val (.slice none 0 0),_=>bif List.isEmpty l2 then k (.val (.slice none 0 0))else (app [] l2).bind λl'=>k (.t (.sl τ) (o2+1) l')
      |.room 0 s,.t ..=>if s=P.cellsOf elem then (match yt with
       |.slice _=>bif List.isEmpty l2 then k (.room 0 s)else (app [] l2).bind λl'=>k (.t (.sl τ) (o2+1) l')
       |_=>none)else none
      |_,_=>none
     else none
  else none
 |_,_=>none
def qyF:TV->Bool
 |.t (.int _) _ _|.t .bool _ _|.t .str _ _=>true
 |_=>false
def teq:Nat->TypeId->TV->TV->Option Bool
 |0,_,_,_=>none
 |d+1,t,x,y=>match P.underlying t,x,y with
  |some (.int _),.t (.int k) _ a,.t (.int k') _ b=>if k=k' then some (decide (a=b))else none
  |some .bool,.t .bool _ a,.t .bool _ b=>some (a==b)
  |some .string,.t .str _ a,.t .str _ b=>some (decide (a=b))
  |some (.struct fields),.agg xs,.agg ys=>if P.stoodInHeld t then none else
   fields.toList.foldr (fun fd acc => if fd.name = "_" then none else
    match qaQ P fd.type (xs.drop fd.offset),qaQ P fd.type (ys.drop fd.offset),acc with
    |some u,some v,some b=>(teq d fd.type u v).map λa=>bif a then b else false
    |_,_,_=>none) (some true)
  |_,_,_=>none
def qAq:TypeDesc->TV->TV->Bool
 |.pointer _,.ptr ..,.val (.pointer none)=>true
 |.pointer _,.cptr ..,.val (.pointer none)=>true
 |.func ..,.fn ..,.val .nilFunc=>true
 |_,_,_=>false
def qDr:TypeDesc->TV->TV->Bool
 |.slice _,.val (.slice none 0 0),.val (.slice none 0 0)=>true
 |.pointer _,.val (.pointer none),.val (.pointer none)=>true
 |.func ..,.val .nilFunc,.val .nilFunc=>true
 |_,_,_=>false
def quF(op:BinOp)(t:TypeId)(x y:TV)(R:Type)(k:TV->Option R):Option R :=
 match x,y with
 |.t (.int k1) _ a,.t (.int k2) _ b =>
  match op with
  |.shl=>(qFZ k1 a b).bind λn=>k (.t (.int k1) 0 n)
  |.shr=>(qF0 k1 a b).bind λn=>k (.t (.int k1) 0 n)
  |_=>if k1=k2 then (match op with
   |.and=>k (.t (.int k1) 0 (qFC k1 a b))
   |.or=>k (.t (.int k1) 0 (orI k1 a b))
   |.xor=>k (.t (.int k1) 0 (qFE k1 a b))
   |.andNot=>k (.t (.int k1) 0 (qro k1 a b))
   |.add=>k (.t (.int k1) 0 (k1.wrap (a+b)))
   |.sub=>k (.t (.int k1) 0 (k1.wrap (a-b)))
   |.mul=>k (.t (.int k1) 0 (k1.wrap (a*b)))
   |.quo=>bif decide (b=0)then none else k (.t (.int k1) 0 (k1.wrap (a.tdiv b)))
   |.rem=>bif decide (b=0)then none else k (.t (.int k1) 0 (a.tmod b))
   |.eql=>k (.t .bool 0 (decide (a=b)))
   |.neq=>k (.t .bool 0 (!decide (a=b)))
   |.lss=>k (.t .bool 0 (decide (a<b)))
   |.leq=>k (.t .bool 0 (decide (a<=b)))
   |.gtr=>k (.t .bool 0 (decide (a > b)))
   |.geq=>k (.t .bool 0 (decide (a>=b)))
   |_=>none)else none
 |.t .cx _ a,.t .cx _ b =>
  match P.underlying t,op with
  |some (.complex .f64),.add=>(flo (a.1+b.1)).bind λre=>(flo (a.2+b.2)).bind λim=>k (.t .cx 0 (re,im))
  |some (.complex .f64),.mul=>(flo (a.1*b.1)).bind λac=>(flo (a.2*b.2)).bind λbd=>(flo (ac-bd)).bind λre=>(flo (a.1*b.2)).bind λad=>(flo (a.2*b.1)).bind λbc=>(flo (ad+bc)).bind λim=>k (.t .cx 0 (re,im))
  |_,_=>none
 |.t .str _ a,.t .str _ b =>
  match op with
  |.eql=>k (.t .bool 0 (decide (a=b)))
  |.neq=>k (.t .bool 0 (!decide (a=b)))
  |.lss=>k (.t .bool 0 (Op.bytesLess a b))
  |.add=>(app a b).bind λl=>k (.t .str 0 l)
  |_=>none
 |.t .bool _ a,.t .bool _ b =>
  match P.underlying t,op with
  |some .bool,.eql=>k (.t .bool 0 (a==b))
  |some .bool,.neq=>k (.t .bool 0 (!(a==b)))
  |_,_=>none
 |.agg l,.agg l'=>if P.eqGuardType P.depth t||!(l.all qyF&&l'.all qyF)then none else (match teq P 9 t (.agg l) (.agg l')with
  |some b=>(match op with
   |.eql=>k (.t .bool 0 b)
   |.neq=>k (.t .bool 0 (!b))
   |_=>none)
  |none=>none)
 |.t (.sl τ) _ l,.val (.slice none 0 0) =>
  match P.underlying t with
  |some (.slice _)=>bif List.isEmpty l then none else (match op with
   |.eql=>k (.t .bool 0 false)
   |.neq=>k (.t .bool 0 true)
   |_=>none)
  |_=>none
 |x,y=>match P.underlying t with
  |some d =>
   if qAq d x y then (match op with
   |.eql=>k (.t .bool 0 false)
   |.neq=>k (.t .bool 0 true)
   |_=>none)
   else if qDr d x y then (match op with
   |.eql=>k (.t .bool 0 true)
   |.neq=>k (.t .bool 0 false)
   |_=>none)
   else none
  |none=>none
def tun(op:UnOp)(x:TV):Option TV :=
 match op,x with
 |.not,.t .bool _ b=>some (.t .bool 0 (!b))
 |.neg,.t (.int k) _ n=>some (.t (.int k) 0 (k.wrap (0-n)))
 |_,_=>none
def qEv(src dst:TypeId)(x:TV)(R:Type)(k:TV->Option R):Option R :=
 match P.underlying src,P.underlying dst,x with
 |some _,some (.int kk),.t (.int _) _ n=>k (.t (.int kk) 0 (kk.wrap n))
 |some _,some (.float .f64),.t (.int _) _ n=>(flo n).bind λn=>k (.t .flt 0 n)
 |some _,some (.int .i64),.t .flt _ n=>(flo n).bind λn=>k (.t (.int .i64) 0 n)
 |some _,some .string,.t .str _ s=>k (.t .str 0 s)
 |some (.slice e),some .string,.t (.sl (.int .u8)) _ l=>match P.underlying e with
  |some (.int .u8)=>k (.t .str 0 (l.map λn=>UInt8.ofNat n.toNat))
  |_=>none
 |_,_,_=>none
def quH(k:IntKind):List TV->Option (List Int)
 |[]=>some []
 |.t (.int k') _ n::l=>if k=k' then (quH k l).map (n::·)else none
 |_=>none
def qsB(b:Builtin)(argTypes:Array TypeId)(xs:List TV)(R:Type)(k:TV->Option R):Option R :=
 match b,xs with
 |.len,[.t (.sl _) _ l]=>match (argTypes[0]?).bind P.underlying with
  |some (.slice _)=>k (.t (.int .i64) 0 (l.length:Int))
  |_=>none
 |.len,[.clp _ l]=>match (argTypes[0]?).bind P.underlying with
  |some (.slice _)=>k (.t (.int .i64) 0 (l.length:Int))
  |_=>none
 |.len,[.empty _]=>match (argTypes[0]?).bind P.underlying with
  |some (.slice _)=>k (.t (.int .i64) 0 0)
  |_=>none
 |.len,[.t .str _ s]=>match (argTypes[0]?).bind P.underlying with
  |some .string=>k (.t (.int .i64) 0 (s.length:Int))
  |_=>none
 |.cap,[.val (.slice none 0 0)]=>match (argTypes[0]?).bind P.underlying with
  |some (.slice _)=>k (.t (.int .i64) 0 0)
  |_=>none
 |.len,[.val (.slice none 0 0)]=>match (argTypes[0]?).bind P.underlying with
  |some (.slice _)=>k (.t (.int .i64) 0 0)
  |_=>none
 |.append,[x,y]=>if x.bare then qsz P argTypes x y R k else qwd P argTypes x y R k
 |.complex,[.t .flt _ a,.t .flt _ b]=>k (.t .cx 0 (a,b))
 |.real,[.t .cx _ a]=>k (.t .flt 0 a.1)
 |.imag,[.t .cx _ a]=>k (.t .flt 0 a.2)
 |.max,.t (.int kk) _ n::xs=>match quH kk xs with
  |some l=>k (.t (.int kk) 0 (l.foldl max n))
  |none=>none
 |.min,.t (.int kk) _ n::xs=>match quH kk xs with
  |some l=>k (.t (.int kk) 0 (l.foldl min n))
  |none=>none
 |_,_=>none
def qcM(tk:Bool)(o:Op)(xs:List TV)(bx:Option (List TV))(R:Type)(k:TV->Option (List TV)->Option R):Option R :=
 let v (x:Option TV):Option R:=match x with
  |some x=>k x none
  |none=>none
 match o,xs with
 |.move _,[x]|.assign _,[x]=>k x none
 |.pick ..,[.t .bool _ c,a,b]=>bif c then k a none else k b none
 |.build t parts,xs=>v (qBl P H f t (parts.toList.map (·.1) |>.zip xs))
 |.buildSlice t len parts,xs=>v (qj2 P H f t len (parts.toList.map (·.1) |>.zip xs))
 |.load t _,[.cptr _ cs]=>v ((qaQ P t cs).map TV.q6)
 |.load t _,[.ptr _ off]=>match bx with
  |some cs=>if tk then (match qaQ P t (cs.drop off)with
    |some x=>k x (some (qmg cs off (dullL ((cs.drop off).take (if qN P t then P.cellsOf t else 1)))))
    |none=>none)
   else v ((qaQ P t (cs.drop off)).map TV.q6)
  |none=>none
 |.store t _ _,[.ptr _ off,x]=>match bx with
  |some cs=>if P.cellsOf t≠0/\x.cells.length=P.cellsOf t/\off+x.cells.length<=cs.length/\x.oks=true then k (.any []) (some (qmg cs off x.cells))else none
  |none=>none
 |.nilCheck _,[.ptr r off]=>k (.ptr r off) none
 |.nilCheck _,[.cptr s cs]=>k (.cptr s cs) none
 |.nilCheck _,[.fn g a b]=>k (.fn g a b) none
 |.binOp op t _ (.const _) _,[.t .err _ b,.val .nilIface]=>match P.underlying t,op with
  |some (.interface _),.eql=>k (.t .bool 0 b) none
  |some (.interface _),.neq=>k (.t .bool 0 (!b)) none
  |_,_=>none
 |.binOp op t _ _ _,[x,y]=>quF P op t x y R λx=>k x none
 |.unOp op _ _,[x]=>v (tun op x)
 |.convert src dst _,[x]=>qEv P src dst x R λx=>k x none
 |.makeFunc (.func g) first _,xs=>k (.fn g (xs.take first.size) (xs.drop first.size)) none
 |.makeSlice t _ _,[l,c]=>qmo P H f t l c R λx=>k x none
 |.slice t _ lo hi mx,x::rest =>
  let r1:=if lo.isSome then rest.tail else rest
  let r2:=if hi.isSome then r1.tail else r1
  if x.bare then qwj P t x (if lo.isSome then rest.head? else none) (if hi.isSome then r1.head? else none) (if mx.isSome then r2.head? else none) R λx=>k x none else
  qBu P t x (if lo.isSome then rest.head? else none) (if hi.isSome then r1.head? else none) (if mx.isSome then r2.head? else none) R λx=>k x none
 |.fieldAddr t _ fd,[x]=>v (qmm P t x fd)
 |.field t _ fd,[x]=>v (qBn P t x fd)
 |.sliceToArrayPointer t _,[x]=>qsA P t x R λx=>k x none
 |.indexAddr t _ _,[x,.t (.int _) _ i]=>qmn P t x i R λx=>k x none
 |.index t _ _,[x,.t (.int _) _ i]=>(match P.underlying t,x with
  |some (.array len elem),.agg cs=>qBp P elem len cs i R λx=>k x none
  |some .string,.t .str _ s=>(idx s i).bind λb=>k (.t (.int .u8) 0 (b.toNat:Int)) none
  |_,_=>none)
 |.extract _ i,[.tuple l]=>v l[i]?
 |.call {callee:=.builtin b,argTypes,..},xs=>qsB P b argTypes xs R λx=>k x none
 |_,_=>none
noncomputable def rdT(o:Oper)(E:Env):Operand->TV
 |.tmp t=>if qab H f o then E.get t else (E.get t).q6
 |.const v=>qn8 (H.precise f||quc o.op) v
 |.func g=>.fn g [] []
 |.global _=>.any []
noncomputable def qbD(E:Env)(ts:List Tmp):Env:=ts.foldl (λE t=>E.set t (E.get t).q6) E
def qma:Op->List TV->Option Root
 |.load ..,.ptr r _::_=>some r
 |.store ..,.ptr r _::_=>some r
 |_,_=>none
def qb0:Op->List TV->Nat×Nat
 |.load t _,.ptr _ off::_=>(off,if qN P t then P.cellsOf t else 1)
 |.store ..,[.ptr _ off,x]=>(off,x.cells.length)
 |_,_=>(0,0)
def qxC:Op->List TV->List Root
 |.store ..,[_,x]=>x.qq
 |_,_=>[]
def qdL:TV->Bool
 |.fn g _ _=>H.qjn g
 |_=>false
def qgi:TV->List TV->Bool
 |.fn _ first cap,args=>(ptrsTL (first++args++cap)).isEmpty
 |_,_=>false
end
def qlW:Ty->Bool
 |.int _|.bool|.str=>true
 |_=>false
def qoM:Ty->Bool
 |.unit=>true
 |.pair a b=>qlW a&&qoM b
 |_=>false
def qfX:Ty->Bool
 |.pair a b=>qlW a&&qoM b
 |τ=>qlW τ
def qra:(τ:Ty)->τ.den->Value
 |.int k,n=>.int k n
 |.bool,b=>.bool b
 |.str,s=>.string ⟨s.toArray⟩
 |_,_=>.tuple #[]
def qy2:(τ:Ty)->τ.den->List Value
 |.pair a b,x=>qra a x.1::qy2 b x.2
 |_,_=>[]
def qcr(τ:Ty)(x:τ.den):Value :=
 match τ,x with
 |.pair a b,x=>.agg (qra a x.1::qy2 b x.2).toArray
 |τ,x=>qra τ x
def eqS:(τ:Ty)->τ.den->τ.den->Bool
 |.int _,a,b=>decide (a=b)
 |.bool,a,b=>a==b
 |.str,a,b=>decide (a=b)
 |_,_,_=>false
def eqR:(τ:Ty)->τ.den->τ.den->Bool
 |.unit,_,_=>true
 |.pair a b,x,y=>bif eqS a x.1 y.1 then eqR b x.2 y.2 else false
 |_,_,_=>false
def eqK(τ:Ty)(x y:τ.den):Bool :=
 match τ,x,y with
 |.pair a b,x,y=>bif eqS a x.1 y.1 then eqR b x.2 y.2 else false
 |τ,x,y=>eqS τ x y
def qgN(τ:Ty)(l:List τ.den)(k:τ.den):Bool:=l.any λx=>eqK τ k x
def qlt(τ:Ty)(l:List τ.den)(k:τ.den):List τ.den:=bif qgN τ l k then l else l++[k]
section
variable (P:Program) (H:Hints) (f:FuncId)
def qjZ(t:TypeId)(τ:Ty):Bool :=
 match P.underlying t,τ with
 |some (.int k),.int k'=>decide (k=k')
 |some .bool,.bool=>true
 |some .string,.str=>true
 |_,_=>false
def qko:List Field->Nat->Ty->Bool
 |[],_,.unit=>true
 | fd :: fs, i, .pair a b => decide (fd.name ≠ "_") && decide (fd.offset = i) && qjZ P fd.type a && qko fs (i + 1) b
 |_,_,_=>false
def qfo(t:TypeId)(τ:Ty):Bool :=
 qjZ P t τ||match P.underlying t,τ with
 |some (.struct fields),.pair a b=>!P.stoodInHeld t&&qko P fields.toList 0 (.pair a b)
 |_,_=>false
def qkx:Op->List TV->Bool
 |.makeMap ..,_|.lookup ..,_|.mapUpdate ..,_|.insert ..,_=>true
 |.call {callee:=.builtin .len,..},[.mref _]=>true
 |_,_=>false
def qor:List TV->Bool
 |[]=>true
 |[.t (.int _) _ _]=>true
 |_=>false
def qnH(o:Oper)(xs:List TV)(st:TSt)(R:Type)(k:TV->TSt->Fp->Option R):Option R :=
 match o.op with
 |.makeMap t _=>match o.dst,P.underlying t with
  |some d,some (.map kt vt)=>match qDF P kt with
   |some τ=>if (qU st.B (qX d)).isNone/\qfX τ=true/\qor xs=true then
     k (.mref ⟨st.L.length,qX d⟩) {st with B:=(qX d,some [.t (.mset τ) 0 []])::st.B,Wb:=⟨st.L.length,qX d⟩::st.Wb} (.fresh ⟨st.L.length,qX d⟩)else none
   |none=>none
  |_,_=>none
 |.lookup t _ _ ok=>match xs with
  |[.mref r,x]=>match st.box r,P.underlying t with
   |some [.t (.mset τ) _ l],some (.map kt vt)=>if qfo P kt τ=true then (match quS P H f vt,qg8 τ 0 x with
     |some (.t .bool _ false),some y=>k (if ok then .tuple [.t .bool 0 (qgN τ l y),.t .bool 0 (qgN τ l y)]else .t .bool 0 (qgN τ l y)) st .looks
     |_,_=>none)else none
   |_,_=>none
  |_=>none
 |.mapUpdate t _ _ _|.insert t _ _ _=>match xs with
  |[.mref r,x,.t .bool _ true]=>match st.box r,P.underlying t with
   |some [.t (.mset τ) _ l],some (.map kt vt)=>if qfo P kt τ=true then (match qg8 τ 0 x with
     |some y=>k (.any []) (st.qp r [.t (.mset τ) 0 (qlt τ l y)]) (.mapw r)
     |none=>none)else none
   |_,_=>none
  |_=>none
 |.call {callee:=.builtin .len,argTypes,..}=>match xs with
  |[.mref r]=>match st.box r,(argTypes[0]?).bind P.underlying with
   |some [.t (.mset τ) _ l],some (.map _ _)=>if argTypes.toList.any H.mapT then k (.t (.int .i64) 0 (l.length:Int)) st .looks else none
   |_,_=>none
  |_=>none
 |_=>none
end
mutual
def TV.adopt(q:Root):TV->TV
 |.mref _=>.mref q
 |.cptr s l=>.cptr s (adoptTL q l)
 |.fn g a b=>.fn g (adoptTL q a) (adoptTL q b)
 |.agg l=>.agg (adoptTL q l)
 |.tuple l=>.tuple (adoptTL q l)
 |v=>v
def adoptTL(q:Root):List TV->List TV
 |[]=>[]
 |v::l=>v.adopt q::adoptTL q l
end
mutual
def TV.onlyMaps:TV->Bool
 |.any _|.ptr .. | .bsl .. | .iface .. | .yld _|.lp ..=>false
 |.cptr _ l=>onlyMapsTL l
 |.fn _ a b=>onlyMapsTL a&&onlyMapsTL b
 |.agg l=>onlyMapsTL l
 |.tuple l=>onlyMapsTL l
 |_=>true
def onlyMapsTL:List TV->Bool
 |[]=>true
 |v::l=>v.onlyMaps&&onlyMapsTL l
end
def qtA(H:Hints):TV->Bool
 |.fn g _ _=>(H.seq g).isSome
 |_=>false
def qoq(H:Hints):TV->Bool
 |.fn g _ _=>H.born g
 |_=>false
noncomputable def TSt.get(st:TSt)(p:Place):TV :=
 match p.lvl with
 |none=>st.E.get p.slot
 |some l=>match st.box ⟨l,p.slot⟩with
  |some cs=>cs.getD p.cell (.any [])
  |none=>.any []
def subset(l m:List Root):Bool:=l.all λr=>m.contains r
def Place.qE0(lv:List Place)(l:Option Nat)(s c:Nat):Bool:=lv.any λp=>decide (p.lvl=l)&&decide (p.slot=s)&&decide (p.cell=c)
def qzY:TV->Root->Nat->Bool
 |.ptr r o,r',o'=>decide (r=r')&&decide (o=o')
 |_,_,_=>false
noncomputable def TSt.keeps(st:TSt)(j:Join):Bool:=j.kp.all λp=>qzY (st.E.get p.1) p.2.1 p.2.2
noncomputable def quf:TSt->List (Tmp×Root×Nat)->TSt
 |st,[]=>st
 |st,p::l=>quf {st with E:=st.E.set p.1 (.ptr p.2.1 p.2.2)} l
noncomputable def TSt.qlI(st:TSt)(j:Join):Bool :=
 (st.E.all λt v=>Bool.rec (motive:=λ_=>Bool) true (Place.qE0 j.lv none t 0||subset v.qq (j.qAX t)) (j.D.has t)) &&
 (j.wr.all λr=>match st.cont r with
  |some cs=>!isRec cs&&(List.range cs.length).all λi=>Place.qE0 j.lv (some r.lvl) r.slot i||subset (cs.getD i (.any [])).qq j.rb
  |none=>true)&&st.keeps j
def TSt.wrote(st:TSt)(j:Join):Bool:=st.Wt.sub j.D&&(st.Wb.all λr=>j.wr.contains r||decide (st.L.length<r.lvl))
def qEO(rs:List Root)(b:qG)(s:Nat):qG :=
 match qU b s with
 |none=>(s,none)::b
 |some none=>b
 |some (some cs)=>qyI b s (some (cs.map λ_=>.any rs))
def TSt.forget(st:TSt)(rs:List Root)(r:Root):TSt :=
 if r.lvl=st.L.length then {st with B:=qEO rs st.B r.slot}else {st with L:=st.L.modify r.lvl λb=>qEO rs b r.slot}
noncomputable def TSt.qbO(st:TSt)(p:Place)(v:TV):TSt :=
 match p.lvl with
 |none=>{st with E:=st.E.set p.slot v}
 |some l=>match st.box ⟨l,p.slot⟩with
  |some cs=>{st.qp ⟨l,p.slot⟩ (cs.set p.cell v)with Wb:=st.Wb}
  |none=>st
noncomputable def qcL(st:TSt):List Place->List TV->TSt
 |p::ps,v::vs=>qcL (st.qbO p v) ps vs
 |_,_=>st
noncomputable def TSt.qd1(st:TSt)(j:Join)(vs:List TV):TSt :=
 qcL {j.wr.foldl (λst r=>st.forget j.rb r) {st with E:=qdI j.D j.qAX st.E}with Wt:=j.D++st.Wt,Wb:=j.wr++st.Wb} j.lv vs
noncomputable def TSt.qbI(st:TSt)(j:Join)(vs:List TV):TSt:=quf (st.qd1 j vs) j.kp
def TSt.fresh(st:TSt):TSt:={st with Wt:=.empty,Wb:=[]}
def TSt.merge(st st0:TSt):TSt:={st with Wt:=st.Wt++st0.Wt,Wb:=st.Wb++st0.Wb}
def TSt.qFD(st st0:TSt)(j:Join):Bool:=j.wr.all λr=>match st0.cont r with
 |some cs=>(match st.cont r with
  |some cs2=>decide (cs2.length=cs.length)
  |none=>false)
 |none=>true
noncomputable def TSt.outs(st st0:TSt)(j:Join):Option (denL (j.ps.map (·.1))) :=
 if st.qlI j&&st.wrote j&&st.qFD st0 j then asL j.ps (j.lv.map st.get)else none
noncomputable def qx5(j:Option Join)(st:TSt)(run:TSt->(R:Type)->(Ex->TSt->Option R)->Option R)(R:Type)(k:Ex->TSt->Option R):Option R :=
 match j with
 |none=>run st R k
 |some j =>
  if j.abn then
   (run st.fresh (denL (j.ps.map (·.1))⊕R) λe st2=>match e with
    |.normal=>(st2.outs st j).map .inl
    |e=>(k e (st2.merge st)).map .inr).bind (Sum.elim (λx=>k .normal (st.qbI j (ofL j.ps x))) some)
  else
   (run st.fresh (denL (j.ps.map (·.1))) λe st2=>match e with
    |.normal=>st2.outs st j
    |_=>none).bind λx=>k .normal (st.qbI j (ofL j.ps x))
def qau(D:List Tmp):qG->qG
 |[]=>[]
 |(k,c)::l=>if D.contains k then qau D l else (k,c)::qau D l
noncomputable def qfe(D:List Tmp)(E:Env):Env:=qdI (Mask.ofList D) (λ_=>[]) E
def qk0:qG->List Root
 |[]=>[]
 |(_,some c)::l=>ptrsTL c++qk0 l
 |(_,none)::l=>qk0 l
def qxR:qG->Bool
 |[]=>true
 |(_,c)::l=>c.isSome&&qxR l
def qpO(D:List Tmp)(n:Nat):qG->List Root
 |[]=>[]
 |(k,_)::l=>if D.contains k then ⟨n,k⟩::qpO D n l else qpO D n l
def inE(st:TSt)(D:List Tmp):List Tmp:=D.filter λt=>decide (t<st.E.n)
noncomputable def TSt.clear(D:List Tmp)(st:TSt):Option TSt :=
 let E:=qfe (inE st D) st.E
 let B:=qau D st.B
 if decide (B.length=st.B.length)||((E.all λ_ v=>qdk st.L.length D v.qq)&&qdk st.L.length D (qk0 B)&&qxR B)then some {st with E,B,Wt:=Mask.ofList (inE st D)++st.Wt,Wb:=qpO D st.L.length st.B++st.Wb}else none
structure TOrc where
 call:List Tmp->FuncId->List TV->List qG->(R:Type)->(TV->List qG->List Root->Option R)->Option R
 code:List Tmp->FuncId->Nat->Code->TSt->(R:Type)->(Ex->TSt->Option R)->Option R
 born:List Tmp->FuncId->List TV->(R:Type)->(TV->TV->Option R)->Option R
def qe2:List qG->Option (List qG×qG)
 |[]=>none
 |[b]=>some ([],b)
 |b::c::l=>(qe2 (c::l)).map λ(x,y)=>(b::x,y)
section
variable (P:Program) (H:Hints) (J:TH) (T:qsM) (O:TOrc) (ctx:List Tmp) (f:FuncId)
noncomputable def qj9:Env->List Tmp->List TV->Env
 |E,t::ts,v::vs=>qj9 (E.set t v) ts vs
 |E,_,_=>E
def TSt.qq2(st:TSt)(r:Root)(v:TV):TSt:={st.qp r [v]with Wb:=st.Wb}
noncomputable def qAV(d:Tmp)(r:Root)(args:List TV)(st:TSt)(R:Type)(k:TV->TSt->Option R):Option R :=
 match st.cont r with
 |some [.lp .ready none g env ps asz bo] =>
  if args.length≠ps.length then none else
  O.code (d::ctx) g 0 asz {E:=qj9 (Env.qhf env env.length) ps (dullL args),L:=st.L++[st.B],B:=[],Wt:=.empty,Wb:=[]} R λe s2=>match e with
   |.normal=>(match s2.cont r with
    |some [.lp .ready none g2 env2 ps2 as2 bo2] =>
     O.code (d::ctx) g 0 bo (s2.qq2 r (.lp .busy none g2 env2 ps2 as2 bo2)) R λex s3=>(match s3.cont r with
      |some [.lp _ _ g3 env3 ps3 as3 bo3] =>
       (match qe2 (s3.qq2 r (.lp (if ex.code.isNone then .ready else .done) ex.code g3 env3 ps3 as3 bo3)).L with
       |some (L,B)=>if L.length=st.L.length then k (.t .bool 0 ex.code.isNone) {st with L,B,Wb:=(if ex.code.isNone then []else [r])++(s3.Wb++st.Wb)}else none
       |none=>none)
      |_=>none)
    |_=>none)
   |_=>none
 |_=>none
noncomputable def qp9(d:Tmp)(fv:TV)(args:List TV)(st:TSt)(R:Type)(k:TV->TSt->Option R):Option R :=
 match fv with
 |.fn g first cap =>
  if knownL (first++args++cap)then
   (if (ptrsTL (first++args++cap)).isEmpty then
    (if J.inl ctx f d then O.call (d::ctx) g (shareL (first++args++cap)) [] R λr M _=>match M with
     |[]=>k (if tightL (first++args++cap)then r else r.qa9) st
     |_=>none
    else T g (shareL (first++args++cap)) R λr=>k (if tightL (first++args++cap)then r else r.qa9) st)
   else if H.qjn g then (match peekTL st.box (first++args++cap)with
    |some xs=>if (ptrsTL xs).isEmpty then T g xs R λr=>if r.qcB then k r st else none else none
    |none=>none)
   else O.call (d::ctx) g (dullL (first++args++cap)) (st.L++[st.B]) R λr M wb=>match qe2 M with
    |some (L,B)=>if L.length=st.L.length then k r {st with L,B,Wb:=wb++st.Wb}else none
    |none=>none)
  else none
 |.yld r=>qAV O ctx d r args st R k
 |_=>none
noncomputable def qzp(d:Option Tmp)(fv:TV)(args:List TV)(st:TSt)(R:Type)(k:TV->TSt->Fp->Option R):Option R :=
 match fv,d with
 |.fn g first cap,some d =>
  if knownL (first++args++cap)&&(ptrsTL (first++args++cap)).isEmpty&&tightL (first++args++cap)&&(qU st.B (qX d)).isNone then
   O.born (d::ctx) g (shareL (first++args++cap)) R λr c=>k (r.adopt ⟨st.L.length,qX d⟩) {st with B:=(qX d,some [c])::st.B,Wb:=⟨st.L.length,qX d⟩::st.Wb} (.fresh ⟨st.L.length,qX d⟩)
  else none
 |_,_=>none
noncomputable def qFY(d:Option Tmp)(fv:TV)(args:List TV)(st:TSt)(R:Type)(k:TV->TSt->Fp->Option R):Option R :=
 match fv,d with
 |.fn g first cap,some d=>match first++args++cap with
  |[.t .str _ s,.t .str _ sep]=>match H.seq g with
   |some clos=>if (qU st.B d).isNone then k (.fn clos [] [.cptr true [.t .str 0 sep],.ptr ⟨st.L.length,d⟩ 0,.cptr true [.t (.int .i64) 0 0]]) {st with B:=(d,some [.t .str 0 s])::st.B,Wb:=⟨st.L.length,d⟩::st.Wb} (.fresh ⟨st.L.length,d⟩)else none
   |none=>none
  |_=>none
 |_,_=>none
def qkR:TV->List TV->Option Root
 |.fn _ first cap,args=>if knownL (first++args++cap)then (match ptrsTL (first++args++cap)with
  |q::rest=>if rest.all (λr=>decide (r=q))&&onlyMapsTL (first++args++cap)then some q else none
  |[]=>none)else none
 |_,_=>none
def qzS(n:Nat)(q:Root)(c:List TV):List qG:=(List.range n).map λl=>if l=q.lvl then [(q.slot,some c)]else []
def qE5(M:List qG)(r:Root):Option (Option (List TV)):=match M[r.lvl]? with
 |some b=>qU b r.slot
 |none=>none
noncomputable def qAj(d:Tmp)(g:FuncId)(args:List TV)(q:Root)(st:TSt)(R:Type)(k:TV->TSt->Option R):Option R :=
 match st.box q with
 |some [.t (.mset τ) o l]=>O.call (d::ctx) g (dullL args) (qzS (st.L.length+1) q [.t (.mset τ) o l]) R λr M _ =>
   if r.known&&r.qq.isEmpty&&!r.owns then (match qE5 M q with
    |some (some [.t (.mset τ') o' l'])=>k r (st.qp q [.t (.mset τ') o' l'])
    |_=>none)else none
 |_=>none
def qrL(fv:TV)(args:List TV):Bool:=qoq H fv||(qtA H fv||(qkR fv args).isSome)
noncomputable def qCR(d:Option Tmp)(fv:TV)(args:List TV)(st:TSt)(R:Type)(k:TV->TSt->Fp->Option R):Option R :=
 if qoq H fv then qzp O ctx d fv args st R k else if qtA H fv then qFY H d fv args st R k else match fv,qkR fv args with
  |.fn g first cap,some q=>qAj O ctx (d.getD 0) g (first++args++cap) q st R λv s=>k v s (.mapw q)
  |_,_=>none
noncomputable def qmS(o:Oper)(xs:List TV)(st:TSt)(R:Type)(k:TV->TSt->Fp->Option R):Option R :=
 match o.op with
 |.alloc t=>match o.dst,quS P H f t with
  |some d,some z=>if (qU st.B d).isNone then k (.ptr ⟨st.L.length,d⟩ 0) {st with B:=(d,some z.cells)::st.B,Wb:=⟨st.L.length,d⟩::st.Wb} (.fresh ⟨st.L.length,d⟩)else none
  |_,_=>none
 |.box t _=>match o.dst,xs with
  |some d,[x]=>if (qU st.B d).isNone/\x.cells.length=P.cellsOf t/\x.oks=true then k (.ptr ⟨st.L.length,d⟩ 0) {st with B:=(d,some x.cells)::st.B,Wb:=⟨st.L.length,d⟩::st.Wb} (.fresh ⟨st.L.length,d⟩)else none
  |_,_=>none
 |.call {callee:=.value _,..}=>match xs with
  |fv::args=>if qrL H fv args then qCR H O ctx o.dst fv args st R k else qp9 H J T O ctx f (o.dst.getD 0) fv args st R λv s=>k v s (if qgi fv args then .none else if qdL H fv then .looks else .all)
  |[]=>none
 |op=>if qkx op xs then qnH P H f o xs st R k else match qma op xs with
  |none=>qcM P H f (qab H f o) op xs none R λv c=>match c with
   |none=>k v st .none
   |some _=>none
  |some r=>if 16384<=r.slot then none else qcM P H f (qab H f o) op xs (st.box r) R λv c=>match c with
   |none=>k v st (.root r (qb0 P op xs).1 (qb0 P op xs).2 false)
   |some c=>if (qxC op xs).all (λp=>decide (p.lvl<=r.lvl))&&decide ((qb0 P op xs).1+(qb0 P op xs).2<=c.length)then k v (st.qp r c) (.root r (qb0 P op xs).1 (qb0 P op xs).2 true)else none
noncomputable def qj0(o:Oper)(st:TSt)(R:Type)(k:TSt->Fp->Option R):Option R :=
 if qab H f o&&!qfs (tmpsOf o)then none else
 qmS P H J T O ctx f o (o.op.operands.toList.map (rdT H f o st.E)) (if qab H f o then {st with E:=qbD st.E (tmpsOf o),Wt:=Mask.ofList ((tmpsOf o).filter (λt=>(st.E.get t).owns))++st.Wt}else st) R λv s fp=>k (s.put o.dst v) fp
noncomputable def qvi(ops:Array Oper)(o:Oper)(st:TSt)(R:Type)(yes no:TSt->Option R):Option R :=
 match o.guard with
 |none=>yes st
 |some (j,want)=>match (ops[j]?).bind (·.dst)with
  |some t=>match st.E.get t with
   |.t .bool _ b=>bif b then (let st1:TSt:={st with E:=st.E.set t (.t .bool 0 true)};if want then yes st1 else no st1)
     else (let st1:TSt:={st with E:=st.E.set t (.t .bool 0 false)};if want then no st1 else yes st1)
   |.val (.tuple vs)=>if vs.size=0 then no st else none
   |_=>none
  |none=>none
noncomputable def qxP(ops:Array Oper):List Nat->TSt->(R:Type)->(TSt->Option R)->Option R
 |[],st,_,k=>k st
 |i::rest,st,R,k =>
  match ops[i]? with
  |none=>none
  |some o=>qvi ops o st R (λst=>qj0 P H J T O ctx f o st R λst' _=>qxP ops rest st' R k) (λst=>qxP ops rest (st.put o.dst (.val undef)) R k)
noncomputable def qmq(o:Oper)(E:Env):List Tmp:=if qab H f o then (tmpsOf o).filter λt=>(E.get t).owns else []
noncomputable def qta(ops:Array Oper):List Nat->TSt->List (Nat×Foot)->(R:Type)->(TSt->List (Nat×Foot)->Option R)->Option R
 |[],st,fps,_,k=>k st fps
 |i::rest,st,fps,R,k =>
  match ops[i]? with
  |none=>none
  |some o=>qvi ops o st R
    (λst=>qj0 P H J T O ctx f o st R λst' fp=>qta ops rest st' ((i,⟨fp,qmq H f o st.E,qbq H f ops o⟩)::fps) R k)
    (λst=>qta ops rest (st.put o.dst (.val undef)) ((i,⟨.none,[],qbq H f ops o⟩)::fps) R k)
noncomputable def qtp(E:Env):Operand->Option Int
 |.tmp t=>qyT (E.get t)
 |.const v=>match v with
  |.int _ n=>some n
  |_=>none
 |_=>none
noncomputable def qgK(ops:Array Oper)(E:Env):Nat->Nat->Tmp->Option (Rt×List (Int×Nat×Nat)×Bool)
 |0,_,_=>none
 |n+1,k,d=>if H.link f d=false then some (.tmp d,[],false)else
  match qpN ops k d with
  |none=>none
  |some c=>match (ops[c]?).map Oper.op with
   |some (.move (.tmp a))=>qgK ops E n c a
   |some (.indexAddr t (.tmp a) i) =>
    match qgK ops E n c a,qtp E i,P.underlying t with
    |some (r,p,false),some j,some (.slice elem)=>some (r,(j,0,P.cellsOf elem)::p,true)
    |_,_,_=>none
   |some (.fieldAddr t (.tmp a) fd) =>
    match qgK ops E n c a,qnx P t fd with
    |some (r,(j,o,s)::p,true),some o'=>some (r,(j,o+o',s)::p,true)
    |_,_=>none
   |some (.load t (.tmp a)) =>
    if qN P t then none else
    if H.link f a then (match qgK ops E n c a with
     |some (r,p,true)=>some (r,p,false)
     |_=>none)
    else match E.get a with
     |.ptr r off=>some (.box r off,[],false)
     |_=>none
   |_=>none
def qpi(e:TV)(cs:List TV):TV :=
 match e with
 |.agg _=>.agg cs
 |_=>cs.headD (.any [])
def qEy(ys:List TV):List (Int×Nat×Nat)->TV->(R:Type)->(TV->Option R)->Option R
 |(i,o,s)::p,.t (.sl τ) lv l,R,k =>
  if qaY lv=true/\τ.qba=s/\s≠0/\τ.ok=true/\τ.qbY=true then
   (idx l i).bind λe=>match p with
    |[]=>if o+ys.length<=s then (match qg8 τ (nx lv) (qpi (ofTy τ (nx lv) e) (qmg (ofTy τ (nx lv) e).cells o ys))with
      |some e'=>k (.t (.sl τ) lv (l.set i.toNat e'))
      |none=>none)else none
    |_::_=>match (ofTy τ (nx lv) e).cells[o]? with
     |some z=>qEy ys p z R λz'=>match qg8 τ (nx lv) (qpi (ofTy τ (nx lv) e) ((ofTy τ (nx lv) e).cells.set o z'))with
      |some e'=>k (.t (.sl τ) lv (l.set i.toNat e'))
      |none=>none
     |none=>none
  else none
 |_,_,_,_=>none
def qzR(b:qG):qG:=b.map λp=>(p.1,p.2.map (List.map TV.qef))
noncomputable def qEn(E:Env):Mask:=E.mask λx=>!(x.firm||x.isAny)
def qv4:qG->List Root
 |[]=>[]
 |(_,none)::b=>qv4 b
 |(k,some c)::b=>if c.all TV.firm then qv4 b else ⟨0,k⟩::qv4 b
noncomputable def TSt.qbS(st:TSt)(T:List Tmp):TSt :=
 {st with E:=(qbD st.E T).qvA (λ_ v=>v.qef),B:=qzR st.B,Wt:=Mask.ofList (T.filter (λt=>(st.E.get t).owns))++(qEn (qbD st.E T)++st.Wt),Wb:=qv4 st.B++st.Wb}
structure Hole where
 r:Tmp
 τ:Ty
 lv:Nat
 l:List τ.den
 j:Int
noncomputable def qBQ(hole:Option Hole)(r0:Tmp)(p:List (Int×Nat×Nat))(x:TV)(st:TSt)(R:Type)(k:TSt->Option R):Option R :=
 match hole,p with
 |some h,[(i,0,1)]=>if h.r=r0 then (match x with
   |.t (.sl τ) o y=>(match qg8 h.τ (nx h.lv) (.t (.sl τ) o y)with
    |some e=>bif decide (i=h.j)then (if (TV.t (.sl h.τ) h.lv (h.l.set h.j.toNat e)).firm then k (st.put (some r0) (.t (.sl h.τ) h.lv (h.l.set h.j.toNat e)))else none)else none
    |none=>none)
   |_=>none)else none
 |_,_=>none
noncomputable def lsT(ops:Array Oper)(s:Nat)(o:Oper)(st:TSt)(hole:Option Hole)(R:Type)(k:TSt->Option R):Option R :=
 match o.op with
 |.store t (.tmp d) xo =>
  let x:=rdT H f o st.E xo
  if st.L.isEmpty&&qoZ st.B&&st.B.all (λp=>decide (p.1<16384))&&o.dst.isNone&&o.guard.isNone&&qfs (tmpsOf o)&&decide (P.cellsOf t≠0)&&decide (x.cells.length=P.cellsOf t)&&x.oks&&x.qq.isEmpty then
   match qgK P H f ops st.E ops.size s d with
   |some (.tmp r,p,true)=>if (tmpsOf o).contains r then none else
    if hole.isSome then qBQ hole r p x (st.qbS (tmpsOf o)) R k else
    qEy x.cells p.reverse (st.E.get r) R λy=>if y.firm then k ((st.qbS (tmpsOf o)).put (some r) y)else none
   |some (.box q off,p,true)=>match st.box q with
    |some cs=>match cs[off]? with
     |some z=>qEy x.cells p.reverse z R λy=>if y.firm then k ((st.qbS (tmpsOf o)).qp q ((cs.map TV.qef).set off y))else none
     |none=>none
    |none=>none
   |_=>none
  else none
 |_=>none
noncomputable def apT(ops:Array Oper)(s:Nat)(o:Oper)(st:TSt)(R:Type)(k:TSt->Hole->Option R):Option R :=
 match o.op with
 |.call {args,..}=>match (args[0]?:Option Operand)with
  |some (.tmp d)=>match qgK P H f ops st.E ops.size s d with
   |some (.tmp r,[(j,0,1)],false)=>if r=d\/st.E.n<=d then none else
    (match st.E.get r with
    |.t (.sl (.sl τ)) lv l=>if qaY lv&&qaY (nx lv)then (idx l j).bind λe =>
      k {st with E:=(st.E.set r (.any [])).set d (.t (.sl τ) (nx lv) e),Wt:=Mask.ins r (Mask.ins d st.Wt)} ⟨r,.sl τ,lv,l,j⟩else none
    |_=>none)
   |_=>none
  |_=>none
 |_=>none
def qrZ(o:Oper):Option Hole->Option Hole
 |some h=>if o.dst=some h.r\/(tmpsOf o).contains h.r=true then none else some h
 |none=>none
def qD1:TV->Bool
 |.cptr ..=>true
 |_=>false
noncomputable def qvz(o:Oper)(E:Env):Bool :=
 !qmD H f o||((match o.dst with
  |some d=>decide (d<E.n)
  |none=>true)&&(match o.op with
  |.load _ (.tmp a)=>!H.link f a||qD1 (E.get a)
  |_=>true))
noncomputable def qjb(ops:Array Oper):List Nat->TSt->Option Hole->List (Nat×Foot)->(R:Type)->(TSt->List (Nat×Foot)->Option R)->Option R
 |[],st,_,fps,_,k=>k st fps
 |i::rest,st,hole,fps,R,k =>
  match ops[i]? with
  |none=>none
  |some o=>if qhc H f o then lsT P H f ops i o st hole R λst'=>qjb ops rest st' none ((i,⟨.all,[],looksAt ops o⟩)::fps) R k
   else if qmW H f o then (if qmD H f o then none else apT P H f ops i o st R λst hole=>qvi ops o st R
    (λst=>qj0 P H J T O ctx f o st R λst' fp=>qjb ops rest st' (qrZ o (some hole)) ((i,⟨fp,qmq H f o st.E,qbq H f ops o⟩)::fps) R k)
    (λst=>qjb ops rest (st.put o.dst (.val undef)) (qrZ o (some hole)) ((i,⟨.none,[],qbq H f ops o⟩)::fps) R k))
   else if qvz H f o st.E then qvi ops o st R
    (λst=>qj0 P H J T O ctx f o st R λst' fp=>qjb ops rest st' (qrZ o hole) ((i,⟨fp,qmq H f o st.E,qbq H f ops o⟩)::fps) R k)
    (λst=>qjb ops rest (st.put o.dst (.val undef)) (qrZ o hole) ((i,⟨.none,[],qbq H f ops o⟩)::fps) R k)
   else none
def qF4:Operand->Tmp
 |.tmp t=>t
 |_=>0
def qzc(ops:List Oper):List Mask :=
 ops.foldl (λacc o=>acc++[(qbk o).foldl (λm j=>Mask.ins j (m++acc.getD j .empty)) .empty]) []
def qk2(U:List (Nat×Nat))(ops:Array Oper):Bool :=
 let asz:=qzc ops.toList
 (List.range ops.size).all λi =>
  match ops[i]? with
  |none=>false
  |some y=>(qbk y).all (λj=>decide (j<i))&&(List.range i).all λj =>
   (asz.getD i .empty).has j||match ops[j]? with
    |none=>false
    |some x=>qcg ops x y&&(qgq H f ops x y||U.contains (j,i))
def qmx(draw:Bool)(asz:List Mask)(i c:Nat):Bool:=if draw then (asz.getD c .empty).has i else decide (i<c)
def qr2(draw:Bool)(asz:List Mask)(ops:Array Oper)(lone:Bool)(c:Nat)(oc:Oper):Bool :=
 (!qmD H f oc||(oc.guard.isNone&&(match oc.dst with
   |some d=>!(tmpsOf oc).contains d
   |none=>true)&&(List.range ops.size).all λi=>i==c||qmx draw asz i c||match ops[i]? with
    |some oi=>ql6 H f oc oi
    |none=>false)) &&
 (!qhc H f oc||(oc.guard.isNone&&(List.range ops.size).all λi=>i==c||qmx draw asz i c||qmx draw asz c i)) &&
 (!(qmD H f oc&&qiB H f oc)||lone) &&
 (!qmW H f oc||(List.range ops.size).any λs=>qmx draw asz c s&&match ops[s]? with
  |some os=>qhc H f os
  |none=>false) &&
 (!qmW H f oc||(List.range ops.size).all λi=>i==c||qmx draw asz i c||qmx draw asz c i||match ops[i]? with
  |some oi=>qkr H f ops c oc oi
  |none=>false)
def qvy(draw:Bool)(ops:Array Oper):Bool :=
 let asz:=qzc ops.toList
 let lone:=decide ((ops.toList.filter (qhc H f)).length<=1)
 (List.range ops.size).all λc=>match ops[c]? with
  |some oc=>qr2 H f draw asz ops lone c oc
  |none=>false
noncomputable def qEI:List Tmp->TSt->Option TSt
 |[],st=>some st
 |D,st=>st.clear D
noncomputable def qEw(F:List Int->Option (List Int))(t:Tmp)(d:Option Tmp)(st:TSt)(R:Type)(k:TSt->Option R):Option R :=
 if st.L.isEmpty&&qoZ st.B then
  match st.E.get t with
  |.t (.sl (.int .i64)) o xs=>if qaY o=true then (F xs).bind λys=>k (((st.qbS []).put (some t) (.t (.sl (.int .i64)) o ys)).put d (.any []))else none
  |_=>none
 else none
noncomputable def tx(bid:Nat):Code->TSt->(R:Type)->(Ex->TSt->Option R)->Option R
 |.skip,st,_,k=>k .normal st
 |.region id ops draw,st,R,k=>qx5 (J.join ctx f (.region id)) st (λst R k =>
   match qEI (H.pre f id) st with
   |none=>none
   |some st =>
   match qij H ops draw with
   |some (F,t,e,d)=>if e<st.E.n then qEw F t d (st.put (some e) (.any [])) R λst=>k .normal st else none
   |none =>
   if qxU H f ops then
    (if qvy H f draw ops&&(!draw||qk2 H f (H.pairs f id) ops)then
     qjb P H J T O ctx f ops (List.range ops.size) st none [] R λst fps=>if !draw||qhQ (H.pairs f id) fps then k .normal st else none
    else none)
   else if draw then
    (if qk2 H f (H.pairs f id) ops then
     match H.pairs f id with
     |[]=>qxP P H J T O ctx f ops (List.range ops.size) st R λst=>k .normal st
     |U=>qta P H J T O ctx f ops (List.range ops.size) st [] R λst fps=>if qhQ U fps then k .normal st else none
    else none)
   else qxP P H J T O ctx f ops (List.range ops.size) st R λst=>k .normal st) R k
 |.seq a b,st,R,k=>tx bid a st R λe st=>match e with
  |.normal=>tx bid b st R k
  |e=>k e st
 |.cond c a b,st,R,k=>qx5 (J.join ctx f (.cond (qF4 c))) st (λst R k=>match rdT H f default st.E c with
   |.t .bool _ t=>bif t then tx bid a st R k else tx bid b st R k
   |_=>none) R k
 |.block id c,st,R,k=>qx5 (J.join ctx f (.block id)) st (λst R k=>tx id c st R λe st=>match e with
   |.exit i=>if i=id then k .normal st else k (.exit i) st
   |e=>k e st) R k
 |.loop c,st,R,k=>match J.join ctx f (.loop bid)with
  |some j =>
   if st.qlI j then
    (asL j.ps (j.lv.map st.get)).bind λx0 =>
     qA (λx=>match (st.fresh.qbI j (ofL j.ps x)).clear (H.clear f bid)with
      |some st1=>tx bid c st1 (denL (j.ps.map (·.1))⊕R) λe st2=>match e with
       |.normal=>(st2.outs st j).map .inl
       |e=>(k e (st2.merge st)).map .inr
      |none=>none) x0
   else none
  |none=>match st.clear (H.clear f bid)with
   |some st=>tx bid c st R λe st=>match e with
    |.normal=>O.code ctx f bid (.loop c) st R k
    |e=>k e st
   |none=>none
 |.rangeFunc g ps asz bo,st,R,k =>
  match rdT H f default st.E g,ps.toList with
  |.fn h first cap,t::ts =>
   if (qU st.B t).isNone&&decide (t<16384)then
    qp9 H J T O ctx f t (.fn h first cap) [.yld ⟨st.L.length,t⟩] {st with B:=(t,some [.lp .ready none f (dullL st.E.toL) (t::ts) asz bo])::st.B,Wb:=⟨st.L.length,t⟩::st.Wb} R λ_ s =>
     if qdk st.L.length [t] (qk0 (qau [t] s.B))&&qxR (qau [t] s.B)then
      (match qU s.B t with
      |some (some [.lp .ready none _ _ _ _ _])=>k .normal {s with B:=qau [t] s.B,Wb:=st.Wb++s.Wb.filter (λq=>!decide (q=⟨st.L.length,t⟩))}
      |some (some [.lp .done (some .ret) _ _ _ _ _])=>k .ret {s with B:=qau [t] s.B,Wb:=st.Wb++s.Wb.filter (λq=>!decide (q=⟨st.L.length,t⟩))}
      |some (some [.lp .done (some (.exit id)) _ _ _ _ _])=>k (.exit id) {s with B:=qau [t] s.B,Wb:=st.Wb++s.Wb.filter (λq=>!decide (q=⟨st.L.length,t⟩))}
      |_=>none)
     else none
   else none
  |_,_=>none
 |.exit id,st,_,k=>k (.exit id) st
 |.ret,st,_,k=>k .ret st
 |_,_,_,_=>none
noncomputable def qjY(st:TSt):ResultVar->Option TV
 |.tmp t=>some (st.E.get t)
 |.cell a t=>match st.E.get a with
  |.ptr r off=>match st.box r with
   |some cs=>if r.slot<16384 then qaQ P t (cs.drop off)else none
   |none=>none
  |_=>none
def qfC:List (Option TV)->Option (List TV)
 |[]=>some []
 |some v::l=>(qfC l).map (v::·)
 |none::_=>none
noncomputable def qgl(st:TSt):ResultVar->Option (Bool×Nat×Nat)
 |.tmp t=>some (false,t,0)
 |.cell a _=>match st.E.get a with
  |.ptr r _=>some (true,r.lvl,r.slot)
  |_=>none
def qlv:List (Option (Bool×Nat×Nat))->Option (List (Bool×Nat×Nat))
 |[]=>some []
 |some v::l=>(qlv l).map (v::·)
 |none::_=>none
def qaR:List TV->TV
 |[r]=>r
 |rs=>.tuple rs
noncomputable def runT(args:List TV)(M:List qG)(R:Type)(k:TV->List qG->List Root->Option R):Option R :=
 if J.lib f then none else
 match P.funcs[f]? with
 |some fn=>match fn.body with
  |some c=>qx5 (J.join ctx f (.inl 0)) {E:=Env.qhf args fn.ntmps,L:=M,B:=[],Wt:=.empty,Wb:=[]}
    (λst R k=>tx P H J T O ctx f 0 c st R λe st=>match e with
     |.normal=>k .normal st
     |.ret=>k .normal st
     |_=>none) R λ_ st =>
   match qfC (fn.results.toList.map (qjY P st)),qlv (fn.results.toList.map (qgl st))with
   |some rs,some ks=>if knownL rs&&((ptrsTL rs).all λr=>decide (r.lvl<M.length))&&qtL M.length ks then k (qaR rs) st.L st.Wb
    else if knownL rs&&M.isEmpty&&qtL M.length ks&&!((ptrsTL rs).all λr=>decide (r.lvl<M.length))then (match peekTL st.box rs with
     |some xs=>if knownL xs&&(ptrsTL xs).isEmpty then k (qaR xs) st.L st.Wb else none
     |none=>none)
    else none
   |_,_=>none
  |none=>none
 |none=>none
noncomputable def qzn(args:List TV)(R:Type)(k:TV->TV->Option R):Option R :=
 if J.lib f then none else
 match P.funcs[f]? with
 |some fn=>match fn.body with
  |some c=>tx P H J T O ctx f 0 c {E:=Env.qhf args fn.ntmps,L:=[],B:=[],Wt:=.empty,Wb:=[]} R λe st =>
   match e with
   |.exit _=>none
   |_=>match qfC (fn.results.toList.map (qjY P st))with
    |some rs=>match peekTL st.box rs with
     |some xs=>match ptrsTL xs with
      |[r]=>if r.lvl=0 then (match st.box r with
       |some [.t (.mset τ) o l]=>if knownL xs&&onlyMapsTL xs then k (qaR xs) (.t (.mset τ) o l)else none
       |_=>none)else none
      |_=>none
     |none=>none
    |none=>none
  |none=>none
 |none=>none
end
def TV.qep:TV->TV
 |.val (.slice none 0 0)=>.empty 1
 |v=>v
def dnT(H:Hints)(g:FuncId)(l:List TV):List TV:=bif H.qep g then l.map TV.qep else l
noncomputable def qpE(P:Program)(H:Hints)(J:TH)(T:qsM):Nat->TOrc
 |0=>{call:=λ_ _ _ _ _ _=>none,code:=λ_ _ _ _ _ _ _=>none,born:=λ_ _ _ _ _=>none}
 |n+1=>{
   call:=λctx g args M R k=>runT P H J T (qpE P H J T n) ctx g (dnT H g args) M R k
   code:=λctx f bid c st R k=>tx P H J T (qpE P H J T n) ctx f bid c st R k
   born:=λctx g args R k=>qzn P H J T (qpE P H J T n) ctx g args R k}
def qzj:(rs:List (Ty×Nat))->TV->Option (denL (rs.map (·.1)))
 |[p],r=>asL [p] [r]
 |rs,.tuple l=>asL rs l
 |_,_=>none
noncomputable def fnT(P:Program)(H:Hints)(J:TH)(T:qsM)(n:Nat)(g:FuncId)(args:List TV)(rs:List (Ty×Nat)):Option (denL (rs.map (·.1))) :=
 (qpE P H J T n).call [] g args [] _ λr M _=>match M with
  |[]=>qzj rs r
  |_=>none
inductive Cp where
 |v (τ:Ty)
 |p (τ:Ty)
@[reducible] def Cp.den:Cp->Type
 |.v τ=>τ.den
 |.p τ=>τ.den
@[reducible] def denC:List Cp->Type
 |[]=>Unit
 |[c]=>c.den
 |c::q::l=>c.den×denC (q::l)
inductive Pm where
 |ty (τ:Ty)
 |ptr (τ:Ty)
 |fn (g:FuncId) (caps:List Cp)
@[reducible] def Pm.den:Pm->Type
 |.ty τ=>τ.den
 |.ptr τ=>τ.den
 |.fn _ cs=>denC cs
@[reducible] def denP:List Pm->Type
 |[]=>Unit
 |[p]=>p.den
 |p::q::l=>p.den×denP (q::l)
def quY(τ:Ty)(cs:List TV):Option τ.den :=
 if τ.one=true then (match cs with
  |[c]=>qg8 τ 1000 c
  |_=>none)else qg8 τ 1000 (.agg cs)
def qEE:(c:Cp)->TV->Option c.den
 |.v τ,v=>qg8 τ 1000 v
 |.p τ,.cptr true cs=>quY τ cs
 |.p _,_=>none
def qFb:(c:Cp)->c.den->TV
 |.v τ,x=>ofTy τ 1000 x
 |.p τ,x=>.cptr true (ofTy τ 1000 x).cells
def qsZ:(cs:List Cp)->List TV->Option (denC cs)
 |[],[]=>some ()
 |[c],[v]=>qEE c v
 |c::q::ps,v::l=>(qEE c v).bind λx=>(qsZ (q::ps) l).bind λy=>some (x,y)
 |_,_=>none
def qCo:(cs:List Cp)->denC cs->List TV
 |[],_=>[]
 |[c],x=>[qFb c x]
 |c::q::ps,x=>qFb c x.1::qCo (q::ps) x.2
def qEQ:(p:Pm)->TV->Option p.den
 |.ty τ,v=>qg8 τ 1000 v
 |.ptr τ,v=>qEE (.p τ) v
 |.fn g cs,.fn g' [] cap=>if g=g' then qsZ cs cap else none
 |.fn _ _,_=>none
def qyn:(p:Pm)->p.den->TV
 |.ty τ,x=>ofTy τ 1000 x
 |.ptr τ,x=>qFb (.p τ) x
 |.fn g cs,x=>.fn g [] (qCo cs x)
def qsY:(ps:List Pm)->List TV->Option (denP ps)
 |[],[]=>some ()
 |[p],[v]=>qEQ p v
 |p::q::ps,v::l=>(qEQ p v).bind λx=>(qsY (q::ps) l).bind λy=>some (x,y)
 |_,_=>none
def qcI:(ps:List Pm)->denP ps->List TV
 |[],_=>[]
 |[p],x=>[qyn p x]
 |p::q::ps,x=>qyn p x.1::qcI (q::ps) x.2
structure Entry where
 g:FuncId
 ps:List Pm
 rs:List (Ty×Nat)
 F:denP ps->Option (denL (rs.map (·.1)))
def qgT(rs:List (Ty×Nat))(x:denL (rs.map (·.1))):TV:=qaR (ofL rs x)
def qp1:List Entry->qsM
 |[],_,_,_,_=>none
 |e::l,g,args,R,k=>if e.g=g then (match qsY e.ps args with
   |some x=>(e.F x).bind λy=>k (qgT e.rs y)
   |none=>qp1 l g args R k)else qp1 l g args R k
end
end Go.Tx
end
section
namespace Go.Fl
open Ieee
section
set_option maxRecDepth 100000
def Val(d:Datum)(n:Int):Prop:=∃neg mag place,d=.number neg mag place/\mag*2 ^ place.toNat=n.natAbs*2 ^ (-place).toNat/\(neg=true->n<=0)/\(neg=false->0<=n)
def IsF(w:Nat)(n:Int):Prop:=Val (double.read w) n
theorem qgJ:double.leastPlace = -1074:=by decide
theorem qs0:double.binade=2 ^ 52:=rfl
theorem qqv:double.infRung=2047*2 ^ 52:=rfl
theorem qlf:double.signWeight=2 ^ 63:=rfl
theorem qAK(neg:Bool){r:Nat}(h:r<2 ^ 63):(double.word neg r) / 2 ^ 63 % 2=(if neg then 1 else 0)/\(double.word neg r) % 2 ^ 63=r:=by
 unfold Format.word;rw [qlf];cases neg
 ·simp only [qf,if_false]<;>omega
 ·simp only [if_true]<;>omega
theorem qAJ(neg:Bool){k e:Nat}(h1:2 ^ 52<=k)(h2:k<2 ^ 53)(he:e<=2000):double.read (double.word neg (e*2 ^ 52+k))=.number neg k (-1074+(e:Int)):=by
 have hr:=qAK neg (r:=e*2 ^ 52+k) (by omega);unfold Format.read;rw [qlf,qs0,qqv,qgJ];simp only [hr.1,hr.2];have c1:¬ (e*2 ^ 52+k<2 ^ 52):=by omega
 have c2:e*2 ^ 52+k<2047*2 ^ 52:=by omega
 rw [if_neg c1,if_pos c2];have e1:(e*2 ^ 52+k) % 2 ^ 52=k-2 ^ 52:=by omega
 have e2:(e*2 ^ 52+k) / 2 ^ 52=e+1:=by omega
 rw [e1,e2];have e3:2 ^ 52+(k-2 ^ 52)=k:=by omega
 rw [e3];have e4:e+1-1=e:=by omega
 rw [e4];cases neg<;>rfl
theorem qAL(neg:Bool):double.read (double.word neg 0)=.number neg 0 (-1074):=by
 cases neg<;>decide
theorem qzw(neg:Bool){q d:Nat}(hq:0<q):Toward.even.cut neg (q*2 ^ d) d=q:=by
 unfold Toward.cut;have hl:d<=(q*2 ^ d).log2:=by
  rw [Nat.le_log2 (by have:=Nat.pow_pos (n:=d) (show 0<2 by omega);have:=Nat.mul_pos hq this;omega)];exact Nat.le_mul_of_pos_left _ hq
 have hm:min d ((q*2 ^ d).log2+2)=d:=by omega
 simp only [hm,Nat.one_shiftLeft];have hp:0<2 ^ d:=Nat.pow_pos (by omega);have e1:q*2 ^ d / 2 ^ d=q:=Nat.mul_div_cancel _ hp;have e2:q*2 ^ d % 2 ^ d=0:=Nat.mul_mod_left _ _;rw [e1,e2];have c1:decide (2 ^ d<2*0)=false:=by simp
 have c2:((2 ^ d==2*0)&&(q % 2==1))=false:=by
  have:(2 ^ d==2*0)=false:=by simp
  rw [this];rfl
 simp [c2]
theorem qwU(m k:Nat)(hm:m≠0):(m*2 ^ k).log2=m.log2+k:=by
 have hp:0<2 ^ k:=Nat.pow_pos (by omega);have hne:m*2 ^ k≠0:=by have:=Nat.mul_pos (Nat.pos_of_ne_zero hm) hp;omega
 rw [Nat.log2_eq_iff hne];have h1:=Nat.log2_self_le hm;have h2:=@Nat.lt_log2_self m;constructor
 ·rw [Nat.pow_add];exact Nat.mul_le_mul_right _ h1
 ·have:2 ^ (m.log2+k+1)=2 ^ (m.log2+1)*2 ^ k:=by rw [<- Nat.pow_add];congr 1;omega
  rw [this];exact Nat.mul_lt_mul_of_pos_right h2 hp
theorem qER(B q k:Nat)(h3:q<=1074*B)(hk:k<2*B):q+k<=2047*B:=by omega
theorem qlr{d:Datum}{n:Int}(h:Val d n)(hn:n.natAbs<2 ^ 53):IsF (double.write d) n:=by
 obtain ⟨neg,mag,place,rfl,hv,hs1,hs2⟩:=h;unfold IsF;show Val (double.read (double.nearest neg mag place)) n;unfold Format.nearest;by_cases h0:mag=0
 ·rw [if_pos h0,qAL];subst h0;have hz:n.natAbs=0:=by
   have hp:0<2 ^ (-place).toNat:=Nat.pow_pos (by omega);rw [Nat.zero_mul]at hv;rcases Nat.mul_eq_zero.1 hv.symm with h|h
   ·exact h
   ·omega
  exact ⟨neg,0,-1074,rfl,by rw [hz,Nat.zero_mul,Nat.zero_mul],hs1,hs2⟩
 rw [if_neg h0];have hnz:n.natAbs≠0:=by
  intro hz;rw [hz,Nat.zero_mul]at hv;have hp:0<2 ^ place.toNat:=Nat.pow_pos (by omega);rcases Nat.mul_eq_zero.1 hv with h|h<;>omega
 have hlog:(mag.log2:Int)+place=n.natAbs.log2:=by
  have h1:=congrArg Nat.log2 hv;rw [qwU _ _ h0,qwU _ _ hnz]at h1;omega
 have hl53:n.natAbs.log2<53:=(Nat.log2_lt hnz).2 hn;generalize hL:n.natAbs.log2=L at *;have hfb:(double.fractionBits:Int)=52:=rfl;have hlast:max (place+(mag.log2:Int)-(double.fractionBits:Int)) double.leastPlace=(L:Int)-52:=by
  rw [qgJ,hfb];omega
 simp only [hlast];have hL2:L+1022<=2000:=by omega
 have t2:(-((-1074:Int)+((L+1022:Nat):Int))).toNat=52-L:=by omega
 have t3:((-1074:Int)+((L+1022:Nat):Int)).toNat=0:=by omega
 have hkept:Toward.even.cut neg (mag <<< (place-((L:Int)-52)).toNat) (((L:Int)-52)-place).toNat=n.natAbs*2 ^ (52-L):=by
  have hp52:0<2 ^ (52-L):=Nat.pow_pos (by omega);have hq:0<n.natAbs*2 ^ (52-L):=Nat.mul_pos (Nat.pos_of_ne_zero hnz) hp52;have key:mag <<< (place-((L:Int)-52)).toNat=n.natAbs*2 ^ (52-L)*2 ^ (((L:Int)-52)-place).toNat:=by
   rw [Nat.shiftLeft_eq]
   refine Nat.eq_of_mul_eq_mul_right (Nat.pow_pos (n:=place.toNat+(-place).toNat) (show 0<2 by omega)) ?_;have a1:mag*2 ^ (place-((L:Int)-52)).toNat*2 ^ (place.toNat+(-place).toNat)=(mag*2 ^ place.toNat)*2 ^ ((place-((L:Int)-52)).toNat+(-place).toNat):=by
    rw [Nat.pow_add,Nat.pow_add];ac_rfl
   have a2:n.natAbs*2 ^ (52-L)*2 ^ (((L:Int)-52)-place).toNat*2 ^ (place.toNat+(-place).toNat)=n.natAbs*2 ^ ((52-L)+(((L:Int)-52)-place).toNat+(place.toNat+(-place).toNat)):=by
    rw [Nat.mul_assoc,Nat.mul_assoc,<- Nat.pow_add,<- Nat.pow_add];congr 2
    omega
   rw [a1,hv,a2,Nat.mul_assoc,<- Nat.pow_add];congr 2
   omega
  rw [key,qzw neg hq]
 rw [hkept];have hk1:2 ^ 52<=n.natAbs*2 ^ (52-L):=by
  have h1:2 ^ L<=n.natAbs:=by rw [<- hL];exact Nat.log2_self_le hnz
  have h2:2 ^ 52=2 ^ L*2 ^ (52-L):=by rw [<- Nat.pow_add];congr 1;omega
  rw [h2];exact Nat.mul_le_mul_right _ h1
 have hk2:n.natAbs*2 ^ (52-L)<2 ^ 53:=by
  have h1:n.natAbs<2 ^ (L+1):=by rw [<- hL];exact Nat.lt_log2_self
  have h2:2 ^ 53=2 ^ (L+1)*2 ^ (52-L):=by rw [<- Nat.pow_add];congr 1;omega
  rw [h2];exact Nat.mul_lt_mul_of_pos_right h1 (Nat.pow_pos (by omega))
 have he:(((L:Int)-52)-double.leastPlace).toNat=L+1022:=by rw [qgJ];omega
 rw [he,qs0,qqv];have h3:(L+1022)*2 ^ 52<=1074*2 ^ 52:=Nat.mul_le_mul_right _ (by omega);have h5:2 ^ 53=2*2 ^ 52:=by rw [Nat.pow_succ,Nat.mul_comm]
 rw [h5]at hk2;have hmin:min ((L+1022)*2 ^ 52+n.natAbs*2 ^ (52-L)) (2047*2 ^ 52)=(L+1022)*2 ^ 52+n.natAbs*2 ^ (52-L):=Nat.min_eq_left (qER _ _ _ h3 hk2);rw [<- h5]at hk2;rw [hmin,qAJ neg hk1 hk2 hL2];refine ⟨neg,n.natAbs*2 ^ (52-L),-1074+((L+1022:Nat):Int),rfl,?_,hs1,hs2⟩;rw [t2,t3,Nat.pow_zero,Nat.mul_one]
theorem qDG{neg:Bool}{mag:Nat}{place base:Int}{n:Int}(hv:mag*2 ^ place.toNat=n.natAbs*2 ^ (-place).toNat)(h1:neg=true->n<=0)(h2:neg=false->0<=n)(hb:base<=place) :
  signed neg mag (place-base).toNat*(2 ^ base.toNat:Nat)=n*(2 ^ (-base).toNat:Nat):=by
 have key:mag*2 ^ (place-base).toNat*2 ^ base.toNat=n.natAbs*2 ^ (-base).toNat:=by
  refine Nat.eq_of_mul_eq_mul_right (Nat.pow_pos (n:=(-place).toNat) (show 0<2 by omega)) ?_;have a1:mag*2 ^ (place-base).toNat*2 ^ base.toNat*2 ^ (-place).toNat=mag*2 ^ place.toNat*2 ^ (-base).toNat:=by
   rw [Nat.mul_assoc,Nat.mul_assoc,Nat.mul_assoc,<- Nat.pow_add,<- Nat.pow_add,<- Nat.pow_add];congr 2;omega
  rw [a1,hv,Nat.mul_assoc,Nat.mul_assoc,Nat.mul_comm (2 ^ (-place).toNat)]
 unfold signed;cases neg with
 |true =>
  have hn:=h1 rfl;have e:n = -(n.natAbs:Int):=by omega
  simp only [if_true,Nat.shiftLeft_eq];rw [Int.neg_mul,<- Int.natCast_mul,key];conv=>rhs;rw [e]
  rw [Int.neg_mul,Int.natCast_mul]
 |false =>
  have hn:=h2 rfl;have e:n=(n.natAbs:Int):=by omega
  simp only [qf,if_false,Nat.shiftLeft_eq];rw [<- Int.natCast_mul,key];conv=>rhs;rw [e]
  rw [Int.natCast_mul]
theorem qBd{x y:Datum}{m n:Int}(hx:Val x m)(hy:Val y n):∃d,x.sum y=some d/\Val d (m+n):=by
 obtain ⟨s,p,i,rfl,hv,h1,h2⟩:=hx;obtain ⟨t,q,j,rfl,hw,h3,h4⟩:=hy;have e1:=qDG (base:=min i j) hv h1 h2 (by omega);have e2:=qDG (base:=min i j) hw h3 h4 (by omega);refine ⟨_,rfl,?_⟩;generalize hb:min i j=base at *;generalize hT:signed s p (i-base).toNat+signed t q (j-base).toNat=total;have e3:total*(2 ^ base.toNat:Nat)=(m+n)*(2 ^ (-base).toNat:Nat):=by
  rw [<- hT,Int.add_mul,Int.add_mul,e1,e2]
 have hp:(0:Int)<(2 ^ base.toNat:Nat):=by have:=Nat.pow_pos (n:=base.toNat) (show 0<2 by omega);omega
 have hq:(0:Int)<(2 ^ (-base).toNat:Nat):=by have:=Nat.pow_pos (n:=(-base).toNat) (show 0<2 by omega);omega
 refine ⟨_,_,_,rfl,?_,?_,?_⟩
 ·have:=congrArg Int.natAbs e3;rw [Int.natAbs_mul,Int.natAbs_mul,Int.natAbs_natCast,Int.natAbs_natCast]at this;exact this
 ·intro h;by_cases h0:total=0
  ·rw [h0,Int.zero_mul]at e3;rcases Int.mul_eq_zero.1 e3.symm with h9|h9<;>omega
  ·rw [if_neg h0]at h;have hneg:total<0:=by simpa using h
   have h5:=Int.mul_neg_of_neg_of_pos hneg hp;rw [e3]at h5;rcases Int.lt_or_le 0 (m+n)with h6|h6
   ·have:=Int.mul_pos h6 hq;omega
   ·exact h6
 ·intro h;by_cases h0:total=0
  ·rw [h0,Int.zero_mul]at e3;rcases Int.mul_eq_zero.1 e3.symm with h9|h9<;>omega
  ·rw [if_neg h0]at h;have hpos:0<=total:=by
    have:¬ total<0:=by simpa using h
    omega
   have h5:=Int.mul_nonneg hpos (by omega:(0:Int)<=(2 ^ base.toNat:Nat));rw [e3]at h5;rcases Int.lt_or_le (m+n) 0 with h6|h6
   ·have:=Int.mul_neg_of_neg_of_pos h6 hq;omega
   ·exact h6
theorem qEb{x:Datum}{m:Int}(hx:Val x m):Val x.opposite (-m):=by
 obtain ⟨s,p,i,rfl,hv,h1,h2⟩:=hx;refine ⟨!s,p,i,rfl,by rw [Int.natAbs_neg];exact hv,λh=>?_,λh=>?_⟩
 ·have:=h2 (by cases s<;>simp_all);omega
 ·have:=h1 (by cases s<;>simp_all);omega
theorem qvO{x y:Datum}{m n:Int}(hx:Val x m)(hy:Val y n):∃d,x.product y=some d/\Val d (m*n):=by
 obtain ⟨s,p,i,rfl,hv,h1,h2⟩:=hx;obtain ⟨t,q,j,rfl,hw,h3,h4⟩:=hy;refine ⟨_,rfl,_,_,_,rfl,?_,λh=>?_,λh=>?_⟩
 ·rw [Int.natAbs_mul];refine Nat.eq_of_mul_eq_mul_right (Nat.pow_pos (n:=(-i).toNat+(-j).toNat) (show 0<2 by omega)) ?_;have a1:p*q*2 ^ (i+j).toNat*2 ^ ((-i).toNat+(-j).toNat)=(p*2 ^ i.toNat)*(q*2 ^ j.toNat)*2 ^ (-(i+j)).toNat:=by
   have b1:p*q*2 ^ (i+j).toNat*2 ^ ((-i).toNat+(-j).toNat)=p*q*2 ^ ((i+j).toNat+((-i).toNat+(-j).toNat)):=by rw [Nat.mul_assoc,<- Nat.pow_add]
   have b2:(p*2 ^ i.toNat)*(q*2 ^ j.toNat)*2 ^ (-(i+j)).toNat=p*q*2 ^ ((i.toNat+j.toNat)+(-(i+j)).toNat):=by
    rw [Nat.pow_add,Nat.pow_add];ac_rfl
   rw [b1,b2];congr 2;omega
  rw [a1,hv,hw];have b3:n.natAbs*2 ^ (-j).toNat=n.natAbs*2 ^ (-j).toNat:=rfl;rw [Nat.pow_add];ac_rfl
 ·cases s<;>cases t<;>simp at h
  ·exact Int.mul_nonpos_of_nonneg_of_nonpos (h2 rfl) (h3 rfl)
  ·exact Int.mul_nonpos_of_nonpos_of_nonneg (h1 rfl) (h4 rfl)
 ·cases s<;>cases t<;>simp at h
  ·exact Int.mul_nonneg (h2 rfl) (h4 rfl)
  ·exact Int.mul_nonneg_of_nonpos_of_nonpos (h1 rfl) (h3 rfl)
theorem qEM{a b:Nat}{m n:Int}(ha:IsF a m)(hb:IsF b n)(h:(m+n).natAbs<2 ^ 53):∃r,double.add a b=some r/\IsF r (m+n):=by
 obtain ⟨d,hd,hv⟩:=qBd ha hb;exact ⟨_,by unfold Format.add;rw [hd];rfl,qlr hv h⟩
theorem qFr{a b:Nat}{m n:Int}(ha:IsF a m)(hb:IsF b n)(h:(m-n).natAbs<2 ^ 53):∃r,double.sub a b=some r/\IsF r (m-n):=by
 obtain ⟨d,hd,hv⟩:=qBd ha (qEb hb);exact ⟨_,by unfold Format.sub;rw [hd];rfl,qlr hv h⟩
theorem qE9{a b:Nat}{m n:Int}(ha:IsF a m)(hb:IsF b n)(h:(m*n).natAbs<2 ^ 53):∃r,double.mul a b=some r/\IsF r (m*n):=by
 obtain ⟨d,hd,hv⟩:=qvO ha hb;exact ⟨_,by unfold Format.mul;rw [hd];rfl,qlr hv h⟩
theorem qD0(n:Int):Val (.number (n<0) n.natAbs 0) n:=⟨_,_,_,rfl,rfl,λh=>Int.le_of_lt (by simpa using h),λh=>Int.not_lt.1 (by simpa using h)⟩
theorem qw3{n:Int}(h:n.natAbs<2 ^ 53):IsF (double.write (.number (n<0) n.natAbs 0)) n:=qlr (qD0 n) h
theorem qBJ(neg:Bool){q d:Nat}:Toward.zero.cut neg (q*2 ^ d) d=q:=by
 unfold Toward.cut;simp only [Nat.one_shiftLeft,Bool.toNat_false,Nat.add_zero];by_cases hq:q=0
 ·rw [hq,Nat.zero_mul,Nat.zero_div]
 have hl:d<=(q*2 ^ d).log2:=by
  have hp:=Nat.mul_pos (Nat.pos_of_ne_zero hq) (Nat.pow_pos (n:=d) (show 0<2 by omega));rw [Nat.le_log2 (by omega)];exact Nat.le_mul_of_pos_left _ (Nat.pos_of_ne_zero hq)
 rw [show min d ((q*2 ^ d).log2+2)=d by omega];exact Nat.mul_div_cancel _ (Nat.pow_pos (by omega))
theorem qC4{d:Datum}{n:Int}(h:Val d n):d.toInt .zero=some n:=by
 obtain ⟨neg,mag,place,rfl,hv,h1,h2⟩:=h;unfold Datum.toInt Datum.integral;simp only
 have hc:Toward.zero.cut neg (mag <<< place.toNat) (-place).toNat=n.natAbs:=by
  rw [Nat.shiftLeft_eq,hv];exact qBJ neg
 rw [hc];unfold signed;rw [Nat.shiftLeft_zero];cases neg with
 |true=>have:=h1 rfl;simp only [if_true];congr 1;omega
 |false=>have:=h2 rfl;simp only [qf,if_false];congr 1;omega
end
end Go.Fl
end
section
namespace Go.Fl
open Go Ieee
theorem qog{a b:Nat}{m n:Int}(ha:IsF a m)(hb:IsF b n)(h:(m+n).natAbs<2 ^ 53):∃r,floatBits .add .f64 a b=some r/\IsF r (m+n):=qEM ha hb h
theorem qzE{a b:Nat}{m n:Int}(ha:IsF a m)(hb:IsF b n)(h:(m-n).natAbs<2 ^ 53):∃r,floatBits .sub .f64 a b=some r/\IsF r (m-n):=qFr ha hb h
theorem qkl{a b:Nat}{m n:Int}(ha:IsF a m)(hb:IsF b n)(h:(m*n).natAbs<2 ^ 53):∃r,floatBits .mul .f64 a b=some r/\IsF r (m*n):=qE9 ha hb h
theorem qDS{a b c d:Nat}{x y u v:Int}(ha:IsF a x)(hb:IsF b y)(hc:IsF c u)(hd:IsF d v)(h1:(x+u).natAbs<2 ^ 53)(h2:(y+v).natAbs<2 ^ 53) :
  ∃re im,cSumBits .add .f64 a b c d=some (re,im)/\IsF re (x+u)/\IsF im (y+v):=by
 obtain ⟨re,e1,r1⟩:=qog ha hc h1;obtain ⟨im,e2,r2⟩:=qog hb hd h2;exact ⟨re,im,by unfold cSumBits;rw [e1,qa,e2,qa],r1,r2⟩
theorem qDR{a b c d:Nat}{x y u v:Int}(ha:IsF a x)(hb:IsF b y)(hc:IsF c u)(hd:IsF d v)
  (h1:(x*u).natAbs<2 ^ 53) (h2:(y*v).natAbs<2 ^ 53) (h3:(x*u-y*v).natAbs<2 ^ 53) (h4:(x*v).natAbs<2 ^ 53) (h5:(y*u).natAbs<2 ^ 53) (h6:(x*v+y*u).natAbs<2 ^ 53) :
  ∃re im,cMulBits a b c d=some (re,im)/\IsF re (x*u-y*v)/\IsF im (x*v+y*u):=by
 obtain ⟨ac,e1,r1⟩:=qkl ha hc h1;obtain ⟨bd,e2,r2⟩:=qkl hb hd h2;obtain ⟨re,e3,r3⟩:=qzE r1 r2 h3;obtain ⟨ad,e4,r4⟩:=qkl ha hd h4;obtain ⟨bc,e5,r5⟩:=qkl hb hc h5;obtain ⟨im,e6,r6⟩:=qog r4 r5 h6;exact ⟨re,im,by unfold cMulBits;rw [e1,qa,e2,qa,e3,qa,e4,qa,e5,qa,e6,qa],r3,r6⟩
theorem qrH:IsF 0 0:=by
 have h:=qw3 (n:=0) (by decide);have e:double.write (.number (decide ((0:Int)<0)) (0:Int).natAbs 0)=0:=by decide
 rw [e]at h;exact h
theorem qyk{n:Int}(h:n.natAbs<2 ^ 53):IsF (FloatKind.f64.nearest n) n:=qw3 h
end Go.Fl
end
