/-
  ONE LAW OF A CHAPTER: its program side is run by an interpreter that is proved sound; what it computes is shown to be what the law says. No conditions. Part 4 of 8.
-/
import Derived.Test.YtofjnhppalciiaaMvc
import Ieee.Arith
import Derived.Laws.ComplexArith
set_option linter.unusedSimpArgs false
set_option linter.unusedVariables false
set_option linter.unnecessarySimpa false
section
namespace Go.Ab
open Go
section
variable {P:Program} {H:Hints} {f:FuncId} {C:Orc} {w w':World} {X X2:Cx}
theorem qnh{F:Fence}(hFF:F=Fence.wide\/∃l,F=Fence.wide.inRound l){ops:Array Oper}{Q:Exit->Act->World->Prop}{i:Nat}{o:Oper}{a:Act}{v:Value}{K:Act->World->Prop}(ho:ops[i]?=some o)(hg:o.guard=none)(hnd:∀c,o.op≠.defer c)
  (hr:(execOp a.eval o).run P w=.ok (.value v) w) (hK:K (a.put o.dst v) w):wpOpIn F 0 P ops Q i K a w:=by
 unfold wpOpIn;rw [ho];have hwant:Region.wanted o (yielded ops a.tmps)=true:=by unfold Region.wanted;rw [hg]
 simp only [hwant,if_true];refine ⟨λg _=>qf1 hFF g,?_⟩;rw [Oper.semAt_eq _ _ _ hnd,hr,Oper.uponIn_value];exact hK
theorem qAB{t:TypeId}{elem:TypeId}(hu:P.underlying t=some (.slice elem))(hs0:P.cellsOf elem≠0){A:Option Addr}{len cap n:Nat}{k:IntKind}(hn:n<=cap) :
  (Instr.sliceAt t (.slice A len cap) none (some (.int k (n:Int))) none).run P w=.ok (.slice A n cap) w:=by
 have hbo:=qdC (P:=P) (w:=w) (isSlice:=true) (len:=len) (cap:=cap) (a:=0) (b:=n) (m:=cap) (lo:=none) (hi:=some (.int k (n:Int))) (mx:=none) (.inl ⟨rfl,rfl⟩) (.inr ⟨k,rfl⟩) (.inl ⟨rfl,rfl⟩) (Nat.zero_le _) hn (Nat.le_refl _);simp [Instr.sliceAt,Instr.slice,run_underlying hu,hbo,qab hs0];intro hc;cases A with
 |none=>rfl
 |some a=>rfl
theorem qxw{t:TypeId}{elem:TypeId}(hu:P.underlying t=some (.slice elem))(hs0:P.cellsOf elem≠0){A:Addr}{len cap n:Nat}{k:IntKind}(hn:n<=len)(hc:len<=cap) :
  ∃A',(n<cap->A'=A.add (n*P.cellsOf elem))/\(Instr.sliceAt t (.slice (some A) len cap) (some (.int k (n:Int))) none none).run P w=.ok (.slice (some A') (len-n) (cap-n)) w:=by
 have hbo:=qdC (P:=P) (w:=w) (isSlice:=true) (len:=len) (cap:=cap) (a:=n) (b:=len) (m:=cap) (lo:=some (.int k (n:Int))) (hi:=none) (mx:=none) (.inr ⟨k,rfl⟩) (.inl ⟨rfl,rfl,rfl⟩) (.inl ⟨rfl,rfl⟩) hn hc (Nat.le_refl _);by_cases hcn:cap=n
 ·subst hcn;exact ⟨A,λh=>by omega,by simp [Instr.sliceAt,Instr.slice,run_underlying hu,hbo,qab hs0]⟩
 ·exact ⟨A.add (n*P.cellsOf elem),λ_=>rfl,by simp [Instr.sliceAt,Instr.slice,run_underlying hu,hbo,qab hs0,hcn]⟩
theorem qiq:∀(s:Nat) (l:List V) (vals:List Value) (O:List Nat),ownsL l=false->RepE w X s l vals O->O=[]
 |s,[],vals,O,_,h=>by simp only [RepE]at h;exact h.2
 |s,x::l,vals,O,ho,h=>by
  simp only [ownsL,Bool.or_eq_false_iff]at ho;simp only [RepE]at h;obtain ⟨u,vs,O1,O2,rfl,_,rfl,h1,h2⟩:=h;rw [rep_noowns x u O1 ho.1 h1,qiq s l vs O2 ho.2 h2];rfl
theorem qlM{B:List Nat}(hB:∀k∈B,∃e,X.ω k=some (e,false))(hd:Dom w X):Gone w X w X B:={
 wx:=⟨hB,λk e fz _ h=>⟨rfl,h⟩,rfl⟩
 none:=λk _ h=>⟨rfl,h⟩
 size:=Nat.le_refl _
 dom:=hd
 os:=rfl
 out:=rfl
 tape:=rfl}
theorem qqu{w0:World}{X0:Cx}{Md:Md}{m:Nat}{st:St}{a:Act}{O:Pl->List Nat}(h:Rel st a.tmps w X O)(hF:Fr w0 X0 Md m st w X O)(hz:m=0->∀b e fz,X0.ω b=some (e,fz)->fz=true)(hM:qbX w0 w X a.defers)(hL:st.L=[])(hnl:qca st.B=true)
  {t d:Tmp} {c:Bool} {l:List V} {v0:Value} {n s:Nat} (hr0:Rep w X (.sl .own c l) v0 (O (.tmp t))) (hn:n<=l.length) (hne:l.isEmpty=false) (hsf:softL l=false) (how:ownsL l=false) (hall:∀x∈l,x.cells.length=s) (hs0:s≠0) :
  ∃A len cap,v0=.slice A len cap/\n<=cap/\qew w0 X0 Md m (({st with E:=(st.E.map V.qbx).set t .undef,B:=qbN st.B}:St).put (some d) (qyi c l n)) (a.put (some d) (.slice A n cap)) w:=by
 have hown:=h.ownω (.tmp t);have hfin:∀(X2:Cx) (z:V) (v:Value) (Oz:List Nat),Gone w X w X2 (O (.tmp t))->Rep w X2 z v Oz->Lin Oz->(∀k∈Oz,k∈O (.tmp t))->z.qq=[]->qew w0 X0 Md m (({st with E:=(st.E.map V.qbx).set t .undef,B:=qbN st.B}:St).put (some d) z) (a.put (some d) v) w:=λX2 z v Oz hg hr hl hO hp=>by
  obtain ⟨O',hR',hF',hM'⟩:=qms (d:=some d) h hF hz hM hL hnl hg hr hl (λk hk=>.inl (hO k hk)) hp;exact ⟨X2,O',by rw [qbV];exact hR',hF',hM'⟩
 have hr1:=hr0;simp only [Rep]at hr1;obtain ⟨hnp,hr1⟩:=hr1;rcases hr1 with ⟨hl0,_⟩|⟨b,off,cap,s1,vals,O',rfl,hcap,hc,hlen,hs1,hxs,hsg,⟨e,fz,hω,hle,hfz,he,hsp,_⟩,hRE,hO,_⟩
 ·rw [hl0]at hne;cases hne
 ·subst hfz;have hss:s1=s:=by
   cases l with
   |nil=>cases hne
   |cons x l=>rw [<- hxs x (by simp),hall x (by simp)]
  subst hss;have hO':=qiq s1 l vals O' how hRE;subst hO';have hOt:O (.tmp t)=[b]:=hO trivial;refine ⟨_,_,cap,rfl,by omega,?_⟩;unfold qyi;split
  ·rename_i hn0;subst hn0;refine hfin X _ _ [] (qlM hown h.dom) ?_ Lin.nil (by simp) (by simp [V.qq]);simp only [Rep];exact ⟨rfl,.inl ⟨trivial,trivial,.inr ⟨by simp,_,cap,rfl,λhcc=>by cases hcc⟩⟩⟩
  ·rename_i hn0;split
   ·rename_i hnl';subst hnl';exact hfin X _ _ _ (qlM hown h.dom) hr0 (h.lin _) (λk hk=>hk) (by simp [V.qq])
   ·rename_i hnl';let X2:Cx:={β:=X.β,ω:=λk=>if k=b then some (off+n*s1,false)else X.ω k}
    have hwx:WroteX w X w X2 (O (.tmp t)):=⟨hown,λk e' fz' hk hω'=>⟨rfl,by
     rw [hOt]at hk;have:k≠b:=by simpa using hk
     simp [X2,this,hω']⟩,rfl⟩
    have hg:Gone w X w X2 (O (.tmp t)):={
     wx:=hwx
     none:=λk _ hω'=>⟨rfl,by
      have:k≠b:=λe'=>by subst e';rw [hω]at hω';cases hω'
      simp [X2,this,hω']⟩
     size:=Nat.le_refl _
     dom:=λk e' fz' hω'=>by
      simp only [X2]at hω';split at hω'
      ·rename_i hk;subst hk;exact h.dom k _ _ hω
      ·exact h.dom k e' fz' hω'
     os:=rfl
     out:=rfl
     tape:=rfl}
    refine hfin X2 _ _ [b] hg ?_ (by rw [<- hOt];exact h.lin _) (by rw [hOt];exact λk hk=>hk) (by simp [V.qq]);have hRE2:RepE w X2 s1 l vals []:=RepE.otherX hwx s1 l vals [] hsf (by simp) hRE;obtain ⟨A,B,hAB,hA,_⟩:=qg3 n hRE2;obtain ⟨rfl,rfl⟩:=List.append_eq_nil_iff.1 hAB.symm;have hlt:(l.take n).length=n:=by rw [List.length_take];omega
    have hvl:(vals.take (n*s1)).length=n*s1:=by
     rw [List.length_take,hlen];exact Nat.min_eq_left (Nat.mul_le_mul_right _ hn)
    simp only [Rep];refine ⟨(qdz n l hnp).1,.inr ⟨b,off,cap,s1,vals.take (n*s1),[],by rw [hlt],by omega,λhcc=>(by cases hcc),by rw [hvl,hlt],hs1,λx hx=>hxs x (List.mem_of_mem_take hx),?_,⟨off+n*s1,false,by simp [X2],by rw [hvl];exact Nat.le_refl _,rfl,by rw [hvl],hsp,λh0=>?_⟩,hA,λ_=>rfl,λhh=>absurd rfl hh⟩⟩
    ·intro i u hi;rw [List.getElem?_take]at hi;split at hi
     ·exact hsg i u hi
     ·cases hi
    ·rw [hvl]at h0;rcases Nat.mul_eq_zero.1 h0 with h1|h1
     ·exact absurd h1 hn0
     ·omega
theorem quy{ops:Array Oper}{ty:TypeId}{t i a b x d:Tmp}(h:qyh ops=some (ty,t,i,a,b,x,d)):∃m1 m2 s o,ops=#[m1,m2,s,o]/\m1.op=.move (.tmp t)/\m1.dst=some a/\m1.guard=none/\m2.op=.move (.tmp i)/\m2.dst=some b/\m2.guard=none /\
  s.op=.slice ty (.tmp a) none (some (.tmp b)) none/\s.dst=some x/\s.guard=none/\o.op=.assign (.tmp x)/\o.dst=some d/\o.guard=none/\qcb [t,i,a,b,x]=true/\d≠a/\d≠b/\d≠x/\d≠t/\d≠i:=by
 unfold qyh at h;split at h
 ·rename_i m1 m2 s o hops;split at h
  ·rename_i t' a' i' b' h1 h2 h3 h4 h5 h6;split at h
   ·rename_i ty' a2 b2 c2 c3 d2 g1 g2 g3 g4 g5 g6;split at h
    ·rename_i hc;simp only [qb,Prod.mk.injEq]at h;obtain ⟨rfl,rfl,rfl,rfl,rfl,rfl,rfl⟩:=h;obtain ⟨rfl,rfl,rfl,hnd,k1,k2,k3,k4,k5⟩:=hc;exact ⟨m1,m2,s,o,by apply Array.ext';simpa using hops,h1,h2,h3,h4,h5,h6,g1,g2,g3,g4,g5,g6,hnd,k1,k2,k3,k4,k5⟩
    ·cases h
   ·cases h
  ·cases h
 ·cases h
theorem qvb{F:Fence}{w0:World}{X0:Cx}{Md:Md}{m:Nat}(hFO:FOk F X0 Md m){id:Nat}{ops:Array Oper}{st st':St}{a0:Act}(hS:qew w0 X0 Md m st a0 w)(hx:qjE P ops st=some st') :
  (Code.region id ops false).wpIn F 0 P (λe' a' w'=>e'=.normal/\qew w0 X0 Md m st' a' w') a0 w:=by
 have hFF:=qeG hFO;unfold qjE at hx;split at hx
 ·rename_i ty t i a b x d hco;obtain ⟨m1,m2,s,o,rfl,hm1,hd1,hg1,hm2,hd2,hg2,hso,hsd,hsg,hoo,hod,hog,hnd,k1,k2,k3,k4,k5⟩:=quy hco;simp only [qcb,List.contains_cons,List.contains_nil,Bool.or_false,Bool.and_true,qe,Bool.not_eq_true',Bool.or_eq_false_iff,beq_eq_false_iff_ne,ne_eq]at hnd;obtain ⟨⟨n1,n2,n3,n4⟩,⟨n5,n6,n7⟩,⟨n8,n9⟩,n10⟩:=hnd;split at hx
  ·rename_i hc;simp only [qe,List.isEmpty_iff,decide_eq_true_eq]at hc;obtain ⟨⟨⟨⟨hL,hnl⟩,la⟩,lb⟩,lx⟩:=hc;split at hx
   ·rename_i elem c l kk n hu hEt hEi;split at hx
    ·rename_i hcond;obtain ⟨h0,hn,hne,hsf,how,hs0,hall⟩:=hcond;simp only [qb]at hx;subst hx;have hne':l.isEmpty=false:=hne;have hall':∀e∈l,e.cells.length=P.cellsOf elem:=by simpa [List.all_eq_true]using hall
     have hsz:a0.tmps.size=st.E.length:=by obtain ⟨X,O,h,_⟩:=hS;exact h.size
     obtain ⟨vt,hvt,hvi⟩:∃vt,a0.tmps.getD t undef=vt/\a0.tmps.getD i undef=.int kk n:=by
      obtain ⟨X,O,h,_⟩:=hS;obtain ⟨u,hu',hr⟩:=h.env i _ hEi;simp only [Rep]at hr;exact ⟨_,rfl,(qcS hu').trans hr.1⟩
     have hS1:=qgo hS (some a) vt;have hS2:=qgo hS1 (some b) (.int kk n);have ne:∀{p q:Tmp},¬ p=q->some q≠some p:=λh e=>h (Option.some.inj e).symm;have e1:(a0.put (some a) vt).tmps.getD i undef=.int kk n:=(qfg (ne n5)).trans hvi;have e2:((a0.put (some a) vt).put (some b) (.int kk n)).tmps.getD a undef=vt:=(qfg (ne n8)).trans (qcj (by rw [hsz];exact la));have e3:((a0.put (some a) vt).put (some b) (.int kk n)).tmps.getD b undef=.int kk n:=qcj (by
      have:(a0.put (some a) vt).tmps.size=a0.tmps.size:=by simp [Act.put]
      rw [this,hsz];exact lb)
     have hcut:∃A len cap,vt=.slice A len cap/\n.toNat<=cap/\∀a3:Act,a3.defers=a0.defers->a3.tmps=(((a0.put (some a) vt).put (some b) (.int kk n)).put (some x) (.slice A n.toNat cap)).tmps->qew w0 X0 Md m (({st with E:=((((st.E.set a .undef).set b .undef).set x .undef).map V.qbx).set t .undef,B:=qbN st.B}:St).put (some d) (qyi c l n.toNat)) (a3.put (some d) (.slice A n.toNat cap)) w:=by
      have pre:∀vx:Value,∃X O,Rel {st with E:=((st.E.set a .undef).set b .undef).set x .undef} (((a0.put (some a) vt).put (some b) (.int kk n)).put (some x) vx).tmps w X O/\Fr w0 X0 Md m {st with E:=((st.E.set a .undef).set b .undef).set x .undef} w X O/\qbX w0 w X a0.defers/\Rep w X (.sl .own c l) vt (O (.tmp t)):=λvx=>by
       obtain ⟨X,O,hR,hF,hM⟩:=qgo hS2 (some x) vx;refine ⟨X,O,hR,hF,hM,?_⟩;have hEt3:(((st.E.set a V.undef).set b V.undef).set x V.undef)[t]?=some (.sl .own c l):=by
        rw [List.getElem?_set_ne (Ne.symm n4),List.getElem?_set_ne (Ne.symm n3),List.getElem?_set_ne (Ne.symm n2)];exact hEt
       obtain ⟨u,hu',hr⟩:=hR.env t _ hEt3;have:u=vt:=by
        have h1:(((a0.put (some a) vt).put (some b) (.int kk n)).put (some x) vx).tmps.getD t undef=vt:=(qfg (ne n4)).trans ((qfg (ne n3)).trans ((qfg (ne n2)).trans hvt));exact (qcS hu').symm.trans h1
       rw [this]at hr;exact hr
      obtain ⟨X,O,hR,hF,hM,hr0⟩:=pre undef;obtain ⟨A,len,cap,hv,hcap,_⟩:=qqu (d:=d) hR hF (λh0=>hFO.2 h0) hM hL hnl hr0 hn hne' hsf how hall' hs0;refine ⟨A,len,cap,hv,hcap,λa3 hd3 ht3=>?_⟩;obtain ⟨X,O,hR,hF,hM,hr0⟩:=pre (.slice A n.toNat cap);rw [<- ht3]at hR;rw [<- hd3]at hM;obtain ⟨A2,len2,cap2,hv2,_,hfin⟩:=qqu (d:=d) hR hF (λh0=>hFO.2 h0) hM hL hnl hr0 hn hne' hsf how hall' hs0;rw [hv]at hv2;cases hv2;exact hfin
     obtain ⟨A,len,cap,rfl,hcap,hfin⟩:=hcut;refine wpIn_region ?_;have hr:List.range (#[m1,m2,s,o]:Array Oper).size=[0,1,2,3]:=rfl;rw [hr,wpOpsIn_cons];refine qnh hFF (o:=m1) (v:=.slice A len cap) rfl hg1 (λc hc=>by rw [hm1]at hc;cases hc) (by simp only [execOp,hm1,Sem.run_pure];rw [show a0.eval (.tmp t)=.slice A len cap from hvt]) ?_;rw [hd1,wpOpsIn_cons];refine qnh hFF (o:=m2) (v:=.int kk n) rfl hg2 (λc hc=>by rw [hm2]at hc;cases hc) (by simp only [execOp,hm2,Sem.run_pure];rw [show (a0.put (some a) (.slice A len cap)).eval (.tmp i)=.int kk n from e1]) ?_;rw [hd2,wpOpsIn_cons];refine qnh hFF (o:=s) (v:=.slice A n.toNat cap) rfl hsg (λc hc=>by rw [hso]at hc;cases hc) (by
      have hn':(n.toNat:Int)=n:=by omega
      have:=qAB (P:=P) (w:=w) hu hs0 (A:=A) (len:=len) (cap:=cap) (n:=n.toNat) (k:=kk) hcap;rw [hn']at this;simp only [execOp,hso,Option.map_none,qi];rw [show ((a0.put (some a) (.slice A len cap)).put (some b) (.int kk n)).eval (.tmp a)=.slice A len cap from e2,show ((a0.put (some a) (.slice A len cap)).put (some b) (.int kk n)).eval (.tmp b)=.int kk n from e3];simp only [Sem.run_bind,this,Result.andThen_ok,Sem.run_pure]) ?_
     rw [hsd,wpOpsIn_cons];refine qnh hFF (o:=o) (v:=.slice A n.toNat cap) rfl hog (λc hc=>by rw [hoo]at hc;cases hc) (by
      simp only [execOp,hoo,Sem.run_pure];have:(((a0.put (some a) (.slice A len cap)).put (some b) (.int kk n)).put (some x) (.slice A n.toNat cap)).eval (.tmp x)=.slice A n.toNat cap:=qcj (by
       have:((a0.put (some a) (.slice A len cap)).put (some b) (.int kk n)).tmps.size=a0.tmps.size:=by simp [Act.put]
       rw [this,hsz];exact lx)
      rw [this]) ?_
     rw [hod];exact ⟨rfl,hfin _ rfl rfl⟩
    ·cases hx
   ·cases hx
  ·cases hx
 ·cases hx
theorem qvz{z:Value}{s k:Nat}(hz:z.cells.size=s)(hs:0<s):(Builtin.zeroCells z.cells k).toList=(List.replicate k z.cells.toList).flatten:=by
 have:=cyc z.cells.toList (by simpa [hz]using hs) k;simpa [Builtin.zeroCells]using this
theorem qqs{w0:World}{X0:Cx}{Md:Md}{m:Nat}{st:St}{a:Act}{O:Pl->List Nat}(h:Rel st a.tmps w X O)(hF:Fr w0 X0 Md m st w X O)(hz:m=0->∀b e fz,X0.ω b=some (e,fz)->fz=true)(hM:qbX w0 w X a.defers)(hL:st.L=[])(hnl:qca st.B=true)
  {t:Tmp} {c:Bool} {l:List V} {v0:Value} {n s:Nat} (hEt:st.E[t]?=some (.sl .own c l)) (hv0:a.tmps[t]?=some v0) (hr0:Rep w X (.sl .own c l) v0 (O (.tmp t))) (hn:n<=l.length) (hne:l.isEmpty=false) (hsf:softL l=false) (how:ownsL l=false) (hall:∀x∈l,x.cells.length=s) (hs0:s≠0)
  {zv:V} {z:Value} (hzr:∀(w:World) (X:Cx),Rep w X zv z []) (hzs:z.cells.size=s) (hzo:∀u∈z.cells.toList,u.oneCell'=true) (hzp:zv.qq=[]) (hzc:zv.cells.length=s) :
  ∃A len cap,v0=.slice (some A) len cap/\n<=len/\len<=cap/\∀A',(n<cap->A'=A.add (n*s))->∃w',(len-n=0->w'=w)/\(len-n≠0->(storeCells A' (Builtin.zeroCells z.cells (len-n)).toList).run P w=.ok () w') /\
   qew w0 X0 Md m {st with E:=(st.E.map V.qbx).set t (.sl .own c (l.take n++List.replicate (l.length-n) zv)),B:=qbN st.B} a w':=by
 have hown:=h.ownω (.tmp t);have hlt:t<st.E.length:=(qm.1 hEt).1;have hfin:∀(w':World) (zz:V),Gone w X w' X (O (.tmp t))->Rep w' X zz v0 (O (.tmp t))->zz.qq=[]->qew w0 X0 Md m {st with E:=(st.E.map V.qbx).set t zz,B:=qbN st.B} a w':=λw' zz hg hr hp=>by
  obtain ⟨O',hR',hF',hM'⟩:=qms (d:=some t) h hF hz hM hL hnl hg hr (h.lin _) (λk hk=>.inl hk) hp;have e1:(({st with E:=(st.E.map V.qbx).set t .undef,B:=qbN st.B}:St).put (some t) zz)={st with E:=(st.E.map V.qbx).set t zz,B:=qbN st.B}:=by
   simp only [St.put,List.set_set]
  have e2:qmG a.tmps (some t) v0=a.tmps:=by
   simp only [qmG];apply Array.ext_getElem?;intro i;by_cases hi:t=i
   ·subst hi;have hlt':t<a.tmps.size:=(Array.getElem?_eq_some_iff.1 hv0).1;rw [Array.getElem?_setIfInBounds_self,if_pos hlt',hv0]
   ·rw [Array.getElem?_setIfInBounds_ne hi]
  rw [e1]at hR' hF';rw [e2]at hR';exact ⟨X,O',hR',hF',hM'⟩
 have hr1:=hr0;simp only [Rep]at hr1;obtain ⟨hnp,hr1⟩:=hr1;rcases hr1 with ⟨hl0,_⟩|⟨b,off,cap,s1,vals,O',rfl,hcap,hc,hlen,hs1,hxs,hsg,⟨e,fz,hω,hle,hfz,he,⟨arr,ty,harr,hsp⟩,hn0⟩,hRE,hO,_⟩
 ·rw [hl0]at hne;cases hne
 ·subst hfz;have hss:s1=s:=by
   cases l with
   |nil=>cases hne
   |cons x l=>rw [<- hxs x (by simp),hall x (by simp)]
  subst hss;have hO':=qiq s1 l vals O' how hRE;subst hO';have hOt:O (.tmp t)=[b]:=hO trivial;refine ⟨_,_,cap,rfl,hn,hcap,λA' hA'=>?_⟩;by_cases hk:l.length-n=0
  ·refine ⟨w,λ_=>rfl,λhh=>absurd hk hh,?_⟩;have:l.take n++List.replicate (l.length-n) zv=l:=by rw [hk,List.replicate_zero,List.append_nil,List.take_of_length_le (by omega)]
   rw [this];exact hfin w _ (qlM hown h.dom) hr0 (by simp [V.qq])
  ·have hA:=hA' (by omega);have hAA:A'=⟨b,off+n*s1,none⟩:=by
    rw [hA];unfold Addr.add;split
    ·rename_i h0;rw [h0];rfl
    ·rfl
   subst hAA;have hzl:=qvz (k:=l.length-n) hzs hs1;have hzlen:((List.replicate (l.length-n) z.cells.toList).flatten).length=(l.length-n)*s1:=by simp [List.length_flatten,hzs]
   have hmul:n*s1+(l.length-n)*s1=l.length*s1:=by rw [<- Nat.add_mul,Nat.add_sub_cancel' hn]
   have hcs:l.length*s1<=cap*s1:=Nat.mul_le_mul_right _ hcap;have hfit:off+n*s1+((List.replicate (l.length-n) z.cells.toList).flatten).length<=arr.size:=by rw [hzlen];omega
   have hones:∀u∈(List.replicate (l.length-n) z.cells.toList).flatten,u.oneCell'=true:=λu hu=>by
    obtain ⟨q,hq,hu⟩:=List.mem_flatten.1 hu;rw [List.eq_of_mem_replicate hq]at hu;exact hzo u hu
   have hst:=run_storeCells_at (P:=P) b (off+n*s1) ty _ 0 arr w harr (by simpa using hfit) hones;simp only [Nat.add_zero]at hst;obtain ⟨hW,hcell,hobj⟩:=qni (X:=X) (k:=off+n*s1) (yv:=(List.replicate (l.length-n) z.cells.toList).flatten) ⟨e,hω⟩ harr hfit;refine ⟨w.setRow b (rowAt arr (off+n*s1) (List.replicate (l.length-n) z.cells.toList).flatten),λhh=>absurd hh hk,λ_=>by rw [hzl];exact hst,?_⟩;have hsz:(w.setRow b (rowAt arr (off+n*s1) (List.replicate (l.length-n) z.cells.toList).flatten)).heap.size=w.heap.size:=by simp [World.setRow]
   refine hfin _ _ {wx:=⟨hown,λk e' fz' hk' hω'=>⟨hW.kept k (λe=>hk' (by rw [hOt,e];simp)),hω'⟩,rfl⟩,none:=λk _ hω'=>⟨hW.kept k (λe'=>by rw [e',hω]at hω';cases hω'),hω'⟩,size:=by rw [hsz];exact Nat.le_refl _,dom:=λk e' fz' hω'=>by rw [hsz];exact h.dom k e' fz' hω',os:=rfl,out:=rfl,tape:=rfl} ?_ (by simp [V.qq]);obtain ⟨A,B,hAB,hA1,_⟩:=qg3 n (RepE.other hW s1 l vals [] hsf (by simp) hRE);obtain ⟨rfl,rfl⟩:=List.append_eq_nil_iff.1 hAB.symm;have hlen':(l.take n++List.replicate (l.length-n) zv).length=l.length:=by rw [List.length_append,List.length_take,List.length_replicate];omega
   have hvl:(vals.take (n*s1)).length=n*s1:=by
    rw [List.length_take,hlen];exact Nat.min_eq_left (Nat.mul_le_mul_right _ hn)
   have hv2:(vals.take (n*s1)++(List.replicate (l.length-n) z.cells.toList).flatten).length=l.length*s1:=by rw [List.length_append,hvl,hzlen];exact hmul
   rw [hOt];simp only [Rep];rw [hlen'];refine ⟨by rw [q9,(qdz n l hnp).1,qeQ hzp];rfl,.inr ⟨b,off,cap,s1,vals.take (n*s1)++(List.replicate (l.length-n) z.cells.toList).flatten,[],rfl,hcap,hc,hv2,hs1,λx hx=>?_,λi u hi=>?_,⟨e,false,hω,by rw [hv2,<- hlen];exact hle,rfl,by rw [hv2,<- hlen];exact he,?_,λh0=>hn0 (by rw [hv2,<- hlen]at h0;exact h0)⟩,by have:=qeR hA1 (qfp (w:=w.setRow b (rowAt arr (off+n*s1) (List.replicate (l.length-n) z.cells.toList).flatten)) (X:=X) hzs (hzr _ _) (l.length-n));simpa using this,λ_=>rfl,λhh=>absurd rfl hh⟩⟩
   ·rcases qj.1 hx with h1|h1
    ·exact hxs x (List.mem_of_mem_take h1)
    ·rw [List.eq_of_mem_replicate h1];exact hzc
   ·rw [hcell];rw [List.getElem?_append]at hi;split at hi
    ·rename_i hlt';rw [hvl]at hlt';rw [if_neg (by omega)];rw [List.getElem?_take,if_pos hlt']at hi;exact hsg i u hi
    ·rename_i hge;rw [hvl]at hge hi;have:=(qm.1 hi).1;rw [if_pos ⟨by omega,by omega⟩,show off+i-(off+n*s1)=i-n*s1 by omega];exact hi
   ·obtain ⟨c',h1,h2⟩:=hobj arr ty harr;exact ⟨c',ty,h1,by rw [h2];exact hsp⟩
theorem qux{ops:Array Oper}{ty ty2:TypeId}{t i a b x:Tmp}(h:qyg ops=some (ty,ty2,t,i,a,b,x)):∃m1 m2 s o,ops=#[m1,m2,s,o]/\m1.op=.move (.tmp t)/\m1.dst=some a/\m1.guard=none/\m2.op=.move (.tmp i)/\m2.dst=some b/\m2.guard=none /\
  s.op=.slice ty (.tmp a) (some (.tmp b)) none none/\s.dst=some x/\s.guard=none/\o.op=.call {callee:=.builtin .clear,args:=#[.tmp x],argTypes:=#[ty2]}/\o.dst=none/\o.guard=none/\qcb [t,i,a,b,x]=true:=by
 unfold qyg at h;split at h
 ·rename_i m1 m2 s o hops;split at h
  ·rename_i t' a' i' b' h1 h2 h3 h4 h5 h6;split at h
   ·rename_i ty' a2 b2 c2 args argTypes g1 g2 g3 g4 g5 g6;split at h
    ·rename_i c3 ty3 hargs hty;split at h
     ·rename_i hc;simp only [qb,Prod.mk.injEq]at h;obtain ⟨rfl,rfl,rfl,rfl,rfl,rfl,rfl⟩:=h;obtain ⟨rfl,rfl,rfl,hnd⟩:=hc;obtain ⟨al⟩:=args;obtain ⟨tl⟩:=argTypes;simp only at hargs hty;subst hargs;subst hty;exact ⟨m1,m2,s,o,by apply Array.ext';simpa using hops,h1,h2,h3,h4,h5,h6,g1,g2,g3,g4,g5,g6,hnd⟩
     ·cases h
    ·cases h
   ·cases h
  ·cases h
 ·cases h
theorem qva{F:Fence}{w0:World}{X0:Cx}{Md:Md}{m:Nat}(hFO:FOk F X0 Md m){id:Nat}{ops:Array Oper}{st st':St}{a0:Act}(hS:qew w0 X0 Md m st a0 w)(hx:qjD P H f ops st=some st') :
  (Code.region id ops false).wpIn F 0 P (λe' a' w'=>e'=.normal/\qew w0 X0 Md m st' a' w') a0 w:=by
 have hFF:=qeG hFO;unfold qjD at hx;split at hx
 ·rename_i ty ty2 t i a b x hco;obtain ⟨m1,m2,s,o,rfl,hm1,hd1,hg1,hm2,hd2,hg2,hso,hsd,hsg,hoo,hod,hog,hnd⟩:=qux hco;simp only [qcb,List.contains_cons,List.contains_nil,Bool.or_false,Bool.and_true,qe,Bool.not_eq_true',Bool.or_eq_false_iff,beq_eq_false_iff_ne,ne_eq]at hnd;obtain ⟨⟨n1,n2,n3,n4⟩,⟨n5,n6,n7⟩,⟨n8,n9⟩,n10⟩:=hnd;split at hx
  ·rename_i hc;simp only [qe,List.isEmpty_iff,decide_eq_true_eq]at hc;obtain ⟨⟨⟨⟨hL,hnl⟩,la⟩,lb⟩,lx⟩:=hc;split at hx
   ·rename_i elem elem2 c l kk n hu hu2 hEt hEi;split at hx
    ·rename_i z zv hz hzv;split at hx
     ·rename_i hcond;obtain ⟨rfl,h0,hn,hne',hsf,how,hs0,hall,hzs,hzok⟩:=hcond;simp only [qb]at hx;subst hx;have hall':∀e∈l,e.cells.length=P.cellsOf elem2:=by simpa [List.all_eq_true]using hall
      have hsz:a0.tmps.size=st.E.length:=by obtain ⟨X,O,h,_⟩:=hS;exact h.size
      have hzvz:zv=ofConst (H.precise f) z:=by
       unfold zeroOf at hzv;rw [hz]at hzv;simpa using hzv.symm
      have hzr:∀(w:World) (X:Cx),Rep w X zv z []:=λw X=>by rw [hzvz];exact qeS _ _
      have hS':=hS;obtain ⟨X00,O00,hR00,_⟩:=hS';obtain ⟨hzcells,hzones⟩:=qcg hzok (hzr w X00);have hzc:zv.cells.length=P.cellsOf elem2:=by rw [qE _ _ _ hzcells,<- hzs];simp
      have hzp:zv.qq=[]:=by rw [hzvz];exact qce _ _
      obtain ⟨vt,hvt,hvi⟩:∃vt,a0.tmps.getD t undef=vt/\a0.tmps.getD i undef=.int kk n:=by
       obtain ⟨u,hu',hr⟩:=hR00.env i _ hEi;simp only [Rep]at hr;exact ⟨_,rfl,(qcS hu').trans hr.1⟩
      have ne:∀{p q:Tmp},¬ p=q->some q≠some p:=λh e=>h (Option.some.inj e).symm;have e1:(a0.put (some a) vt).tmps.getD i undef=.int kk n:=(qfg (ne n5)).trans hvi;have e2:((a0.put (some a) vt).put (some b) (.int kk n)).tmps.getD a undef=vt:=(qfg (ne n8)).trans (qcj (by rw [hsz];exact la));have e3:((a0.put (some a) vt).put (some b) (.int kk n)).tmps.getD b undef=.int kk n:=qcj (by
       have:(a0.put (some a) vt).tmps.size=a0.tmps.size:=by simp [Act.put]
       rw [this,hsz];exact lb)
      have hS2:=qgo (qgo hS (some a) vt) (some b) (.int kk n);have hEt3:(((st.E.set a V.undef).set b V.undef).set x V.undef)[t]?=some (.sl .own c l):=by
       rw [List.getElem?_set_ne (Ne.symm n4),List.getElem?_set_ne (Ne.symm n3),List.getElem?_set_ne (Ne.symm n2)];exact hEt
      have pre:∀vx:Value,∃X O,Rel {st with E:=((st.E.set a .undef).set b .undef).set x .undef} (((a0.put (some a) vt).put (some b) (.int kk n)).put (some x) vx).tmps w X O/\Fr w0 X0 Md m {st with E:=((st.E.set a .undef).set b .undef).set x .undef} w X O/\qbX w0 w X a0.defers /\
        (((a0.put (some a) vt).put (some b) (.int kk n)).put (some x) vx).tmps[t]?=some vt/\Rep w X (.sl .own c l) vt (O (.tmp t)):=λvx=>by
       obtain ⟨X,O,hR,hF,hM⟩:=qgo hS2 (some x) vx;obtain ⟨u,hu',hr⟩:=hR.env t _ hEt3;have huv:u=vt:=by
        have h1:(((a0.put (some a) vt).put (some b) (.int kk n)).put (some x) vx).tmps.getD t undef=vt:=(qfg (ne n4)).trans ((qfg (ne n3)).trans ((qfg (ne n2)).trans hvt));exact (qcS hu').symm.trans h1
       rw [huv]at hr hu';exact ⟨X,O,hR,hF,hM,hu',hr⟩
      obtain ⟨X1,O1,hR1,hF1,hM1,hu1,hr1⟩:=pre undef;obtain ⟨A,len,cap,rfl,hnlen,hcap,_⟩:=qqs (P:=P) (a:=((a0.put (some a) vt).put (some b) (.int kk n)).put (some x) undef) hR1 hF1 (λh0=>hFO.2 h0) hM1 hL hnl hEt3 hu1 hr1 hn hne' hsf how hall' hs0 hzr hzs hzones hzp hzc;obtain ⟨A',hA',hrunS⟩:=qxw (P:=P) (w:=w) hu hs0 (A:=A) (k:=kk) hnlen hcap;have hn':(n.toNat:Int)=n:=by omega
      rw [hn']at hrunS;obtain ⟨X2,O2,hR2,hF2,hM2,hv2,hr2⟩:=pre (.slice (some A') (len-n.toNat) (cap-n.toNat));obtain ⟨A2,len2,cap2,he2,_,_,hfin⟩:=qqs (P:=P) (a:=((a0.put (some a) (.slice (some A) len cap)).put (some b) (.int kk n)).put (some x) (.slice (some A') (len-n.toNat) (cap-n.toNat))) hR2 hF2 (λh0=>hFO.2 h0) hM2 hL hnl hEt3 hv2 hr2 hn hne' hsf how hall' hs0 hzr hzs hzones hzp hzc;cases he2;obtain ⟨w',hw0,hw1,hSf⟩:=hfin A' hA';refine wpIn_region ?_;have hr:List.range (#[m1,m2,s,o]:Array Oper).size=[0,1,2,3]:=rfl;rw [hr,wpOpsIn_cons];refine qnh hFF (o:=m1) (v:=.slice (some A) len cap) rfl hg1 (λc hc=>by rw [hm1]at hc;cases hc) (by simp only [execOp,hm1,Sem.run_pure];rw [show a0.eval (.tmp t)=.slice (some A) len cap from hvt]) ?_;rw [hd1,wpOpsIn_cons];refine qnh hFF (o:=m2) (v:=.int kk n) rfl hg2 (λc hc=>by rw [hm2]at hc;cases hc) (by simp only [execOp,hm2,Sem.run_pure];rw [show (a0.put (some a) (.slice (some A) len cap)).eval (.tmp i)=.int kk n from e1]) ?_;rw [hd2,wpOpsIn_cons];refine qnh hFF (o:=s) (v:=.slice (some A') (len-n.toNat) (cap-n.toNat)) rfl hsg (λc hc=>by rw [hso]at hc;cases hc) (by
       simp only [execOp,hso,Option.map_none,qi];rw [show ((a0.put (some a) (.slice (some A) len cap)).put (some b) (.int kk n)).eval (.tmp a)=.slice (some A) len cap from e2,show ((a0.put (some a) (.slice (some A) len cap)).put (some b) (.int kk n)).eval (.tmp b)=.int kk n from e3];simp only [Sem.run_bind,hrunS,Result.andThen_ok,Sem.run_pure]) ?_
      rw [hsd,wpOpsIn_cons];have hevx:(((a0.put (some a) (.slice (some A) len cap)).put (some b) (.int kk n)).put (some x) (.slice (some A') (len-n.toNat) (cap-n.toNat))).eval (.tmp x)=.slice (some A') (len-n.toNat) (cap-n.toNat):=qcj (by
       have:((a0.put (some a) (.slice (some A) len cap)).put (some b) (.int kk n)).tmps.size=a0.tmps.size:=by simp [Act.put]
       rw [this,hsz];exact lx)
      generalize (((a0.put (some a) (.slice (some A) len cap)).put (some b) (.int kk n)).put (some x) (.slice (some A') (len-n.toNat) (cap-n.toNat)))=a3 at hSf hevx ⊢;unfold wpOpIn;have ho3:(#[m1,m2,s,o]:Array Oper)[3]?=some o:=rfl;rw [ho3];have hwant:Region.wanted o (yielded #[m1,m2,s,o] a3.tmps)=true:=by unfold Region.wanted;rw [hog]
      simp only [hwant,if_true];refine ⟨λg _=>qf1 hFF g,?_⟩;rw [Oper.semAt_eq _ _ _ (by intro c hc;rw [hoo]at hc;cases hc)];have hrun4:(execOp a3.eval o).run P w=.ok (.value (.tuple #[])) w':=by
       have hzv0:(zeroValue elem2).run P w=.ok z w:=by
        obtain ⟨inf,hi1,hi2⟩:=qd.1 hz;simp only [zeroValue,typeInfo,Sem.run_bind,run_program,Result.andThen_ok,hi1,hi2,Sem.run_pure]
       have hex:(execOp a3.eval o).run P w=(do pure (Next.value (<- Builtin.clear_ #[ty2] o.type #[a3.eval (.tmp x)])):Sem Next).run P w:=by
        simp only [execOp,hoo,resolve,Sem.run_bind,Sem.run_pure,Result.andThen_ok,invoke,builtin];simp
       rw [hex,hevx];by_cases hk:len-n.toNat=0
       ·rw [hw0 hk,hk];simp [Builtin.clear_,run_underlying hu2]
       ·have h1:=hw1 hk;obtain ⟨q,hq⟩:∃q,len-n.toNat=q+1:=⟨len-n.toNat-1,by omega⟩
        rw [hq]at h1 ⊢;simp [Builtin.clear_,run_underlying hu2,hzv0,h1]
      rw [hrun4,Oper.uponIn_value,hod];exact ⟨rfl,hSf⟩
     ·cases hx
    ·cases hx
   ·cases hx
  ·cases hx
 ·cases hx
theorem qxl(hC:OrcOk P C){F:Fence}{w0:World}{X0:Cx}{Md:Md}{n:Nat}(hFO:FOk F X0 Md n){bid id:Nat}{ops:Array Oper}{draw:Bool}{st st':St}{e:Ex}{a:Act}(hS:qew w0 X0 Md n st a w)
  {st0:St} (hcl:st0.clear (H.pre f id)=some st) (hsp:¬ H.sp f id=0) (hx:ex P H C f bid (.region id ops draw) st0=some (e,st')):(Code.region id ops draw).wpIn F 0 P (λe' a' w'=>e'=e.qoS/\qew w0 X0 Md n st' a' w') a w:=by
 simp only [ex,hcl,if_neg hsp]at hx;unfold qoo at hx;split at hx
 ·cases hx
 ·rename_i hdr;have hdr:draw=false:=by simpa using hdr
  subst hdr;split at hx
  ·obtain ⟨s,h1,h2⟩:=qc.1 hx;simp only [Prod.mk.injEq]at h2;obtain ⟨rfl,rfl⟩:=h2;exact wpIn_region (qwj hC hFO _ st s a w hS h1 λa' w' hS'=>⟨rfl,hS'⟩)
  ·obtain ⟨s,h1,h2⟩:=qc.1 hx;simp only [Prod.mk.injEq]at h2;obtain ⟨rfl,rfl⟩:=h2;exact qva hFO hS h1
  ·obtain ⟨s,h1,h2⟩:=qc.1 hx;simp only [Prod.mk.injEq]at h2;obtain ⟨rfl,rfl⟩:=h2;exact qvb hFO hS h1
  ·cases hx
end
section
variable {P:Program} {H:Hints} {f:FuncId} {C:Orc} {w:World} {X:Cx}
theorem qAe(hC:OrcOk P C)(hm:P.follows .mixedOrders=true)(hT:qoC P H):∀(c:Code) (bid:Nat) (st:St) (e:Ex) (st':St),ex P H C f bid c st=some (e,st')->qvH P c st e st':=by
 intro c;induction c with
 |skip =>
  intro bid st e st' hx F w0 X0 Md n a w hF hS;simp only [ex,qb,Prod.mk.injEq]at hx;obtain ⟨rfl,rfl⟩:=hx;exact wpIn_skip ⟨rfl,hS⟩
 |region id ops draw =>
  intro bid st e st' hx F w0 X0 Md n a w hF hS;cases hcl:st.clear (H.pre f id)with
  |none=>simp only [ex,hcl]at hx;cases hx
  |some st1 =>
  replace hS:=qhi hS hcl
  by_cases hsp:H.sp f id=0
  case neg=>exact qxl hC hF hS hcl hsp hx
  cases hnt:qgy H ops draw with
  |some p=>exact qsR hT hF hS hcl hnt hsp hx
  |none =>
  cases hls:qsn H f ops with
  |true=>cases hpe:(H.perm f id).isEmpty with
   |true=>exact qxj hC hm hF hS hcl hnt hls hpe hsp hx
   |false=>exact qsQ hC hm hF hS hcl hnt hls hpe hsp hx
  |false =>
  obtain ⟨X,Md2,hS2,_,_,lift⟩:=qzK hS;refine wpIn_mono (qxk hC hm hF.qyo hS2 hcl hnt hls hsp hx) ?_;rintro e' a' w' ⟨rfl,hd,hS'⟩;have:=lift _ _ _ hS';rw [<- hd]at this;exact ⟨rfl,this⟩
 |seq x y ihx ihy =>
  intro bid st e st' hx F w0 X0 Md n a w hF hS;simp only [ex]at hx;refine wpIn_seq ?_;cases h1:ex P H C f bid x st with
  |none=>rw [h1]at hx;cases hx
  |some p =>
   obtain ⟨e1,s⟩:=p;rw [h1]at hx;refine wpIn_mono (ihx bid st e1 s h1 F w0 X0 Md n a w hF hS).wp ?_;rintro e' a' w' ⟨rfl,hS'⟩;cases e1 with
   |normal=>exact (ihy bid s e st' hx F w0 X0 Md n a' w' hF hS').wp
   |exit id=>simp only [qb,Prod.mk.injEq]at hx;obtain ⟨rfl,rfl⟩:=hx;exact ⟨rfl,hS'⟩
   |ret=>simp only [qb,Prod.mk.injEq]at hx;obtain ⟨rfl,rfl⟩:=hx;exact ⟨rfl,hS'⟩
 |cond c x y ihx ihy =>
  intro bid st e st' hx F w0 X0 Md n a w hF hS;simp only [ex]at hx;split at hx
  ·rename_i t ht;have hev:a.eval c=.bool t:=by
    obtain ⟨X,O,hR,_⟩:=hS;have:=qn9 (H:=H) (f:=f) hR c;rw [ht]at this;simp only [Rep]at this;exact this.1
   refine wpIn_cond hev ?_;cases t with
   |true=>exact (ihx bid st e st' hx F w0 X0 Md n a w hF hS).wp
   |false=>exact (ihy bid st e st' hx F w0 X0 Md n a w hF hS).wp
  ·cases hx
 |block id c ih =>
  intro bid st e st' hx F w0 X0 Md n a w hF hS;simp only [ex]at hx;refine wpIn_block ?_;cases h1:ex P H C f id c st with
  |none=>rw [h1]at hx;cases hx
  |some p =>
   obtain ⟨e1,s⟩:=p;rw [h1]at hx;refine wpIn_mono (ih id st e1 s h1 F w0 X0 Md n a w hF hS).wp ?_;rintro e' a' w' ⟨rfl,hS'⟩;cases e1 with
   |normal=>simp only [qb,Prod.mk.injEq]at hx;obtain ⟨rfl,rfl⟩:=hx;exact ⟨rfl,hS'⟩
   |ret=>simp only [qb,Prod.mk.injEq]at hx;obtain ⟨rfl,rfl⟩:=hx;exact ⟨rfl,hS'⟩
   |exit i =>
    simp only at hx;simp only [Ex.qoS,Exit.inBlock];by_cases hi:i=id
    ·rw [if_pos hi]at hx ⊢;simp only [qb,Prod.mk.injEq]at hx;obtain ⟨rfl,rfl⟩:=hx;exact ⟨rfl,hS'⟩
    ·rw [if_neg hi]at hx ⊢;simp only [qb,Prod.mk.injEq]at hx;obtain ⟨rfl,rfl⟩:=hx;exact ⟨rfl,hS'⟩
 |loop c ih =>
  intro bid st e st' hx F w0 X0 Md n a w hF hS;simp only [ex]at hx;split at hx
  ·rename_i st1 hcl;have hS1:=qhi hS hcl;refine qgD.close ?_;cases h1:ex P H C f bid c st1 with
   |none=>rw [h1]at hx;cases hx
   |some p =>
    obtain ⟨e1,s⟩:=p;rw [h1]at hx;refine wpIn_mono (ih bid st1 e1 s h1 F w0 X0 Md n a w hF hS1).wp ?_;rintro e' a' w' ⟨rfl,hS'⟩;cases e1 with
    |normal=>exact hC.code _ _ _ _ _ _ hx F w0 X0 Md n a' w' hF hS'
    |exit id=>simp only [qb,Prod.mk.injEq]at hx;obtain ⟨rfl,rfl⟩:=hx;exact ⟨rfl,hS'⟩
    |ret=>simp only [qb,Prod.mk.injEq]at hx;obtain ⟨rfl,rfl⟩:=hx;exact ⟨rfl,hS'⟩
  ·cases hx
 |rangeFunc g ps asz bo iha ihb =>
  intro bid st e st' hx;exact qrr hC hx
 |exit id =>
  intro bid st e st' hx F w0 X0 Md n a w hF hS;simp only [ex,qb,Prod.mk.injEq]at hx;obtain ⟨rfl,rfl⟩:=hx;exact wpIn_exit ⟨rfl,hS⟩
 |ret =>
  intro bid st e st' hx F w0 X0 Md n a w hF hS;simp only [ex,qb,Prod.mk.injEq]at hx;obtain ⟨rfl,rfl⟩:=hx;exact wpIn_ret ⟨rfl,hS⟩
 |_=>intro bid st e st' hx;simp [ex]at hx
end
section
variable {P:Program} {H:Hints} {f:FuncId} {C:Orc} {w:World} {X:Cx}
def qp2:Bool×Nat×Nat->Pl
 |(false,t,_)=>.tmp t
 |(true,l,s)=>.box ⟨l,s⟩
def qrz(tmps:Array Value):ResultVar->Sem Value
 |.tmp t=>pure (tmps.getD t undef)
 |.cell a t=>do loadVar t (<- asAddr (tmps.getD a undef))
theorem qty{st:St}{tmps:Array Value}{O:Pl->List Nat}(h:Rel st tmps w X O)(t:Nat):Rep w X (st.E.getD t .undef) (tmps.getD t undef) (O (.tmp t)):=by
 by_cases hlt:t<st.E.length
 ·obtain ⟨v,hv,hr⟩:=h.env t _ (List.getElem?_eq_getElem hlt);have e1:tmps.getD t undef=v:=by rw [Array.getD_eq_getD_getElem?,hv];rfl
  have e2:st.E.getD t .undef=st.E[t]:=by simp [hlt]
  rw [e1,e2];exact hr
 ·have e2:st.E.getD t .undef=.undef:=by simp [List.getElem?_eq_none (Nat.not_lt.1 hlt)]
  rw [e2,h.envD t (by omega)];simp [Rep]
theorem qvf{st:St}{tmps:Array Value}{O:Pl->List Nat}(h:Rel st tmps w X O){rv:ResultVar}{x:V}(hx:qcL P st rv=some x) :
  ∃v Ox,(qrz tmps rv).run P w=.ok v w/\Rep w X x v Ox/\(∀b,Ox.count b<=(O (qp2 (qM st rv))).count b)/\∀r∈x.qq,(st.box r).isSome=true:=by
 cases rv with
 |tmp t =>
  simp only [qcL,qb]at hx;subst hx;exact ⟨_,_,rfl,qty h t,λb=>Nat.le_refl _,λr hr=>h.ptrE r (qlL hr)⟩
 |cell a t =>
  simp only [qcL]at hx;split at hx
  ·rename_i r off hE;split at hx
   ·rename_i cs hcs;split at hx
    ·cases hx
    ·rename_i hlp;have ha:=qty h a;rw [hE]at ha;simp only [Rep]at ha;obtain ⟨_,b,hb,hv⟩:=ha;obtain ⟨b',hb',hlt,hω,hbx⟩:=h.box r cs hcs;obtain rfl:b=b':=by rw [hb]at hb';exact Option.some.inj hb'
     obtain ⟨arr,ty,hw,hl⟩:=hbx.cells (by simpa using hlp);have hseg:Seg w b off (arr.toList.drop off):=qjn hw;obtain ⟨v,Ox,Ob,hrep,hvv,⟨d,hd⟩,_,hcnt⟩:=qg4 hx hl;have hkey:qp2 (qM st (.cell a t))=.box r:=by simp only [qM,hE,qp2]
     refine ⟨v,Ox,?_,hrep,λk=>by rw [hkey];have:=hcnt k;omega,λr' hr'=>h.ptrB r cs hcs r' (qcJ (qbA hx r' hr'))⟩;simp only [qrz,hv,asAddr,Sem.run_bind,Sem.run_pure,Result.andThen_ok];exact qdX hd hseg hvv
   ·cases hx
  ·cases hx
theorem qkb{st:St}{tmps:Array Value}{O:Pl->List Nat}(h:Rel st tmps w X O):∀(l:List ResultVar) (rs:List V),qey (l.map (qcL P st))=some rs ->
  ∃vals Or,(l.mapM (qrz tmps)).run P w=.ok vals w/\RepL w X rs vals Or/\(∀b,Or.count b<=(l.map λr=>(O (qp2 (qM st r))).count b).sum)/\∀r∈ptrsL rs,(st.box r).isSome=true
 |[],rs,hx=>by
  simp only [List.map_nil,qey,qb]at hx;subst hx;exact ⟨[],[],rfl,by simp [RepL],by simp,by simp [ptrsL]⟩
 |rv::l,rs,hx=>by
  simp only [qh]at hx;cases h1:qcL P st rv with
  |none=>rw [h1]at hx;simp [qey]at hx
  |some x =>
   rw [h1]at hx;simp only [qey]at hx;obtain ⟨rs',h2,rfl⟩:=qc.1 hx;obtain ⟨v,Ox,hr,hrep,hc,hp⟩:=qvf h h1;obtain ⟨vals,Or,hr',hrep',hc',hp'⟩:=qkb h l rs' h2;refine ⟨v::vals,Ox++Or,?_,by simp only [RepL];exact ⟨v,vals,Ox,Or,rfl,rfl,hrep,hrep'⟩,λb=>?_,λr hr=>?_⟩
   ·simp only [List.mapM_cons,Sem.run_bind,hr,Result.andThen_ok,hr',Sem.run_pure]
   ·simp only [qh,List.sum_cons,List.count_append];have:=hc b;have:=hc' b;omega
   ·simp only [ptrsL,qj]at hr;rcases hr with hr|hr
    ·exact hp r hr
    ·exact hp' r hr
theorem qyY{st:St}{r r':ResultVar}(h:qp2 (qM st r)=qp2 (qM st r')):qM st r=qM st r':=by
 have key:∀r:ResultVar,(∃t,qM st r=(false,t,0))\/∃l s,qM st r=(true,l,s):=λr=>by
  cases r with
  |tmp t=>exact .inl ⟨t,rfl⟩
  |cell a t=>right;simp only [qM];split<;>exact ⟨_,_,rfl⟩
 rcases key r with ⟨t,e⟩|⟨l,s,e⟩<;>rcases key r' with ⟨t',e'⟩|⟨l',s',e'⟩<;>rw [e,e']at h ⊢<;>simp_all [qp2]
theorem qt9{α:Type}(c:α->Nat):∀l:List α,(∀x∈l,c x=0)->(l.map c).sum=0
 |[],_=>rfl
 |x::l,h=>by
  simp only [qh,List.sum_cons,h x (by simp),qt9 c l λy hy=>h y (by simp [hy])]
theorem qki{O:Pl->List Nat}(hl:∀p,Lin (O p))(hd:∀p q,p≠q->∀b∈O p,b∉O q){st:St}(b:Nat):∀(l:List ResultVar),distinct (l.map (qM st))=true->(l.map λr=>(O (qp2 (qM st r))).count b).sum<=1
 |[],_=>by simp
 |r::l,h=>by
  simp only [qh,distinct,qe,Bool.not_eq_true']at h;have ih:=qki hl hd b l h.2;simp only [qh,List.sum_cons];by_cases hb:b∈O (qp2 (qM st r))
  ·have h1:=hl (qp2 (qM st r)) b;have h0:(l.map λr=>(O (qp2 (qM st r))).count b).sum=0:=by
    have:∀r'∈l,(O (qp2 (qM st r'))).count b=0:=λr' hr'=>List.count_eq_zero.2 λhb'=>by
     have hne:qp2 (qM st r)≠qp2 (qM st r'):=λe=>by
      have:=qyY e;have hm:qM st r∈l.map (qM st):=by rw [this];exact List.mem_map.2 ⟨r',hr',rfl⟩
      have h2:=h.1;simp only [List.contains_eq_mem,decide_eq_false_iff_not]at h2;exact h2 hm
     exact hd _ _ hne b hb hb'
    exact qt9 _ l this
   omega
  ·have:(O (qp2 (qM st r))).count b=0:=List.count_eq_zero.2 hb;omega
theorem qfL{rs:List V}{vals:List Value}{Or:List Nat}(h:RepL w X rs vals Or):Rep w X (packed rs) (if hs:vals.toArray.size=1 then vals.toArray[0]else .tuple vals.toArray) Or:=by
 match rs,vals,h with
 |[],vals,h=>simp only [RepL]at h;obtain ⟨rfl,rfl⟩:=h;simp [packed,Rep,RepL]
 |[r],vals,h =>
  simp only [RepL]at h;obtain ⟨u,vs,O1,O2,rfl,rfl,h1,rfl,rfl⟩:=h;simpa [packed]using h1
 |r::r'::rs,vals,h =>
  have hl:=qE _ _ _ h;have hne:¬ vals.toArray.size=1:=by simp at hl ⊢;omega
  rw [dif_neg hne];simp only [packed,Rep];exact ⟨vals,rfl,h⟩
theorem qgO{fn:Func}{tmps:Array Value}{R:Ending->World->Prop}:∀(ks:List Nat) (w:World),ks.Nodup->(∀k∈ks,w.heap[k]?=some (.deferred (some []))) ->
  (∀w':World,w'.heap.size=w.heap.size->(∀k,k∉ks->w'.heap[k]?=w.heap[k]?)->w'.os=w.os->w'.output=w.output->w'.tape=w.tape->∃v,(results fn tmps).run P w'=.ok v w'/\R (.returned v) w') ->
  LeavesInM Fence.wide 0 P fn tmps R (ks.map λk=>{target:=.collected k,args:=#[]}) .returning w
 |[],w,_,_,hR=>hR w rfl (λ_ _=>rfl) rfl rfl rfl
 |k::ks,w,hnd,hk,hR=>by
  have hw:=hk k (by simp);obtain ⟨hnk,hnd'⟩:=List.nodup_cons.1 hnd;refine ⟨by simp,.inl ⟨k,w.putObj k (.deferred none),rfl,run_takeDeferred hw,?_⟩⟩;refine qgO ks _ hnd' (λk' hk'=>?_) (λw' h1 h2 h3 h4 h5=>?_)
  ·rw [World.putObj_heap_other (λe=>hnk (by rw [<- e];exact hk'))];exact hk k' (by simp [hk'])
  ·refine hR w' (by rw [h1];simp [World.putObj]) (λk' hk'=>?_) h3 h4 h5;simp only [qk,not_or]at hk';rw [h2 k' hk'.2,World.putObj_heap_other hk'.1]
end
section
variable {P:Program} {H:Hints} {f:FuncId} {w:World} {X:Cx}
theorem qz4(c:List V)(r:Root):qa9 [[(0,c)]] r=if r=⟨0,0⟩then some c else none:=by
 obtain ⟨l,s⟩:=r;unfold qa9;cases l with
 |zero =>
  simp only [List.getElem?_cons_zero,qy];by_cases h:(0:Nat)=s
  ·subst h;simp
  ·rw [if_neg h,if_neg (λe=>h (by cases e;rfl))]
 |succ l=>rw [if_neg (λe=>by cases e)];simp
theorem qv5{M:List Level}{q:Root}{c:List V}(c':List V)(h:qa9 M q=some c)(r:Root):qa9 (qzN M q c') r=if r=q then some c' else qa9 M r:=by
 obtain ⟨l,s⟩:=r;obtain ⟨ql,qs⟩:=q;unfold qa9 at h;simp only at h;unfold qa9 qzN;simp only [List.getElem?_modify];by_cases hl:ql=l
 ·subst hl;cases hM:M[ql]? with
  |none=>rw [hM]at h;cases h
  |some B =>
   rw [hM]at h;simp only at h;simp only [if_true,qi];show qy (qdZ B qs c') s=_;rw [qdu];by_cases hs:s=qs
   ·subst hs;rw [h];simp
   ·rw [if_neg hs,if_neg (λe=>hs (by cases e;rfl))]
 ·simp only [hl,if_false];rw [if_neg (λe=>hl (by cases e;rfl))];cases M[l]?<;>rfl
theorem qqT{c:List V}(h:qc3 c=false):q3 c=false:=by
 cases c with
 |nil=>rfl
 |cons v l=>cases v<;>first|rfl|(simp [qc3]at h)
theorem quL{g:FuncId}{off:Nat}{rest c c':List V}{r:V}(h:qaS P g (.ptr ⟨0,0⟩ off::rest) [[(0,c)]] r [[(0,c')]])(hrest:ptrsL rest=[])(hc:ptrsL c=[])(hlp:qc3 c=false)
  (hr:r.qq=[]) (hro:r.owns=false) (hc':ptrsL c'=[]) (hlp':qc3 c'=false) {M:List Level} {q:Root} (hq:qa9 M q=some c):qaS P g (.ptr q off::rest) M r (qzN M q c'):=by
 intro w X vals O ha hgl hL hp hfz;obtain ⟨b,hβ,hlt,hωb,hbx⟩:=hL.box q c hq;simp only [RepL]at ha;obtain ⟨v1,vs,O1,O2,rfl,hO,h1,h2⟩:=ha;have hO2:O2=[]:=by
  have:=congrArg List.length hO;simp only [List.length_nil,List.length_append]at this;exact List.eq_nil_of_length_eq_zero (by omega)
 subst hO2;simp only [Rep]at h1;obtain ⟨rfl,b1,hb1,hv1⟩:=h1;obtain rfl:b1=b:=by rw [hβ]at hb1;exact (Option.some.inj hb1).symm
 have hext:Ext [] w X w {β:=λr=>if r=⟨0,0⟩then some b1 else none,ω:=X.ω} (λ_=>False) :=
  {β:=by simp,ω:=λb e fz hω=>⟨e,fz,hω,Nat.le_refl _,id,λ_=>⟨rfl,rfl⟩⟩,cell:=λ_ _ _ _ _ _ _ h=>h,obj:=λb e fz c t _ _ h=>⟨c,h,rfl⟩}
 have hown:=hL.own;have hargs:RepL w {β:=λr=>if r=⟨0,0⟩then some b1 else none,ω:=X.ω} (.ptr ⟨0,0⟩ off::rest) (v1::vs) []:=by
  simp only [RepL];refine ⟨v1,vs,[],[],rfl,rfl,?_,RepL.ext hext rest vs [] (by rw [hrest];simp) (by simp) h2⟩;simp only [Rep];exact ⟨trivial,b1,by simp,hv1⟩
 obtain ⟨cs,t,hwb,hcs⟩:=hbx.cells hlp;have hL0:LRel [[(0,c)]] w {β:=λr=>if r=⟨0,0⟩then some b1 else none,ω:=X.ω} (λr=>if r=⟨0,0⟩then O q else []):={
  box:=λr c2 hr2=>by
   rw [qz4]at hr2;split at hr2
   ·rename_i e;cases hr2;subst e;exact ⟨b1,by simp,hlt,hωb,.inl ⟨cs,t,hwb,by rw [if_pos rfl];exact RepL.ext hext _ _ _ (by rw [hc];simp) (by simp) hcs⟩⟩
   ·cases hr2
  boxD:=λr hr2=>by
   rw [qz4]at hr2;split at hr2
   ·cases hr2
   ·rename_i e;simp only [if_neg e]
  inj:=λr r' b h1 h2 _ _=>by
   rw [qz4]at h1 h2;split at h1
   ·split at h2
    ·rename_i e1 e2;rw [e1,e2]
    ·cases h2
   ·cases h1
  lin:=λr=>by
   split
   ·exact hL.lin q
   ·exact Lin.nil
  dis:=λr r' hne b hb=>by
   split at hb
   ·rename_i e;rw [if_neg (λe'=>hne (by rw [e,e']))];simp
   ·simp at hb
  ptrB:=λr c2 hr2 r' hr'=>by
   rw [qz4]at hr2;split at hr2
   ·cases hr2;rw [hc]at hr';simp at hr'
   ·cases hr2
  up:=λr c2 hr2 r' hr'=>by
   rw [qz4]at hr2;split at hr2
   ·cases hr2;rw [hc]at hr';simp at hr'
   ·cases hr2
  dom:=hL.dom}
 have hok:=h w _ (v1::vs) _ hargs hgl hL0 (λr hr2=>by
  simp only [ptrsL,V.qq,hrest,List.append_nil,List.mem_singleton]at hr2;subst hr2;rw [qz4,if_pos rfl];rfl) (λe=>by cases e)
 refine hok.mono (λe=>by cases e) ?_;rintro v w' ⟨X',O',Or,hrep,hLR,hlin,hfree,hpr,hlen,hloop,haft⟩;have hOr:Or=[]:=rep_noowns r v Or hro hrep;subst hOr;obtain ⟨b',hβ',hlt',hωb',hbx'⟩:=hLR.box ⟨0,0⟩ c' (by rw [qz4,if_pos rfl]);have hbb:b'=b1:=by
  have h1:=haft.β ⟨0,0⟩ (by simp);rw [hβ']at h1;simpa using h1
 subst hbb;have hMod:∀k,Mod [[(0,c)]] {β:=λr=>if r=⟨0,0⟩then some b' else none,ω:=X.ω} (λr=>if r=⟨0,0⟩then O q else []) k->k=b'\/k∈O q:=by
  rintro k (⟨r',h1,h2⟩|⟨r',h1⟩)
  ·simp only at h2;split at h2
   ·exact .inl (Option.some.inj h2).symm
   ·cases h2
  ·simp only at h1;split at h1
   ·exact .inr h1
   ·simp at h1
 have hkept:∀k,k<w.heap.size->k≠b'->k∉O q->w'.heap[k]?=w.heap[k]?/\X'.ω k=X.ω k:=λk hk h1 h2=>haft.kept k hk λhm=>(hMod k hm).elim h1 h2;have hOqω:∀k∈O q,∃e,X.ω k=some (e,false):=hown q;have hE:∀R,Ext R w X w' {β:=X.β,ω:=X'.ω} (λk=>k∈O q):=λR=>{
  β:=λ_ _=>rfl
  ω:=λk e fz hω=>by
   obtain ⟨e',fz',h1,h2,h3,_⟩:=haft.grew k e fz hω;refine ⟨e',fz',h1,h2,h3,λhn=>?_⟩;have hk:=(hkept k (hL.dom k e fz hω) (λe0=>by subst e0;rw [hωb]at hω;cases hω) hn).2;rw [show X'.ω k=some (e',fz')from h1,hω]at hk;cases hk;exact ⟨rfl,rfl⟩
  cell:=λk e fz i v hω hi hv=>by
   obtain ⟨_,_,_,_,_,h4⟩:=haft.grew k e fz hω;exact h4 i v hi hv
  obj:=λk e fz c2 t2 hn hω hw=>by
   have hk:=(hkept k (hL.dom k e fz hω) (λe0=>by subst e0;rw [hωb]at hω;cases hω) hn).1;exact ⟨c2,by rw [hk];exact hw,rfl⟩}
 have hE0:Ext [] w' X' w' {β:=X.β,ω:=X'.ω} (λ_=>False) :=
  {β:=by simp,ω:=λk e fz hω=>⟨e,fz,hω,Nat.le_refl _,id,λ_=>⟨rfl,rfl⟩⟩,cell:=λ_ _ _ _ _ _ _ h=>h,obj:=λb e fz c t _ _ h=>⟨c,h,rfl⟩}
 have hbs:=qv5 c' hq;have hsome:∀r,(qa9 (qzN M q c') r).isSome=true->(qa9 M r).isSome=true:=λr h1=>by
  rw [hbs]at h1;split at h1
  ·rename_i e;subst e;rw [hq];rfl
  ·exact h1
 obtain ⟨cs',t',hwb',hcs'⟩:=hbx'.cells hlp';have hO'ω:∀k∈O' ⟨0,0⟩,∃e,X'.ω k=some (e,false):=hLR.own ⟨0,0⟩;have hfar:∀k∈O' ⟨0,0⟩,∀r,r≠q->k∉O r:=λk hk r hne hkr=>by
  obtain ⟨e,he⟩:=hown r k hkr;rcases haft.own k (.inr ⟨_,hk⟩)with h1|h1
  ·have:=hL.dom k e _ he;omega
  ·rcases hMod k h1 with rfl|h1
   ·rw [hωb]at he;cases he
   ·exact hL.dis _ _ (λe=>hne e.symm) k h1 hkr
 refine ⟨{β:=X.β,ω:=X'.ω},λr=>if r=q then O' ⟨0,0⟩else O r,[],?_,?_,Lin.nil,by simp,by rw [hr];simp,by simp [qzN],?_,?_⟩
 ·exact Rep.ext hE0 _ _ _ (by rw [hr];simp) (by simp) hrep
 ·exact {
   box:=λr c2 hr2=>by
    rw [hbs]at hr2;by_cases e:r=q
    ·subst e;rw [if_pos rfl]at hr2;cases hr2;exact ⟨b',hβ,by have:=haft.size;omega,hωb',.inl ⟨cs',t',hwb',by rw [if_pos rfl];exact RepL.ext hE0 _ _ _ (by rw [hc'];simp) (by simp) hcs'⟩⟩
    ·rw [if_neg e]at hr2;obtain ⟨b2,k1,k2,k3,k4⟩:=hL.box r c2 hr2;have hne:b2≠b':=λe2=>e (hL.inj r q b2 (by rw [hr2];rfl) (by rw [hq];rfl) k1 (by rw [e2];exact hβ));have hnO:b2∉O q:=λhm=>by obtain ⟨e3,h3⟩:=hOqω b2 hm;rw [k3]at h3;cases h3
     obtain ⟨g1,g2⟩:=hkept b2 k2 hne hnO;refine ⟨b2,k1,by have:=haft.size;omega,by show X'.ω b2=none;rw [g2];exact k3,?_⟩;rw [if_neg e];exact qnk.qgM k4 g1 λl vals O3 _ hsub hl=>RepL.ext (hE (ptrsL l)) l vals O3 (λr hr=>hr) (λk hk=>λhkq=>hL.dis r q e k (hsub k hk) hkq) hl
   boxD:=λr hr2=>by
    rw [hbs]at hr2;split at hr2
    ·cases hr2
    ·rename_i e;simp only [if_neg e];exact hL.boxD r hr2
   inj:=λr r' b h1 h2 h3 h4=>hL.inj r r' b (hsome r h1) (hsome r' h2) h3 h4
   lin:=λr=>by
    by_cases e:r=q
    ·simp only [if_pos e];exact hLR.lin _
    ·simp only [if_neg e];exact hL.lin r
   dis:=λr r' hne k hk=>by
    by_cases e:r=q
    ·simp only [if_pos e]at hk;have e':r'≠q:=λe'=>hne (by rw [e,e']);simp only [if_neg e'];exact hfar k hk r' e'
    ·simp only [if_neg e]at hk;by_cases e':r'=q
     ·simp only [if_pos e'];exact λhk'=>hfar k hk' r e hk
     ·simp only [if_neg e'];exact hL.dis r r' hne k hk
   ptrB:=λr c2 hr2 r' hr'=>by
    rw [hbs]at hr2;by_cases e:r=q
    ·rw [if_pos e]at hr2;cases hr2;rw [hc']at hr';simp at hr'
    ·rw [if_neg e]at hr2;have:=hL.ptrB r c2 hr2 r' hr';rw [hbs];split
     ·rfl
     ·exact this
   up:=λr c2 hr2 r' hr'=>by
    rw [hbs]at hr2;by_cases e:r=q
    ·rw [if_pos e]at hr2;cases hr2;rw [hc']at hr';simp at hr'
    ·rw [if_neg e]at hr2;exact hL.up r c2 hr2 r' hr'
   dom:=hLR.dom}
 ·intro r;rw [hbs];split
  ·rename_i e;subst e;rw [hq,qi,qi,qqT hlp,qqT hlp']
  ·rfl
 ·exact {
   size:=haft.size
   kept:=λk hk hn=>hkept k hk (λe=>hn (.inl ⟨q,by rw [hq];rfl,by rw [e];exact hβ⟩)) (λhm=>hn (.inr ⟨q,hm⟩))
   grew:=haft.grew
   β:=λ_ _=>rfl
   own:=λk hk=>by
    rcases hk with hk|⟨r,hk⟩
    ·simp at hk
    ·by_cases e:r=q
     ·simp only [if_pos e]at hk;rcases haft.own k (.inr ⟨_,hk⟩)with h1|h1
      ·exact .inl h1
      ·rcases hMod k h1 with rfl|h1
       ·exact .inr (.inl ⟨q,by rw [hq];rfl,hβ⟩)
       ·exact .inr (.inr ⟨q,h1⟩)
     ·simp only [if_neg e]at hk;exact .inr (.inr ⟨r,hk⟩)
   os:=haft.os
   out:=haft.out
   tape:=haft.tape}
theorem qCa{g:FuncId}{run:List V->List Level->Option (V×List Level)}(hrun:∀args M r M',run args M=some (r,M')->qaS P g args M r M'){args:List V}{M M':List Level}{r:V}
  (h:ioF run args M=some (r,M')):qaS P g args M r M':=by
 unfold ioF at h;split at h
 rotate_left
 ·cases h
 rename_i q off rest;split at h
 rotate_left
 ·cases h
 rename_i hrest;split at h
 rotate_left
 ·cases h
 rename_i c hq;split at h
 rotate_left
 ·cases h
 rename_i hc;split at h
 rotate_left
 ·cases h
 rename_i r0 c' hr0;split at h
 rotate_left
 ·cases h
 rename_i hg;obtain ⟨rfl,rfl⟩:=Prod.mk.inj (Option.some.inj h);simp only [qe,Bool.not_eq_true',List.isEmpty_iff]at hrest hc hg;exact quL (hrun _ _ _ _ hr0) hrest hc.2 hc.1 hg.1.1.1 hg.1.1.2 hg.2 hg.1.2 hq
end
section
variable {P:Program} {H:Hints} {f:FuncId} {C:Orc} {w:World} {X:Cx}
theorem Rel.same{st:St}{tmps:Array Value}{O:Pl->List Nat}{w':World}(h:Rel st tmps w X O)(hsz:w'.heap.size=w.heap.size)
  (hω:∀k e fz,X.ω k=some (e,fz)->w'.heap[k]?=w.heap[k]?) (hb:∀k c A,qnk w X k c A->w'.heap[k]?=w.heap[k]?):Rel st tmps w' X O:=by
 have hext:∀R,Ext R w X w' X (λ_=>False):=λR=>{
  β:=λ_ _=>rfl
  ω:=λb e fz h=>⟨e,fz,h,Nat.le_refl _,id,λ_=>⟨rfl,rfl⟩⟩
  cell:=λb e fz i v h _ hc=>by rw [qC (hω b e fz h)];exact hc
  obj:=λb e fz c t _ h hc=>⟨c,by rw [hω b e fz h];exact hc,rfl⟩}
 exact {
  size:=h.size
  env:=λt x hx=>by
   obtain ⟨v,hv,hr⟩:=h.env t x hx;exact ⟨v,hv,Rep.ext (hext _) _ _ _ (λ_ h=>h) (by simp) hr⟩
  envD:=h.envD
  box:=λr c hr=>by
   obtain ⟨b,h1,h2,h3,h4⟩:=h.box r c hr;exact ⟨b,h1,by omega,h3,h4.qgM (hb b c _ h4) λl vals A _ _ hr=>RepL.ext (hext _) _ _ _ (λ_ h=>h) (by simp) hr⟩
  boxD:=h.boxD
  inj:=h.inj
  lin:=h.lin
  dis:=h.dis
  ptrE:=h.ptrE
  ptrB:=h.ptrB
  up:=h.up
  dom:=λb e fz hb=>by have:=h.dom b e fz hb;omega}
theorem qs6{α:Type}(c:α->Nat):∀l:List α,0<(l.map c).sum->∃x∈l,0<c x
 |[],h=>by simp at h
 |x::l,h=>by
  simp only [qh,List.sum_cons]at h;by_cases hx:0<c x
  ·exact ⟨x,by simp,hx⟩
  ·obtain ⟨y,hy,hc⟩:=qs6 c l (by omega);exact ⟨y,by simp [hy],hc⟩
theorem qj9:∀n,RepL w X (List.replicate n .undef) (List.replicate n undef) []
 |0=>by simp [RepL]
 |n+1=>by
  simp only [List.replicate_succ,RepL];exact ⟨undef,_,[],[],rfl,rfl,by simp [Rep],qj9 n⟩
theorem qj7:∀n,ptrsL (List.replicate n .undef)=[]
 |0=>rfl
 |n+1=>by simp [List.replicate_succ,ptrsL,V.qq,qj7 n]
theorem qmS{fn:Func}{tmps:Array Value}{vals:List Value}(h:(fn.results.toList.mapM (qrz tmps)).run P w=.ok vals w) :
  (results fn tmps).run P w=.ok (if hs:vals.toArray.size=1 then vals.toArray[0]else .tuple vals.toArray) w:=by
 have e:results fn tmps=(fn.results.mapM (qrz tmps) >>= λvs=>pure (if h:vs.size=1 then vs[0]else .tuple vs)):=by
  unfold results;refine congrArg (λ(g:ResultVar->Sem Value)=>(fn.results.mapM g >>= λvs=>pure (if h:vs.size=1 then vs[0]else .tuple vs))) ?_;funext r;cases r<;>rfl
 rw [e,Array.mapM_eq_mapM_toList];simp [h]
theorem qmU(hC:OrcOk P C)(hm:P.follows .mixedOrders=true)(qbO:qh1 P H){g:FuncId}{args:List V}{M:List Level}{R:World->Cx->(Root->List Nat)->Value->World->Prop}{fn:Func}{c:Code}{e:Ex}{st:St}{rs:List V}
  (hfn:P.funcs[g]?=some fn) (hbody:fn.body=some c) (hex:ex P H C g 0 c {E:=args++List.replicate (fn.ntmps-args.length) .undef,L:=M,B:=[]}=some (e,st)) (he:e=.normal\/e=.ret) (hrs:qey (fn.results.toList.map (qcL P st))=some rs)
  (hfin:∀(w:World) (X:Cx) (O:Root->List Nat) (w2:World) (X1:Cx) (O1:Pl->List Nat) (tmps:Array Value) (vs:List Value) (Or:List Nat),LRel M w X O->(M=[]->∀b e fz,X.ω b=some (e,fz)->fz=true)->Rel st tmps w2 X1 O1->Fr w X (Mod M X O) M.length st w2 X1 O1->RepL w2 X1 rs vs Or ->
   (∀b,Or.count b<=(fn.results.toList.map λrv=>(O1 (qp2 (qM st rv))).count b).sum)->(∀q∈ptrsL rs,(st.box q).isSome=true)->R w X O (if hs:vs.toArray.size=1 then vs.toArray[0]else .tuple vs.toArray) w2) :
  ∀(w:World) (X:Cx) (vals:List Value) (O:Root->List Nat),RepL w X args vals []->qlo w X->LRel M w X O->(∀q∈ptrsL args,(qa9 M q).isSome=true)->(M=[]->∀b e fz,X.ω b=some (e,fz)->fz=true) ->
  qoA (M=[]) P g vals.toArray w λv w'=>R w X O v w':=by
 intro w X vals O ha hgl hL hp hfz;left
 have hbs:fn.body.isNone=false:=by rw [hbody];rfl
 refine ⟨?_,?_⟩
 ·simp only [callFunc,Sem.run_bind,run_program,Result.andThen_ok,hfn,qbO.1 g fn hfn (by rw [hbody];rfl),hbs,qf,if_false,Sem.run_pure]
 ·refine callsIn_wide.1 (callsIn_of_wp_marks (n:=0) hfn hbody trivial ?_);have hlen:=qE _ _ _ ha;have hE:RepL w X (args++List.replicate (fn.ntmps-args.length) .undef) (vals.toArray++Array.replicate (fn.ntmps-vals.toArray.size) undef).toList []:=by
   have:=qaq ha (qj9 (w:=w) (X:=X) (fn.ntmps-args.length));simpa [hlen]using this
  obtain ⟨hR0,hF0⟩:=qrt hgl hL (tmps:=vals.toArray++Array.replicate (fn.ntmps-vals.toArray.size) undef) hE (λq hq=>by
   rw [q9,qj7,List.append_nil]at hq;exact hp q hq)
  refine wpIn_mono (qAe hC hm qbO.2.1 c 0 _ e st hex Fence.wide w X _ _ {tmps:=_,defers:=[]} w ⟨.inl rfl,λh0=>hfz (List.eq_nil_of_length_eq_zero h0)⟩ ⟨X,_,hR0,hF0,[],rfl,.nil,by simp⟩).wp ?_;rintro e' a' w1 ⟨rfl,X1,O1,hR,hF,ks,hD,hnd,hks⟩;have hgoal:LeavesInM Fence.wide 0 P fn a'.tmps (λe w'=>∃v,e=.returned v/\R w X O v w') a'.defers .returning w1:=by
   rw [hD];refine qgO ks w1 hnd (λk hk=>(hks k hk).2.1) λw2 hsz hsame hos hout htape=>?_;have hωs:∀k e fz,X1.ω k=some (e,fz)->w2.heap[k]?=w1.heap[k]?:=λk e fz hω=>hsame k λhk=>by rw [(hks k hk).2.2]at hω;cases hω
   have hR2:Rel st a'.tmps w2 X1 O1:=hR.same hsz hωs λk c A hb=>hsame k λhk=>qpm hb (hks k hk).2.1 rfl;have hF2:Fr w X (Mod M X O) M.length st w2 X1 O1:={
    size:=by have:=hF.size;omega
    kept:=λb hb hM=>by
     obtain ⟨h1,h2⟩:=hF.kept b hb hM;exact ⟨by rw [hsame b λhk=>by have:=(hks b hk).1;omega,h1],h2⟩
    grew:=λb e fz hω=>by
     obtain ⟨e1,fz1,h1,h2,h3,h4⟩:=hF.grew b e fz hω;exact ⟨e1,fz1,h1,h2,h3,λi v hi hc=>by rw [qC (hωs b e1 fz1 h1)];exact h4 i v hi hc⟩
    β:=hF.β
    own:=hF.own
    boxM:=hF.boxM
    lev:=hF.lev
    live:=hF.live
    os:=by rw [hos,hF.os]
    out:=by rw [hout,hF.out]
    tape:=by rw [htape,hF.tape]
    gl:=hF.gl
    gm:=hF.gm}
   obtain ⟨vs,Or,hrun,hrep,hcnt,hpl⟩:=qkb hR2 fn.results.toList rs hrs;exact ⟨_,qmS hrun,_,rfl,hfin w X O w2 X1 O1 a'.tmps vs Or hL hfz hR2 hF2 hrep hcnt hpl⟩
  rcases he with rfl|rfl
  ·exact hgoal
  ·exact hgoal
theorem qxv(hC:OrcOk P C)(hm:P.follows .mixedOrders=true)(qbO:qh1 P H){g:FuncId}{args:List V}{M M':List Level}{r:V}
  (hx:qy4 P H C g args M=some (r,M')):qaS P g args M r M':=by
 unfold qy4 at hx;split at hx
 ·rename_i fn hfn;split at hx
  ·rename_i c hbody;split at hx
   ·rename_i e st hex;split at hx
    ·rename_i he;split at hx
     ·rename_i rs hrs;split at hx
      ·rename_i hchk;obtain ⟨rfl,rfl⟩:=Prod.mk.inj (Option.some.inj hx);simp only [qe]at hchk;obtain ⟨hptr,hkeys⟩:=hchk;simp only [qh6,qe]at hkeys;obtain ⟨hdist,hklv⟩:=hkeys;refine qmU (R:=λw X O v w'=>qB0 _ _ _ w X O v w') hC hm qbO hfn hbody hex he hrs λw X O w2 X1 O1 tmps vs Or hL hfz hR2 hF2 hrep hcnt hpl=>?_;have hlin:Lin Or:=λb=>Nat.le_trans (hcnt b) (qki hR2.lin hR2.dis b _ hdist);have hwhere:∀b∈Or,∃p,b∈O1 p/\∀q:Root,q.lvl<M.length->p≠.box q:=λb hb=>by
        have h1:=List.count_pos_iff.2 hb;obtain ⟨rv,hrv,h2⟩:=qs6 _ _ (Nat.lt_of_lt_of_le h1 (hcnt b));refine ⟨_,List.count_pos_iff.1 h2,λq hq e=>?_⟩;have h3:=List.all_eq_true.1 hklv (qM st rv) (List.mem_map.2 ⟨rv,hrv,rfl⟩);generalize hkey:qM st rv=key at e h3;obtain ⟨kb,kl,ks'⟩:=key;cases kb with
        |false=>simp [qp2]at e
        |true =>
         simp only [qp2,Pl.box.injEq]at e;simp only [Bool.not_true,Bool.false_or,decide_eq_true_eq]at h3;rw [<- e]at hq;simp only at hq;omega
       obtain ⟨hlr,hlen',hkind⟩:=qmK hR2 hF2;have hplv:∀q∈ptrsL rs,(qa9 st.L q).isSome=true:=λq hq=>by
        have h1:=List.all_eq_true.1 hptr q hq;rw [qdq,if_pos (by rw [hlen'];simpa using h1)];exact hpl q hq
       by_cases hset:(M.isEmpty&&!ownsL rs)=true
       ·rw [if_pos hset];simp only [qe,Bool.not_eq_true']at hset;have hM:M=[]:=by simpa using hset.1
        have hOr:Or=[]:=repL_noowns rs vs Or hset.2 hrep;subst hOr;subst hM;have hL0:st.L=[]:=List.eq_nil_of_length_eq_zero (by rw [hlen'];rfl);have hnoM:∀b,¬ Mod [] X O b:=λb hb=>by
         rcases hb with ⟨q,h1,_⟩|⟨q,h1⟩
         ·simp [qa9]at h1
         ·rw [hL.boxD q (by simp [qa9])]at h1;simp at h1
        have hold:∀b,b<w.heap.size->X1.ω b=X.ω b:=λb hb=>(hF2.kept b hb (hnoM b)).2;let X2:Cx:={β:=X1.β,ω:=λb=>(X1.ω b).map λp=>(p.1,true)}
        have hX2:∀b e fz,X1.ω b=some (e,fz)->X2.ω b=some (e,true):=λb e fz h=>by simp [X2,h]
        have hX2o:∀b,b<w.heap.size->X2.ω b=X.ω b:=λb hb=>by
         show (X1.ω b).map _=_;rw [hold b hb];cases hω:X.ω b with
         |none=>rfl
         |some p=>obtain ⟨e,fz⟩:=p;have:=hfz rfl b e fz hω;subst this;rfl
        have hrep2:RepL w2 X2 (reflagL qhm rs) vs []:=RepL.flags' (X:=X1) (X':=X2) (S:=λ_=>False) {β:=rfl,own:=λf=>by cases f<;>simp [qhm],ω:=λb e fz h=>⟨true,hX2 b e fz h,λh=>h.elim⟩,sh:=λf b e fz h _ _ _=>hX2 b e fz h} _ _ _ (by simp) hrep;refine ⟨X2,λ_=>[],[],qfL hrep2,?_,Lin.nil,by simp,?_,hlen',hkind,?_⟩
        ·rw [hL0];exact {
             box:=λr c hc=>by simp [qa9]at hc,boxD:=λ_ _=>rfl,inj:=λr r' b h1=>by simp [qa9]at h1,lin:=λ_=>Lin.nil,dis:=λ_ _ _ _ h=>by simp at h,ptrB:=λr c hc=>by simp [qa9]at hc,up:=λr c hc=>by simp [qa9]at hc
             dom:=λb e fz hω=>by
              obtain ⟨p,hp,_⟩:=qc.1 hω;exact hR2.dom b p.1 p.2 hp}
        ·intro q hq;have:q∈ptrsL rs:=by
          have hpk:∀l:List V,q∈(packed l).qq->q∈ptrsL l:=λl hq=>by
           match l,hq with
           |[],hq=>simpa [packed,V.qq]using hq
           |[x],hq=>simpa [packed,ptrsL]using hq
           |x::y::l,hq=>simpa only [packed,V.qq]using hq
          have:=hpk _ hq;rw [ptrsL_reflag]at this;exact this
         exact hplv q this
        ·exact {
          size:=hF2.size
          kept:=λb hb hM=>⟨(hF2.kept b hb hM).1,hX2o b hb⟩
          grew:=λb e fz hω=>by
           have hb:=hL.dom b e fz hω;exact ⟨e,fz,by rw [hX2o b hb];exact hω,Nat.le_refl _,id,λi v hi hc=>by rw [qC (hF2.kept b hb (hnoM b)).1];exact hc⟩
          β:=hF2.β
          own:=λb hb=>by
           rcases hb with hb|⟨q,hb⟩<;>simp at hb
          os:=hF2.os
          out:=hF2.out
          tape:=hF2.tape}
       ·rw [if_neg hset];refine ⟨X1,qh7 M.length O1,Or,qfL hrep,hlr,hlin,λq b hb hbq=>?_,λq hq=>?_,hlen',hkind,qzB hF2 λb hb=>?_⟩
        ·obtain ⟨p,h1,h2⟩:=hwhere b hb;unfold qh7 at hbq;split at hbq
         ·rename_i hq;exact hR2.dis p (.box q) (h2 q hq) b h1 hbq
         ·simp at hbq
        ·have hpk:∀l:List V,q∈(packed l).qq->q∈ptrsL l:=λl hq=>by
          match l,hq with
          |[],hq=>simpa [packed,V.qq]using hq
          |[x],hq=>simpa [packed,ptrsL]using hq
          |x::y::l,hq=>simpa only [packed,V.qq]using hq
         exact hplv q (hpk _ hq)
        ·rcases hb with hb|⟨q,hb⟩
         ·obtain ⟨p,h1,_⟩:=hwhere b hb;exact ⟨p,h1⟩
         ·exact ⟨.box q,qn2 hb⟩
      ·split at hx
       ·rename_i hchk;simp only [qe,List.isEmpty_iff]at hchk;obtain ⟨hM,_⟩:=hchk;split at hx
        ·rename_i xs hxs;split at hx
         ·rename_i hxp;obtain ⟨rfl,rfl⟩:=Prod.mk.inj (Option.some.inj hx);refine qmU (R:=λw X O v w'=>qB0 _ _ _ w X O v w') hC hm qbO hfn hbody hex he hrs λw X O w2 X1 O1 tmps vs Or hL hfz hR2 hF2 hrep hcnt hpl=>?_;subst hM;obtain ⟨hlr,hlen',hkind⟩:=qmK hR2 hF2;have hL0:st.L=[]:=List.eq_nil_of_length_eq_zero (by rw [hlen'];rfl);have hnoM:∀b,¬ Mod [] X O b:=λb hb=>by
           rcases hb with ⟨q,h1,_⟩|⟨q,h1⟩
           ·simp [qa9]at h1
           ·rw [hL.boxD q (by simp [qa9])]at h1;simp at h1
          have hold:∀b,b<w.heap.size->X1.ω b=X.ω b:=λb hb=>(hF2.kept b hb (hnoM b)).2;let X2:Cx:={β:=X1.β,ω:=λb=>match X1.ω b with
           |some p=>some (p.1,true)
           |none=>if w.heap.size<=b then (match w2.heap[b]? with
            |some (.cells arr _ _)=>some (arr.size,true)
            |_=>none)else none}
          have hX2:∀b e fz,X1.ω b=some (e,fz)->X2.ω b=some (e,true):=λb e fz h=>by simp [X2,h]
          have hX2o:∀b,b<w.heap.size->X2.ω b=X.ω b:=λb hb=>by
           show (match X1.ω b with
            |some p=>some (p.1,true)
            |none=>if w.heap.size<=b then (match w2.heap[b]? with
             |some (.cells arr _ _)=>some (arr.size,true)
             |_=>none)else none)=_
           rw [hold b hb];cases hω:X.ω b with
           |none=>simp only;rw [if_neg (by omega)]
           |some p=>obtain ⟨e,fz⟩:=p;have:=hfz rfl b e fz hω;subst this;rfl
          have hfl:Flags qL X1 X2 (λ_=>True) true :=
           {β:=rfl,own:=λf=>by simp [qL],dul:=λ_ _=>rfl,ω:=λ_ b e fz h=>⟨true,hX2 b e fz h⟩,sh:=λf b e fz h _ _ _ _=>hX2 b e fz h}
          have hrep2:RepL w2 X2 xs vs []:=peekL_okX (Ob:=λq=>O1 (.box q)) hfl (λq c hq=>by
           obtain ⟨b,h1,h2,h3,h4⟩:=hR2.box q c hq;refine ⟨b,h1,h2,h3,h4,λarr t m h5=>?_⟩;have hge:w.heap.size<=b:=by
            rcases hF2.boxM q b (by rw [hq];rfl) h1 with h6|h6
            ·exact h6
            ·exact absurd h6 (hnoM b)
           show (match X1.ω b with
            |some p=>some (p.1,true)
            |none=>if w.heap.size<=b then (match w2.heap[b]? with
             |some (.cells arr _ _)=>some (arr.size,true)
             |_=>none)else none)=_
           rw [h3];simp only
           rw [if_pos hge,h5]) _ _ _ _ hxs hrep
          refine ⟨X2,λ_=>[],[],qfL hrep2,?_,Lin.nil,by simp,?_,hlen',hkind,?_⟩
          ·rw [hL0];exact {
               box:=λr c hc=>by simp [qa9]at hc,boxD:=λ_ _=>rfl,inj:=λr r' b h1=>by simp [qa9]at h1,lin:=λ_=>Lin.nil,dis:=λ_ _ _ _ h=>by simp at h,ptrB:=λr c hc=>by simp [qa9]at hc,up:=λr c hc=>by simp [qa9]at hc
               dom:=λb e fz hω=>by
                cases h1:X1.ω b with
                |some p=>exact hR2.dom b p.1 p.2 h1
                |none =>
                 have h2:(if w.heap.size<=b then (match w2.heap[b]? with
                  |some (.cells arr _ _)=>some (arr.size,true)
                  |_=>none)else none)=some (e,fz):=by
                  have h3:X2.ω b=some (e,fz):=hω;simpa [X2,h1]using h3
                 split at h2
                 ·split at h2
                  ·rename_i h9;exact (Array.getElem?_eq_some_iff.1 h9).1
                  ·cases h2
                 ·cases h2}
          ·intro q hq;exfalso
           have hpk:∀l:List V,q∈(packed l).qq->q∈ptrsL l:=λl hq=>by
            match l,hq with
            |[],hq=>simpa [packed,V.qq]using hq
            |[x],hq=>simpa [packed,ptrsL]using hq
            |x::y::l,hq=>simpa only [packed,V.qq]using hq
           have:=hpk _ hq;rw [List.isEmpty_iff]at hxp;rw [hxp]at this;cases this
          ·exact {
            size:=hF2.size
            kept:=λb hb hM=>⟨(hF2.kept b hb hM).1,hX2o b hb⟩
            grew:=λb e fz hω=>by
             have hb:=hL.dom b e fz hω;exact ⟨e,fz,by rw [hX2o b hb];exact hω,Nat.le_refl _,id,λi v hi hc=>by rw [qC (hF2.kept b hb (hnoM b)).1];exact hc⟩
            β:=hF2.β
            own:=λb hb=>by
             rcases hb with hb|⟨q,hb⟩<;>simp at hb
            os:=hF2.os
            out:=hF2.out
            tape:=hF2.tape}
         ·cases hx
        ·cases hx
       ·cases hx
     ·cases hx
    ·cases hx
   ·cases hx
  ·cases hx
 ·cases hx
theorem qya(hC:OrcOk P C)(hm:P.follows .mixedOrders=true)(qbO:qh1 P H){g:FuncId}{args:List V}{r:V}{s:Nat}{es:List (Value×Value)}
  (hx:qv1 P H C g args=some (r,s,es)):qvF P g args r s es:=by
 unfold qv1 at hx;split at hx
 ·rename_i fn hfn;split at hx
  ·rename_i c hbody;split at hx
   ·rename_i e st hex;split at hx
    ·rename_i he;split at hx
     ·rename_i rs hrs;split at hx
      ·rename_i xs hxs;split at hx
       ·rename_i r0 hptr;split at hx
        ·rename_i hl0;split at hx
         ·rename_i es0 hbx;split at hx
          ·rename_i hom;simp only [qb,Prod.mk.injEq]at hx;obtain ⟨rfl,rfl,rfl⟩:=hx;have hpk:∀(l:List V) (q:Root),q∈(packed l).qq->q∈ptrsL l:=λl q hq=>by
            match l,hq with
            |[],hq=>simpa [packed,V.qq]using hq
            |[x],hq=>simpa [packed,ptrsL]using hq
            |x::y::l,hq=>simpa only [packed,V.qq]using hq
           have hpo:∀l:List V,onlyMapsL l=true->(packed l).onlyMaps=true:=λl hl=>by
            match l,hl with
            |[],hl=>rfl
            |[x],hl=>simpa [packed,onlyMapsL]using hl
            |x::y::l,hl=>simpa only [packed,V.onlyMaps]using hl
           have hr0:r0=⟨0,r0.slot⟩:=by cases r0;simp only at hl0;subst hl0;rfl
           refine ⟨hpo _ hom,λk hk=>?_,λw X vals ha hgl hd hp hfz=>?_⟩
           ·have h1:=hpk _ _ hk;rw [hptr,List.mem_singleton]at h1;rw [h1];exact hr0
           ·have hL:LRel [] w X (λ_=>[]) :=
             {box:=λr c hc=>by simp [qa9]at hc,boxD:=λ_ _=>rfl,inj:=λr r' b h1=>by simp [qa9]at h1,lin:=λ_=>Lin.nil,dis:=λ_ _ _ _ h=>by simp at h,ptrB:=λr c hc=>by simp [qa9]at hc,up:=λr c hc=>by simp [qa9]at hc,dom:=hd}
            refine (qmU (M:=[]) (R:=λw X O v w'=>(∀r,O r=[])->∃X' b ents ck,Rep w' X' (packed xs) v []/\Dom w' X'/\X'.β ⟨0,r0.slot⟩=some b/\w.heap.size<=b/\b<w'.heap.size/\X'.ω b=none/\w'.heap[b]?=some (.map ents ck)/\ents.toList.map kv=es0 /\
             Aft w X (Mod [] X (λ_=>[])) 0 w' X' (λ_=>False)) hC hm qbO hfn hbody hex he hrs ?_ w X vals (λ_=>[]) ha hgl hL (by rw [hp];simp) (λ_=>hfz)).mono (λ_=>trivial) (λv w' h=>h λ_=>rfl)
            clear hL ha hgl hd hp hfz;intro w X O w2 X1 O1 tmps vs Or hL hfz hR2 hF2 hrep hcnt hpl hO;have hnoM:∀b,¬ Mod [] X O b:=λb hb=>by
             rcases hb with ⟨q,h1,_⟩|⟨q,h1⟩
             ·simp [qa9]at h1
             ·rw [hL.boxD q (by simp [qa9])]at h1;simp at h1
            have hold:∀b,b<w.heap.size->X1.ω b=X.ω b:=λb hb=>(hF2.kept b hb (hnoM b)).2;let X2:Cx:={β:=X1.β,ω:=λb=>match X1.ω b with
             |some p=>some (p.1,true)
             |none=>if w.heap.size<=b then (match w2.heap[b]? with
              |some (.cells arr _ _)=>some (arr.size,true)
              |_=>none)else none}
            have hX2:∀b e fz,X1.ω b=some (e,fz)->X2.ω b=some (e,true):=λb e fz h=>by simp [X2,h]
            have hX2o:∀b,b<w.heap.size->X2.ω b=X.ω b:=λb hb=>by
             show (match X1.ω b with
              |some p=>some (p.1,true)
              |none=>if w.heap.size<=b then (match w2.heap[b]? with
               |some (.cells arr _ _)=>some (arr.size,true)
               |_=>none)else none)=_
             rw [hold b hb];cases hω:X.ω b with
             |none=>simp only;rw [if_neg (by omega)]
             |some p=>obtain ⟨e,fz⟩:=p;have:=hfz rfl b e fz hω;subst this;rfl
            have hfl:Flags qL X1 X2 (λ_=>True) true :=
             {β:=rfl,own:=λf=>by simp [qL],dul:=λ_ _=>rfl,ω:=λ_ b e fz h=>⟨true,hX2 b e fz h⟩,sh:=λf b e fz h _ _ _ _=>hX2 b e fz h}
            have hrep2:RepL w2 X2 xs vs []:=peekL_okX (Ob:=λq=>O1 (.box q)) hfl (λq c hq=>by
             obtain ⟨b,h1,h2,h3,h4⟩:=hR2.box q c hq;refine ⟨b,h1,h2,h3,h4,λarr t m h5=>?_⟩;have hge:w.heap.size<=b:=by
              rcases hF2.boxM q b (by rw [hq];rfl) h1 with h6|h6
              ·exact h6
              ·exact absurd h6 (hnoM b)
             show (match X1.ω b with
              |some p=>some (p.1,true)
              |none=>if w.heap.size<=b then (match w2.heap[b]? with
               |some (.cells arr _ _)=>some (arr.size,true)
               |_=>none)else none)=_
             rw [h3];simp only
             rw [if_pos hge,h5]) _ _ _ _ hxs hrep
            obtain ⟨b,hβ,hlt,hω,hbxr⟩:=hR2.box r0 _ hbx;obtain ⟨ents,ck,hw,hes,_⟩:=hbxr.map;have hge:w.heap.size<=b:=by
             rcases hF2.boxM r0 b (by rw [hbx];rfl) hβ with h6|h6
             ·exact h6
             ·exact absurd h6 (hnoM b)
            refine ⟨X2,b,ents,ck,qfL hrep2,λb e fz hω=>?_,by rw [<- hr0];exact hβ,hge,hlt,by simp [X2,hω,hw],hw,hes,?_⟩
            ·cases h1:X1.ω b with
             |some p=>exact hR2.dom b p.1 p.2 h1
             |none =>
              have h2:(if w.heap.size<=b then (match w2.heap[b]? with
               |some (.cells arr _ _)=>some (arr.size,true)
               |_=>none)else none)=some (e,fz):=by
               have h3:X2.ω b=some (e,fz):=hω;simpa [X2,h1]using h3
              split at h2
              ·split at h2
               ·rename_i h9;exact (Array.getElem?_eq_some_iff.1 h9).1
               ·cases h2
              ·cases h2
            ·exact {
              size:=hF2.size
              kept:=λb hb hM=>⟨(hF2.kept b hb (hnoM b)).1,hX2o b hb⟩
              grew:=λb e fz hω=>by
               have hb:=hL.dom b e fz hω;exact ⟨e,fz,by rw [hX2o b hb];exact hω,Nat.le_refl _,id,λi v hi hc=>by rw [qC (hF2.kept b hb (hnoM b)).1];exact hc⟩
              β:=λr hr=>hF2.β r hr
              own:=λb hb=>hb.elim
              os:=hF2.os
              out:=hF2.out
              tape:=hF2.tape}
          ·cases hx
         ·cases hx
        ·cases hx
       ·cases hx
      ·cases hx
     ·cases hx
    ·cases hx
   ·cases hx
  ·cases hx
 ·cases hx
theorem qoO{v:V}(h:v≠.val (.slice none 0 0)):v.qc0=v:=by
 unfold V.qc0;split
 ·exact absurd rfl h
 ·rfl
theorem qxn{w:World}{X:Cx}{x:V}{v:Value}{O:List Nat}(h:Rep w X x v O):Rep w X x.qc0 v O/\x.qc0.qq=x.qq:=by
 by_cases hx:x=.val (.slice none 0 0)
 ·subst hx;simp only [Rep]at h;obtain ⟨rfl,rfl⟩:=h;exact ⟨by simp [V.qc0,Rep,ptrsL],by simp [V.qc0,V.qq,ptrsL]⟩
 ·rw [qoO hx];exact ⟨h,rfl⟩
theorem qof{w:World}{X:Cx}:∀{l:List V} {vals:List Value} {O:List Nat},RepL w X l vals O->RepL w X (l.map V.qc0) vals O/\ptrsL (l.map V.qc0)=ptrsL l
 |[],_,_,h=>⟨h,rfl⟩
 |x::l,vals,O,h=>by
  simp only [RepL]at h;obtain ⟨u,vs,O1,O2,rfl,rfl,h1,h2⟩:=h;obtain ⟨a1,a2⟩:=qxn h1;obtain ⟨b1,b2⟩:=qof h2;exact ⟨by simp only [qh,RepL];exact ⟨u,vs,O1,O2,rfl,rfl,a1,b1⟩,by simp only [qh,ptrsL,a2,b2]⟩
theorem qut{g:FuncId}{args:List V}{M M':List Level}{r:V}(h:qaS P g (dnA H g args) M r M'):qaS P g args M r M':=by
 unfold dnA at h;cases hd:H.qc0 g with
 |false=>rw [hd]at h;exact h
 |true =>
  rw [hd]at h;intro w X vals O ha hgl hL hp hfz;obtain ⟨h1,h2⟩:=qof ha;exact h w X vals O h1 hgl hL (λq hq=>hp q (by rw [<- h2];exact hq)) hfz
theorem qly{v:V}(h:v≠.val (.slice none 0 0)):v.qbi=v:=by
 unfold V.qbi;split
 ·exact absurd rfl h
 ·rfl
theorem qve{w:World}{X:Cx}{x:V}{v:Value}{O:List Nat}(h:Rep w X x v O):Rep w X x.qbi v O/\x.qbi.qq=x.qq:=by
 by_cases hx:x=.val (.slice none 0 0)
 ·subst hx;simp only [Rep]at h;obtain ⟨rfl,rfl⟩:=h;exact ⟨by simp [V.qbi,Rep,ptrsL],by simp [V.qbi,V.qq,ptrsL]⟩
 ·rw [qly hx];exact ⟨h,rfl⟩
theorem qmL{w:World}{X:Cx}:∀{l:List V} {vals:List Value} {O:List Nat},RepL w X l vals O->RepL w X (l.map V.qbi) vals O/\ptrsL (l.map V.qbi)=ptrsL l
 |[],_,_,h=>⟨h,rfl⟩
 |x::l,vals,O,h=>by
  simp only [RepL]at h;obtain ⟨u,vs,O1,O2,rfl,rfl,h1,h2⟩:=h;obtain ⟨a1,a2⟩:=qve h1;obtain ⟨b1,b2⟩:=qmL h2;exact ⟨by simp only [qh,RepL];exact ⟨u,vs,O1,O2,rfl,rfl,a1,b1⟩,by simp only [qh,ptrsL,a2,b2]⟩
theorem qr8{g:FuncId}{args:List V}{M M':List Level}{r:V}(h:qaS P g (args.map V.qbi) M r M'):qaS P g args M r M':=by
 intro w X vals O ha hgl hL hp hfz;obtain ⟨h1,h2⟩:=qmL ha;exact h w X vals O h1 hgl hL (λq hq=>hp q (by rw [<- h2];exact hq)) hfz
mutual
theorem rep_denilD{w:World}{X:Cx}:∀(x:V) (v:Value) (O:List Nat),Rep w X x v O->Rep w X x.denilD v O/\x.denilD.qq=x.qq
 |.agg l,v,O,h=>by
  simp only [Rep]at h;obtain ⟨vals,rfl,h⟩:=h;obtain ⟨h1,h2⟩:=repL_denilD l vals O h;exact ⟨by simp only [V.denilD,Rep];exact ⟨vals,rfl,h1⟩,by simp only [V.denilD,V.qq,h2]⟩
 |.tuple l,v,O,h=>by
  simp only [Rep]at h;obtain ⟨vals,rfl,h⟩:=h;obtain ⟨h1,h2⟩:=repL_denilD l vals O h;exact ⟨by simp only [V.denilD,Rep];exact ⟨vals,rfl,h1⟩,by simp only [V.denilD,V.qq,h2]⟩
 |.val u,v,O,h=>by
  by_cases hu:u=.slice none 0 0
  ·subst hu;simp only [Rep]at h;obtain ⟨rfl,rfl⟩:=h;exact ⟨by simp [V.denilD,Rep,ptrsL],by simp [V.denilD,V.qq,ptrsL]⟩
  ·have e:(V.val u).denilD=.val u:=by
    unfold V.denilD;split<;>first|rfl|(rename_i e;cases e;exact absurd rfl hu)|(rename_i e;cases e)
   rw [e];exact ⟨h,rfl⟩
 |.undef,v,O,h=>⟨h,rfl⟩
 |.ptr ..,v,O,h=>⟨h,rfl⟩
 |.cptr ..,v,O,h=>⟨h,rfl⟩
 |.sl ..,v,O,h=>⟨h,rfl⟩
 |.room ..,v,O,h=>⟨h,rfl⟩
 |.fn ..,v,O,h=>⟨h,rfl⟩
 |.yld _,v,O,h=>⟨h,rfl⟩
 |.iface ..,v,O,h=>⟨h,rfl⟩
 |.mref _,v,O,h=>⟨h,rfl⟩
 |.bsl ..,v,O,h=>⟨h,rfl⟩
 |.mp _,v,O,h=>⟨h,rfl⟩
 |.lp ..,v,O,h=>⟨h,rfl⟩
theorem repL_denilD{w:World}{X:Cx}:∀(l:List V) (vals:List Value) (O:List Nat),RepL w X l vals O->RepL w X (denilDL l) vals O/\ptrsL (denilDL l)=ptrsL l
 |[],_,_,h=>⟨h,rfl⟩
 |x::l,vals,O,h=>by
  simp only [RepL]at h;obtain ⟨u,vs,O1,O2,rfl,rfl,h1,h2⟩:=h;obtain ⟨a1,a2⟩:=rep_denilD x u O1 h1;obtain ⟨b1,b2⟩:=repL_denilD l vs O2 h2;exact ⟨by simp only [denilDL,RepL];exact ⟨u,vs,O1,O2,rfl,rfl,a1,b1⟩,by simp only [denilDL,ptrsL,a2,b2]⟩
end
theorem qyf{g:FuncId}{args:List V}{M M':List Level}{r:V}(h:qaS P g args M r M'):qaS P g args M (dnR H g r) M':=by
 unfold dnR;cases H.denr g with
 |false=>exact h
 |true =>
  intro w X vals O ha hgl hL hp hfz;refine (h w X vals O ha hgl hL hp hfz).mono id ?_;rintro v w' ⟨X',O',Or,hrep,h2,h3,h4,h5,h6⟩;obtain ⟨g1,g2⟩:=rep_denilD r v Or hrep;exact ⟨X',O',Or,g1,h2,h3,h4,by simp only [cond_true,g2];exact h5,h6⟩
def qAZ(O1:List Nat):Pl->List Nat
 |.tmp 0=>O1
 |_=>[]
def qsd(X:Cx)(O1:List Nat):Cx:={β:=X.β,ω:=λk=>if k∈O1 then none else X.ω k}
def mdO(O1:List Nat):Md:={may:=λb=>b∈O1,kind:=λ_=>none}
theorem qvc(hgl:qlo w X)(hdom:Dom w X){x0:V}{v0:Value}{O1:List Nat}{E:List V}{vs:List Value}{tmps:Array Value}(ht:tmps.toList=v0::vs)(h0:Rep w X x0 v0 O1)(hE:RepL w X E vs [])(hlin:Lin O1)(hp:ptrsL (x0::E)=[]) :
  Rel {E:=x0::E,L:=[],B:=[]} tmps w X (qAZ O1)/\Fr w (qsd X O1) (mdO O1) 0 {E:=x0::E,L:=[],B:=[]} w X (qAZ O1):=by
 have hbox:∀r,({E:=x0::E,L:=[],B:=[]}:St).box r=none:=λr=>by
  unfold St.box;split
  ·rfl
  ·simp
 have hown:=rep_own x0 v0 O1 h0;have hgl':∀x∈qAX,x.1∉O1:=λx hx hm=>by
  obtain ⟨⟨e,he⟩,_⟩:=hgl x hx;obtain ⟨e',he'⟩:=hown _ hm;rw [he]at he';cases he'
 have hR:Rel {E:=x0::E,L:=[],B:=[]} tmps w X (qAZ O1):={
  size:=by
   have:=congrArg List.length ht;simp only [Array.length_toList,List.length_cons]at this;rw [this,List.length_cons,<- qE _ _ _ hE]
  env:=λt x hx=>by
   cases t with
   |zero =>
    simp only [List.getElem?_cons_zero,qb]at hx;subst hx;exact ⟨v0,by rw [<- Array.getElem?_toList,ht];rfl,h0⟩
   |succ t =>
    simp only [List.getElem?_cons_succ]at hx;obtain ⟨v,Oi,hv,hr,hc⟩:=qjj t hE hx;have:Oi=[]:=by
     cases Oi with
     |nil=>rfl
     |cons b l=>have:=hc b;simp at this
    subst this;exact ⟨v,by rw [<- Array.getElem?_toList,ht,List.getElem?_cons_succ];exact hv,hr⟩
  envD:=λt ht'=>by
   cases t with
   |zero=>simp at ht'
   |succ t=>rfl
  box:=λr c hr=>by rw [hbox]at hr;cases hr
  boxD:=λr _=>rfl
  inj:=λr r' b h1=>by rw [hbox]at h1;cases h1
  lin:=λp=>by
   unfold qAZ;split
   ·exact hlin
   ·exact Lin.nil
  dis:=λp q hpq b hb hbq=>by
   unfold qAZ at hb hbq;split at hb
   ·split at hbq
    ·exact hpq rfl
    ·simp at hbq
   ·simp at hb
  ptrE:=λr hr=>by rw [hp]at hr;cases hr
  ptrB:=λr c hr=>by rw [hbox]at hr;cases hr
  up:=λr c hr=>by rw [hbox]at hr;cases hr
  dom:=hdom}
 refine ⟨hR,?_⟩;exact {
  size:=Nat.le_refl _
  kept:=λb _ hb=>⟨rfl,by have hb:b∉O1:=hb;simp [qsd,hb]⟩
  grew:=λb e fz hω=>by
   simp only [qsd]at hω;split at hω
   ·cases hω
   ·exact ⟨e,fz,hω,Nat.le_refl _,id,λ_ _ _ h=>h⟩
  β:=λ_ _=>rfl
  own:=λp b hb=>by
   unfold qAZ at hb;split at hb
   ·exact .inr hb
   ·simp at hb
  boxM:=λr b hr=>by rw [hbox]at hr;cases hr
  lev:=rfl
  live:=λr hr=>by omega
  os:=rfl
  out:=rfl
  tape:=rfl
  gl:=hgl.of λx hx e hω=>⟨⟨e,by simp only [qsd,hgl' x hx,if_false];exact hω⟩,rfl⟩
  gm:=λx hx hm=>hgl' x hx hm}
theorem qAx(hC:OrcOk P C)(hm:P.follows .mixedOrders=true)(qbO:qh1 P H){g:FuncId}{a0:V}{xs:List V}{r:V}(hno:ownsL xs=false)(hx:qBB P H C g (a0::xs)=some r):qA2 P g (a0::xs) r:=by
 unfold qBB at hx;split at hx
 ·rename_i fn hfn;split at hx
  ·rename_i c hbody;split at hx
   ·rename_i e st hex;split at hx
    ·rename_i he;split at hx
     ·rename_i rs hrs;split at hx
      ·rename_i hchk;simp only [qb]at hx;subst hx;simp only [qe]at hchk;obtain ⟨hptr,hkeys⟩:=hchk;simp only [qh6,qe]at hkeys;obtain ⟨hdist,_⟩:=hkeys;intro w X vals Oin ha hgl hdom hlin hp hfz;have ha0:=ha;simp only [RepL]at ha;obtain ⟨v0,vs,O1,O2,rfl,rfl,h0,hxs⟩:=ha;have hO2:O2=[]:=repL_noowns xs vs O2 hno hxs;subst hO2;simp only [List.append_nil]at hlin hfz ⊢;left
       have hbs:fn.body.isNone=false:=by rw [hbody];rfl
       refine ⟨?_,?_⟩
       ·simp only [callFunc,Sem.run_bind,run_program,Result.andThen_ok,hfn,qbO.1 g fn hfn (by rw [hbody];rfl),hbs,qf,if_false,Sem.run_pure]
       ·refine callsIn_wide.1 (callsIn_of_wp_marks (n:=0) hfn hbody trivial ?_);have hlen:=qE _ _ _ ha0;simp only [List.length_cons]at hlen;have hE:RepL w X (xs++List.replicate (fn.ntmps-(a0::xs).length) .undef) (vs++List.replicate (fn.ntmps-(v0::vs).toArray.size) undef) []:=by
         have:=qaq hxs (qj9 (w:=w) (X:=X) (fn.ntmps-(a0::xs).length));simpa [hlen]using this
        obtain ⟨hR0,hF0⟩:=qvc (tmps:=(v0::vs).toArray++Array.replicate (fn.ntmps-(v0::vs).toArray.size) undef) hgl hdom (by simp) h0 hE hlin (by
         have h1:ptrsL ((a0::xs)++List.replicate (fn.ntmps-(a0::xs).length) .undef)=[]:=by rw [q9,qj7,hp];rfl
         exact h1)
        have hfz':∀b e fz,(qsd X O1).ω b=some (e,fz)->fz=true:=λb e fz hω=>by
         simp only [qsd]at hω;split at hω
         ·cases hω
         ·rename_i hb;rcases hfz b e fz hω with h1|h1
          ·exact h1
          ·exact absurd h1 hb
        refine wpIn_mono (qAe hC hm qbO.2.1 c 0 _ e st hex Fence.wide w (qsd X O1) _ _ {tmps:=_,defers:=[]} w ⟨.inl rfl,λ_=>hfz'⟩ ⟨X,_,hR0,hF0,[],rfl,.nil,by simp⟩).wp ?_;rintro e' a' w1 ⟨rfl,X1,O1',hR,hF,ks,hD,hnd,hks⟩;have hgoal:LeavesInM Fence.wide 0 P fn a'.tmps (λe w'=>∃v,e=.returned v/\∃X' Or,Rep w' X' (packed rs) v Or/\Lin Or/\(∀k∈Or,k∈O1\/w.heap.size<=k)/\Dom w' X'/\w.heap.size<=w'.heap.size/\(∀k,k<w.heap.size->k∉O1->w'.heap[k]?=w.heap[k]?)/\w'.os=w.os/\w'.output=w.output/\w'.tape=w.tape) a'.defers .returning w1:=by
         rw [hD];refine qgO ks w1 hnd (λk hk=>(hks k hk).2.1) λw2 hsz hsame hos hout htape=>?_;have hωs:∀k e fz,X1.ω k=some (e,fz)->w2.heap[k]?=w1.heap[k]?:=λk e fz hω=>hsame k λhk=>by rw [(hks k hk).2.2]at hω;cases hω
         have hR2:Rel st a'.tmps w2 X1 O1':=hR.same hsz hωs λk c A hb=>hsame k λhk=>qpm hb (hks k hk).2.1 rfl;obtain ⟨vals2,Or,hrun,hrep,hcnt,hpl⟩:=qkb hR2 fn.results.toList rs hrs;refine ⟨_,qmS hrun,_,rfl,X1,Or,qfL hrep,?_,?_,hR2.dom,by have:=hF.size;omega,?_,by rw [hos,hF.os],by rw [hout,hF.out],by rw [htape,hF.tape]⟩
         ·exact λb=>Nat.le_trans (hcnt b) (qki hR2.lin hR2.dis b _ hdist)
         ·intro b hb;have h1:=List.count_pos_iff.2 hb;obtain ⟨rv,hrv,h2⟩:=qs6 _ _ (Nat.lt_of_lt_of_le h1 (hcnt b));rcases hF.own _ b (List.count_pos_iff.1 h2)with h3|h3
          ·exact .inr h3
          ·exact .inl h3
         ·intro k hk hkO;obtain ⟨h1,_⟩:=hF.kept k hk hkO;rw [hsame k λhk'=>by have:=(hks k hk').1;omega,h1]
        rcases he with rfl|rfl
        ·exact hgoal
        ·exact hgoal
      ·cases hx
     ·cases hx
    ·cases hx
   ·cases hx
  ·cases hx
 ·cases hx
theorem qsG(hm:P.follows .mixedOrders=true)(qbO:qh1 P H){lib:FuncId->Option (List V->Option V)}
  (hlib:∀g h args r,lib g=some h->h args=some r->qaS P g args [] r []):∀n,OrcOk P (qkV P H lib n)
 |0=>⟨λ_ _ _ _ _ h=>by simp [qkV]at h,λ_ _ _ _ _ _ h=>by simp [qkV]at h,λ_ _ _ _ _ h=>by simp [qkV]at h,λ_ _ h=>by simp [qkV]at h,λ_ _ _ h=>by simp [qkV]at h⟩
 |n+1=>by
  have ih:=qsG hm qbO hlib n;refine ⟨λg args M r M' h=>?_,λf bid c st e st' h=>qAe ih hm qbO.2.1 c bid st e st' h,λg args r s es h=>qya ih hm qbO h,λg c h=>qbO.2.2 g c h,λg args r h=>by
   simp only [qkV]at h;split at h
   ·rename_i hc;simp only [qe,Bool.not_eq_true']at hc;cases args with
    |nil=>exact absurd hc.1.2 (by simp)
    |cons a0 xs=>exact qAx ih hm qbO hc.2 h
   ·cases h⟩
  simp only [qkV]at h;split at h
  ·rename_i h0 hl;split at h
   ·rename_i hM;obtain ⟨v,h1,h2⟩:=qc.1 h;obtain ⟨rfl,rfl⟩:=Prod.mk.inj h2;have:M=[]:=by simpa using hM
    subst this;exact hlib g h0 args v hl h1
   ·cases h
  ·split at h
   ·exact qCa (λargs M r M' h=>qr8 (qxv ih hm qbO h)) h
   ·obtain ⟨⟨r0,M0⟩,h1,h2⟩:=qc.1 h;obtain ⟨rfl,rfl⟩:=Prod.mk.inj h2;exact qyf (qut (qxv ih hm qbO h1))
end
end Go.Ab
end
section
namespace Go.Tx
section
structure Mask where
 bits:Nat
 deriving DecidableEq
def Mask.has(m:Mask)(t:Nat):Bool:=Nat.testBit m.bits t
instance:Membership Nat Mask:=⟨λm t=>m.has t=true⟩
instance (t:Nat) (m:Mask):Decidable (t∈m):=inferInstanceAs (Decidable (m.has t=true))
def Mask.empty:Mask:=⟨0⟩
def Mask.ins(t:Nat)(m:Mask):Mask:=⟨Nat.lor m.bits (Nat.shiftLeft 1 t)⟩
def Mask.union(a b:Mask):Mask:=⟨Nat.lor a.bits b.bits⟩
instance:Append Mask:=⟨Mask.union⟩
def Mask.sub(a b:Mask):Bool:=Nat.beq (Nat.lor a.bits b.bits) b.bits
def Mask.ofList(l:List Nat):Mask:=l.foldr Mask.ins .empty
theorem Mask.mem_iff{m:Mask}{t:Nat}:t∈m↔m.has t=true:=Iff.rfl
@[simp] theorem Mask.mem_empty {t:Nat}:¬ t∈Mask.empty:=by
 rw [Mask.mem_iff];unfold Mask.has Mask.empty;simp
@[simp] theorem Mask.mem_ins {m:Mask} {t u:Nat}:u∈Mask.ins t m↔u=t\/u∈m:=by
 rw [Mask.mem_iff,Mask.mem_iff];unfold Mask.has Mask.ins;have e:Nat.lor m.bits (Nat.shiftLeft 1 t)=m.bits ||| (1 <<< t):=rfl
 simp only [e,Nat.testBit_or,Bool.or_eq_true,Nat.one_shiftLeft,Nat.testBit_two_pow,decide_eq_true_eq];constructor
 ·rintro (h|h)
  ·exact .inr h
  ·exact .inl h.symm
 ·rintro (h|h)
  ·exact .inr h.symm
  ·exact .inl h
@[simp] theorem Mask.mem_append {a b:Mask} {t:Nat}:t∈a++b↔t∈a\/t∈b:=by
 show t∈Mask.union a b↔_;rw [Mask.mem_iff,Mask.mem_iff,Mask.mem_iff];unfold Mask.has Mask.union;have e:Nat.lor a.bits b.bits=a.bits ||| b.bits:=rfl
 simp only [e,Nat.testBit_or,Bool.or_eq_true]
@[simp] theorem Mask.mem_ofList {l:List Nat} {t:Nat}:t∈Mask.ofList l↔t∈l:=by
 induction l with
 |nil=>simp [Mask.ofList]
 |cons a l ih =>
  have:Mask.ofList (a::l)=Mask.ins a (Mask.ofList l):=rfl;rw [this,Mask.mem_ins,ih];simp
theorem Mask.qxH{a b:Mask}(h:a.sub b=true){t:Nat}(ht:t∈a):t∈b:=by
 unfold Mask.sub at h;have h1:=Nat.eq_of_beq_eq_true h;rw [Mask.mem_iff]at ht ⊢;unfold Mask.has at ht ⊢;rw [<- h1];have e:Nat.lor a.bits b.bits=a.bits ||| b.bits:=rfl
 rw [e,Nat.testBit_or,ht];rfl
theorem Mask.qBI{a b:Mask}(h:∀t,t∈a->t∈b):a.sub b=true:=by
 unfold Mask.sub;have:Nat.lor a.bits b.bits=b.bits:=by
  apply Nat.eq_of_testBit_eq;intro i;have e:Nat.lor a.bits b.bits=a.bits ||| b.bits:=rfl
  rw [e,Nat.testBit_or];have h1:=h i;rw [Mask.mem_iff,Mask.mem_iff]at h1;unfold Mask.has at h1;cases ha:a.bits.testBit i with
  |false=>rfl
  |true=>rw [h1 ha];rfl
 rw [this];exact Nat.beq_refl _
inductive Tr (α:Type) where
 |nil
 |node (v:α) (l r:Tr α)
section
variable {α:Type} (d:α)
noncomputable def Tr.get(t:Tr α):Nat->α :=
 Tr.rec (motive:=λ_=>Nat->α) (λ_=>d) (λv l r gl gr i=>Bool.rec (motive:=λ_=>α) (Bool.rec (motive:=λ_=>α) (gr (Nat.pred (Nat.div i 2))) (gl (Nat.div i 2)) (Nat.beq (Nat.mod i 2) 1)) v (Nat.beq i 0)) t
noncomputable def Tr.one(k:Nat):Nat->α->Tr α :=
 Nat.rec (motive:=λ_=>Nat->α->Tr α) (λ_ _=>.nil) (λ_ g i v=>Bool.rec (motive:=λ_=>Tr α) (Bool.rec (motive:=λ_=>Tr α) (.node d .nil (g (Nat.pred (Nat.div i 2)) v)) (.node d (g (Nat.div i 2) v) .nil) (Nat.beq (Nat.mod i 2) 1)) (.node v .nil .nil) (Nat.beq i 0)) k
noncomputable def Tr.set(t:Tr α):Nat->α->Tr α :=
 Tr.rec (motive:=λ_=>Nat->α->Tr α) (λi v=>Tr.one d (Nat.succ i) i v) (λu l r gl gr i v=>Bool.rec (motive:=λ_=>Tr α) (Bool.rec (motive:=λ_=>Tr α) (.node u l (gr (Nat.pred (Nat.div i 2)) v)) (.node u (gl (Nat.div i 2) v) r) (Nat.beq (Nat.mod i 2) 1)) (.node v l r) (Nat.beq i 0)) t
theorem Tr.get_nil(i:Nat):(Tr.nil:Tr α).get d i=d:=rfl
theorem qv7{β:Type}(a b:β)(c:Bool):Bool.rec (motive:=λ_=>β) b a c=if c=true then a else b:=by cases c<;>rfl
theorem Tr.qbY(v:α)(l r:Tr α)(i:Nat):(Tr.node v l r).get d i=if i=0 then v else if i % 2=1 then l.get d (i / 2)else r.get d (i / 2-1):=by
 have e:(Tr.node v l r).get d i=Bool.rec (motive:=λ_=>α) (Bool.rec (motive:=λ_=>α) (r.get d (Nat.pred (Nat.div i 2))) (l.get d (Nat.div i 2)) (Nat.beq (Nat.mod i 2) 1)) v (Nat.beq i 0):=rfl;rw [e,qv7,qv7];simp only [Nat.beq_eq];rfl
theorem Tr.qyN(k i:Nat)(v:α):Tr.one d (k+1) i v=if i=0 then .node v .nil .nil else if i % 2=1 then .node d (Tr.one d k (i / 2) v) .nil else .node d .nil (Tr.one d k (i / 2-1) v):=by
 have e:Tr.one d (k+1) i v=Bool.rec (motive:=λ_=>Tr α) (Bool.rec (motive:=λ_=>Tr α) (.node d .nil (Tr.one d k (Nat.pred (Nat.div i 2)) v)) (.node d (Tr.one d k (Nat.div i 2) v) .nil) (Nat.beq (Nat.mod i 2) 1)) (.node v .nil .nil) (Nat.beq i 0):=rfl;rw [e,qv7,qv7];simp only [Nat.beq_eq];rfl
theorem Tr.set_nil(i:Nat)(v:α):(Tr.nil:Tr α).set d i v=Tr.one d (i+1) i v:=rfl
theorem Tr.qy9(u:α)(l r:Tr α)(i:Nat)(v:α):(Tr.node u l r).set d i v=if i=0 then .node v l r else if i % 2=1 then .node u (l.set d (i / 2) v) r else .node u l (r.set d (i / 2-1) v):=by
 have e:(Tr.node u l r).set d i v=Bool.rec (motive:=λ_=>Tr α) (Bool.rec (motive:=λ_=>Tr α) (.node u l (r.set d (Nat.pred (Nat.div i 2)) v)) (.node u (l.set d (Nat.div i 2) v) r) (Nat.beq (Nat.mod i 2) 1)) (.node v l r) (Nat.beq i 0):=rfl;rw [e,qv7,qv7];simp only [Nat.beq_eq];rfl
theorem half(i j:Nat):(i % 2=1->j % 2=1->(i=j↔i / 2=j / 2))/\(i≠0->j≠0->i % 2≠1->j % 2≠1->(i=j↔i / 2-1=j / 2-1)):=by
 constructor<;>intros<;>omega
theorem Tr.qsm:∀(k i:Nat) (v:α) (j:Nat),i<k->(Tr.one d k i v).get d j=if i=j then v else d
 |0,i,v,j,h=>by omega
 |k+1,i,v,j,h=>by
  rw [Tr.qyN];obtain ⟨h1,h2⟩:=half i j;by_cases i0:i=0
  ·rw [if_pos i0,Tr.qbY];by_cases j0:j=0
   ·rw [if_pos j0,if_pos (show i=j by omega)]
   ·rw [if_neg j0,if_neg (show ¬ i=j by omega)];by_cases jo:j % 2=1
    ·rw [if_pos jo];rfl
    ·rw [if_neg jo];rfl
  ·rw [if_neg i0];by_cases io:i % 2=1
   ·rw [if_pos io,Tr.qbY];by_cases j0:j=0
    ·rw [if_pos j0,if_neg (show ¬ i=j by omega)]
    ·rw [if_neg j0];by_cases jo:j % 2=1
     ·rw [if_pos jo,Tr.qsm k _ v _ (by omega)];simp only [h1 io jo]
     ·rw [if_neg jo,if_neg (show ¬ i=j by omega)];rfl
   ·rw [if_neg io,Tr.qbY];by_cases j0:j=0
    ·rw [if_pos j0,if_neg (show ¬ i=j by omega)]
    ·rw [if_neg j0];by_cases jo:j % 2=1
     ·rw [if_pos jo,if_neg (show ¬ i=j by omega)];rfl
     ·rw [if_neg jo,Tr.qsm k _ v _ (by omega)];simp only [h2 i0 j0 io jo]
theorem Tr.qo0:∀(t:Tr α) (i:Nat) (v:α) (j:Nat),(t.set d i v).get d j=if i=j then v else t.get d j
 |.nil,i,v,j=>by rw [Tr.set_nil,Tr.qsm d _ _ _ _ (by omega),Tr.get_nil]
 |.node u l r,i,v,j=>by
  rw [Tr.qy9];obtain ⟨h1,h2⟩:=half i j;by_cases i0:i=0
  ·rw [if_pos i0,Tr.qbY,Tr.qbY];by_cases j0:j=0
   ·rw [if_pos j0,if_pos (show i=j by omega)]
   ·rw [if_neg j0,if_neg j0,if_neg (show ¬ i=j by omega)]
  ·rw [if_neg i0];by_cases io:i % 2=1
   ·rw [if_pos io,Tr.qbY,Tr.qbY];by_cases j0:j=0
    ·rw [if_pos j0,if_pos j0,if_neg (show ¬ i=j by omega)]
    ·rw [if_neg j0,if_neg j0];by_cases jo:j % 2=1
     ·rw [if_pos jo,if_pos jo,Tr.qo0 l];simp only [h1 io jo]
     ·rw [if_neg jo,if_neg jo,if_neg (show ¬ i=j by omega)]
   ·rw [if_neg io,Tr.qbY,Tr.qbY];by_cases j0:j=0
    ·rw [if_pos j0,if_pos j0,if_neg (show ¬ i=j by omega)]
    ·rw [if_neg j0,if_neg j0];by_cases jo:j % 2=1
     ·rw [if_pos jo,if_pos jo,if_neg (show ¬ i=j by omega)]
     ·rw [if_neg jo,if_neg jo,Tr.qo0 r];simp only [h2 i0 j0 io jo]
noncomputable def Tr.fill(n:Nat)(f:Nat->α->α)(k:Nat):Nat->Nat->Tr α :=
 Nat.rec (motive:=λ_=>Nat->Nat->Tr α) (λ_ _=>.nil) (λ_ g a b=>Bool.rec (motive:=λ_=>Tr α) .nil (.node (f b d) (g (Nat.mul 2 a) (Nat.add a b)) (g (Nat.mul 2 a) (Nat.add (Nat.mul 2 a) b))) (Nat.ble (Nat.succ b) n)) k
noncomputable def Tr.qsz(n:Nat)(f:Nat->α->α)(t:Tr α):Nat->Nat->Tr α :=
 Tr.rec (motive:=λ_=>Nat->Nat->Tr α) (λa b=>Tr.fill d n f n a b) (λv l r gl gr a b=>.node (f b v) (gl (Nat.mul 2 a) (Nat.add a b)) (gr (Nat.mul 2 a) (Nat.add (Nat.mul 2 a) b))) t
noncomputable def Tr.allI(p:Nat->α->Bool)(t:Tr α):Nat->Nat->Bool :=
 Tr.rec (motive:=λ_=>Nat->Nat->Bool) (λa b=>true) (λv l r gl gr a b=>Bool.rec (motive:=λ_=>Bool) false (Bool.rec (motive:=λ_=>Bool) false (gr (Nat.mul 2 a) (Nat.add (Nat.mul 2 a) b)) (gl (Nat.mul 2 a) (Nat.add a b))) (p b v)) t
noncomputable def Tr.qwO(p:α->Bool)(t:Tr α):Nat->Nat->Nat :=
 Tr.rec (motive:=λ_=>Nat->Nat->Nat) (λa b=>0) (λv l r gl gr a b=>Nat.lor (Nat.lor (gl (Nat.mul 2 a) (Nat.add a b)) (gr (Nat.mul 2 a) (Nat.add (Nat.mul 2 a) b))) (Bool.rec (motive:=λ_=>Nat) 0 (Nat.shiftLeft 1 b) (p v))) t
theorem Tr.qoX(n:Nat)(f:Nat->α->α):∀(k a b j:Nat),1<=a->n<=b+k->a*j+b<n->(Tr.fill d n f k a b).get d j=f (a*j+b) d
 |0,a,b,j,ha,hk,hj=>by have:=Nat.le_add_left b (a*j);omega
 |k+1,a,b,j,ha,hk,hj=>by
  have hb:b<n:=by have:=Nat.le_add_left b (a*j);omega
  have e:Tr.fill d n f (k+1) a b=Bool.rec (motive:=λ_=>Tr α) .nil (.node (f b d) (Tr.fill d n f k (2*a) (a+b)) (Tr.fill d n f k (2*a) (2*a+b))) (Nat.ble (b+1) n):=rfl;rw [e,qv7,if_pos (by rw [Nat.ble_eq];omega),Tr.qbY];by_cases j0:j=0
  ·rw [if_pos j0];subst j0;simp
  ·rw [if_neg j0];by_cases jo:j % 2=1
   ·have e1:2*a*(j / 2)+(a+b)=a*j+b:=by
     have:j=2*(j / 2)+1:=by omega
     conv=>rhs;rw [this]
     rw [Nat.mul_add,<- Nat.mul_assoc,Nat.mul_comm a 2];omega
    rw [if_pos jo,Tr.qoX n f k _ _ _ (by omega) (by omega) (by omega),e1]
   ·have e1:2*a*(j / 2-1)+(2*a+b)=a*j+b:=by
     have:j=2*(j / 2-1)+2:=by omega
     conv=>rhs;rw [this]
     rw [Nat.mul_add,<- Nat.mul_assoc,Nat.mul_comm a 2];omega
    rw [if_neg jo,Tr.qoX n f k _ _ _ (by omega) (by omega) (by omega),e1]
theorem Tr.qoY(n:Nat)(f:Nat->α->α):∀(t:Tr α) (a b j:Nat),1<=a->a*j+b<n->(t.qsz d n f a b).get d j=f (a*j+b) (t.get d j)
 |.nil,a,b,j,ha,hj=>Tr.qoX d n f n a b j ha (by omega) hj
 |.node v l r,a,b,j,ha,hj=>by
  have e:(Tr.node v l r).qsz d n f a b=.node (f b v) (l.qsz d n f (2*a) (a+b)) (r.qsz d n f (2*a) (2*a+b)):=rfl;rw [e,Tr.qbY,Tr.qbY];by_cases j0:j=0
  ·rw [if_pos j0,if_pos j0];subst j0;simp
  ·rw [if_neg j0,if_neg j0];by_cases jo:j % 2=1
   ·have e1:2*a*(j / 2)+(a+b)=a*j+b:=by
     have:j=2*(j / 2)+1:=by omega
     conv=>rhs;rw [this]
     rw [Nat.mul_add,<- Nat.mul_assoc,Nat.mul_comm a 2];omega
    rw [if_pos jo,if_pos jo,Tr.qoY n f l _ _ _ (by omega) (by omega),e1]
   ·have e1:2*a*(j / 2-1)+(2*a+b)=a*j+b:=by
     have:j=2*(j / 2-1)+2:=by omega
     conv=>rhs;rw [this]
     rw [Nat.mul_add,<- Nat.mul_assoc,Nat.mul_comm a 2];omega
    rw [if_neg jo,if_neg jo,Tr.qoY n f r _ _ _ (by omega) (by omega),e1]
theorem Tr.qoD{p:Nat->α->Bool}(hp:∀i,p i d=true):∀(t:Tr α) (a b j:Nat),t.allI p a b=true->p (a*j+b) (t.get d j)=true
 |.nil,a,b,j,h=>hp _
 |.node v l r,a,b,j,h=>by
  have e:(Tr.node v l r).allI p a b=Bool.rec (motive:=λ_=>Bool) false (Bool.rec (motive:=λ_=>Bool) false (r.allI p (2*a) (2*a+b)) (l.allI p (2*a) (a+b))) (p b v):=rfl;rw [e,qv7,qv7]at h;have hv:p b v=true:=by
   cases hh:p b v with
   |true=>rfl
   |false=>rw [hh]at h;simp at h
  have hl:l.allI p (2*a) (a+b)=true:=by
   cases hh:l.allI p (2*a) (a+b)with
   |true=>rfl
   |false=>rw [hh]at h;simp at h
  have hr:r.allI p (2*a) (2*a+b)=true:=by rw [hv,hl]at h;simpa using h
  rw [Tr.qbY];by_cases j0:j=0
  ·rw [if_pos j0];subst j0;simpa using hv
  ·rw [if_neg j0];by_cases jo:j % 2=1
   ·have e1:2*a*(j / 2)+(a+b)=a*j+b:=by
     have:j=2*(j / 2)+1:=by omega
     conv=>rhs;rw [this]
     rw [Nat.mul_add,<- Nat.mul_assoc,Nat.mul_comm a 2];omega
    rw [if_pos jo,<- e1];exact Tr.qoD hp l _ _ _ hl
   ·have e1:2*a*(j / 2-1)+(2*a+b)=a*j+b:=by
     have:j=2*(j / 2-1)+2:=by omega
     conv=>rhs;rw [this]
     rw [Nat.mul_add,<- Nat.mul_assoc,Nat.mul_comm a 2];omega
    rw [if_neg jo,<- e1];exact Tr.qoD hp r _ _ _ hr
theorem Tr.qmf{p:α->Bool}(hp:p d=false):∀(t:Tr α) (a b j:Nat),p (t.get d j)=true->(t.qwO p a b).testBit (a*j+b)=true
 |.nil,a,b,j,h=>by rw [Tr.get_nil,hp]at h;cases h
 |.node v l r,a,b,j,h=>by
  have e:(Tr.node v l r).qwO p a b=(l.qwO p (2*a) (a+b) ||| r.qwO p (2*a) (2*a+b)) ||| Bool.rec (motive:=λ_=>Nat) 0 (1 <<< b) (p v):=rfl
  rw [e,qv7,Nat.testBit_or,Nat.testBit_or];rw [Tr.qbY]at h;by_cases j0:j=0
  ·rw [if_pos j0]at h;subst j0;rw [h];simp [Nat.one_shiftLeft]
  ·rw [if_neg j0]at h;by_cases jo:j % 2=1
   ·have e1:2*a*(j / 2)+(a+b)=a*j+b:=by
     have:j=2*(j / 2)+1:=by omega
     conv=>rhs;rw [this]
     rw [Nat.mul_add,<- Nat.mul_assoc,Nat.mul_comm a 2];omega
    rw [if_pos jo]at h;have:=Tr.qmf hp l (2*a) (a+b) _ h;rw [e1]at this;rw [this];rfl
   ·have e1:2*a*(j / 2-1)+(2*a+b)=a*j+b:=by
     have:j=2*(j / 2-1)+2:=by omega
     conv=>rhs;rw [this]
     rw [Nat.mul_add,<- Nat.mul_assoc,Nat.mul_comm a 2];omega
    rw [if_neg jo]at h;have:=Tr.qmf hp r (2*a) (2*a+b) _ h;rw [e1]at this;rw [this];simp
end
end
end Go.Tx
end
section
namespace Go.Tx
open Go Go.Ab
section
inductive Ty where
 |int (k:IntKind)
 |bool
 |str
 |flt
 |cx
 |err
 |mset (t:Ty)
 |nsl (t:Ty)
 |sl (t:Ty)
 |unit
 |pair (a b:Ty)
 deriving DecidableEq
@[reducible] def Ty.den:Ty->Type
 |.int _=>Int
 |.bool=>Bool
 |.str=>List UInt8
 |.flt=>Int
 |.cx=>Int×Int
 |.err=>Bool
 |.mset t=>List t.den
 |.nsl t=>List t.den
 |.sl t=>List t.den
 |.unit=>Unit
 |.pair a b=>a.den×b.den
def Ty.depth:Ty->Nat
 |.sl t=>t.depth+1
 |.nsl t=>t.depth+1
 |.pair a b=>max a.depth b.depth
 |_=>0
def Ty.one:Ty->Bool
 |.unit|.pair .. | .mset _=>false
 |_=>true
def Ty.qaU:Ty->Nat
 |.unit=>0
 |.pair _ b=>b.qaU+1
 |_=>1
def Ty.isSet:Ty->Bool
 |.mset _=>true
 |.pair a b=>a.isSet||b.isSet
 |_=>false
def Ty.qmT:Ty->Bool
 |.unit=>true
 |.pair a b=>a.one&&b.qmT
 |_=>false
def Ty.qbn:Ty->Bool
 |.unit=>true
 |.mset _=>false
 |.pair a b=>a.one&&b.qmT
 |_=>true
def Ty.ok:Ty->Bool
 |.sl t=>t.qbn&&t.ok
 |.nsl t=>t.qbn&&t.ok
 |.pair a b=>a.one&&a.ok&&b.qmT&&b.ok
 |_=>true
def qaE(o:Nat):Bool:=!(decide (o=0)||(decide (o=1000)||decide (o=2000)))
def nx(o:Nat):Nat:=if qaE o then o-1 else o
def dl(o:Nat):Nat:=if o=1000 then 1000 else 0
def lo(o:Nat):Nat:=if 1000<=o/\o<2000 then o-1000 else o
def sure(o d:Nat):Bool:=if o<1000 then decide (d<=o)else if o<2000 then true else decide (d<=o-2000)
def nf(o d:Nat):Nat:=if o<1000 then min o d else o
def fits:Nat->Nat->Nat->Bool
 |0,_,_=>true
 |d+1,o',o=>decide (o=2000)||((qaE o'==qaE o)&&!decide (o'=2000)&&(!decide (o=1000)||decide (o'=1000))&&fits d (nx o') (nx o))
inductive TV where
 |any (rs:List Root)
 |t (τ:Ty) (own:Nat) (x:τ.den)
 |clp (τ:Ty) (x:List τ.den)
 |room (a s:Nat)
 |empty (o:Nat)
 |val (v:Value)
 |agg (l:List TV)
 |tuple (l:List TV)
 |fn (g:FuncId) (first cap:List TV)
 |ptr (r:Root) (off:Nat)
 |cptr (sh:Bool) (l:List TV)
 |iface (t:TypeId) (v:TV)
 |mref (r:Root)
 |bsl (r:Root) (off n:Nat)
 |yld (r:Root)
 |lp (state:LoopState) (pend:Option Code) (f:FuncId) (env:List TV) (params:List Tmp) (assign body:Code)
instance:Inhabited TV:=⟨.any []⟩
structure Env where
 n:Nat
 t:Tr TV
noncomputable def Env.get(e:Env)(i:Nat):TV:=Env.rec (motive:=λ_=>TV) (λn t=>Bool.rec (motive:=λ_=>TV) (.any []) (t.get (.any []) i) (Nat.ble (Nat.succ i) n)) e
noncomputable def Env.set(e:Env)(i:Nat)(v:TV):Env:=Env.rec (motive:=λ_=>Env) (λn t=>⟨n,t.set (.any []) i v⟩) e
noncomputable def Env.qsz(f:Nat->TV->TV)(e:Env):Env:=Env.rec (motive:=λ_=>Env) (λn t=>⟨n,t.qsz (.any []) n f 1 0⟩) e
noncomputable def Env.all(p:Nat->TV->Bool)(e:Env):Bool:=e.t.allI p 1 0
noncomputable def Env.mask(p:TV->Bool)(e:Env):Mask:=⟨e.t.qwO p 1 0⟩
noncomputable def qqF:List TV->Nat->Tr TV->Tr TV
 |[],_,t=>t
 |v::l,i,t=>qqF l (i+1) (t.set (.any []) i v)
noncomputable def Env.qeN(args:List TV)(n:Nat):Env:=⟨args.length+(n-args.length),qqF args 0 .nil⟩
noncomputable def Env.toL(e:Env):List TV:=(List.range e.n).map λi=>e.t.get (.any []) i
noncomputable def qdt(D:Mask)(rs:Nat->List Root)(e:Env):Env:=e.qsz λi v=>Bool.rec (motive:=λ_=>TV) v (.any (rs i)) (D.has i)
def TV.cells:TV->List TV
 |.agg l=>l
 |v=>[v]
def TV.one:TV->Bool
 |.any _|.agg _|.tuple _|.room .. | .lp ..=>false
 |.t τ _ _=>τ.one
 |.val u=>match u with
  |.agg _=>false
  |.tuple _=>false
  |_=>true
 |_=>true
def TV.oks(x:TV):Bool:=x.cells.all TV.one
mutual
def TV.q5:TV->TV
 |.any rs=>.any rs
 |.t τ o x=>.t τ (dl o) x
 |.clp τ x=>.clp τ x
 |.room a s=>match a with
  |0=>.empty 0
  |_+1=>.room 2 s
 |.empty o=>.empty (dl o)
 |.val v=>.val v
 |.agg l=>.agg (dullL l)
 |.tuple l=>.tuple (dullL l)
 |.fn g a b=>.fn g (dullL a) (dullL b)
 |.ptr r o=>.ptr r o
 |.mref r=>.mref r
 |.bsl r o n=>.bsl r o n
 |.yld r=>.yld r
 |.lp s pe f env ps a b=>.lp s pe f env ps a b
 |.cptr s l=>.cptr s (dullL l)
 |.iface t v=>.iface t v.q5
def dullL:List TV->List TV
 |[]=>[]
 |v::l=>v.q5::dullL l
end
mutual
def TV.share:TV->TV
 |.any rs=>.any rs
 |.t τ _ x=>.t τ 1000 x
 |.clp τ x=>.t (.sl τ) 1000 x
 |.room a s=>match a with
  |0=>.empty 1000
  |_+1=>.room 2 s
 |.empty _=>.empty 1000
 |.val v=>.val v
 |.agg l=>.agg (shareL l)
 |.tuple l=>.tuple (shareL l)
 |.fn g a b=>.fn g (shareL a) (shareL b)
 |.ptr r o=>.ptr r o
 |.mref r=>.mref r
 |.bsl r o n=>.bsl r o n
 |.yld r=>.yld r
 |.lp s pe f env ps a b=>.lp s pe f env ps a b
 |.cptr _ l=>.cptr true (shareL l)
 |.iface t v=>.iface t v.share
def shareL:List TV->List TV
 |[]=>[]
 |v::l=>v.share::shareL l
end
mutual
def TV.qba:TV->TV
 |.any rs=>.any rs
 |.t τ o x=>.t τ (lo o) x
 |.clp τ x=>.clp τ x
 |.room a s=>.room a s
 |.empty o=>.empty (lo o)
 |.val v=>.val v
 |.agg l=>.agg (loosenL l)
 |.tuple l=>.tuple (loosenL l)
 |.fn g a b=>.fn g (loosenL a) (loosenL b)
 |.ptr r o=>.ptr r o
 |.mref r=>.mref r
 |.bsl r o n=>.bsl r o n
 |.yld r=>.yld r
 |.lp s pe f env ps a b=>.lp s pe f env ps a b
 |.cptr _ l=>.cptr false (loosenL l)
 |.iface t v=>.iface t v.qba
def loosenL:List TV->List TV
 |[]=>[]
 |v::l=>v.qba::loosenL l
end
mutual
def TV.qq:TV->List Root
 |.any rs=>rs
 |.ptr r _=>[r]
 |.mref r=>[r]
 |.bsl r _ _=>[r]
 |.yld r=>[r]
 |.lp _ _ _ env _ _ _=>ptrsTL env
 |.cptr _ cs=>ptrsTL cs
 |.fn _ a b=>ptrsTL a++ptrsTL b
 |.iface _ v=>v.qq
 |.agg l=>ptrsTL l
 |.tuple l=>ptrsTL l
 |_=>[]
def ptrsTL:List TV->List Root
 |[]=>[]
 |v::l=>v.qq++ptrsTL l
end
mutual
def TV.owns:TV->Bool
 |.any _=>true
 |.t τ o _=>(qaE o||decide (o=2000))&&decide (0<τ.depth)
 |.room ..=>true
 |.empty o=>qaE o||decide (o=2000)
 |.fn _ a b=>ownsTL a||ownsTL b
 |.cptr _ l=>ownsTL l
 |.iface _ v=>v.owns
 |.agg l=>ownsTL l
 |.tuple l=>ownsTL l
 |_=>false
def ownsTL:List TV->Bool
 |[]=>false
 |v::l=>v.owns||ownsTL l
end
mutual
def TV.known:TV->Bool
 |.any _=>false
 |.lp _ _ _ env _ _ _=>knownL env
 |.fn _ a b=>knownL a&&knownL b
 |.cptr _ l=>knownL l
 |.iface _ _=>false
 |.agg l=>knownL l
 |.tuple l=>knownL l
 |_=>true
def knownL:List TV->Bool
 |[]=>true
 |v::l=>v.known&&knownL l
end
mutual
def TV.firm:TV->Bool
 |.any _=>false
 |.room ..=>false
 |.t τ o _=>sure o τ.depth
 |.clp _ _=>false
 |.fn _ a b=>firmL a&&firmL b
 |.cptr s l=>s&&firmL l
 |.iface _ v=>v.firm
 |.agg l=>firmL l
 |.tuple l=>firmL l
 |_=>true
def firmL:List TV->Bool
 |[]=>true
 |v::l=>v.firm&&firmL l
end
mutual
def TV.tight:TV->Bool
 |.any _=>false
 |.room ..=>false
 |.t τ o _=>sure o τ.depth
 |.empty o=>sure o 1
 |.clp _ _=>false
 |.fn _ a b=>tightL a&&tightL b
 |.cptr s l=>s&&tightL l
 |.iface _ v=>v.tight
 |.agg l=>tightL l
 |.tuple l=>tightL l
 |_=>true
def tightL:List TV->Bool
 |[]=>true
 |v::l=>v.tight&&tightL l
end
def TV.isAny:TV->Bool
 |.any _=>true
 |_=>false
def TV.qbx(x:TV):TV:=if x.firm then x else .any x.qq
def qqg(k:IntKind):List TV->Option (List Int)
 |[]=>some []
 |.t (.int k') _ x::l=>if k'=k then (qqg k l).map λm=>x::m else none
 |_::_=>none
section
variable (bx:Root->Option (List TV))
mutual
def peekTV:TV->Option TV
 |.ptr r off=>match bx r with
  |some c=>if off<=c.length/\r.slot<16384 then some (.cptr true (shareL (c.drop off)))else none
  |none=>none
 |.fn g a b=>match peekTL a,peekTL b with
  |some x,some y=>some (.fn g x y)
  |_,_=>none
 |.iface t v=>(peekTV v).map (.iface t)
 |.agg l=>(peekTL l).map .agg
 |.tuple l=>(peekTL l).map .tuple
 |.cptr _ cs=>some (.cptr true (shareL cs))
 |.t τ _ x=>bif τ.isSet then none else some (.t τ 1000 x)
 |.mref _=>none
 |.bsl r off n=>match bx r with
  |some c=>if off+n<=c.length/\r.slot<16384 then (qqg .i64 ((c.drop off).take n)).map λl=>.t (.sl (.int .i64)) 1000 l else none
  |none=>none
 |.clp τ x=>some (.t (.sl τ) 1000 x)
 |.room ..=>none
 |.empty _=>some (.empty 1000)
 |.val v=>some (.val v)
 |.any _=>none
 |.yld _=>none
 |.lp ..=>none
def peekTL:List TV->Option (List TV)
 |[]=>some []
 |v::l=>match peekTV v,peekTL l with
  |some x,some xs=>some (x::xs)
  |_,_=>none
end
end
def qpY:Ty->Nat->Bool
 |.sl t,o=>qaE o&&qpY t (nx o)
 |.nsl _,_=>false
 |.pair a b,o=>qpY a o&&qpY b o
 |.mset _,_=>false
 |_,_=>true
mutual
def TV.qb9:TV->Bool
 |.t τ o _=>qpY τ o
 |.empty o=>qaE o
 |.val _=>true
 |.fn _ a b=>mineTL a&&mineTL b
 |.iface _ v=>v.qb9
 |.agg l=>mineTL l
 |.tuple l=>mineTL l
 |_=>false
def mineTL:List TV->Bool
 |[]=>true
 |v::l=>v.qb9&&mineTL l
end
mutual
def ofTy:(τ:Ty)->Nat->τ.den->TV
 |.unit,_,_=>.agg []
 |.pair a b,o,x=>.agg (ofTy a o x.1::ofTyC b o x.2)
 |.int k,o,x=>.t (.int k) o x
 |.bool,o,x=>.t .bool o x
 |.str,o,x=>.t .str o x
 |.flt,o,x=>.t .flt o x
 |.cx,o,x=>.t .cx o x
 |.err,o,x=>.t .err o x
 |.mset t,o,x=>.t (.mset t) o x
 |.sl t,o,x=>.t (.sl t) o x
 |.nsl t,o,x=>.t (.nsl t) o x
def ofTyC:(τ:Ty)->Nat->τ.den->List TV
 |.pair a b,o,x=>ofTy a o x.1::ofTyC b o x.2
 |_,_,_=>[]
end
def nel{α:Type}:List α->Option (List α)
 |[]=>none
 |a::l=>some (a::l)
def qBg{t t':Ty}(h:t'=t)(x:Option (List t'.den)):Option (List t.den):=h▸x
def cast'{τ τ':Ty}(h:τ'=τ)(x:τ'.den):τ.den:=h▸x
def qem:(τ:Ty)->Nat->TV->Option τ.den
 |.unit,_,.agg []=>some ()
 |.pair a b,o,.agg (v::l)=>(qem a o v).bind λx=>(qem b o (.agg l)).bind λy=>some (x,y)
 |.sl _,o,.empty o'=>if fits 1 o' o=true then some []else none
 |.sl t,o,.t (.nsl t') o' x=>if h:t'=t then (if fits (t.depth+1) o' o=true then qBg h (nel x)else none)else none
 |.nsl _,_,.val (.slice none 0 0)=>some []
 |.nsl t,o,.t (.sl t') o' x=>if h:t'=t then (if fits (t.depth+1) o' o=true then qBg h (nel x)else none)else none
 |τ,o,.t τ' o' x=>if h:τ'=τ then (if fits τ.depth o' o=true then some (cast' h x)else none)else none
 |_,_,_=>none
@[reducible] def denL:List Ty->Type
 |[]=>Unit
 |[τ]=>τ.den
 |τ::τ'::l=>τ.den×denL (τ'::l)
def asL:(ps:List (Ty×Nat))->List TV->Option (denL (ps.map (·.1)))
 |[],[]=>some ()
 |[(τ,o)],[v]=>qem τ o v
 |(τ,o)::q::ps,v::l=>(qem τ o v).bind λx=>(asL (q::ps) l).bind λy=>some (x,y)
 |_,_=>none
def ofL:(ps:List (Ty×Nat))->denL (ps.map (·.1))->List TV
 |[],_=>[]
 |[(τ,o)],x=>[ofTy τ o x]
 |(τ,o)::q::ps,x=>ofTy τ o x.1::ofL (q::ps) x.2
def idx{α:Type}(l:List α)(n:Int):Option α:=if 0<=n then l[n.toNat]? else none
def app{α:Type}(l l2:List α):Option (List α):=if l.length+l2.length<=4294967296 then some (l++l2)else none
def slc{α:Type}(l:List α)(lo hi:Int):Option (List α):=if 0<=lo/\lo<=hi/\hi<=l.length then some ((l.take hi.toNat).drop lo.toNat)else none
def qBj{α:Type}(l:List α)(n:Int):Option (List α):=if l.isEmpty=false/\0<=n/\n<=l.length then some (l.take n.toNat)else none
def qBi{α:Type}(l:List α)(n:Int)(z:α):Option (List α):=if l.isEmpty=false/\0<=n/\n<=l.length then some (l.take n.toNat++List.replicate (l.length-n.toNat) z)else none
def mkS{α:Type}(z:α)(n:Int):Option (List α):=if 0<=n/\n<=4294967296 then some (List.replicate n.toNat z)else none
def qhV{σ ρ:Type}(f:σ->Option (σ⊕ρ)):Nat->σ->Option ρ
 |0,_=>none
 |n+1,s=>match f s with
  |some (.inl s')=>qhV f n s'
  |some (.inr r)=>some r
  |none=>none
open Classical in
noncomputable def qaP{σ ρ:Type}(f:σ->Option (σ⊕ρ))(s:σ):Option ρ :=
 if h:∃n r,qhV f n s=some r then some (Classical.choose (Classical.choose_spec h))else none
abbrev qI:=List (Nat×Option (List TV))
structure TSt where
 E:Env
 L:List qI
 B:qI
 Wt:Mask
 Wb:List Root
def qU:qI->Nat->Option (Option (List TV))
 |[],_=>none
 |(k,c)::l,s=>if k=s then some c else qU l s
def qsW:qI->Nat->Option (List TV)->qI
 |[],_,_=>[]
 |(k,c)::l,s,c'=>if k=s then (k,c')::l else (k,c)::qsW l s c'
def isRec:List TV->Bool
 |.lp ..::_=>true
 |_=>false
def qgV(b:qI):Bool:=b.all λp=>match p.2 with
 |some c=>!isRec c
 |none=>true
def TSt.cont(st:TSt)(r:Root):Option (List TV) :=
 match if r.lvl=st.L.length then qU st.B r.slot else match st.L[r.lvl]? with|some b=>qU b r.slot|none=>none with
 |some (some c)=>some c
 |_=>none
def TSt.box(st:TSt)(r:Root):Option (List TV) :=
 match st.cont r with
 |some c=>if isRec c then none else some c
 |none=>none
def TSt.qo(st:TSt)(r:Root)(c:List TV):TSt :=
 if r.lvl=st.L.length then {st with B:=qsW st.B r.slot (some c),Wb:=r::st.Wb}
 else {st with L:=st.L.modify r.lvl λb=>qsW b r.slot (some c),Wb:=r::st.Wb}
noncomputable def TSt.put(st:TSt)(d:Option Tmp)(v:TV):TSt :=
 match d with
 |some t=>{st with E:=st.E.set t v,Wt:=Mask.ins t st.Wt}
 |none=>st
def qkK(precise:Bool):Value->TV
 |.int k n=>.t (.int k) 0 n
 |.bool b=>.t .bool 0 b
 |.string s=>.t .str 0 s.data.toList
 |.float .f64 0=>.t .flt 0 0
 |.complex .f64 0 0=>.t .cx 0 (0,0)
 |.slice none 0 0=>if precise then .val (.slice none 0 0)else .empty 1
 |v=>.val v
def qlx(precise:Bool):Value->TV
 |.agg cs=>.agg (cs.toList.map (qkK precise))
 |v=>qkK precise v
structure Place where
 lvl:Option Nat
 slot:Nat
 cell:Nat
structure Join where
 lv:List Place
 ps:List (Ty×Nat)
 abn:Bool:=false
 D:Mask
 wr:List Root:=[]
 rs:List Root:=[]
 rb:List Root:=[]
 Dn:Mask:=.empty
 kp:List (Tmp×Root×Nat):=[]
noncomputable def Join.qxs(j:Join)(t:Nat):List Root:=Bool.rec (motive:=λ_=>List Root) j.rs [] (j.Dn.has t)
inductive Kind where
 |loop (id:Nat)|block (id:Nat)|cond (t:Tmp)|region (id:Nat)|inl (d:Tmp)
 deriving DecidableEq
abbrev IoT:=FuncId->List TV->List TV->(R:Type)->(List TV->Option R)->Option R
structure TH where
 io:IoT:=λ_ _ _ _ _=>none
 lib:FuncId->Bool:=λ_=>false
 join:List Tmp->FuncId->Kind->Option Join
 inl:List Tmp->FuncId->Tmp->Bool
abbrev qp6:=FuncId->List TV->(R:Type)->(TV->Option R)->Option R
section
variable (P:Program) (H:Hints) (f:FuncId)
def qbD:Nat->TypeId->Option (List Ty)
 |0,_=>none
 |d+1,t=>match P.underlying t with
  |some (.int k)=>some [.int k]
  |some .bool=>some [.bool]
  |some .string=>some [.str]
  |some (.float .f64)=>some [.flt]
  |some (.complex .f64)=>some [.cx]
  |some (.slice e)=>match qbD d e,P.underlying e with
   |some cs,some (.struct _)=>some [.sl (cs.foldr .pair .unit)]
   |some cs,some (.array ..)=>some [.sl (cs.foldr .pair .unit)]
   |some [τ],_=>some [.sl τ]
   |_,_=>none
  |some (.struct fields)=>(fields.toList.mapM λfd=>qbD d fd.type).map List.flatten
  |some (.array n e)=>(qbD d e).map λcs=>(List.replicate n cs).flatten
  |_=>none
def qzR(t:TypeId):Option Ty :=
 match qbD P 10 t with
 |some cs=>if qO P t then some (cs.foldr .pair .unit)else cs.head?
 |none=>none
def qaQ(t:TypeId)(cs:List TV):Option TV :=
 match P.underlying t with
 |none=>none
 |some _=>if qO P t then (if P.cellsOf t<=cs.length then some (.agg (cs.take (P.cellsOf t)))else none)else cs.head?
def qnB(t:TypeId):Option TV:=((P.info? t).bind (·.zero)).map (qlx (H.precise f))
def qke(cs:List TV)(off:Nat)(vs:List TV):List TV:=cs.take off++vs++cs.drop (off+vs.length)
def qqE(place:Nat->Option (Nat×Nat))(cs:List TV):List (Nat×TV)->Option (List TV)
 |[]=>some cs
 |(i,v)::rest =>
  match place i with
  |none=>none
  |some (off,size)=>if v.cells.length≠size\/off+v.cells.length > cs.length\/v.oks=false then none else qqE place (qke cs off v.cells) rest
def qxQ(t:TypeId)(parts:List (Nat×TV)):Option TV :=
 match qnB P H f t,P.underlying t with
 |some z,some (.struct fields) =>
  match fields.toList.mapM (λf=>(P.info? f.type).map λi=>(f.offset,i.size))with
  |some places=>(qqE (places.toArray[·]?) z.cells parts).map .agg
  |none=>none
 |some z,some (.array _ elem) =>
  match P.info? elem with
  |some ie=>(qqE (λi=>some (i*ie.size,ie.size)) z.cells parts).map .agg
  |none=>none
 |_,_=>none
def qku(agg:Bool)(s:Nat):Nat->List TV->List TV
 |0,_=>[]
 |n+1,cs=>(if agg then .agg (cs.take s)else cs.headD (.any []))::qku agg s n (cs.drop s)
mutual
def TV.lev:TV->Option Nat
 |.t τ o _=>if τ.depth=0 then none else some (nf o τ.depth)
 |.empty o=>if qaE o then none else some o
 |.agg l=>levL l
 |_=>none
def levL:List TV->Option Nat
 |[]=>none
 |v::l=>match v.lev with
  |some n=>some n
  |none=>levL l
end
mutual
def TV.hasEmpty:TV->Bool
 |.empty _=>true
 |.agg l=>hasEmptyL l
 |_=>false
def hasEmptyL:List TV->Bool
 |[]=>false
 |v::l=>v.hasEmpty||hasEmptyL l
end
def quT(l:List TV):Nat:=(levL l).getD (if hasEmptyL l then 1 else 0)
def qvW(τ:Ty)(o:Nat):List TV->Option (List τ.den)
 |[]=>some []
 |v::l=>(qem τ o v).bind λx=>(qvW τ o l).bind λy=>some (x::y)
def qiw(t:TypeId)(len:Nat)(parts:List (Nat×TV)):Option TV :=
 match P.underlying t with
 |some (.slice elem) =>
  match P.info? elem,qnB P H f elem,qzR P elem with
  |some ie,some z,some τ =>
   if ie.size=0\/(qO P elem=false/\ie.size≠1)\/z.cells.length≠ie.size\/len*ie.size > 16777216\/τ.ok=false\/τ.qbn=false then none else
   match qqE (λi=>some (i*ie.size,ie.size)) ((List.replicate len z.cells).flatten) parts with
   |some cs=>if cs.all TV.one&&(ptrsTL cs).isEmpty&&qaE (quT (qku (qO P elem) ie.size len cs)+1)then
     (qvW τ (quT (qku (qO P elem) ie.size len cs)) (qku (qO P elem) ie.size len cs)).map λl=>.t (.sl τ) (quT (qku (qO P elem) ie.size len cs)+1) l else none
   |none=>none
  |_,_,_=>none
 |_=>none
def qxS(t:TypeId)(x:TV)(fd:Nat):Option TV :=
 match P.underlying t,x with
 |some (.struct fields),.agg cs =>
  match fields[fd]? with
  |some d=>qaQ P d.type (cs.drop d.offset)
  |none=>none
 |_,_=>none
def qkj(t:TypeId)(x:TV)(fd:Nat):Option TV :=
 match P.underlying t with
 |some (.struct fields) =>
  match fields[fd]? with
  |some d=>if P.cellsOf d.type=0 then none else
   match x with
   |.ptr r off=>some (.ptr r (off+d.offset))
   |.cptr s cs=>if d.offset<=cs.length then some (.cptr s (cs.drop d.offset))else none
   |_=>none
  |none=>none
 |_=>none
def qAO(R:Type)(i:Int)(k:Nat->Option R):Nat->Nat->Option R
 |0,_=>none
 |n+1,j=>bif decide (i=(j:Int))then k j else qAO R i k n (j+1)
def qxU(elem:TypeId)(len:Nat)(cs:List TV)(i:Int)(R:Type)(k:TV->Option R):Option R :=
 if P.cellsOf elem=0 then none else
 qAO R i (λj=>match qaQ P elem (cs.drop (j*P.cellsOf elem))with
  |some v=>k v
  |none=>none) len 0
def qkk(t:TypeId)(x:TV)(i:Int)(R:Type)(k:TV->Option R):Option R :=
 match P.underlying t,x with
 |some (.array len elem),.ptr r off=>if P.cellsOf elem=0 then none else qAO R i (λj=>k (.ptr r (off+j*P.cellsOf elem))) len 0
 |some (.array len elem),.cptr s cs=>if P.cellsOf elem=0 then none else qAO R i (λj=>if j*P.cellsOf elem<=cs.length then k (.cptr s (cs.drop (j*P.cellsOf elem)))else none) len 0
 |some (.slice elem),.t (.sl τ) o l=>if P.cellsOf elem=τ.qaU/\τ.qaU≠0/\τ.ok=true/\τ.qbn=true then (idx l i).bind λe=>k (.cptr (decide (o=1000)) (ofTy τ (dl (nx o)) e).cells)else none
 |some (.slice elem),.clp τ l=>if P.cellsOf elem=τ.qaU/\τ.qaU≠0/\τ.ok=true/\τ.qbn=true then (idx l i).bind λe=>k (.cptr false (ofTy τ 0 e).cells)else none
 |_,_=>none
def qBK{α:Type}(R:Type)(mk:α->TV)(l:List α):Nat->Nat->List TV->(List TV->Option R)->Option R
 |0,_,acc,k=>k acc
 |n+1,i,acc,k=>(idx l (i:Int)).bind λe=>qBK R mk l n (i+1) (acc++[mk e]) k
def qpS(t:TypeId)(x:TV)(R:Type)(k:TV->Option R):Option R :=
 match P.underlying t,x with
 |some (.array n _),.t (.sl (.int kk)) o l=>if n=0 then none else qBK R (λe:Int=>.t (.int kk) 0 e) l n 0 [] λcs=>k (.cptr (decide (o=1000)) cs)
 |_,_=>none
def flo(n:Int):Option Int:=if n.natAbs<9007199254740992 then some n else none
def qCr(k:IntKind)(a b:Int):Option Int:=if 0<=b then some (k.wrap (a*2 ^ (min b.toNat k.bits)))else none
def qCs(k:IntKind)(a b:Int):Option Int:=if 0<=b then some (a.fdiv (2 ^ (min b.toNat k.bits)))else none
def qBR(k:IntKind)(a b:Int):Int:=k.wrap (BitVec.ofInt k.bits a &&& BitVec.ofInt k.bits b).toNat
def orI(k:IntKind)(a b:Int):Int:=k.wrap (BitVec.ofInt k.bits a ||| BitVec.ofInt k.bits b).toNat
def qBY(k:IntKind)(a b:Int):Int:=k.wrap (BitVec.ofInt k.bits a ^^^ BitVec.ofInt k.bits b).toNat
def qoE(k:IntKind)(a b:Int):Int:=k.wrap (BitVec.ofInt k.bits a &&& ~~~ BitVec.ofInt k.bits b).toNat
def qvt:TV->Option Int
 |.t (.int _) _ n=>some n
 |_=>none
def qxX(t:TypeId)(x:TV)(lo hi mx:Option TV)(R:Type)(k:TV->Option R):Option R :=
 let lo':Option Int:=match lo with|none=>some 0|some v=>qvt v
 match P.underlying t,x with
 |some (.slice elem),.t (.sl τ) o l =>
  if qaE o=true\/o=2000\/P.cellsOf elem=0\/P.cellsOf elem≠τ.qaU\/τ.ok=false\/τ.qbn=false then none else
  match lo',(match hi with|none=>some (l.length:Int)|some v=>qvt v)with
  |some a,some b =>
   match mx with
   |none=>(slc l a b).bind λl'=>k (.t (.sl τ) o l')
   |some m=>match qvt m with
    |some c=>if hi.isSome then (slc l a b).bind λl'=>bif decide (c=b)then k (.clp τ l')else none else none
    |none=>none
  |_,_=>none
 |some (.slice elem),.empty o =>
  if qaE o=true\/o=2000\/P.cellsOf elem=0 then none else
  match lo',(match hi with|none=>some 0|some v=>qvt v),mx with
  |some a,some b,none=>bif decide (a=0)&&decide (b=0)then k (.empty o)else none
  |_,_,_=>none
 |some .string,.t .str _ s =>
  match lo',(match hi with|none=>some (s.length:Int)|some v=>qvt v),mx with
  |some a,some b,none=>(slc s a b).bind λl'=>k (.t .str 0 l')
  |_,_,_=>none
 |_,_=>none
def qtc(t:TypeId)(x:TV)(lo hi mx:Option TV)(R:Type)(k:TV->Option R):Option R :=
 match P.underlying t,x with
 |some (.slice elem),.val (.slice none 0 0) =>
  if P.cellsOf elem=0 then none else
  match (match lo with|none=>some 0|some v=>qvt v),(match hi with|none=>some 0|some v=>qvt v),mx with
  |some a,some b,none=>bif decide (a=0)&&decide (b=0)then k (.val (.slice none 0 0))else none
  |_,_,_=>none
 |some (.slice elem),.room a s =>
  if P.cellsOf elem=0\/2<=a then none else
  match lo,hi,mx with
  |none,some (.t (.int _) _ b),none=>bif decide (b=0)then k (.room 0 s)else none
  |_,_,_=>none
 |some (.array n elem),.ptr r off=>if P.cellsOf elem=1 then (match lo,hi,mx with
  |none,none,none=>k (.bsl r off n)
  |_,_,_=>none)else none
 |_,_=>none
def TV.bare:TV->Bool
 |.val (.slice none 0 0)=>true
 |.room ..=>true
 |.ptr ..=>true
 |_=>false
def qkl(t:TypeId)(len cap:TV)(R:Type)(k:TV->Option R):Option R :=
 match P.underlying t with
 |some (.slice elem) =>
  match qnB P H f elem,qzR P elem,qvt len,qvt cap with
  |some z,some τ,some n,some c =>
   if P.cellsOf elem≠0/\z.cells.length=P.cellsOf elem/\z.oks=true/\P.bytesOf elem<=8192/\τ.ok=true/\τ.qbn=true/\qaE (quT [z]+1)=true then
    match qem τ (quT [z]) z with
    |some x=>(mkS x n).bind λl=>bif decide (c=n)then k (.t (.sl τ) (quT [z]+1) l)else none
    |none=>none
   else none
  |_,_,_,_=>none
 |_=>none
def tail?(yt:TypeDesc):TV->Option (Σ τ:Ty,Nat×List τ.den)
 |.t (.sl τ) o l=>match yt with
  |.slice _=>some ⟨τ,(nx o,l)⟩
  |_=>none
 |.clp τ l=>match yt with
  |.slice _=>some ⟨τ,(0,l)⟩
  |_=>none
 |.t .str _ s=>match yt with
  |.string=>some ⟨.int .u8,(0,s.map λc=>(c.toNat:Int))⟩
  |_=>none
 |_=>none
def qs7(argTypes:Array TypeId)(x y:TV)(R:Type)(k:TV->Option R):Option R :=
 match (argTypes[0]?).bind P.underlying,(argTypes[1]?).bind P.underlying with
 |some (.slice elem),some yt =>
  match y with
  |.empty _=>(match yt,x with
   |.slice _,.t (.sl τ) o l=>if qaE o=true/\τ.qaU=P.cellsOf elem/\P.cellsOf elem≠0/\((P.info? elem).bind (·.zero)).map (λz=>z.cells.size)=some (P.cellsOf elem)/\P.bytesOf elem<=8192/\τ.ok=true/\τ.qbn=true then (app l []).bind λl'=>k (.t (.sl τ) o l')else none
   |.slice _,.empty o=>if qaE o=true/\P.cellsOf elem≠0/\((P.info? elem).bind (·.zero)).map (λz=>z.cells.size)=some (P.cellsOf elem)/\P.bytesOf elem<=8192 then k (.empty o)else none
   |_,_=>none)
  |y=>match tail? yt y with
  |none=>none
  |some ⟨τ,(o2,l2)⟩ =>
   if τ.qaU=P.cellsOf elem/\P.cellsOf elem≠0/\((P.info? elem).bind (·.zero)).map (λz=>z.cells.size)=some (P.cellsOf elem)/\P.bytesOf elem<=8192/\τ.ok=true/\τ.qbn=true then
    match x with
    |.t (.sl τ') o l=>if h:τ'=τ then (if qaE o=true then (app (cast' (congrArg Ty.sl h) l:(Ty.sl τ).den) l2).bind λl'=>k (.t (.sl τ) (if fits τ.depth o2 (nx o)=true then o else 2001) l')else none)else none
    |.empty o=>if qaE o=true/\qaE (o2+1)=true then (app [] l2).bind λl'=>k (.t (.sl τ) (o2+1) l')else none
    |.clp τ' l=>if h:τ'=τ then (app (cast' (congrArg Ty.sl h) l:(Ty.sl τ).den) l2).bind λl'=>k (.t (.sl τ) 2000 l')else none
    |_=>none
   else none
 |_,_=>none
def qpR(argTypes:Array TypeId)(x y:TV)(R:Type)(k:TV->Option R):Option R :=
 match (argTypes[0]?).bind P.underlying,(argTypes[1]?).bind P.underlying with
 |some (.slice elem),some yt =>
  if P.cellsOf elem≠0/\((P.info? elem).bind (·.zero)).map (λz=>z.cells.size)=some (P.cellsOf elem)/\P.bytesOf elem<=8192 then
   match x,yt,y with
   |.val (.slice none 0 0),.int _,.t (.int .i64) _ n=>bif decide (0<n)&&decide (n<=4294967296)then k (.room 1 (P.cellsOf elem))else none
   |x,yt,y=>match tail? yt y with
    |none=>none
    |some ⟨τ,(o2,l2)⟩ =>
     if τ.qaU=P.cellsOf elem/\τ.ok=true/\τ.qbn=true/\qaE (o2+1)=true then
      match x,y with
      |.val (.slice none 0 0),_=>bif List.isEmpty l2 then k (.val (.slice none 0 0))else (app [] l2).bind λl'=>k (.t (.sl τ) (o2+1) l')
      |.room 0 s,.t ..=>if s=P.cellsOf elem then (match yt with
       |.slice _=>bif List.isEmpty l2 then k (.room 0 s)else (app [] l2).bind λl'=>k (.t (.sl τ) (o2+1) l')
       |_=>none)else none
      |_,_=>none
     else none
  else none
 |_,_=>none
def qvj:TV->Bool
 |.t (.int _) _ _|.t .bool _ _|.t .str _ _=>true
 |_=>false
def teq:Nat->TypeId->TV->TV->Option Bool
 |0,_,_,_=>none
 |d+1,t,x,y=>match P.underlying t,x,y with
  |some (.int _),.t (.int k) _ a,.t (.int k') _ b=>if k=k' then some (decide (a=b))else none
  |some .bool,.t .bool _ a,.t .bool _ b=>some (a==b)
  |some .string,.t .str _ a,.t .str _ b=>some (decide (a=b))
  |some (.struct fields),.agg xs,.agg ys=>if P.stoodInHeld t then none else
   fields.toList.foldr (fun fd acc => if fd.name = "_" then none else
    match qaQ P fd.type (xs.drop fd.offset),qaQ P fd.type (ys.drop fd.offset),acc with
    |some u,some v,some b=>(teq d fd.type u v).map λa=>bif a then b else false
    |_,_,_=>none) (some true)
  |_,_,_=>none
def qwV:TypeDesc->TV->TV->Bool
 |.pointer _,.ptr ..,.val (.pointer none)=>true
 |.pointer _,.cptr ..,.val (.pointer none)=>true
 |.func ..,.fn ..,.val .nilFunc=>true
 |_,_,_=>false
def qzD:TypeDesc->TV->TV->Bool
 |.slice _,.val (.slice none 0 0),.val (.slice none 0 0)=>true
 |.pointer _,.val (.pointer none),.val (.pointer none)=>true
 |.func ..,.val .nilFunc,.val .nilFunc=>true
 |_,_,_=>false
def qrO(op:BinOp)(t:TypeId)(x y:TV)(R:Type)(k:TV->Option R):Option R :=
 match x,y with
 |.t (.int k1) _ a,.t (.int k2) _ b =>
  match op with
  |.shl=>(qCr k1 a b).bind λn=>k (.t (.int k1) 0 n)
  |.shr=>(qCs k1 a b).bind λn=>k (.t (.int k1) 0 n)
  |_=>if k1=k2 then (match op with
   |.and=>k (.t (.int k1) 0 (qBR k1 a b))
   |.or=>k (.t (.int k1) 0 (orI k1 a b))
   |.xor=>k (.t (.int k1) 0 (qBY k1 a b))
   |.andNot=>k (.t (.int k1) 0 (qoE k1 a b))
   |.add=>k (.t (.int k1) 0 (k1.wrap (a+b)))
   |.sub=>k (.t (.int k1) 0 (k1.wrap (a-b)))
   |.mul=>k (.t (.int k1) 0 (k1.wrap (a*b)))
   |.quo=>bif decide (b=0)then none else k (.t (.int k1) 0 (k1.wrap (a.tdiv b)))
   |.rem=>bif decide (b=0)then none else k (.t (.int k1) 0 (a.tmod b))
   |.eql=>k (.t .bool 0 (decide (a=b)))
   |.neq=>k (.t .bool 0 (!decide (a=b)))
   |.lss=>k (.t .bool 0 (decide (a<b)))
   |.leq=>k (.t .bool 0 (decide (a<=b)))
   |.gtr=>k (.t .bool 0 (decide (a > b)))
   |.geq=>k (.t .bool 0 (decide (a>=b)))
   |_=>none)else none
 |.t .cx _ a,.t .cx _ b =>
  match P.underlying t,op with
  |some (.complex .f64),.add=>(flo (a.1+b.1)).bind λre=>(flo (a.2+b.2)).bind λim=>k (.t .cx 0 (re,im))
  |some (.complex .f64),.mul=>(flo (a.1*b.1)).bind λac=>(flo (a.2*b.2)).bind λbd=>(flo (ac-bd)).bind λre=>(flo (a.1*b.2)).bind λad=>(flo (a.2*b.1)).bind λbc=>(flo (ad+bc)).bind λim=>k (.t .cx 0 (re,im))
  |_,_=>none
 |.t .str _ a,.t .str _ b =>
  match op with
  |.eql=>k (.t .bool 0 (decide (a=b)))
  |.neq=>k (.t .bool 0 (!decide (a=b)))
  |.lss=>k (.t .bool 0 (Op.bytesLess a b))
  |.add=>(app a b).bind λl=>k (.t .str 0 l)
  |_=>none
 |.t .bool _ a,.t .bool _ b =>
  match P.underlying t,op with
  |some .bool,.eql=>k (.t .bool 0 (a==b))
  |some .bool,.neq=>k (.t .bool 0 (!(a==b)))
  |_,_=>none
 |.agg l,.agg l'=>if P.eqGuardType P.depth t||!(l.all qvj&&l'.all qvj)then none else (match teq P 9 t (.agg l) (.agg l')with
  |some b=>(match op with
   |.eql=>k (.t .bool 0 b)
   |.neq=>k (.t .bool 0 (!b))
   |_=>none)
  |none=>none)
 |.t (.sl τ) _ l,.val (.slice none 0 0) =>
  match P.underlying t with
  |some (.slice _)=>bif List.isEmpty l then none else (match op with
   |.eql=>k (.t .bool 0 false)
   |.neq=>k (.t .bool 0 true)
   |_=>none)
  |_=>none
 |.t (.nsl τ) _ l,.val (.slice none 0 0) =>
  match P.underlying t with
  |some (.slice _)=>(match op with
   |.eql=>k (.t .bool 0 (List.isEmpty l))
   |.neq=>k (.t .bool 0 (!List.isEmpty l))
   |_=>none)
  |_=>none
 |x,y=>match P.underlying t with
  |some d =>
   if qwV d x y then (match op with
   |.eql=>k (.t .bool 0 false)
   |.neq=>k (.t .bool 0 true)
   |_=>none)
   else if qzD d x y then (match op with
   |.eql=>k (.t .bool 0 true)
   |.neq=>k (.t .bool 0 false)
   |_=>none)
   else none
  |none=>none
def tun(op:UnOp)(x:TV):Option TV :=
 match op,x with
 |.not,.t .bool _ b=>some (.t .bool 0 (!b))
 |.neg,.t (.int k) _ n=>some (.t (.int k) 0 (k.wrap (0-n)))
 |_,_=>none
def qAM(src dst:TypeId)(x:TV)(R:Type)(k:TV->Option R):Option R :=
 match P.underlying src,P.underlying dst,x with
 |some _,some (.int kk),.t (.int _) _ n=>k (.t (.int kk) 0 (kk.wrap n))
 |some _,some (.float .f64),.t (.int _) _ n=>(flo n).bind λn=>k (.t .flt 0 n)
 |some _,some (.int .i64),.t .flt _ n=>(flo n).bind λn=>k (.t (.int .i64) 0 n)
 |some _,some .string,.t .str _ s=>k (.t .str 0 s)
 |some (.slice e),some .string,.t (.sl (.int .u8)) _ l=>match P.underlying e with
  |some (.int .u8)=>k (.t .str 0 (l.map λn=>UInt8.ofNat n.toNat))
  |_=>none
 |_,_,_=>none
def qrQ(k:IntKind):List TV->Option (List Int)
 |[]=>some []
 |.t (.int k') _ n::l=>if k=k' then (qrQ k l).map (n::·)else none
 |_=>none
def qpT(b:Builtin)(argTypes:Array TypeId)(xs:List TV)(R:Type)(k:TV->Option R):Option R :=
 match b,xs with
 |.len,[.t (.sl _) _ l]=>match (argTypes[0]?).bind P.underlying with
  |some (.slice _)=>k (.t (.int .i64) 0 (l.length:Int))
  |_=>none
 |.len,[.clp _ l]=>match (argTypes[0]?).bind P.underlying with
  |some (.slice _)=>k (.t (.int .i64) 0 (l.length:Int))
  |_=>none
 |.len,[.empty _]=>match (argTypes[0]?).bind P.underlying with
  |some (.slice _)=>k (.t (.int .i64) 0 0)
  |_=>none
 |.len,[.t .str _ s]=>match (argTypes[0]?).bind P.underlying with
  |some .string=>k (.t (.int .i64) 0 (s.length:Int))
  |_=>none
 |.cap,[.val (.slice none 0 0)]=>match (argTypes[0]?).bind P.underlying with
  |some (.slice _)=>k (.t (.int .i64) 0 0)
  |_=>none
 |.len,[.val (.slice none 0 0)]=>match (argTypes[0]?).bind P.underlying with
  |some (.slice _)=>k (.t (.int .i64) 0 0)
  |_=>none
 |.append,[x,y]=>if x.bare then qpR P argTypes x y R k else qs7 P argTypes x y R k
 |.complex,[.t .flt _ a,.t .flt _ b]=>k (.t .cx 0 (a,b))
 |.real,[.t .cx _ a]=>k (.t .flt 0 a.1)
 |.imag,[.t .cx _ a]=>k (.t .flt 0 a.2)
 |.max,.t (.int kk) _ n::xs=>match qrQ kk xs with
  |some l=>k (.t (.int kk) 0 (l.foldl max n))
  |none=>none
 |.min,.t (.int kk) _ n::xs=>match qrQ kk xs with
  |some l=>k (.t (.int kk) 0 (l.foldl min n))
  |none=>none
 |_,_=>none
def qcG(tk:Bool)(o:Op)(xs:List TV)(bx:Option (List TV))(R:Type)(k:TV->Option (List TV)->Option R):Option R :=
 let v (x:Option TV):Option R:=match x with
  |some x=>k x none
  |none=>none
 match o,xs with
 |.move _,[x]|.assign _,[x]=>k x none
 |.pick ..,[.t .bool _ c,a,b]=>bif c then k a none else k b none
 |.build t parts,xs=>v (qxQ P H f t (parts.toList.map (·.1) |>.zip xs))
 |.buildSlice t len parts,xs=>v (qiw P H f t len (parts.toList.map (·.1) |>.zip xs))
 |.load t _,[.cptr _ cs]=>v ((qaQ P t cs).map TV.q5)
 |.load t _,[.ptr _ off]=>match bx with
  |some cs=>if tk then (match qaQ P t (cs.drop off)with
    |some x=>k x (some (qke cs off (dullL ((cs.drop off).take (if qO P t then P.cellsOf t else 1)))))
    |none=>none)
   else v ((qaQ P t (cs.drop off)).map TV.q5)
  |none=>none
 |.store t _ _,[.ptr _ off,x]=>match bx with
  |some cs=>if P.cellsOf t≠0/\x.cells.length=P.cellsOf t/\off+x.cells.length<=cs.length/\x.oks=true then k (.any []) (some (qke cs off x.cells))else none
  |none=>none
 |.nilCheck _,[.ptr r off]=>k (.ptr r off) none
 |.nilCheck _,[.cptr s cs]=>k (.cptr s cs) none
 |.nilCheck _,[.fn g a b]=>k (.fn g a b) none
 |.binOp op t _ (.const _) _,[.t .err _ b,.val .nilIface]=>match P.underlying t,op with
  |some (.interface _),.eql=>k (.t .bool 0 b) none
  |some (.interface _),.neq=>k (.t .bool 0 (!b)) none
  |_,_=>none
 |.binOp op t _ _ _,[x,y]=>qrO P op t x y R λx=>k x none
 |.unOp op _ _,[x]=>v (tun op x)
 |.convert src dst _,[x]=>qAM P src dst x R λx=>k x none
 |.makeFunc (.func g) first _,xs=>k (.fn g (xs.take first.size) (xs.drop first.size)) none
 |.makeSlice t _ _,[l,c]=>qkl P H f t l c R λx=>k x none
 |.slice t _ lo hi mx,x::rest =>
  let r1:=if lo.isSome then rest.tail else rest
  let r2:=if hi.isSome then r1.tail else r1
  if x.bare then qtc P t x (if lo.isSome then rest.head? else none) (if hi.isSome then r1.head? else none) (if mx.isSome then r2.head? else none) R λx=>k x none else
  qxX P t x (if lo.isSome then rest.head? else none) (if hi.isSome then r1.head? else none) (if mx.isSome then r2.head? else none) R λx=>k x none
 |.fieldAddr t _ fd,[x]=>v (qkj P t x fd)
 |.field t _ fd,[x]=>v (qxS P t x fd)
 |.sliceToArrayPointer t _,[x]=>qpS P t x R λx=>k x none
 |.indexAddr t _ _,[x,.t (.int _) _ i]=>qkk P t x i R λx=>k x none
 |.index t _ _,[x,.t (.int _) _ i]=>(match P.underlying t,x with
  |some (.array len elem),.agg cs=>qxU P elem len cs i R λx=>k x none
  |some .string,.t .str _ s=>(idx s i).bind λb=>k (.t (.int .u8) 0 (b.toNat:Int)) none
  |_,_=>none)
 |.extract _ i,[.tuple l]=>v l[i]?
 |.call {callee:=.builtin b,argTypes,..},xs=>qpT P b argTypes xs R λx=>k x none
 |_,_=>none
noncomputable def rdT(o:Oper)(E:Env):Operand->TV
 |.tmp t=>if q7 H f o then E.get t else (E.get t).q5
 |.const v=>qlx (H.precise f||qrm o.op) v
 |.func g=>.fn g [] []
 |.global _=>.any []
noncomputable def qbE(E:Env)(ts:List Tmp):Env:=ts.foldl (λE t=>E.set t (E.get t).q5) E
def qkc:Op->List TV->Option Root
 |.load ..,.ptr r _::_=>some r
 |.store ..,.ptr r _::_=>some r
 |_,_=>none
def qbZ:Op->List TV->Nat×Nat
 |.load t _,.ptr _ off::_=>(off,if qO P t then P.cellsOf t else 1)
 |.store ..,[.ptr _ off,x]=>(off,x.cells.length)
 |_,_=>(0,0)
def qui:Op->List TV->List Root
 |.store ..,[_,x]=>x.qq
 |_,_=>[]
def qdv:TV->Bool
 |.fn g _ _=>H.qhw g
 |_=>false
def qfJ:TV->List TV->Bool
 |.fn _ first cap,args=>(ptrsTL (first++args++cap)).isEmpty
 |_,_=>false
end
def qmc:Ty->Bool
 |.int _|.bool|.str=>true
 |_=>false
def qpd:Ty->Bool
 |.unit=>true
 |.pair a b=>qmc a&&qpd b
 |_=>false
def qgN:Ty->Bool
 |.pair a b=>qmc a&&qpd b
 |τ=>qmc τ
def qos:(τ:Ty)->τ.den->Value
 |.int k,n=>.int k n
 |.bool,b=>.bool b
 |.str,s=>.string ⟨s.toArray⟩
 |_,_=>.tuple #[]
def qvD:(τ:Ty)->τ.den->List Value
 |.pair a b,x=>qos a x.1::qvD b x.2
 |_,_=>[]
def qcw(τ:Ty)(x:τ.den):Value :=
 match τ,x with
 |.pair a b,x=>.agg (qos a x.1::qvD b x.2).toArray
 |τ,x=>qos τ x
def eqS:(τ:Ty)->τ.den->τ.den->Bool
 |.int _,a,b=>decide (a=b)
 |.bool,a,b=>a==b
 |.str,a,b=>decide (a=b)
 |_,_,_=>false
def eqR:(τ:Ty)->τ.den->τ.den->Bool
 |.unit,_,_=>true
 |.pair a b,x,y=>bif eqS a x.1 y.1 then eqR b x.2 y.2 else false
 |_,_,_=>false
def eqK(τ:Ty)(x y:τ.den):Bool :=
 match τ,x,y with
 |.pair a b,x,y=>bif eqS a x.1 y.1 then eqR b x.2 y.2 else false
 |τ,x,y=>eqS τ x y
def qkA(τ:Ty)(l:List τ.den)(k:τ.den):Bool:=l.any λx=>eqK τ k x
def qAk(τ:Ty)(l:List τ.den)(k:τ.den):List τ.den:=bif qkA τ l k then l else l++[k]
section
variable (P:Program) (H:Hints) (f:FuncId)
def qit(t:TypeId)(τ:Ty):Bool :=
 match P.underlying t,τ with
 |some (.int k),.int k'=>decide (k=k')
 |some .bool,.bool=>true
 |some .string,.str=>true
 |_,_=>false
def qiP:List Field->Nat->Ty->Bool
 |[],_,.unit=>true
 | fd :: fs, i, .pair a b => decide (fd.name ≠ "_") && decide (fd.offset = i) && qit P fd.type a && qiP fs (i + 1) b
 |_,_,_=>false
def qeH(t:TypeId)(τ:Ty):Bool :=
 qit P t τ||match P.underlying t,τ with
 |some (.struct fields),.pair a b=>!P.stoodInHeld t&&qiP P fields.toList 0 (.pair a b)
 |_,_=>false
def qiV:Op->List TV->Bool
 |.makeMap ..,_|.lookup ..,_|.mapUpdate ..,_|.insert ..,_=>true
 |.call {callee:=.builtin .len,..},[.mref _]=>true
 |_,_=>false
def qlQ:List TV->Bool
 |[]=>true
 |[.t (.int _) _ _]=>true
 |_=>false
def qlc(o:Oper)(xs:List TV)(st:TSt)(R:Type)(k:TV->TSt->Fp->Option R):Option R :=
 match o.op with
 |.makeMap t _=>match o.dst,P.underlying t with
  |some d,some (.map kt vt)=>match qzR P kt with
   |some τ=>if (qU st.B (q4 d)).isNone/\qgN τ=true/\qlQ xs=true then
     k (.mref ⟨st.L.length,q4 d⟩) {st with B:=(q4 d,some [.t (.mset τ) 0 []])::st.B,Wb:=⟨st.L.length,q4 d⟩::st.Wb} (.fresh ⟨st.L.length,q4 d⟩)else none
   |none=>none
  |_,_=>none
 |.lookup t _ _ ok=>match xs with
  |[.mref r,x]=>match st.box r,P.underlying t with
   |some [.t (.mset τ) _ l],some (.map kt vt)=>if qeH P kt τ=true then (match qnB P H f vt,qem τ 0 x with
     |some (.t .bool _ false),some y=>k (if ok then .tuple [.t .bool 0 (qkA τ l y),.t .bool 0 (qkA τ l y)]else .t .bool 0 (qkA τ l y)) st .looks
     |_,_=>none)else none
   |_,_=>none
  |_=>none
 |.mapUpdate t _ _ _|.insert t _ _ _=>match xs with
  |[.mref r,x,.t .bool _ true]=>match st.box r,P.underlying t with
   |some [.t (.mset τ) _ l],some (.map kt vt)=>if qeH P kt τ=true then (match qem τ 0 x with
     |some y=>k (.any []) (st.qo r [.t (.mset τ) 0 (qAk τ l y)]) (.mapw r)
     |none=>none)else none
   |_,_=>none
  |_=>none
 |.call {callee:=.builtin .len,argTypes,..}=>match xs with
  |[.mref r]=>match st.box r,(argTypes[0]?).bind P.underlying with
   |some [.t (.mset τ) _ l],some (.map _ _)=>if argTypes.toList.any H.mapT then k (.t (.int .i64) 0 (l.length:Int)) st .looks else none
   |_,_=>none
  |_=>none
 |_=>none
end
mutual
def TV.adopt(q:Root):TV->TV
 |.mref _=>.mref q
 |.cptr s l=>.cptr s (adoptTL q l)
 |.fn g a b=>.fn g (adoptTL q a) (adoptTL q b)
 |.agg l=>.agg (adoptTL q l)
 |.tuple l=>.tuple (adoptTL q l)
 |v=>v
def adoptTL(q:Root):List TV->List TV
 |[]=>[]
 |v::l=>v.adopt q::adoptTL q l
end
mutual
def TV.onlyMaps:TV->Bool
 |.any _|.ptr .. | .bsl .. | .iface .. | .yld _|.lp ..=>false
 |.cptr _ l=>onlyMapsTL l
 |.fn _ a b=>onlyMapsTL a&&onlyMapsTL b
 |.agg l=>onlyMapsTL l
 |.tuple l=>onlyMapsTL l
 |_=>true
def onlyMapsTL:List TV->Bool
 |[]=>true
 |v::l=>v.onlyMaps&&onlyMapsTL l
end
def qqW(H:Hints):TV->Bool
 |.fn g _ _=>(H.seq g).isSome
 |_=>false
def qlP(H:Hints):TV->Bool
 |.fn g _ _=>H.born g
 |_=>false
noncomputable def TSt.get(st:TSt)(p:Place):TV :=
 match p.lvl with
 |none=>st.E.get p.slot
 |some l=>match st.box ⟨l,p.slot⟩with
  |some cs=>cs.getD p.cell (.any [])
  |none=>.any []
def subset(l m:List Root):Bool:=l.all λr=>m.contains r
def Place.qBp(lv:List Place)(l:Option Nat)(s c:Nat):Bool:=lv.any λp=>decide (p.lvl=l)&&decide (p.slot=s)&&decide (p.cell=c)
def qwB:TV->Root->Nat->Bool
 |.ptr r o,r',o'=>decide (r=r')&&decide (o=o')
 |_,_,_=>false
noncomputable def TSt.keeps(st:TSt)(j:Join):Bool:=j.kp.all λp=>qwB (st.E.get p.1) p.2.1 p.2.2
noncomputable def qrp:TSt->List (Tmp×Root×Nat)->TSt
 |st,[]=>st
 |st,p::l=>qrp {st with E:=st.E.set p.1 (.ptr p.2.1 p.2.2)} l
noncomputable def TSt.qjJ(st:TSt)(j:Join):Bool :=
 (st.E.all λt v=>Bool.rec (motive:=λ_=>Bool) true (Place.qBp j.lv none t 0||subset v.qq (j.qxs t)) (j.D.has t)) &&
 (j.wr.all λr=>match st.cont r with
  |some cs=>!isRec cs&&(List.range cs.length).all λi=>Place.qBp j.lv (some r.lvl) r.slot i||subset (cs.getD i (.any [])).qq j.rb
  |none=>true)&&st.keeps j
def TSt.wrote(st:TSt)(j:Join):Bool:=st.Wt.sub j.D&&(st.Wb.all λr=>j.wr.contains r||decide (st.L.length<r.lvl))
def qA9(rs:List Root)(b:qI)(s:Nat):qI :=
 match qU b s with
 |none=>(s,none)::b
 |some none=>b
 |some (some cs)=>qsW b s (some (cs.map λ_=>.any rs))
def TSt.forget(st:TSt)(rs:List Root)(r:Root):TSt :=
 if r.lvl=st.L.length then {st with B:=qA9 rs st.B r.slot}else {st with L:=st.L.modify r.lvl λb=>qA9 rs b r.slot}
noncomputable def TSt.qbL(st:TSt)(p:Place)(v:TV):TSt :=
 match p.lvl with
 |none=>{st with E:=st.E.set p.slot v}
 |some l=>match st.box ⟨l,p.slot⟩with
  |some cs=>{st.qo ⟨l,p.slot⟩ (cs.set p.cell v)with Wb:=st.Wb}
  |none=>st
noncomputable def qcF(st:TSt):List Place->List TV->TSt
 |p::ps,v::vs=>qcF (st.qbL p v) ps vs
 |_,_=>st
noncomputable def TSt.qdI(st:TSt)(j:Join)(vs:List TV):TSt :=
 qcF {j.wr.foldl (λst r=>st.forget j.rb r) {st with E:=qdt j.D j.qxs st.E}with Wt:=j.D++st.Wt,Wb:=j.wr++st.Wb} j.lv vs
noncomputable def TSt.qbG(st:TSt)(j:Join)(vs:List TV):TSt:=qrp (st.qdI j vs) j.kp
def TSt.fresh(st:TSt):TSt:={st with Wt:=.empty,Wb:=[]}
def TSt.merge(st st0:TSt):TSt:={st with Wt:=st.Wt++st0.Wt,Wb:=st.Wb++st0.Wb}
def TSt.qBU(st st0:TSt)(j:Join):Bool:=j.wr.all λr=>match st0.cont r with
 |some cs=>(match st.cont r with
  |some cs2=>decide (cs2.length=cs.length)
  |none=>false)
 |none=>true
noncomputable def TSt.outs(st st0:TSt)(j:Join):Option (denL (j.ps.map (·.1))) :=
 if st.qjJ j&&st.wrote j&&st.qBU st0 j then asL j.ps (j.lv.map st.get)else none
noncomputable def quQ(j:Option Join)(st:TSt)(run:TSt->(R:Type)->(Ex->TSt->Option R)->Option R)(R:Type)(k:Ex->TSt->Option R):Option R :=
 match j with
 |none=>run st R k
 |some j =>
  if j.abn then
   (run st.fresh (denL (j.ps.map (·.1))⊕R) λe st2=>match e with
    |.normal=>(st2.outs st j).map .inl
    |e=>(k e (st2.merge st)).map .inr).bind (Sum.elim (λx=>k .normal (st.qbG j (ofL j.ps x))) some)
  else
   (run st.fresh (denL (j.ps.map (·.1))) λe st2=>match e with
    |.normal=>st2.outs st j
    |_=>none).bind λx=>k .normal (st.qbG j (ofL j.ps x))
def qau(D:List Tmp):qI->qI
 |[]=>[]
 |(k,c)::l=>if D.contains k then qau D l else (k,c)::qau D l
noncomputable def qeD(D:List Tmp)(E:Env):Env:=qdt (Mask.ofList D) (λ_=>[]) E
def qjf:qI->List Root
 |[]=>[]
 |(_,some c)::l=>ptrsTL c++qjf l
 |(_,none)::l=>qjf l
def quG:qI->Bool
 |[]=>true
 |(_,c)::l=>c.isSome&&quG l
def qno(D:List Tmp)(n:Nat):qI->List Root
 |[]=>[]
 |(k,_)::l=>if D.contains k then ⟨n,k⟩::qno D n l else qno D n l
def inE(st:TSt)(D:List Tmp):List Tmp:=D.filter λt=>decide (t<st.E.n)
noncomputable def TSt.clear(D:List Tmp)(st:TSt):Option TSt :=
 let E:=qeD (inE st D) st.E
 let B:=qau D st.B
 if decide (B.length=st.B.length)||((E.all λ_ v=>qcY st.L.length D v.qq)&&qcY st.L.length D (qjf B)&&quG B)then some {st with E,B,Wt:=Mask.ofList (inE st D)++st.Wt,Wb:=qno D st.L.length st.B++st.Wb}else none
structure TOrc where
 call:List Tmp->FuncId->List TV->List qI->(R:Type)->(TV->List qI->List Root->Option R)->Option R
 code:List Tmp->FuncId->Nat->Code->TSt->(R:Type)->(Ex->TSt->Option R)->Option R
 born:List Tmp->FuncId->List TV->(R:Type)->(TV->TV->Option R)->Option R
 own:List Tmp->FuncId->List TV->(R:Type)->(TV->Option R)->Option R
def qep:List qI->Option (List qI×qI)
 |[]=>none
 |[b]=>some ([],b)
 |b::c::l=>(qep (c::l)).map λ(x,y)=>(b::x,y)
section
variable (P:Program) (H:Hints) (J:TH) (T:qp6) (O:TOrc) (ctx:List Tmp) (f:FuncId)
noncomputable def qiD:Env->List Tmp->List TV->Env
 |E,t::ts,v::vs=>qiD (E.set t v) ts vs
 |E,_,_=>E
def TSt.qon(st:TSt)(r:Root)(v:TV):TSt:={st.qo r [v]with Wb:=st.Wb}
noncomputable def qxq(d:Tmp)(r:Root)(args:List TV)(st:TSt)(R:Type)(k:TV->TSt->Option R):Option R :=
 match st.cont r with
 |some [.lp .ready none g env ps asz bo] =>
  if args.length≠ps.length then none else
  O.code (d::ctx) g 0 asz {E:=qiD (Env.qeN env env.length) ps (dullL args),L:=st.L++[st.B],B:=[],Wt:=.empty,Wb:=[]} R λe s2=>match e with
   |.normal=>(match s2.cont r with
    |some [.lp .ready none g2 env2 ps2 as2 bo2] =>
     O.code (d::ctx) g 0 bo (s2.qon r (.lp .busy none g2 env2 ps2 as2 bo2)) R λex s3=>(match s3.cont r with
      |some [.lp _ _ g3 env3 ps3 as3 bo3] =>
       (match qep (s3.qon r (.lp (if ex.code.isNone then .ready else .done) ex.code g3 env3 ps3 as3 bo3)).L with
       |some (L,B)=>if L.length=st.L.length then k (.t .bool 0 ex.code.isNone) {st with L,B,Wb:=(if ex.code.isNone then []else [r])++(s3.Wb++st.Wb)}else none
       |none=>none)
      |_=>none)
    |_=>none)
   |_=>none
 |_=>none
noncomputable def qnC(d:Tmp)(fv:TV)(args:List TV)(st:TSt)(R:Type)(k:TV->TSt->Option R):Option R :=
 match fv with
 |.fn g first cap =>
  if knownL (first++args++cap)then
   (if (ptrsTL (first++args++cap)).isEmpty then
    (if J.inl ctx f d then O.call (d::ctx) g (shareL (first++args++cap)) [] R λr M _=>match M with
     |[]=>k (if tightL (first++args++cap)then r else r.qba) st
     |_=>none
    else T g (shareL (first++args++cap)) R λr=>k (if tightL (first++args++cap)then r else r.qba) st)
   else if H.qhw g then (match peekTL st.box (first++args++cap)with
    |some xs=>if (ptrsTL xs).isEmpty then T g xs R λr=>if r.qb9 then k r st else none else none
    |none=>none)
   else O.call (d::ctx) g (dullL (first++args++cap)) (st.L++[st.B]) R λr M wb=>match qep M with
    |some (L,B)=>if L.length=st.L.length then k r {st with L,B,Wb:=wb++st.Wb}else none
    |none=>none)
  else none
 |.yld r=>qxq O ctx d r args st R k
 |_=>none
noncomputable def qv4(d:Option Tmp)(fv:TV)(args:List TV)(st:TSt)(R:Type)(k:TV->TSt->Fp->Option R):Option R :=
 match fv,d with
 |.fn g first cap,some d =>
  if knownL (first++args++cap)&&(ptrsTL (first++args++cap)).isEmpty&&tightL (first++args++cap)&&(qU st.B (q4 d)).isNone then
   O.born (d::ctx) g (shareL (first++args++cap)) R λr c=>k (r.adopt ⟨st.L.length,q4 d⟩) {st with B:=(q4 d,some [c])::st.B,Wb:=⟨st.L.length,q4 d⟩::st.Wb} (.fresh ⟨st.L.length,q4 d⟩)
  else none
 |_,_=>none
noncomputable def qCq(d:Option Tmp)(fv:TV)(args:List TV)(st:TSt)(R:Type)(k:TV->TSt->Fp->Option R):Option R :=
 match fv,d with
 |.fn g first cap,some d=>match first++args++cap with
  |[.t .str _ s,.t .str _ sep]=>match H.seq g with
   |some clos=>if (qU st.B d).isNone then k (.fn clos [] [.cptr true [.t .str 0 sep],.ptr ⟨st.L.length,d⟩ 0,.cptr true [.t (.int .i64) 0 0]]) {st with B:=(d,some [.t .str 0 s])::st.B,Wb:=⟨st.L.length,d⟩::st.Wb} (.fresh ⟨st.L.length,d⟩)else none
   |none=>none
  |_=>none
 |_,_=>none
def qja:TV->List TV->Option Root
 |.fn _ first cap,args=>if knownL (first++args++cap)then (match ptrsTL (first++args++cap)with
  |q::rest=>if rest.all (λr=>decide (r=q))&&onlyMapsTL (first++args++cap)then some q else none
  |[]=>none)else none
 |_,_=>none
def qwu(n:Nat)(q:Root)(c:List TV):List qI:=(List.range n).map λl=>if l=q.lvl then [(q.slot,some c)]else []
def qtH(M:List qI)(r:Root):Option (Option (List TV)):=match M[r.lvl]? with
 |some b=>qU b r.slot
 |none=>none
noncomputable def qwQ(d:Tmp)(g:FuncId)(args:List TV)(q:Root)(st:TSt)(R:Type)(k:TV->TSt->Option R):Option R :=
 match st.box q with
 |some [.t (.mset τ) o l]=>O.call (d::ctx) g (dullL args) (qwu (st.L.length+1) q [.t (.mset τ) o l]) R λr M _ =>
   if r.known&&r.qq.isEmpty&&!r.owns then (match qtH M q with
    |some (some [.t (.mset τ') o' l'])=>k r (st.qo q [.t (.mset τ') o' l'])
    |_=>none)else none
 |_=>none
def qo5(fv:TV)(args:List TV):Bool:=qlP H fv||(qqW H fv||(qja fv args).isSome)
noncomputable def qzb(d:Option Tmp)(fv:TV)(args:List TV)(st:TSt)(R:Type)(k:TV->TSt->Fp->Option R):Option R :=
 if qlP H fv then qv4 O ctx d fv args st R k else if qqW H fv then qCq H d fv args st R k else match fv,qja fv args with
  |.fn g first cap,some q=>qwQ O ctx (d.getD 0) g (first++args++cap) q st R λv s=>k v s (.mapw q)
  |_,_=>none
noncomputable def qkJ(o:Oper)(xs:List TV)(st:TSt)(R:Type)(k:TV->TSt->Fp->Option R):Option R :=
 match o.op with
 |.alloc t=>match o.dst,qnB P H f t with
  |some d,some z=>if (qU st.B d).isNone then k (.ptr ⟨st.L.length,d⟩ 0) {st with B:=(d,some z.cells)::st.B,Wb:=⟨st.L.length,d⟩::st.Wb} (.fresh ⟨st.L.length,d⟩)else none
  |_,_=>none
 |.box t _=>match o.dst,xs with
  |some d,[x]=>if (qU st.B d).isNone/\x.cells.length=P.cellsOf t/\x.oks=true then k (.ptr ⟨st.L.length,d⟩ 0) {st with B:=(d,some x.cells)::st.B,Wb:=⟨st.L.length,d⟩::st.Wb} (.fresh ⟨st.L.length,d⟩)else none
  |_,_=>none
 |.call {callee:=.value _,..}=>match xs with
  |fv::args=>if qo5 H fv args then qzb H O ctx o.dst fv args st R k else qnC H J T O ctx f (o.dst.getD 0) fv args st R λv s=>k v s (if qfJ fv args then .none else if qdv H fv then .looks else .all)
  |[]=>none
 |op=>if qiV op xs then qlc P H f o xs st R k else match qkc op xs with
  |none=>qcG P H f (q7 H f o) op xs none R λv c=>match c with
   |none=>k v st .none
   |some _=>none
  |some r=>if 16384<=r.slot then none else qcG P H f (q7 H f o) op xs (st.box r) R λv c=>match c with
   |none=>k v st (.root r (qbZ P op xs).1 (qbZ P op xs).2 false)
   |some c=>if (qui op xs).all (λp=>decide (p.lvl<=r.lvl))&&decide ((qbZ P op xs).1+(qbZ P op xs).2<=c.length)then k v (st.qo r c) (.root r (qbZ P op xs).1 (qbZ P op xs).2 true)else none
noncomputable def qhb(o:Oper)(st:TSt)(R:Type)(k:TSt->Fp->Option R):Option R :=
 if q7 H f o&&!qcb (tmpsOf o)then none else
 qkJ P H J T O ctx f o (o.op.operands.toList.map (rdT H f o st.E)) (if q7 H f o then {st with E:=qbE st.E (tmpsOf o),Wt:=Mask.ofList ((tmpsOf o).filter (λt=>(st.E.get t).owns))++st.Wt}else st) R λv s fp=>k (s.put o.dst v) fp
noncomputable def qqL(ops:Array Oper)(o:Oper)(st:TSt)(R:Type)(yes no:TSt->Option R):Option R :=
 match o.guard with
 |none=>yes st
 |some (j,want)=>match (ops[j]?).bind (·.dst)with
  |some t=>match st.E.get t with
   |.t .bool _ b=>bif b then (let st1:TSt:={st with E:=st.E.set t (.t .bool 0 true)};if want then yes st1 else no st1)
     else (let st1:TSt:={st with E:=st.E.set t (.t .bool 0 false)};if want then no st1 else yes st1)
   |.val (.tuple vs)=>if vs.size=0 then no st else none
   |_=>none
  |none=>none
noncomputable def quE(ops:Array Oper):List Nat->TSt->(R:Type)->(TSt->Option R)->Option R
 |[],st,_,k=>k st
 |i::rest,st,R,k =>
  match ops[i]? with
  |none=>none
  |some o=>qqL ops o st R (λst=>qhb P H J T O ctx f o st R λst' _=>quE ops rest st' R k) (λst=>quE ops rest (st.put o.dst (.val undef)) R k)
noncomputable def qkm(o:Oper)(E:Env):List Tmp:=if q7 H f o then (tmpsOf o).filter λt=>(E.get t).owns else []
noncomputable def qqC(ops:Array Oper):List Nat->TSt->List (Nat×Foot)->(R:Type)->(TSt->List (Nat×Foot)->Option R)->Option R
 |[],st,fps,_,k=>k st fps
 |i::rest,st,fps,R,k =>
  match ops[i]? with
  |none=>none
  |some o=>qqL ops o st R
    (λst=>qhb P H J T O ctx f o st R λst' fp=>qqC ops rest st' ((i,⟨fp,qkm H f o st.E,qbv H f ops o⟩)::fps) R k)
    (λst=>qqC ops rest (st.put o.dst (.val undef)) ((i,⟨.none,[],qbv H f ops o⟩)::fps) R k)
noncomputable def qqO(E:Env):Operand->Option Int
 |.tmp t=>qvt (E.get t)
 |.const v=>match v with
  |.int _ n=>some n
  |_=>none
 |_=>none
noncomputable def qf8(ops:Array Oper)(E:Env):Nat->Nat->Tmp->Option (Rt×List (Int×Nat×Nat)×Bool)
 |0,_,_=>none
 |n+1,k,d=>if H.link f d=false then some (.tmp d,[],false)else
  match qnm ops k d with
  |none=>none
  |some c=>match (ops[c]?).map Oper.op with
   |some (.move (.tmp a))=>qf8 ops E n c a
   |some (.indexAddr t (.tmp a) i) =>
    match qf8 ops E n c a,qqO E i,P.underlying t with
    |some (r,p,false),some j,some (.slice elem)=>some (r,(j,0,P.cellsOf elem)::p,true)
    |_,_,_=>none
   |some (.fieldAddr t (.tmp a) fd) =>
    match qf8 ops E n c a,qk5 P t fd with
    |some (r,(j,o,s)::p,true),some o'=>some (r,(j,o+o',s)::p,true)
    |_,_=>none
   |some (.load t (.tmp a)) =>
    if qO P t then none else
    if H.link f a then (match qf8 ops E n c a with
     |some (r,p,true)=>some (r,p,false)
     |_=>none)
    else match E.get a with
     |.ptr r off=>some (.box r off,[],false)
     |_=>none
   |_=>none
def qmJ(e:TV)(cs:List TV):TV :=
 match e with
 |.agg _=>.agg cs
 |_=>cs.headD (.any [])
def qzS(ys:List TV):List (Int×Nat×Nat)->TV->(R:Type)->(TV->Option R)->Option R
 |(i,o,s)::p,.t (.sl τ) lv l,R,k =>
  if qaE lv=true/\τ.qaU=s/\s≠0/\τ.ok=true/\τ.qbn=true then
   (idx l i).bind λe=>match p with
    |[]=>if o+ys.length<=s then (match qem τ (nx lv) (qmJ (ofTy τ (nx lv) e) (qke (ofTy τ (nx lv) e).cells o ys))with
      |some e'=>k (.t (.sl τ) lv (l.set i.toNat e'))
      |none=>none)else none
    |_::_=>match (ofTy τ (nx lv) e).cells[o]? with
     |some z=>qzS ys p z R λz'=>match qem τ (nx lv) (qmJ (ofTy τ (nx lv) e) ((ofTy τ (nx lv) e).cells.set o z'))with
      |some e'=>k (.t (.sl τ) lv (l.set i.toNat e'))
      |none=>none
     |none=>none
  else none
 |_,_,_,_=>none
def qwt(b:qI):qI:=b.map λp=>(p.1,p.2.map (List.map TV.qbx))
noncomputable def qAG(E:Env):Mask:=E.mask λx=>!(x.firm||x.isAny)
def qsY:qI->List Root
 |[]=>[]
 |(_,none)::b=>qsY b
 |(k,some c)::b=>if c.all TV.firm then qsY b else ⟨0,k⟩::qsY b
noncomputable def TSt.qbw(st:TSt)(T:List Tmp):TSt :=
 {st with E:=(qbE st.E T).qsz (λ_ v=>v.qbx),B:=qwt st.B,Wt:=Mask.ofList (T.filter (λt=>(st.E.get t).owns))++(qAG (qbE st.E T)++st.Wt),Wb:=qsY st.B++st.Wb}
structure Hole where
 r:Tmp
 τ:Ty
 lv:Nat
 l:List τ.den
 j:Int
noncomputable def qyp(hole:Option Hole)(r0:Tmp)(p:List (Int×Nat×Nat))(x:TV)(st:TSt)(R:Type)(k:TSt->Option R):Option R :=
 match hole,p with
 |some h,[(i,0,1)]=>if h.r=r0 then (match x with
   |.t (.sl τ) o y=>(match qem h.τ (nx h.lv) (.t (.sl τ) o y)with
    |some e=>bif decide (i=h.j)then (if (TV.t (.sl h.τ) h.lv (h.l.set h.j.toNat e)).firm then k (st.put (some r0) (.t (.sl h.τ) h.lv (h.l.set h.j.toNat e)))else none)else none
    |none=>none)
   |_=>none)else none
 |_,_=>none
noncomputable def lsT(ops:Array Oper)(s:Nat)(o:Oper)(st:TSt)(hole:Option Hole)(R:Type)(k:TSt->Option R):Option R :=
 match o.op with
 |.store t (.tmp d) xo =>
  let x:=rdT H f o st.E xo
  if st.L.isEmpty&&qgV st.B&&st.B.all (λp=>decide (p.1<16384))&&o.dst.isNone&&o.guard.isNone&&qcb (tmpsOf o)&&decide (P.cellsOf t≠0)&&decide (x.cells.length=P.cellsOf t)&&x.oks&&x.qq.isEmpty then
   match qf8 P H f ops st.E ops.size s d with
   |some (.tmp r,p,true)=>if (tmpsOf o).contains r then none else
    if hole.isSome then qyp hole r p x (st.qbw (tmpsOf o)) R k else
    qzS x.cells p.reverse (st.E.get r) R λy=>if y.firm then k ((st.qbw (tmpsOf o)).put (some r) y)else none
   |some (.box q off,p,true)=>match st.box q with
    |some cs=>match cs[off]? with
     |some z=>qzS x.cells p.reverse z R λy=>if y.firm then k ((st.qbw (tmpsOf o)).qo q ((cs.map TV.qbx).set off y))else none
     |none=>none
    |none=>none
   |_=>none
  else none
 |_=>none
noncomputable def apT(ops:Array Oper)(s:Nat)(o:Oper)(st:TSt)(R:Type)(k:TSt->Hole->Option R):Option R :=
 match o.op with
 |.call {args,..}=>match (args[0]?:Option Operand)with
  |some (.tmp d)=>match qf8 P H f ops st.E ops.size s d with
   |some (.tmp r,[(j,0,1)],false)=>if r=d\/st.E.n<=d then none else
    (match st.E.get r with
    |.t (.sl (.sl τ)) lv l=>if qaE lv&&qaE (nx lv)then (idx l j).bind λe =>
      k {st with E:=(st.E.set r (.any [])).set d (.t (.sl τ) (nx lv) e),Wt:=Mask.ins r (Mask.ins d st.Wt)} ⟨r,.sl τ,lv,l,j⟩else none
    |_=>none)
   |_=>none
  |_=>none
 |_=>none
def qpc(o:Oper):Option Hole->Option Hole
 |some h=>if o.dst=some h.r\/(tmpsOf o).contains h.r=true then none else some h
 |none=>none
def qAn:TV->Bool
 |.cptr ..=>true
 |_=>false
noncomputable def qsy(o:Oper)(E:Env):Bool :=
 !qky H f o||((match o.dst with
  |some d=>decide (d<E.n)
  |none=>true)&&(match o.op with
  |.load _ (.tmp a)=>!H.link f a||qAn (E.get a)
  |_=>true))
noncomputable def qgH(ops:Array Oper):List Nat->TSt->Option Hole->List (Nat×Foot)->(R:Type)->(TSt->List (Nat×Foot)->Option R)->Option R
 |[],st,_,fps,_,k=>k st fps
 |i::rest,st,hole,fps,R,k =>
  match ops[i]? with
  |none=>none
  |some o=>if qfx H f o then lsT P H f ops i o st hole R λst'=>qgH ops rest st' none ((i,⟨.all,[],looksAt ops o⟩)::fps) R k
   else if qkL H f o then (if qky H f o then none else apT P H f ops i o st R λst hole=>qqL ops o st R
    (λst=>qhb P H J T O ctx f o st R λst' fp=>qgH ops rest st' (qpc o (some hole)) ((i,⟨fp,qkm H f o st.E,qbv H f ops o⟩)::fps) R k)
    (λst=>qgH ops rest (st.put o.dst (.val undef)) (qpc o (some hole)) ((i,⟨.none,[],qbv H f ops o⟩)::fps) R k))
   else if qsy H f o st.E then qqL ops o st R
    (λst=>qhb P H J T O ctx f o st R λst' fp=>qgH ops rest st' (qpc o hole) ((i,⟨fp,qkm H f o st.E,qbv H f ops o⟩)::fps) R k)
    (λst=>qgH ops rest (st.put o.dst (.val undef)) (qpc o hole) ((i,⟨.none,[],qbv H f ops o⟩)::fps) R k)
   else none
def qCv:Operand->Tmp
 |.tmp t=>t
 |_=>0
def qvR(ops:List Oper):List Mask :=
 ops.foldl (λacc o=>acc++[(qaC o).foldl (λm j=>Mask.ins j (m++acc.getD j .empty)) .empty]) []
def qjh(U:List (Nat×Nat))(ops:Array Oper):Bool :=
 let asz:=qvR ops.toList
 (List.range ops.size).all λi =>
  match ops[i]? with
  |none=>false
  |some y=>(qaC y).all (λj=>decide (j<i))&&(List.range i).all λj =>
   (asz.getD i .empty).has j||match ops[j]? with
    |none=>false
    |some x=>qcl ops x y&&(qfN H f ops x y||U.contains (j,i))
def qkr(draw:Bool)(asz:List Mask)(i c:Nat):Bool:=if draw then (asz.getD c .empty).has i else decide (i<c)
def qph(draw:Bool)(asz:List Mask)(ops:Array Oper)(lone:Bool)(c:Nat)(oc:Oper):Bool :=
 (!qky H f oc||(oc.guard.isNone&&(match oc.dst with
   |some d=>!(tmpsOf oc).contains d
   |none=>true)&&(List.range ops.size).all λi=>i==c||qkr draw asz i c||match ops[i]? with
    |some oi=>qj5 H f oc oi
    |none=>false)) &&
 (!qfx H f oc||(oc.guard.isNone&&(List.range ops.size).all λi=>i==c||qkr draw asz i c||qkr draw asz c i)) &&
 (!(qky H f oc&&qht H f oc)||lone) &&
 (!qkL H f oc||(List.range ops.size).any λs=>qkr draw asz c s&&match ops[s]? with
  |some os=>qfx H f os
  |none=>false) &&
 (!qkL H f oc||(List.range ops.size).all λi=>i==c||qkr draw asz i c||qkr draw asz c i||match ops[i]? with
  |some oi=>qiR H f ops c oc oi
  |none=>false)
def qsx(draw:Bool)(ops:Array Oper):Bool :=
 let asz:=qvR ops.toList
 let lone:=decide ((ops.toList.filter (qfx H f)).length<=1)
 (List.range ops.size).all λc=>match ops[c]? with
  |some oc=>qph H f draw asz ops lone c oc
  |none=>false
noncomputable def qA0:List Tmp->TSt->Option TSt
 |[],st=>some st
 |D,st=>st.clear D
noncomputable def qAN(F:List Int->Option (List Int))(t:Tmp)(d:Option Tmp)(st:TSt)(R:Type)(k:TSt->Option R):Option R :=
 if st.L.isEmpty&&qgV st.B then
  match st.E.get t with
  |.t (.sl (.int .i64)) o xs=>if qaE o=true then (F xs).bind λys=>k (((st.qbw []).put (some t) (.t (.sl (.int .i64)) o ys)).put d (.any []))else none
  |_=>none
 else none
noncomputable def qBT(E:Env):Operand->Bool
 |.tmp t=>match E.get t with
  |.t (.int _) _ _=>true
  |_=>false
 |.const v=>match v with
  |.int _ _=>true
  |_=>false
 |_=>false
def qzE(r:Root):TV->Bool
 |.ptr r' _=>decide (r'=r)
 |_=>false
noncomputable def qBd(ops:Array Oper)(E:Env)(r:Root):Bool:=ops.toList.any λo=>(tmpsOf o).any λt=>qCy ops t&&qzE r (E.get t)
noncomputable def qtS(ops:Array Oper)(st:TSt)(o:Oper):Bool:=match o.op with
 |.binOp _ _ x y _=>qBT st.E x&&qBT st.E y
 |.load _ (.tmp a)=>match st.E.get a with
  |.ptr r off=>decide (r.slot<16384)&&qBd ops st.E r&&(match st.box r with
   |some cs=>decide (off<cs.length)
   |none=>false)
  |_=>false
 |_=>true
noncomputable def qpy(ops:Array Oper)(st:TSt):Bool:=ops.toList.all (qtS ops st)
def TSt.bxF(st:TSt)(r:Root):Option (List TV):=match st.box r with
 |some c=>if firmL c&&decide (r.slot<16384)then some c else none
 |none=>none
def qwX(r:TV):Bool:=r.qb9||(match r with
 |.empty _=>true
 |_=>false)
noncomputable def owT(o:Oper)(st:TSt)(R:Type)(k:TSt->Option R):Option R :=
 match o.op with
 |.call {callee:=.value (.func g),args,..}=>match args.toList with
  |.tmp e::_=>if st.L.isEmpty&&qgV st.B&&o.guard.isNone&&H.own g&&qcb (tmpsOf o)then
   match o.op.operands.toList.map (rdT H f o st.E)with
   |_::.t (.sl τ) lv l::xs=>if qaE lv&&decide (τ.depth=0)&&firmL xs&&!ownsTL xs then
    match peekTL st.bxF xs with
    |some ys=>if knownL ys&&(ptrsTL ys).isEmpty&&!ownsTL ys then
     O.own (o.dst.getD 0::ctx) g (.t (.sl τ) lv l::ys) R λr=>if r.known&&r.qq.isEmpty&&qwX r then k (((st.qbw []).put (some e) (.any [])).put o.dst r)else none
     else none
    |none=>none
    else none
   |_=>none
   else none
  |_=>none
 |_=>none
noncomputable def qAW(ops:Array Oper):List Nat->TSt->(R:Type)->(TSt->Option R)->Option R
 |[],st,_,k=>k st
 |i::rest,st,R,k =>
  match ops[i]? with
  |none=>none
  |some o=>if qCw H o then owT H O ctx f o st R λst'=>qAW ops rest st' R k
   else qqL ops o st R (λst=>qhb P H J T O ctx f o st R λst' _=>qAW ops rest st' R k) (λst=>qAW ops rest (st.put o.dst (.val undef)) R k)
noncomputable def qqy(st:TSt)(a b x t:Tmp):TSt:=((((st.put (some a) (.any [])).put (some b) (.any [])).put (some x) (.any [])).qbw []).put (some t) (.any [])
noncomputable def qB5(ops:Array Oper)(st:TSt)(R:Type)(k:TSt->Option R):Option R :=
 match qyh ops with
 |some (ty,t,i,a,b,x,d)=>if st.L.isEmpty&&qgV st.B&&decide (a<st.E.n)&&decide (b<st.E.n)&&decide (x<st.E.n)then
  match P.underlying ty,st.E.get t,st.E.get i with
  |some (.slice elem),.t (.sl τ) lv l,.t (.int _) _ n =>
   if qaE lv&&decide (τ.depth=0)&&τ.qbn&&decide (P.cellsOf elem≠0)&&decide (τ.qaU=P.cellsOf elem)then
    (qBj l n).bind λl2=>bif decide (n=0)then k ((qqy st a b x t).put (some d) (.empty 0))else k ((qqy st a b x t).put (some d) (.t (.sl τ) lv l2))
   else none
  |_,_,_=>none
  else none
 |none=>none
noncomputable def qB4(ops:Array Oper)(st:TSt)(R:Type)(k:TSt->Option R):Option R :=
 match qyg ops with
 |some (ty,ty2,t,i,a,b,x)=>if st.L.isEmpty&&qgV st.B&&decide (a<st.E.n)&&decide (b<st.E.n)&&decide (x<st.E.n)then
  match P.underlying ty,P.underlying ty2,st.E.get t,st.E.get i with
  |some (.slice elem),some (.slice elem2),.t (.sl τ) lv l,.t (.int _) _ n=>match ((P.info? elem2).bind (·.zero)),qnB P H f elem2 with
   |some z,some zt =>
    if qaE lv&&decide (τ.depth=0)&&τ.qbn&&decide (elem2=elem)&&decide (P.cellsOf elem≠0)&&decide (τ.qaU=P.cellsOf elem)&&decide (z.cells.size=P.cellsOf elem)&&zt.oks then
     (qem τ (nx lv) zt).bind λzx=>(qBi l n zx).bind λl2=>k ((qqy st a b x t).put (some t) (.t (.sl τ) lv l2))
    else none
   |_,_=>none
  |_,_,_,_=>none
  else none
 |none=>none
noncomputable def spT(sp:Nat)(ops:Array Oper)(draw:Bool)(st:TSt)(R:Type)(k:Ex->TSt->Option R):Option R :=
 if draw then none else
 match sp with
 |1=>qAW P H J T O ctx f ops (List.range ops.size) st R λst=>k .normal st
 |2=>qB4 P H f ops st R λst=>k .normal st
 |3=>qB5 P ops st R λst=>k .normal st
 |_=>none
noncomputable def tx(bid:Nat):Code->TSt->(R:Type)->(Ex->TSt->Option R)->Option R
 |.skip,st,_,k=>k .normal st
 |.region id ops draw,st,R,k=>quQ (J.join ctx f (.region id)) st (λst R k =>
   match qA0 (H.pre f id) st with
   |none=>none
   |some st =>
   if H.sp f id=0 then
   match qgy H ops draw with
   |some (F,t,e,d)=>if e<st.E.n then qAN F t d (st.put (some e) (.any [])) R λst=>k .normal st else none
   |none =>
   if qsn H f ops then
    (if (H.perm f id).isEmpty then
    (if qsx H f draw ops&&(!draw||qjh H f (H.pairs f id) ops)then
     qgH P H J T O ctx f ops (List.range ops.size) st none [] R λst fps=>if !draw||qgU (H.pairs f id) fps then k .normal st else none
    else none)
    else (if draw&&qpA P H f ops (H.perm f id)then
     qgH P H J T O ctx f (qfo ops (H.perm f id)) (List.range (qfo ops (H.perm f id)).size) st none [] R λst _=>if qpy (qfo ops (H.perm f id)) st then k .normal st else none
    else none))
   else if draw then
    (if qjh H f (H.pairs f id) ops then
     match H.pairs f id with
     |[]=>quE P H J T O ctx f ops (List.range ops.size) st R λst=>k .normal st
     |U=>qqC P H J T O ctx f ops (List.range ops.size) st [] R λst fps=>if qgU U fps then k .normal st else none
    else none)
   else quE P H J T O ctx f ops (List.range ops.size) st R λst=>k .normal st
   else spT P H J T O ctx f (H.sp f id) ops draw st R k) R k
 |.seq a b,st,R,k=>tx bid a st R λe st=>match e with
  |.normal=>tx bid b st R k
  |e=>k e st
 |.cond c a b,st,R,k=>quQ (J.join ctx f (.cond (qCv c))) st (λst R k=>match rdT H f default st.E c with
   |.t .bool _ t=>bif t then tx bid a st R k else tx bid b st R k
   |_=>none) R k
 |.block id c,st,R,k=>quQ (J.join ctx f (.block id)) st (λst R k=>tx id c st R λe st=>match e with
   |.exit i=>if i=id then k .normal st else k (.exit i) st
   |e=>k e st) R k
 |.loop c,st,R,k=>match J.join ctx f (.loop bid)with
  |some j =>
   if st.qjJ j then
    (asL j.ps (j.lv.map st.get)).bind λx0 =>
     qaP (λx=>match (st.fresh.qbG j (ofL j.ps x)).clear (H.clear f bid)with
      |some st1=>tx bid c st1 (denL (j.ps.map (·.1))⊕R) λe st2=>match e with
       |.normal=>(st2.outs st j).map .inl
       |e=>(k e (st2.merge st)).map .inr
      |none=>none) x0
   else none
  |none=>match st.clear (H.clear f bid)with
   |some st=>tx bid c st R λe st=>match e with
    |.normal=>O.code ctx f bid (.loop c) st R k
    |e=>k e st
   |none=>none
 |.rangeFunc g ps asz bo,st,R,k =>
  match rdT H f default st.E g,ps.toList with
  |.fn h first cap,t::ts =>
   if (qU st.B t).isNone&&decide (t<16384)then
    qnC H J T O ctx f t (.fn h first cap) [.yld ⟨st.L.length,t⟩] {st with B:=(t,some [.lp .ready none f (dullL st.E.toL) (t::ts) asz bo])::st.B,Wb:=⟨st.L.length,t⟩::st.Wb} R λ_ s =>
     if qcY st.L.length [t] (qjf (qau [t] s.B))&&quG (qau [t] s.B)then
      (match qU s.B t with
      |some (some [.lp .ready none _ _ _ _ _])=>k .normal {s with B:=qau [t] s.B,Wb:=st.Wb++s.Wb.filter (λq=>!decide (q=⟨st.L.length,t⟩))}
      |some (some [.lp .done (some .ret) _ _ _ _ _])=>k .ret {s with B:=qau [t] s.B,Wb:=st.Wb++s.Wb.filter (λq=>!decide (q=⟨st.L.length,t⟩))}
      |some (some [.lp .done (some (.exit id)) _ _ _ _ _])=>k (.exit id) {s with B:=qau [t] s.B,Wb:=st.Wb++s.Wb.filter (λq=>!decide (q=⟨st.L.length,t⟩))}
      |_=>none)
     else none
   else none
  |_,_=>none
 |.exit id,st,_,k=>k (.exit id) st
 |.ret,st,_,k=>k .ret st
 |_,_,_,_=>none
noncomputable def qgj(st:TSt):ResultVar->Option TV
 |.tmp t=>some (st.E.get t)
 |.cell a t=>match st.E.get a with
  |.ptr r off=>match st.box r with
   |some cs=>if r.slot<16384 then qaQ P t (cs.drop off)else none
   |none=>none
  |_=>none
def qdF:List (Option TV)->Option (List TV)
 |[]=>some []
 |some v::l=>(qdF l).map (v::·)
 |none::_=>none
noncomputable def qdB(st:TSt):ResultVar->Option (Bool×Nat×Nat)
 |.tmp t=>some (false,t,0)
 |.cell a _=>match st.E.get a with
  |.ptr r _=>some (true,r.lvl,r.slot)
  |_=>none
def qgE:List (Option (Bool×Nat×Nat))->Option (List (Bool×Nat×Nat))
 |[]=>some []
 |some v::l=>(qgE l).map (v::·)
 |none::_=>none
def qcd:List TV->TV
 |[r]=>r
 |rs=>.tuple rs
noncomputable def runT(args:List TV)(M:List qI)(R:Type)(k:TV->List qI->List Root->Option R):Option R :=
 if J.lib f then none else
 match P.funcs[f]? with
 |some fn=>match fn.body with
  |some c=>quQ (J.join ctx f (.inl 0)) {E:=Env.qeN args fn.ntmps,L:=M,B:=[],Wt:=.empty,Wb:=[]}
    (λst R k=>tx P H J T O ctx f 0 c st R λe st=>match e with
     |.normal=>k .normal st
     |.ret=>k .normal st
     |_=>none) R λ_ st =>
   match qdF (fn.results.toList.map (qgj P st)),qgE (fn.results.toList.map (qdB st))with
   |some rs,some ks=>if knownL rs&&((ptrsTL rs).all λr=>decide (r.lvl<M.length))&&qh6 M.length ks then k (qcd rs) st.L st.Wb
    else if knownL rs&&M.isEmpty&&qh6 M.length ks&&!((ptrsTL rs).all λr=>decide (r.lvl<M.length))then (match peekTL st.box rs with
     |some xs=>if knownL xs&&(ptrsTL xs).isEmpty then k (qcd xs) st.L st.Wb else none
     |none=>none)
    else none
   |_,_=>none
  |none=>none
 |none=>none
noncomputable def qAy(args:List TV)(R:Type)(k:TV->Option R):Option R :=
 if J.lib f then none else
 match P.funcs[f]? with
 |some fn=>match fn.body with
  |some c=>tx P H J T O ctx f 0 c {E:=Env.qeN args fn.ntmps,L:=[],B:=[],Wt:=.empty,Wb:=[]} R λe st =>
   match e with
   |.exit _=>none
   |_=>match qdF (fn.results.toList.map (qgj P st)),qgE (fn.results.toList.map (qdB st))with
    |some rs,some ks=>if knownL rs&&(ptrsTL rs).isEmpty&&qh6 0 ks then k (qcd rs)else none
    |_,_=>none
  |none=>none
 |none=>none
noncomputable def qv2(args:List TV)(R:Type)(k:TV->TV->Option R):Option R :=
 if J.lib f then none else
 match P.funcs[f]? with
 |some fn=>match fn.body with
  |some c=>tx P H J T O ctx f 0 c {E:=Env.qeN args fn.ntmps,L:=[],B:=[],Wt:=.empty,Wb:=[]} R λe st =>
   match e with
   |.exit _=>none
   |_=>match qdF (fn.results.toList.map (qgj P st))with
    |some rs=>match peekTL st.box rs with
     |some xs=>match ptrsTL xs with
      |[r]=>if r.lvl=0 then (match st.box r with
       |some [.t (.mset τ) o l]=>if knownL xs&&onlyMapsTL xs then k (qcd xs) (.t (.mset τ) o l)else none
       |_=>none)else none
      |_=>none
     |none=>none
    |none=>none
  |none=>none
 |none=>none
end
def TV.qc0:TV->TV
 |.val (.slice none 0 0)=>.empty 1
 |.t (.nsl _) _ _=>.any []
 |v=>v
def dnT(H:Hints)(g:FuncId)(l:List TV):List TV:=bif H.qc0 g then l.map TV.qc0 else l
mutual
def TV.denilD:TV->TV
 |.val (.slice none 0 0)=>.empty 1
 |.t (.nsl _) _ _=>.any []
 |.t (.pair ..) _ _=>.any []
 |.agg l=>.agg (denilDTL l)
 |.tuple l=>.tuple (denilDTL l)
 |v=>v
def denilDTL:List TV->List TV
 |[]=>[]
 |v::l=>v.denilD::denilDTL l
end
def qB7(H:Hints)(g:FuncId)(r:TV):TV:=bif H.denr g then r.denilD else r
def TV.qbi:TV->TV
 |.val (.slice none 0 0)=>.empty 1000
 |.t (.nsl _) _ _=>.any []
 |v=>v
def qy8(M:List qI)(q:Root)(c:List TV):List qI:=M.modify q.lvl λb=>qsW b q.slot (some c)
noncomputable def qB9(I:IoT)(g:FuncId)(args:List TV)(M:List qI)(R:Type)(k:TV->List qI->List Root->Option R):Option R :=
 match args with
 |.ptr q off::rest=>if decide (off=0)&&decide (q.slot<16384)&&knownL rest&&(ptrsTL rest).isEmpty then (match qtH M q with
  |some (some c)=>if c.all TV.one&&knownL c&&(ptrsTL c).isEmpty then I g c (rest.map TV.qbi) R λc'=>if c'.all TV.one&&knownL c'&&(ptrsTL c').isEmpty then k (.tuple []) (qy8 M q c') [q]else none else none
  |_=>none)else none
 |_=>none
noncomputable def qju(P:Program)(H:Hints)(J:TH)(T:qp6):Nat->TOrc
 |0=>{call:=λ_ _ _ _ _ _=>none,code:=λ_ _ _ _ _ _ _=>none,born:=λ_ _ _ _ _=>none,own:=λ_ _ _ _ _=>none}
 |n+1=>{
   call:=λctx g args M R k=>if H.io g then qB9 J.io g args M R k else runT P H J T (qju P H J T n) ctx g (dnT H g args) M R λr M wb=>k (qB7 H g r) M wb
   code:=λctx f bid c st R k=>tx P H J T (qju P H J T n) ctx f bid c st R k
   born:=λctx g args R k=>qv2 P H J T (qju P H J T n) ctx g args R k
   own:=λctx g args R k=>if H.own g&&!args.isEmpty&&!ownsTL args.tail then qAy P H J T (qju P H J T n) ctx g args R k else none}
def qvY:(rs:List (Ty×Nat))->TV->Option (denL (rs.map (·.1)))
 |[p],r=>asL [p] [r]
 |rs,.tuple l=>asL rs l
 |_,_=>none
noncomputable def fnT(P:Program)(H:Hints)(J:TH)(T:qp6)(n:Nat)(g:FuncId)(args:List TV)(rs:List (Ty×Nat)):Option (denL (rs.map (·.1))) :=
 (qju P H J T n).call [] g args [] _ λr M _=>match M with
  |[]=>qvY rs r
  |_=>none
inductive Cp where
 |v (τ:Ty)
 |p (τ:Ty)
@[reducible] def Cp.den:Cp->Type
 |.v τ=>τ.den
 |.p τ=>τ.den
@[reducible] def denC:List Cp->Type
 |[]=>Unit
 |[c]=>c.den
 |c::q::l=>c.den×denC (q::l)
inductive Pm where
 |ty (τ:Ty)
 |ptr (τ:Ty)
 |fn (g:FuncId) (caps:List Cp)
@[reducible] def Pm.den:Pm->Type
 |.ty τ=>τ.den
 |.ptr τ=>τ.den
 |.fn _ cs=>denC cs
@[reducible] def denP:List Pm->Type
 |[]=>Unit
 |[p]=>p.den
 |p::q::l=>p.den×denP (q::l)
def qr4(τ:Ty)(cs:List TV):Option τ.den :=
 if τ.one=true then (match cs with
  |[c]=>qem τ 1000 c
  |_=>none)else qem τ 1000 (.agg cs)
def qz1:(c:Cp)->TV->Option c.den
 |.v τ,v=>qem τ 1000 v
 |.p τ,.cptr true cs=>qr4 τ cs
 |.p _,_=>none
def qBw:(c:Cp)->c.den->TV
 |.v τ,x=>ofTy τ 1000 x
 |.p τ,x=>.cptr true (ofTy τ 1000 x).cells
def qqj:(cs:List Cp)->List TV->Option (denC cs)
 |[],[]=>some ()
 |[c],[v]=>qz1 c v
 |c::q::ps,v::l=>(qz1 c v).bind λx=>(qqj (q::ps) l).bind λy=>some (x,y)
 |_,_=>none
def qyM:(cs:List Cp)->denC cs->List TV
 |[],_=>[]
 |[c],x=>[qBw c x]
 |c::q::ps,x=>qBw c x.1::qyM (q::ps) x.2
def qAU:(p:Pm)->TV->Option p.den
 |.ty τ,v=>qem τ 1000 v
 |.ptr τ,v=>qz1 (.p τ) v
 |.fn g cs,.fn g' [] cap=>if g=g' then qqj cs cap else none
 |.fn _ _,_=>none
def qBW:(p:Pm)->p.den->TV
 |.ty τ,x=>ofTy τ 1000 x
 |.ptr τ,x=>qBw (.p τ) x
 |.fn g cs,x=>.fn g [] (qyM cs x)
def qqi:(ps:List Pm)->List TV->Option (denP ps)
 |[],[]=>some ()
 |[p],[v]=>qAU p v
 |p::q::ps,v::l=>(qAU p v).bind λx=>(qqi (q::ps) l).bind λy=>some (x,y)
 |_,_=>none
def qaF:(ps:List Pm)->denP ps->List TV
 |[],_=>[]
 |[p],x=>[qBW p x]
 |p::q::ps,x=>qBW p x.1::qaF (q::ps) x.2
structure Entry where
 g:FuncId
 ps:List Pm
 rs:List (Ty×Nat)
 F:denP ps->Option (denL (rs.map (·.1)))
def qpw(rs:List (Ty×Nat))(x:denL (rs.map (·.1))):TV:=qcd (ofL rs x)
structure IoEntry where
 g:FuncId
 bs:List (Ty×Nat)
 ps:List (Ty×Nat)
 F:denL (bs.map (·.1))->denL (ps.map (·.1))->Option (denL (bs.map (·.1)))
def qea:List Entry->qp6
 |[],_,_,_,_=>none
 |e::l,g,args,R,k=>if e.g=g then (match qqi e.ps args with
   |some x=>(e.F x).bind λy=>k (qpw e.rs y)
   |none=>qea l g args R k)else qea l g args R k
end
end Go.Tx
end
section
namespace Go.Fl
open Ieee
section
set_option maxRecDepth 100000
def Val(d:Datum)(n:Int):Prop:=∃neg mag place,d=.number neg mag place/\mag*2 ^ place.toNat=n.natAbs*2 ^ (-place).toNat/\(neg=true->n<=0)/\(neg=false->0<=n)
def IsF(w:Nat)(n:Int):Prop:=Val (double.read w) n
theorem qf7:double.leastPlace = -1074:=by decide
theorem qqk:double.binade=2 ^ 52:=rfl
theorem qnU:double.infRung=2047*2 ^ 52:=rfl
theorem qjp:double.signWeight=2 ^ 63:=rfl
theorem qxf(neg:Bool){r:Nat}(h:r<2 ^ 63):(double.word neg r) / 2 ^ 63 % 2=(if neg then 1 else 0)/\(double.word neg r) % 2 ^ 63=r:=by
 unfold Format.word;rw [qjp];cases neg
 ·simp only [qf,if_false]<;>omega
 ·simp only [if_true]<;>omega
theorem qxe(neg:Bool){k e:Nat}(h1:2 ^ 52<=k)(h2:k<2 ^ 53)(he:e<=2000):double.read (double.word neg (e*2 ^ 52+k))=.number neg k (-1074+(e:Int)):=by
 have hr:=qxf neg (r:=e*2 ^ 52+k) (by omega);unfold Format.read;rw [qjp,qqk,qnU,qf7];simp only [hr.1,hr.2];have c1:¬ (e*2 ^ 52+k<2 ^ 52):=by omega
 have c2:e*2 ^ 52+k<2047*2 ^ 52:=by omega
 rw [if_neg c1,if_pos c2];have e1:(e*2 ^ 52+k) % 2 ^ 52=k-2 ^ 52:=by omega
 have e2:(e*2 ^ 52+k) / 2 ^ 52=e+1:=by omega
 rw [e1,e2];have e3:2 ^ 52+(k-2 ^ 52)=k:=by omega
 rw [e3];have e4:e+1-1=e:=by omega
 rw [e4];cases neg<;>rfl
theorem qxg(neg:Bool):double.read (double.word neg 0)=.number neg 0 (-1074):=by
 cases neg<;>decide
theorem qwc(neg:Bool){q d:Nat}(hq:0<q):Toward.even.cut neg (q*2 ^ d) d=q:=by
 unfold Toward.cut;have hl:d<=(q*2 ^ d).log2:=by
  rw [Nat.le_log2 (by have:=Nat.pow_pos (n:=d) (show 0<2 by omega);have:=Nat.mul_pos hq this;omega)];exact Nat.le_mul_of_pos_left _ hq
 have hm:min d ((q*2 ^ d).log2+2)=d:=by omega
 simp only [hm,Nat.one_shiftLeft];have hp:0<2 ^ d:=Nat.pow_pos (by omega);have e1:q*2 ^ d / 2 ^ d=q:=Nat.mul_div_cancel _ hp;have e2:q*2 ^ d % 2 ^ d=0:=Nat.mul_mod_left _ _;rw [e1,e2];have c1:decide (2 ^ d<2*0)=false:=by simp
 have c2:((2 ^ d==2*0)&&(q % 2==1))=false:=by
  have:(2 ^ d==2*0)=false:=by simp
  rw [this];rfl
 simp [c2]
theorem qtG(m k:Nat)(hm:m≠0):(m*2 ^ k).log2=m.log2+k:=by
 have hp:0<2 ^ k:=Nat.pow_pos (by omega);have hne:m*2 ^ k≠0:=by have:=Nat.mul_pos (Nat.pos_of_ne_zero hm) hp;omega
 rw [Nat.log2_eq_iff hne];have h1:=Nat.log2_self_le hm;have h2:=@Nat.lt_log2_self m;constructor
 ·rw [Nat.pow_add];exact Nat.mul_le_mul_right _ h1
 ·have:2 ^ (m.log2+k+1)=2 ^ (m.log2+1)*2 ^ k:=by rw [<- Nat.pow_add];congr 1;omega
  rw [this];exact Nat.mul_lt_mul_of_pos_right h2 hp
theorem qBc(B q k:Nat)(h3:q<=1074*B)(hk:k<2*B):q+k<=2047*B:=by omega
theorem qjz{d:Datum}{n:Int}(h:Val d n)(hn:n.natAbs<2 ^ 53):IsF (double.write d) n:=by
 obtain ⟨neg,mag,place,rfl,hv,hs1,hs2⟩:=h;unfold IsF;show Val (double.read (double.nearest neg mag place)) n;unfold Format.nearest;by_cases h0:mag=0
 ·rw [if_pos h0,qxg];subst h0;have hz:n.natAbs=0:=by
   have hp:0<2 ^ (-place).toNat:=Nat.pow_pos (by omega);rw [Nat.zero_mul]at hv;rcases Nat.mul_eq_zero.1 hv.symm with h|h
   ·exact h
   ·omega
  exact ⟨neg,0,-1074,rfl,by rw [hz,Nat.zero_mul,Nat.zero_mul],hs1,hs2⟩
 rw [if_neg h0];have hnz:n.natAbs≠0:=by
  intro hz;rw [hz,Nat.zero_mul]at hv;have hp:0<2 ^ place.toNat:=Nat.pow_pos (by omega);rcases Nat.mul_eq_zero.1 hv with h|h<;>omega
 have hlog:(mag.log2:Int)+place=n.natAbs.log2:=by
  have h1:=congrArg Nat.log2 hv;rw [qtG _ _ h0,qtG _ _ hnz]at h1;omega
 have hl53:n.natAbs.log2<53:=(Nat.log2_lt hnz).2 hn;generalize hL:n.natAbs.log2=L at *;have hfb:(double.fractionBits:Int)=52:=rfl;have hlast:max (place+(mag.log2:Int)-(double.fractionBits:Int)) double.leastPlace=(L:Int)-52:=by
  rw [qf7,hfb];omega
 simp only [hlast];have hL2:L+1022<=2000:=by omega
 have t2:(-((-1074:Int)+((L+1022:Nat):Int))).toNat=52-L:=by omega
 have t3:((-1074:Int)+((L+1022:Nat):Int)).toNat=0:=by omega
 have hkept:Toward.even.cut neg (mag <<< (place-((L:Int)-52)).toNat) (((L:Int)-52)-place).toNat=n.natAbs*2 ^ (52-L):=by
  have hp52:0<2 ^ (52-L):=Nat.pow_pos (by omega);have hq:0<n.natAbs*2 ^ (52-L):=Nat.mul_pos (Nat.pos_of_ne_zero hnz) hp52;have key:mag <<< (place-((L:Int)-52)).toNat=n.natAbs*2 ^ (52-L)*2 ^ (((L:Int)-52)-place).toNat:=by
   rw [Nat.shiftLeft_eq]
   refine Nat.eq_of_mul_eq_mul_right (Nat.pow_pos (n:=place.toNat+(-place).toNat) (show 0<2 by omega)) ?_;have a1:mag*2 ^ (place-((L:Int)-52)).toNat*2 ^ (place.toNat+(-place).toNat)=(mag*2 ^ place.toNat)*2 ^ ((place-((L:Int)-52)).toNat+(-place).toNat):=by
    rw [Nat.pow_add,Nat.pow_add];ac_rfl
   have a2:n.natAbs*2 ^ (52-L)*2 ^ (((L:Int)-52)-place).toNat*2 ^ (place.toNat+(-place).toNat)=n.natAbs*2 ^ ((52-L)+(((L:Int)-52)-place).toNat+(place.toNat+(-place).toNat)):=by
    rw [Nat.mul_assoc,Nat.mul_assoc,<- Nat.pow_add,<- Nat.pow_add];congr 2
    omega
   rw [a1,hv,a2,Nat.mul_assoc,<- Nat.pow_add];congr 2
   omega
  rw [key,qwc neg hq]
 rw [hkept];have hk1:2 ^ 52<=n.natAbs*2 ^ (52-L):=by
  have h1:2 ^ L<=n.natAbs:=by rw [<- hL];exact Nat.log2_self_le hnz
  have h2:2 ^ 52=2 ^ L*2 ^ (52-L):=by rw [<- Nat.pow_add];congr 1;omega
  rw [h2];exact Nat.mul_le_mul_right _ h1
 have hk2:n.natAbs*2 ^ (52-L)<2 ^ 53:=by
  have h1:n.natAbs<2 ^ (L+1):=by rw [<- hL];exact Nat.lt_log2_self
  have h2:2 ^ 53=2 ^ (L+1)*2 ^ (52-L):=by rw [<- Nat.pow_add];congr 1;omega
  rw [h2];exact Nat.mul_lt_mul_of_pos_right h1 (Nat.pow_pos (by omega))
 have he:(((L:Int)-52)-double.leastPlace).toNat=L+1022:=by rw [qf7];omega
 rw [he,qqk,qnU];have h3:(L+1022)*2 ^ 52<=1074*2 ^ 52:=Nat.mul_le_mul_right _ (by omega);have h5:2 ^ 53=2*2 ^ 52:=by rw [Nat.pow_succ,Nat.mul_comm]
 rw [h5]at hk2;have hmin:min ((L+1022)*2 ^ 52+n.natAbs*2 ^ (52-L)) (2047*2 ^ 52)=(L+1022)*2 ^ 52+n.natAbs*2 ^ (52-L):=Nat.min_eq_left (qBc _ _ _ h3 hk2);rw [<- h5]at hk2;rw [hmin,qxe neg hk1 hk2 hL2];refine ⟨neg,n.natAbs*2 ^ (52-L),-1074+((L+1022:Nat):Int),rfl,?_,hs1,hs2⟩;rw [t2,t3,Nat.pow_zero,Nat.mul_one]
theorem qzU{neg:Bool}{mag:Nat}{place base:Int}{n:Int}(hv:mag*2 ^ place.toNat=n.natAbs*2 ^ (-place).toNat)(h1:neg=true->n<=0)(h2:neg=false->0<=n)(hb:base<=place) :
  signed neg mag (place-base).toNat*(2 ^ base.toNat:Nat)=n*(2 ^ (-base).toNat:Nat):=by
 have key:mag*2 ^ (place-base).toNat*2 ^ base.toNat=n.natAbs*2 ^ (-base).toNat:=by
  refine Nat.eq_of_mul_eq_mul_right (Nat.pow_pos (n:=(-place).toNat) (show 0<2 by omega)) ?_;have a1:mag*2 ^ (place-base).toNat*2 ^ base.toNat*2 ^ (-place).toNat=mag*2 ^ place.toNat*2 ^ (-base).toNat:=by
   rw [Nat.mul_assoc,Nat.mul_assoc,Nat.mul_assoc,<- Nat.pow_add,<- Nat.pow_add,<- Nat.pow_add];congr 2;omega
  rw [a1,hv,Nat.mul_assoc,Nat.mul_assoc,Nat.mul_comm (2 ^ (-place).toNat)]
 unfold signed;cases neg with
 |true =>
  have hn:=h1 rfl;have e:n = -(n.natAbs:Int):=by omega
  simp only [if_true,Nat.shiftLeft_eq];rw [Int.neg_mul,<- Int.natCast_mul,key];conv=>rhs;rw [e]
  rw [Int.neg_mul,Int.natCast_mul]
 |false =>
  have hn:=h2 rfl;have e:n=(n.natAbs:Int):=by omega
  simp only [qf,if_false,Nat.shiftLeft_eq];rw [<- Int.natCast_mul,key];conv=>rhs;rw [e]
  rw [Int.natCast_mul]
theorem qxI{x y:Datum}{m n:Int}(hx:Val x m)(hy:Val y n):∃d,x.sum y=some d/\Val d (m+n):=by
 obtain ⟨s,p,i,rfl,hv,h1,h2⟩:=hx;obtain ⟨t,q,j,rfl,hw,h3,h4⟩:=hy;have e1:=qzU (base:=min i j) hv h1 h2 (by omega);have e2:=qzU (base:=min i j) hw h3 h4 (by omega);refine ⟨_,rfl,?_⟩;generalize hb:min i j=base at *;generalize hT:signed s p (i-base).toNat+signed t q (j-base).toNat=total;have e3:total*(2 ^ base.toNat:Nat)=(m+n)*(2 ^ (-base).toNat:Nat):=by
  rw [<- hT,Int.add_mul,Int.add_mul,e1,e2]
 have hp:(0:Int)<(2 ^ base.toNat:Nat):=by have:=Nat.pow_pos (n:=base.toNat) (show 0<2 by omega);omega
 have hq:(0:Int)<(2 ^ (-base).toNat:Nat):=by have:=Nat.pow_pos (n:=(-base).toNat) (show 0<2 by omega);omega
 refine ⟨_,_,_,rfl,?_,?_,?_⟩
 ·have:=congrArg Int.natAbs e3;rw [Int.natAbs_mul,Int.natAbs_mul,Int.natAbs_natCast,Int.natAbs_natCast]at this;exact this
 ·intro h;by_cases h0:total=0
  ·rw [h0,Int.zero_mul]at e3;rcases Int.mul_eq_zero.1 e3.symm with h9|h9<;>omega
  ·rw [if_neg h0]at h;have hneg:total<0:=by simpa using h
   have h5:=Int.mul_neg_of_neg_of_pos hneg hp;rw [e3]at h5;rcases Int.lt_or_le 0 (m+n)with h6|h6
   ·have:=Int.mul_pos h6 hq;omega
   ·exact h6
 ·intro h;by_cases h0:total=0
  ·rw [h0,Int.zero_mul]at e3;rcases Int.mul_eq_zero.1 e3.symm with h9|h9<;>omega
  ·rw [if_neg h0]at h;have hpos:0<=total:=by
    have:¬ total<0:=by simpa using h
    omega
   have h5:=Int.mul_nonneg hpos (by omega:(0:Int)<=(2 ^ base.toNat:Nat));rw [e3]at h5;rcases Int.lt_or_le (m+n) 0 with h6|h6
   ·have:=Int.mul_neg_of_neg_of_pos h6 hq;omega
   ·exact h6
theorem qAv{x:Datum}{m:Int}(hx:Val x m):Val x.opposite (-m):=by
 obtain ⟨s,p,i,rfl,hv,h1,h2⟩:=hx;refine ⟨!s,p,i,rfl,by rw [Int.natAbs_neg];exact hv,λh=>?_,λh=>?_⟩
 ·have:=h2 (by cases s<;>simp_all);omega
 ·have:=h1 (by cases s<;>simp_all);omega
theorem qsK{x y:Datum}{m n:Int}(hx:Val x m)(hy:Val y n):∃d,x.product y=some d/\Val d (m*n):=by
 obtain ⟨s,p,i,rfl,hv,h1,h2⟩:=hx;obtain ⟨t,q,j,rfl,hw,h3,h4⟩:=hy;refine ⟨_,rfl,_,_,_,rfl,?_,λh=>?_,λh=>?_⟩
 ·rw [Int.natAbs_mul];refine Nat.eq_of_mul_eq_mul_right (Nat.pow_pos (n:=(-i).toNat+(-j).toNat) (show 0<2 by omega)) ?_;have a1:p*q*2 ^ (i+j).toNat*2 ^ ((-i).toNat+(-j).toNat)=(p*2 ^ i.toNat)*(q*2 ^ j.toNat)*2 ^ (-(i+j)).toNat:=by
   have b1:p*q*2 ^ (i+j).toNat*2 ^ ((-i).toNat+(-j).toNat)=p*q*2 ^ ((i+j).toNat+((-i).toNat+(-j).toNat)):=by rw [Nat.mul_assoc,<- Nat.pow_add]
   have b2:(p*2 ^ i.toNat)*(q*2 ^ j.toNat)*2 ^ (-(i+j)).toNat=p*q*2 ^ ((i.toNat+j.toNat)+(-(i+j)).toNat):=by
    rw [Nat.pow_add,Nat.pow_add];ac_rfl
   rw [b1,b2];congr 2;omega
  rw [a1,hv,hw];have b3:n.natAbs*2 ^ (-j).toNat=n.natAbs*2 ^ (-j).toNat:=rfl;rw [Nat.pow_add];ac_rfl
 ·cases s<;>cases t<;>simp at h
  ·exact Int.mul_nonpos_of_nonneg_of_nonpos (h2 rfl) (h3 rfl)
  ·exact Int.mul_nonpos_of_nonpos_of_nonneg (h1 rfl) (h4 rfl)
 ·cases s<;>cases t<;>simp at h
  ·exact Int.mul_nonneg (h2 rfl) (h4 rfl)
  ·exact Int.mul_nonneg_of_nonpos_of_nonpos (h1 rfl) (h3 rfl)
theorem qA6{a b:Nat}{m n:Int}(ha:IsF a m)(hb:IsF b n)(h:(m+n).natAbs<2 ^ 53):∃r,double.add a b=some r/\IsF r (m+n):=by
 obtain ⟨d,hd,hv⟩:=qxI ha hb;exact ⟨_,by unfold Format.add;rw [hd];rfl,qjz hv h⟩
theorem qBJ{a b:Nat}{m n:Int}(ha:IsF a m)(hb:IsF b n)(h:(m-n).natAbs<2 ^ 53):∃r,double.sub a b=some r/\IsF r (m-n):=by
 obtain ⟨d,hd,hv⟩:=qxI ha (qAv hb);exact ⟨_,by unfold Format.sub;rw [hd];rfl,qjz hv h⟩
theorem qBu{a b:Nat}{m n:Int}(ha:IsF a m)(hb:IsF b n)(h:(m*n).natAbs<2 ^ 53):∃r,double.mul a b=some r/\IsF r (m*n):=by
 obtain ⟨d,hd,hv⟩:=qsK ha hb;exact ⟨_,by unfold Format.mul;rw [hd];rfl,qjz hv h⟩
theorem qAl(n:Int):Val (.number (n<0) n.natAbs 0) n:=⟨_,_,_,rfl,rfl,λh=>Int.le_of_lt (by simpa using h),λh=>Int.not_lt.1 (by simpa using h)⟩
theorem qtL{n:Int}(h:n.natAbs<2 ^ 53):IsF (double.write (.number (n<0) n.natAbs 0)) n:=qjz (qAl n) h
theorem qyj(neg:Bool){q d:Nat}:Toward.zero.cut neg (q*2 ^ d) d=q:=by
 unfold Toward.cut;simp only [Nat.one_shiftLeft,Bool.toNat_false,Nat.add_zero];by_cases hq:q=0
 ·rw [hq,Nat.zero_mul,Nat.zero_div]
 have hl:d<=(q*2 ^ d).log2:=by
  have hp:=Nat.mul_pos (Nat.pos_of_ne_zero hq) (Nat.pow_pos (n:=d) (show 0<2 by omega));rw [Nat.le_log2 (by omega)];exact Nat.le_mul_of_pos_left _ (Nat.pos_of_ne_zero hq)
 rw [show min d ((q*2 ^ d).log2+2)=d by omega];exact Nat.mul_div_cancel _ (Nat.pow_pos (by omega))
theorem qzm{d:Datum}{n:Int}(h:Val d n):d.toInt .zero=some n:=by
 obtain ⟨neg,mag,place,rfl,hv,h1,h2⟩:=h;unfold Datum.toInt Datum.integral;simp only
 have hc:Toward.zero.cut neg (mag <<< place.toNat) (-place).toNat=n.natAbs:=by
  rw [Nat.shiftLeft_eq,hv];exact qyj neg
 rw [hc];unfold signed;rw [Nat.shiftLeft_zero];cases neg with
 |true=>have:=h1 rfl;simp only [if_true];congr 1;omega
 |false=>have:=h2 rfl;simp only [qf,if_false];congr 1;omega
end
end Go.Fl
end
section
namespace Go.Fl
open Go Ieee
theorem qlE{a b:Nat}{m n:Int}(ha:IsF a m)(hb:IsF b n)(h:(m+n).natAbs<2 ^ 53):∃r,floatBits .add .f64 a b=some r/\IsF r (m+n):=qA6 ha hb h
theorem qwl{a b:Nat}{m n:Int}(ha:IsF a m)(hb:IsF b n)(h:(m-n).natAbs<2 ^ 53):∃r,floatBits .sub .f64 a b=some r/\IsF r (m-n):=qBJ ha hb h
theorem qiM{a b:Nat}{m n:Int}(ha:IsF a m)(hb:IsF b n)(h:(m*n).natAbs<2 ^ 53):∃r,floatBits .mul .f64 a b=some r/\IsF r (m*n):=qBu ha hb h
theorem qz9{a b c d:Nat}{x y u v:Int}(ha:IsF a x)(hb:IsF b y)(hc:IsF c u)(hd:IsF d v)(h1:(x+u).natAbs<2 ^ 53)(h2:(y+v).natAbs<2 ^ 53) :
  ∃re im,cSumBits .add .f64 a b c d=some (re,im)/\IsF re (x+u)/\IsF im (y+v):=by
 obtain ⟨re,e1,r1⟩:=qlE ha hc h1;obtain ⟨im,e2,r2⟩:=qlE hb hd h2;exact ⟨re,im,by unfold cSumBits;rw [e1,qa,e2,qa],r1,r2⟩
theorem qz7{a b c d:Nat}{x y u v:Int}(ha:IsF a x)(hb:IsF b y)(hc:IsF c u)(hd:IsF d v)
  (h1:(x*u).natAbs<2 ^ 53) (h2:(y*v).natAbs<2 ^ 53) (h3:(x*u-y*v).natAbs<2 ^ 53) (h4:(x*v).natAbs<2 ^ 53) (h5:(y*u).natAbs<2 ^ 53) (h6:(x*v+y*u).natAbs<2 ^ 53) :
  ∃re im,cMulBits a b c d=some (re,im)/\IsF re (x*u-y*v)/\IsF im (x*v+y*u):=by
 obtain ⟨ac,e1,r1⟩:=qiM ha hc h1;obtain ⟨bd,e2,r2⟩:=qiM hb hd h2;obtain ⟨re,e3,r3⟩:=qwl r1 r2 h3;obtain ⟨ad,e4,r4⟩:=qiM ha hd h4;obtain ⟨bc,e5,r5⟩:=qiM hb hc h5;obtain ⟨im,e6,r6⟩:=qlE r4 r5 h6;exact ⟨re,im,by unfold cMulBits;rw [e1,qa,e2,qa,e3,qa,e4,qa,e5,qa,e6,qa],r3,r6⟩
theorem qo1:IsF 0 0:=by
 have h:=qtL (n:=0) (by decide);have e:double.write (.number (decide ((0:Int)<0)) (0:Int).natAbs 0)=0:=by decide
 rw [e]at h;exact h
theorem quX{n:Int}(h:n.natAbs<2 ^ 53):IsF (FloatKind.f64.nearest n) n:=qtL h
end Go.Fl
end
section
namespace Go.Tx
open Go Go.Ab
section
inductive All2 {α β:Type} (R:α->β->Prop):List α->List β->Prop
 |nil:All2 R [] []
 |cons {a b l l'}:R a b->All2 R l l'->All2 R (a::l) (b::l')
section
variable {α β:Type} {R S:α->β->Prop}
theorem All2.length{l:List α}{l':List β}(h:All2 R l l'):l'.length=l.length:=by
 induction h with
 |nil=>rfl
 |cons _ _ ih=>simp [ih]
theorem All2.mono(hrs:∀a b,R a b->S a b){l:List α}{l':List β}(h:All2 R l l'):All2 S l l':=by
 induction h with
 |nil=>exact .nil
 |cons h1 _ ih=>exact .cons (hrs _ _ h1) ih
theorem All2.append{l m:List α}{l' m':List β}(h:All2 R l l')(h':All2 R m m'):All2 R (l++m) (l'++m'):=by
 induction h with
 |nil=>exact h'
 |cons h1 _ ih=>exact .cons h1 ih
theorem All2.take{l:List α}{l':List β}(h:All2 R l l'):∀n,All2 R (l.take n) (l'.take n):=by
 induction h with
 |nil=>intro n;simp;exact .nil
 |cons h1 _ ih=>intro n;cases n with
  |zero=>exact .nil
  |succ n=>exact .cons h1 (ih n)
theorem All2.drop{l:List α}{l':List β}(h:All2 R l l'):∀n,All2 R (l.drop n) (l'.drop n):=by
 induction h with
 |nil=>intro n;simp;exact .nil
 |cons h1 h2 ih=>intro n;cases n with
  |zero=>exact .cons h1 h2
  |succ n=>exact ih n
theorem All2.get{l:List α}{l':List β}(h:All2 R l l'):∀{i:Nat} {a:α},l[i]?=some a->∃b,l'[i]?=some b/\R a b:=by
 induction h with
 |nil=>intro i a h;simp at h
 |cons h1 h2 ih=>intro i a h;cases i with
  |zero=>simp at h;subst h;exact ⟨_,rfl,h1⟩
  |succ n=>exact ih (by simpa using h)
theorem All2.replicate{a:α}{b:β}(h:R a b):∀n,All2 R (List.replicate n a) (List.replicate n b)
 |0=>.nil
 |n+1=>.cons h (All2.replicate h n)
theorem All2.map{γ:Type}{g:β->γ}{S:α->γ->Prop}(hrs:∀a b,R a b->S a (g b)){l:List α}{l':List β}(h:All2 R l l'):All2 S l (l'.map g):=by
 induction h with
 |nil=>exact .nil
 |cons h1 _ ih=>exact .cons (hrs _ _ h1) ih
theorem All2.all{p:β->Prop}(hp:∀a b,R a b->p b){l:List α}{l':List β}(h:All2 R l l'):∀b∈l',p b:=by
 induction h with
 |nil=>simp
 |cons h1 _ ih =>
          intro b hb;rcases qk.1 hb with rfl|hb
          ·exact hp _ _ h1
          ·exact ih b hb
end
def FlR(o:Nat)(f:Fl):Prop:=(o≠2000->(f=.own↔qaE o=true))/\(o=1000->f=.shared)
def RTy:(τ:Ty)->Nat->τ.den->V->Prop
 |.int k,_,n,v=>v=.val (.int k n)
 |.bool,_,b,v=>v=.val (.bool b)
 |.str,_,s,v=>v=.val (.string ⟨s.toArray⟩)
 |.flt,_,n,v=>∃b,v=.val (.float .f64 b)/\Fl.IsF b n
 |.cx,_,p,v=>∃a b,v=.val (.complex .f64 a b)/\Fl.IsF a p.1/\Fl.IsF b p.2
 |.err,_,x,v=>(x=true/\v=.val .nilIface)\/(x=false/\∃t,v=.iface t .undef)
 |.mset t,_,l,v=>qgN t=true/\v=.mp (l.map λx=>(qcw t x,.bool true))
 |.sl t,o,l,v=>∃f c l',v=.sl f c l'/\FlR o f/\All2 (RTy t (nx o)) l l'
 |.nsl t,o,l,v=>(l=[]/\v=.val (.slice none 0 0))\/(l≠[]/\∃f c l',v=.sl f c l'/\FlR o f/\All2 (RTy t (nx o)) l l')
 |.unit,_,_,v=>v=.agg []
 |.pair a b,o,x,v=>∃v1 l,v=.agg (v1::l)/\RTy a o x.1 v1/\RTy b o x.2 (.agg l)
mutual
def RV:TV->V->Prop
 |.any rs,v=>(∀r∈v.qq,r∈rs)/\q3 [v]=false
 |.t τ o x,v=>RTy τ o x v
 |.clp τ x,v=>∃f l',v=.sl f true l'/\f≠.own/\All2 (RTy τ 0) x l'
 |.room a s,v=>(a<2/\∃n,v=.room s n/\(a=0->n=0))\/(2<=a/\(v=.undef\/∃f,f≠.own/\v=.sl f false []))
 |.empty o,v=>∃f c,v=.sl f c []/\FlR o f
 |.val u,v=>v=.val u
 |.agg l,v=>∃l',v=.agg l'/\RVL l l'
 |.tuple l,v=>∃l',v=.tuple l'/\RVL l l'
 |.fn g a b,v=>∃a' b',v=.fn g a' b'/\RVL a a'/\RVL b b'
 |.ptr r o,v=>v=.ptr r o
 |.mref r,v=>v=.mref r
 |.bsl r o n,v=>v=.bsl r o n
 |.yld r,v=>v=.yld r
 |.lp ..,v=>False
 |.cptr s l,v=>∃f l',v=.cptr f l'/\f≠.own/\(s=true->f=.shared)/\RVL l l'
 |.iface t x,v=>∃y,v=.iface t y/\RV x y
def RVL:List TV->List V->Prop
 |[],l=>l=[]
 |x::l,l'=>∃v m,l'=v::m/\RV x v/\RVL l m
end
theorem qx{x:TV}{l:List TV}{v:V}{m:List V}:RVL (x::l) (v::m)↔RV x v/\RVL l m:=by
 simp only [RVL,List.cons.injEq];exact ⟨λ⟨_,_,⟨rfl,rfl⟩,h1,h2⟩=>⟨h1,h2⟩,λ⟨h1,h2⟩=>⟨_,_,⟨rfl,rfl⟩,h1,h2⟩⟩
theorem q6:RVL [] []:=by simp [RVL]
theorem RVL.length:∀{l:List TV} {l':List V},RVL l l'->l'.length=l.length
 |[],l',h=>by simp only [RVL]at h;simp [h]
 |x::l,l',h=>by simp only [RVL]at h;obtain ⟨v,m,rfl,_,h2⟩:=h;simp [RVL.length h2]
theorem RVL.append:∀{l m:List TV} {l' m':List V},RVL l l'->RVL m m'->RVL (l++m) (l'++m')
 |[],m,l',m',h,h'=>by simp only [RVL]at h;simpa [h]using h'
 |x::l,m,l',m',h,h'=>by
  simp only [RVL]at h;obtain ⟨v,n,rfl,h1,h2⟩:=h;exact qx.2 ⟨h1,RVL.append h2 h'⟩
theorem RVL.take:∀{l:List TV} {l':List V} (n:Nat),RVL l l'->RVL (l.take n) (l'.take n)
 |_,_,0,h=>by simp [RVL]
 |[],l',n+1,h=>by simp only [RVL]at h;simp [h,RVL]
 |x::l,l',n+1,h=>by
  simp only [RVL]at h;obtain ⟨v,m,rfl,h1,h2⟩:=h;exact qx.2 ⟨h1,RVL.take n h2⟩
theorem RVL.drop:∀{l:List TV} {l':List V} (n:Nat),RVL l l'->RVL (l.drop n) (l'.drop n)
 |_,_,0,h=>by simpa using h
 |[],l',n+1,h=>by simp only [RVL]at h;simp [h,RVL]
 |x::l,l',n+1,h=>by
  simp only [RVL]at h;obtain ⟨v,m,rfl,h1,h2⟩:=h;exact RVL.drop n h2
theorem RVL.get:∀{l:List TV} {l':List V} {i:Nat} {x:TV},RVL l l'->l[i]?=some x->∃v,l'[i]?=some v/\RV x v
 |[],l',i,x,h,hi=>by simp at hi
 |y::l,l',0,x,h,hi=>by
  simp only [RVL]at h;obtain ⟨v,m,rfl,h1,h2⟩:=h;simp at hi;subst hi;exact ⟨v,rfl,h1⟩
 |y::l,l',i+1,x,h,hi=>by
  simp only [RVL]at h;obtain ⟨v,m,rfl,h1,h2⟩:=h;have hi':l[i]?=some x:=by simpa using hi
  obtain ⟨u,hu,hr⟩:=RVL.get h2 hi';exact ⟨u,by simpa using hu,hr⟩
theorem RVL.set:∀{l:List TV} {l':List V} (i:Nat) {x:TV} {v:V},RVL l l'->RV x v->RVL (l.set i x) (l'.set i v)
 |[],l',i,x,v,h,hx=>by simp only [RVL]at h;simp [h,RVL]
 |y::l,l',0,x,v,h,hx=>by
  simp only [RVL]at h;obtain ⟨u,m,rfl,h1,h2⟩:=h;exact qx.2 ⟨hx,h2⟩
 |y::l,l',i+1,x,v,h,hx=>by
  simp only [RVL]at h;obtain ⟨u,m,rfl,h1,h2⟩:=h;exact qx.2 ⟨h1,RVL.set i h2 hx⟩
theorem qaR(rs:List Root):RV (.any rs) .undef:=by simp [RV,V.qq,q3]
theorem RVL.getD{l:List TV}{l':List V}(h:RVL l l')(i:Nat):RV (l.getD i (.any [])) (l'.getD i .undef):=by
 cases hi:l[i]? with
 |some x=>obtain ⟨v,hv,hr⟩:=h.get hi;simpa [hi,hv]using hr
 |none =>
  have:l'[i]?=none:=by rw [List.getElem?_eq_none_iff]at hi ⊢;rw [h.length];exact hi
  simp only [List.getD_eq_getElem?_getD,hi,this,Option.getD_none];exact qaR []
theorem RVL.replicate{x:TV}{v:V}(h:RV x v):∀n,RVL (List.replicate n x) (List.replicate n v)
 |0=>by simp [RVL]
 |n+1=>qx.2 ⟨h,RVL.replicate h n⟩
theorem RVL.flatten:∀{n:Nat} {l:List TV} {l':List V},RVL l l'->RVL (List.replicate n l).flatten (List.replicate n l').flatten
 |0,_,_,_=>by simp [RVL]
 |n+1,l,l',h=>by simp only [List.replicate_succ,List.flatten_cons];exact h.append (RVL.flatten h)
theorem RVL.head{l:List TV}{l':List V}{x:TV}(h:RVL l l')(hx:l.head?=some x):∃v,l'.head?=some v/\RV x v:=by
 cases l with
 |nil=>simp at hx
 |cons y l =>
  simp only [RVL]at h;obtain ⟨u,m,rfl,h1,h2⟩:=h;simp at hx;subst hx;exact ⟨u,rfl,h1⟩
theorem qdS{o:Nat}:qaE o=true↔o≠0/\o≠1000/\o≠2000:=by unfold qaE;simp
theorem qiW{o:Nat}:qaE o=false↔o=0\/o=1000\/o=2000:=by
 have:=@qdS o;cases h:qaE o with
 |true=>rw [h]at this;simp at this;simp<;>omega
 |false=>rw [h]at this;simp at this;simp<;>omega
theorem FlR.own{o:Nat}{f:Fl}(h:FlR o f)(ho:qaE o=true):f=.own:=(h.1 (qdS.1 ho).2.2).2 ho
theorem FlR.not{o:Nat}{f:Fl}(h:FlR o f)(ho:qaE o=false)(h2:o≠2000):f≠.own:=λe=>by have:=(h.1 h2).1 e;rw [ho]at this;cases this
theorem qeF{o:Nat}(h:qaE o=true):FlR o .own:=⟨λ_=>by simp [h],λe=>absurd e (qdS.1 h).2.1⟩
theorem qe3{o:Nat}{f:Fl}(ho:qaE o=false)(hf:f≠.own)(h1:o=1000->f=.shared):FlR o f:=⟨λ_=>by simp [hf,ho],h1⟩
theorem qqw(o:Nat):qaE (dl o)=false/\dl o≠2000/\nx (dl o)=dl o:=by
 have h1:qaE (dl o)=false:=by rw [qiW];unfold dl;split<;>simp
 refine ⟨h1,by unfold dl;split<;>simp,by unfold nx;rw [h1];rfl⟩
theorem qbJ:∀(τ:Ty) (o:Nat) (x:τ.den) (v:V),RTy τ o x v->v.qq=[]
 |.int _,_,_,v,h=>by simp only [RTy]at h;simp [h,V.qq]
 |.bool,_,_,v,h=>by simp only [RTy]at h;simp [h,V.qq]
 |.str,_,_,v,h=>by simp only [RTy]at h;simp [h,V.qq]
 |.flt,_,_,v,h=>by simp only [RTy]at h;obtain ⟨b9,rfl,h9⟩:=h;simp [V.qq]
 |.cx,_,_,v,h=>by simp only [RTy]at h;obtain ⟨a9,b9,rfl,h8,h9⟩:=h;simp [V.qq]
 |.err,_,_,v,h=>by simp only [RTy]at h;rcases h with ⟨_,rfl⟩|⟨_,t9,rfl⟩<;>simp [V.qq]
 |.mset _,_,_,v,h=>by simp only [RTy]at h;obtain ⟨h8,rfl⟩:=h;simp [V.qq]
 |.sl t,o,l,v,h=>by simp only [RTy]at h;obtain ⟨f,c,l',rfl,_⟩:=h;simp [V.qq]
 |.nsl t,o,l,v,h=>by simp only [RTy]at h;rcases h with ⟨_,rfl⟩|⟨_,f,c,l',rfl,_⟩<;>simp [V.qq]
 |.unit,_,_,v,h=>by simp only [RTy]at h;simp [h,V.qq,ptrsL]
 |.pair a b,o,x,v,h=>by
  simp only [RTy]at h;obtain ⟨v1,l,rfl,h1,h2⟩:=h;have e1:=qbJ a o _ _ h1;have e2:=qbJ b o _ _ h2;simp only [V.qq]at e2;simp [V.qq,ptrsL,e1,e2]
theorem qmA{l:List V}{r:Root}:r∈ptrsL l↔∃v∈l,r∈v.qq:=by
 induction l with
 |nil=>simp [ptrsL]
 |cons v l ih=>simp [ptrsL,ih]
mutual
theorem RV.qq:∀(x:TV) (v:V),RV x v->∀r∈v.qq,r∈x.qq
 |.any rs,v,h,r,hr=>by simp only [RV]at h;exact h.1 r hr
 |.t τ o x,v,h,r,hr=>by simp only [RV]at h;rw [qbJ τ o x v h]at hr;cases hr
 |.clp τ x,v,h,r,hr=>by simp only [RV]at h;obtain ⟨f,l',rfl,_⟩:=h;simp [V.qq]at hr
 |.room a s,v,h,r,hr=>by simp only [RV]at h;obtain ⟨_,n,rfl,_⟩|⟨_,rfl|⟨f,hf0,rfl⟩⟩:=h<;>simp [V.qq]at hr
 |.empty own,v,h,r,hr=>by simp only [RV]at h;obtain ⟨f,c,rfl,_⟩:=h;simp [V.qq]at hr
 |.val u,v,h,r,hr=>by simp only [RV]at h;simp [h,V.qq]at hr
 |.agg l,v,h,r,hr=>by simp only [RV]at h;obtain ⟨l',rfl,h⟩:=h;simp only [V.qq]at hr;exact RVL.qq l l' h r hr
 |.tuple l,v,h,r,hr=>by simp only [RV]at h;obtain ⟨l',rfl,h⟩:=h;simp only [V.qq]at hr;exact RVL.qq l l' h r hr
 |.fn g a b,v,h,r,hr=>by
  simp only [RV]at h;obtain ⟨a',b',rfl,h1,h2⟩:=h;simp only [V.qq,qj]at hr;simp only [TV.qq,qj];exact hr.imp (RVL.qq a a' h1 r) (RVL.qq b b' h2 r)
 |.ptr q o,v,h,r,hr=>by simp only [RV]at h;rw [h]at hr;simpa [V.qq,TV.qq]using hr
 |.mref q,v,h,r,hr=>by simp only [RV]at h;rw [h]at hr;simpa [V.qq,TV.qq]using hr
 |.bsl q _ _,v,h,r,hr=>by simp only [RV]at h;rw [h]at hr;simpa [V.qq,TV.qq]using hr
 |.yld q,v,h,r,hr=>by simp only [RV]at h;rw [h]at hr;simpa [V.qq,TV.qq]using hr
 |.lp ..,v,h,r,hr=>by simp only [RV]at h
 |.cptr _ l,v,h,r,hr=>by simp only [RV]at h;obtain ⟨_,l',rfl,_,_,h⟩:=h;simp only [V.qq]at hr;exact RVL.qq l l' h r hr
 |.iface t x,v,h,r,hr=>by simp only [RV]at h;obtain ⟨y,rfl,h⟩:=h;simp only [V.qq]at hr;exact RV.qq x y h r hr
theorem RVL.qq:∀(l:List TV) (l':List V),RVL l l'->∀r∈ptrsL l',r∈ptrsTL l
 |[],l',h,r,hr=>by simp only [RVL]at h;simp [h,ptrsL]at hr
 |x::l,l',h,r,hr=>by
  simp only [RVL]at h;obtain ⟨v,m,rfl,h1,h2⟩:=h;simp only [ptrsL,qj]at hr;simp only [ptrsTL,qj];exact hr.imp (RV.qq x v h1 r) (RVL.qq l m h2 r)
end
mutual
theorem RV.ptrs_eq:∀(x:TV) (v:V),x.known=true->RV x v->v.qq=x.qq
 |.any rs,v,hk,h=>by simp [TV.known]at hk
 |.t τ o x,v,_,h=>by simp only [RV]at h;rw [qbJ τ o x v h];simp [TV.qq]
 |.clp τ x,v,_,h=>by simp only [RV]at h;obtain ⟨f,l',rfl,_⟩:=h;simp [V.qq,TV.qq]
 |.room a s,v,_,h=>by simp only [RV]at h;obtain ⟨_,n,rfl,_⟩|⟨_,rfl|⟨f,hf0,rfl⟩⟩:=h<;>simp [V.qq,TV.qq]
 |.empty own,v,_,h=>by simp only [RV]at h;obtain ⟨f,c,rfl,_⟩:=h;simp [V.qq,TV.qq]
 |.val u,v,_,h=>by simp only [RV]at h;simp [h,V.qq,TV.qq]
 |.agg l,v,hk,h=>by simp only [RV]at h;obtain ⟨l',rfl,h⟩:=h;simp only [TV.known]at hk;simp only [V.qq,TV.qq];exact RVL.ptrs_eq l l' hk h
 |.tuple l,v,hk,h=>by simp only [RV]at h;obtain ⟨l',rfl,h⟩:=h;simp only [TV.known]at hk;simp only [V.qq,TV.qq];exact RVL.ptrs_eq l l' hk h
 |.fn g a b,v,hk,h=>by
  simp only [RV]at h;obtain ⟨a',b',rfl,h1,h2⟩:=h;simp only [TV.known,qe]at hk;simp only [V.qq,TV.qq,RVL.ptrs_eq a a' hk.1 h1,RVL.ptrs_eq b b' hk.2 h2]
 |.ptr q o,v,_,h=>by simp only [RV]at h;simp [h,V.qq,TV.qq]
 |.mref q,v,_,h=>by simp only [RV]at h;simp [h,V.qq,TV.qq]
 |.bsl q _ _,v,_,h=>by simp only [RV]at h;simp [h,V.qq,TV.qq]
 |.yld q,v,_,h=>by simp only [RV]at h;simp [h,V.qq,TV.qq]
 |.lp ..,v,_,h=>by simp only [RV]at h
 |.cptr _ l,v,hk,h=>by simp only [RV]at h;obtain ⟨_,l',rfl,_,_,h⟩:=h;simp only [TV.known]at hk;simp only [V.qq,TV.qq];exact RVL.ptrs_eq l l' hk h
 |.iface t x,v,hk,h=>by simp [TV.known]at hk
theorem RVL.ptrs_eq:∀(l:List TV) (l':List V),knownL l=true->RVL l l'->ptrsL l'=ptrsTL l
 |[],l',_,h=>by simp only [RVL]at h;simp [h,ptrsL,ptrsTL]
 |x::l,l',hk,h=>by
  simp only [RVL]at h;obtain ⟨v,m,rfl,h1,h2⟩:=h;simp only [knownL,qe]at hk;simp only [ptrsL,ptrsTL,RV.ptrs_eq x v hk.1 h1,RVL.ptrs_eq l m hk.2 h2]
end
theorem qaa(g:Fl->Fl):∀l:List V,reflagL g l=l.map (V.reflag g)
 |[]=>rfl
 |v::l=>by simp [reflagL,qaa g l]
theorem qyL{n:Nat}(h:qaE (n+1)=true):nx (n+1)=n/\n+1≠1000:=by
 have:=qdS.1 h;refine ⟨by unfold nx;rw [h];simp,this.2.1⟩
theorem qg5:∀(τ:Ty) (o:Nat) (x:τ.den) (v:V),RTy τ (dl o) x v->RTy τ 0 x v
 |.int _,_,_,v,h=>by simpa only [RTy]using h
 |.bool,_,_,v,h=>by simpa only [RTy]using h
 |.str,_,_,v,h=>by simpa only [RTy]using h
 |.flt,_,_,v,h=>by simpa only [RTy]using h
 |.cx,_,_,v,h=>by simpa only [RTy]using h
 |.err,_,_,v,h=>by simpa only [RTy]using h
 |.mset _,_,_,v,h=>by simpa only [RTy]using h
 |.sl t,o,l,v,h=>by
  obtain ⟨hno,h20,hnx⟩:=qqw o;simp only [RTy]at h ⊢;obtain ⟨f,c,l',rfl,h1,h⟩:=h;rw [hnx]at h;exact ⟨f,c,l',rfl,qe3 rfl (h1.not hno h20) (λh=>by cases h),h.mono λa b hab=>qg5 t o a b hab⟩
 |.nsl t,o,l,v,h=>by
  obtain ⟨hno,h20,hnx⟩:=qqw o;simp only [RTy]at h ⊢;rcases h with h|⟨hne,f,c,l',rfl,h1,h⟩
  ·exact .inl h
  rw [hnx]at h;exact .inr ⟨hne,f,c,l',rfl,qe3 rfl (h1.not hno h20) (λh=>by cases h),h.mono λa b hab=>qg5 t o a b hab⟩
 |.unit,_,_,v,h=>by simpa only [RTy]using h
 |.pair a b,o,x,v,h=>by
  simp only [RTy]at h ⊢;obtain ⟨v1,l,rfl,h1,h2⟩:=h;exact ⟨v1,l,rfl,qg5 a o _ _ h1,qg5 b o _ _ h2⟩
theorem qgl{g:Fl->Fl}(hg:∀f,g f≠.own)(hs:g .shared=.shared):∀(τ:Ty) (o:Nat) (x:τ.den) (v:V),RTy τ o x v->RTy τ (dl o) x (v.reflag g)
 |.int _,_,_,v,h=>by simp only [RTy]at h ⊢;simp [h,V.reflag]
 |.bool,_,_,v,h=>by simp only [RTy]at h ⊢;simp [h,V.reflag]
 |.str,_,_,v,h=>by simp only [RTy]at h ⊢;simp [h,V.reflag]
 |.flt,_,_,v,h=>by simp only [RTy]at h ⊢;obtain ⟨b9,rfl,h9⟩:=h;exact ⟨b9,by simp [V.reflag],h9⟩
 |.cx,_,_,v,h=>by simp only [RTy]at h ⊢;obtain ⟨a9,b9,rfl,h8,h9⟩:=h;exact ⟨a9,b9,by simp [V.reflag],h8,h9⟩
 |.err,_,_,v,h=>by simp only [RTy]at h ⊢;rcases h with ⟨hx,rfl⟩|⟨hx,t9,rfl⟩;exact .inl ⟨hx,by simp [V.reflag]⟩;exact .inr ⟨hx,t9,by simp [V.reflag]⟩
 |.mset _,_,_,v,h=>by simp only [RTy]at h ⊢;obtain ⟨h8,rfl⟩:=h;exact ⟨h8,by simp [V.reflag]⟩
 |.sl t,o,l,v,h=>by
  simp only [RTy]at h ⊢;obtain ⟨f,c,l',rfl,h0,h⟩:=h;obtain ⟨hno,h20,hnx⟩:=qqw o;refine ⟨g f,c,reflagL g l',by simp [V.reflag],qe3 hno (hg f) (λh1=>?_),?_⟩
  ·have ho:o=1000:=by
    unfold dl at h1;split at h1
    ·assumption
    ·cases h1
   rw [h0.2 ho];exact hs
  ·rw [qaa,hnx];refine h.map λa b hab=>?_;have h3:=qgl hg hs t _ a b hab;by_cases ho:o=1000
   ·subst ho;exact h3
   ·have:dl o=0:=by unfold dl;rw [if_neg ho]
    rw [this];exact qg5 t _ a _ h3
 |.nsl t,o,l,v,h=>by
  simp only [RTy]at h ⊢;rcases h with ⟨hx,rfl⟩|⟨hne,f,c,l',rfl,h0,h⟩
  ·exact .inl ⟨hx,by simp [V.reflag]⟩
  obtain ⟨hno,h20,hnx⟩:=qqw o;refine .inr ⟨hne,g f,c,reflagL g l',by simp [V.reflag],qe3 hno (hg f) (λh1=>?_),?_⟩
  ·have ho:o=1000:=by
    unfold dl at h1;split at h1
    ·assumption
    ·cases h1
   rw [h0.2 ho];exact hs
  ·rw [qaa,hnx];refine h.map λa b hab=>?_;have h3:=qgl hg hs t _ a b hab;by_cases ho:o=1000
   ·subst ho;exact h3
   ·have:dl o=0:=by unfold dl;rw [if_neg ho]
    rw [this];exact qg5 t _ a _ h3
 |.unit,_,_,v,h=>by simp only [RTy]at h ⊢;simp [h,V.reflag,reflagL]
 |.pair a b,o,x,v,h=>by
  simp only [RTy]at h ⊢;obtain ⟨v1,l,rfl,h1,h2⟩:=h;refine ⟨v1.reflag g,reflagL g l,by simp [V.reflag,reflagL],qgl hg hs a o _ _ h1,?_⟩;have:=qgl hg hs b o _ _ h2;simpa only [V.reflag]using this
theorem qhF{g:Fl->Fl}(hg:∀f,g f=.own↔f=.own)(hs:g .shared=.shared):∀(τ:Ty) (o:Nat) (x:τ.den) (v:V),RTy τ o x v->RTy τ o x (v.reflag g)
 |.int _,_,_,v,h=>by simp only [RTy]at h ⊢;simp [h,V.reflag]
 |.bool,_,_,v,h=>by simp only [RTy]at h ⊢;simp [h,V.reflag]
 |.str,_,_,v,h=>by simp only [RTy]at h ⊢;simp [h,V.reflag]
 |.flt,_,_,v,h=>by simp only [RTy]at h ⊢;obtain ⟨b9,rfl,h9⟩:=h;exact ⟨b9,by simp [V.reflag],h9⟩
 |.cx,_,_,v,h=>by simp only [RTy]at h ⊢;obtain ⟨a9,b9,rfl,h8,h9⟩:=h;exact ⟨a9,b9,by simp [V.reflag],h8,h9⟩
 |.err,_,_,v,h=>by simp only [RTy]at h ⊢;rcases h with ⟨hx,rfl⟩|⟨hx,t9,rfl⟩;exact .inl ⟨hx,by simp [V.reflag]⟩;exact .inr ⟨hx,t9,by simp [V.reflag]⟩
 |.mset _,_,_,v,h=>by simp only [RTy]at h ⊢;obtain ⟨h8,rfl⟩:=h;exact ⟨h8,by simp [V.reflag]⟩
 |.sl t,o,l,v,h=>by
  simp only [RTy]at h ⊢;obtain ⟨f,c,l',rfl,ho,h⟩:=h;refine ⟨g f,c,reflagL g l',by simp [V.reflag],⟨λh2=>by rw [hg f];exact ho.1 h2,λh1=>by rw [ho.2 h1];exact hs⟩,?_⟩;rw [qaa];exact h.map λa b hab=>qhF hg hs t _ a b hab
 |.nsl t,o,l,v,h=>by
  simp only [RTy]at h ⊢;rcases h with ⟨hx,rfl⟩|⟨hne,f,c,l',rfl,ho,h⟩
  ·exact .inl ⟨hx,by simp [V.reflag]⟩
  refine .inr ⟨hne,g f,c,reflagL g l',by simp [V.reflag],⟨λh2=>by rw [hg f];exact ho.1 h2,λh1=>by rw [ho.2 h1];exact hs⟩,?_⟩;rw [qaa];exact h.map λa b hab=>qhF hg hs t _ a b hab
 |.unit,_,_,v,h=>by simp only [RTy]at h ⊢;simp [h,V.reflag,reflagL]
 |.pair a b,o,x,v,h=>by
  simp only [RTy]at h ⊢;obtain ⟨v1,l,rfl,h1,h2⟩:=h;refine ⟨v1.reflag g,reflagL g l,by simp [V.reflag,reflagL],qhF hg hs a o _ _ h1,?_⟩;have:=qhF hg hs b o _ _ h2;simpa only [V.reflag]using this
theorem qo2{g:Fl->Fl}{l:List V}(h:q3 l=false):q3 (reflagL g l)=false:=by
 cases l with
 |nil=>rfl
 |cons x l=>cases x with
  |lp=>simp [q3]at h
  |room s n =>
   simp only [reflagL,V.reflag];by_cases h1:g .own=.own
   ·rw [if_pos h1];rfl
   ·rw [if_neg h1];by_cases h2:n=0
    ·rw [if_pos h2];rfl
    ·rw [if_neg h2];rfl
  |_=>rfl
theorem qdH{g:Fl->Fl}{v:V}(h:q3 [v]=false):q3 [v.reflag g]=false:=qo2 (g:=g) h
theorem qfa(g:Fl->Fl)(v:V):(v.reflag g).qq=v.qq:=by
 have:=ptrsL_reflag g [v];simpa [reflagL,ptrsL]using this
mutual
theorem RV.dull'{g:Fl->Fl}(hg:∀f,g f≠.own)(hs:g .shared=.shared):∀(x:TV) (v:V),RV x v->RV x.q5 (v.reflag g)
 |.any rs,v,h=>by simp only [TV.q5,RV]at h ⊢;rw [qfa];exact ⟨h.1,qdH h.2⟩
 |.t τ o x,v,h=>by simp only [TV.q5,RV]at h ⊢;exact qgl hg hs τ o x v h
 |.clp τ x,v,h=>by
  simp only [TV.q5,RV]at h ⊢;obtain ⟨f,l',rfl,_,h⟩:=h;refine ⟨g f,reflagL g l',by simp [V.reflag],hg f,?_⟩;rw [qaa];exact h.map λa b hab=>qg5 τ 0 a _ (qgl hg hs τ _ a b hab)
 |.room a s,v,h=>by
  simp only [RV]at h;rcases a with _|a
  ·obtain ⟨_,n,rfl,h0⟩|⟨h9,_⟩:=h
   ·obtain rfl:=h0 rfl;simp only [TV.q5,RV,V.reflag,if_neg (hg .own),if_true];exact ⟨_,_,rfl,qe3 (by decide) (hg .own) (λh1=>by cases h1)⟩
   ·omega
  ·simp only [TV.q5,RV];refine .inr ⟨Nat.le_refl _,?_⟩;obtain ⟨_,n,rfl,_⟩|⟨_,rfl|⟨f,hf0,rfl⟩⟩:=h
   ·simp only [V.reflag,if_neg (hg .own)];split
    ·exact .inr ⟨_,hg _,rfl⟩
    ·exact .inl rfl
   ·exact .inl rfl
   ·exact .inr ⟨g f,hg f,by simp [V.reflag,reflagL]⟩
 |.empty o,v,h=>by
  simp only [TV.q5,RV]at h ⊢;obtain ⟨f,c,rfl,h0⟩:=h;refine ⟨g f,c,by simp [V.reflag,reflagL],qe3 (qqw o).1 (hg f) (λh1=>?_)⟩;have ho:o=1000:=by
   unfold dl at h1;split at h1
   ·assumption
   ·cases h1
  rw [h0.2 ho];exact hs
 |.val u,v,h=>by simp only [TV.q5,RV]at h ⊢;simp [h,V.reflag]
 |.agg l,v,h=>by simp only [TV.q5,RV]at h ⊢;obtain ⟨l',rfl,h⟩:=h;exact ⟨_,by simp only [V.reflag],RVL.dull' hg hs l l' h⟩
 |.tuple l,v,h=>by simp only [TV.q5,RV]at h ⊢;obtain ⟨l',rfl,h⟩:=h;exact ⟨_,by simp only [V.reflag],RVL.dull' hg hs l l' h⟩
 |.fn g' a b,v,h=>by simp only [TV.q5,RV]at h ⊢;obtain ⟨a',b',rfl,h1,h2⟩:=h;exact ⟨_,_,by simp only [V.reflag],RVL.dull' hg hs a a' h1,RVL.dull' hg hs b b' h2⟩
 |.ptr q o,v,h=>by simp only [TV.q5,RV]at h ⊢;simp [h,V.reflag]
 |.mref q,v,h=>by simp only [TV.q5,RV]at h ⊢;simp [h,V.reflag]
 |.bsl q _ _,v,h=>by simp only [TV.q5,RV]at h ⊢;simp [h,V.reflag]
 |.yld q,v,h=>by simp only [TV.q5,RV]at h ⊢;simp [h,V.reflag]
 |.lp ..,v,h=>by simp only [RV]at h
 |.cptr s l,v,h=>by simp only [TV.q5,RV]at h ⊢;obtain ⟨f,l',rfl,_,hsh,h⟩:=h;exact ⟨g f,_,by simp only [V.reflag],hg f,λe=>(by rw [hsh e];exact hs),RVL.dull' hg hs l l' h⟩
 |.iface t x,v,h=>by simp only [TV.q5,RV]at h ⊢;obtain ⟨y,rfl,h⟩:=h;exact ⟨_,by simp only [V.reflag],RV.dull' hg hs x y h⟩
theorem RVL.dull'{g:Fl->Fl}(hg:∀f,g f≠.own)(hs:g .shared=.shared):∀(l:List TV) (l':List V),RVL l l'->RVL (dullL l) (reflagL g l')
 |[],l',h=>by simp only [RVL]at h;simp [h,dullL,reflagL,RVL]
 |x::l,l',h=>by
  simp only [RVL]at h;obtain ⟨v,m,rfl,h1,h2⟩:=h;simp only [dullL,reflagL];exact qx.2 ⟨RV.dull' hg hs x v h1,RVL.dull' hg hs l m h2⟩
end
mutual
theorem RV.qgM{g:Fl->Fl}(hg:∀f,g f=.own↔f=.own)(hs:g .shared=.shared):∀(x:TV) (v:V),RV x v->RV x (v.reflag g)
 |.any rs,v,h=>by simp only [RV]at h ⊢;rw [qfa];exact ⟨h.1,qdH h.2⟩
 |.t τ o x,v,h=>by simp only [RV]at h ⊢;exact qhF hg hs τ o x v h
 |.clp τ x,v,h=>by
  simp only [RV]at h ⊢;obtain ⟨f,l',rfl,h0,h⟩:=h;refine ⟨g f,reflagL g l',by simp [V.reflag],λe=>h0 ((hg f).1 e),?_⟩;rw [qaa];exact h.map λa b hab=>qhF hg hs τ _ a b hab
 |.room a s,v,h=>by
  simp only [RV]at h ⊢;obtain ⟨h1,n,rfl,h0⟩|⟨h1,rfl|⟨f,hf0,rfl⟩⟩:=h
  ·exact .inl ⟨h1,n,by simp only [V.reflag,if_pos ((hg .own).2 rfl)],h0⟩
  ·exact .inr ⟨h1,.inl rfl⟩
  ·exact .inr ⟨h1,.inr ⟨g f,λe=>hf0 ((hg f).1 e),by simp [V.reflag,reflagL]⟩⟩
 |.empty o,v,h=>by simp only [RV]at h ⊢;obtain ⟨f,c,rfl,h0⟩:=h;exact ⟨g f,c,by simp [V.reflag,reflagL],⟨λh2=>by rw [hg f];exact h0.1 h2,λh1=>by rw [h0.2 h1];exact hs⟩⟩
 |.val u,v,h=>by simp only [RV]at h ⊢;simp [h,V.reflag]
 |.agg l,v,h=>by simp only [RV]at h ⊢;obtain ⟨l',rfl,h⟩:=h;exact ⟨_,by simp only [V.reflag],RVL.qgM hg hs l l' h⟩
 |.tuple l,v,h=>by simp only [RV]at h ⊢;obtain ⟨l',rfl,h⟩:=h;exact ⟨_,by simp only [V.reflag],RVL.qgM hg hs l l' h⟩
 |.fn g' a b,v,h=>by simp only [RV]at h ⊢;obtain ⟨a',b',rfl,h1,h2⟩:=h;exact ⟨_,_,by simp only [V.reflag],RVL.qgM hg hs a a' h1,RVL.qgM hg hs b b' h2⟩
 |.ptr q o,v,h=>by simp only [RV]at h ⊢;simp [h,V.reflag]
 |.mref q,v,h=>by simp only [RV]at h ⊢;simp [h,V.reflag]
 |.bsl q _ _,v,h=>by simp only [RV]at h ⊢;simp [h,V.reflag]
 |.yld q,v,h=>by simp only [RV]at h ⊢;simp [h,V.reflag]
 |.lp ..,v,h=>by simp only [RV]at h
 |.cptr s l,v,h=>by simp only [RV]at h ⊢;obtain ⟨f,l',rfl,h0,hsh,h⟩:=h;exact ⟨g f,_,by simp only [V.reflag],λe=>h0 ((hg f).1 e),λe=>(by rw [hsh e];exact hs),RVL.qgM hg hs l l' h⟩
 |.iface t x,v,h=>by simp only [RV]at h ⊢;obtain ⟨y,rfl,h⟩:=h;exact ⟨_,by simp only [V.reflag],RV.qgM hg hs x y h⟩
theorem RVL.qgM{g:Fl->Fl}(hg:∀f,g f=.own↔f=.own)(hs:g .shared=.shared):∀(l:List TV) (l':List V),RVL l l'->RVL l (reflagL g l')
 |[],l',h=>by simp only [RVL]at h;simp [h,reflagL,RVL]
 |x::l,l',h=>by
  simp only [RVL]at h;obtain ⟨v,m,rfl,h1,h2⟩:=h;simp only [reflagL];exact qx.2 ⟨RV.qgM hg hs x v h1,RVL.qgM hg hs l m h2⟩
end
theorem qjH(f:Fl):qW f≠.own:=by cases f<;>simp [qW]
theorem RV.q5{x:TV}{v:V}(h:RV x v):RV x.q5 v.q5:=RV.dull' qjH rfl x v h
theorem RVL.q5{l:List TV}{l':List V}(h:RVL l l'):RVL (dullL l) (reflagL qW l'):=RVL.dull' qjH rfl l l' h
theorem RVL.qpl{g:Fl->Fl}(hg:∀f,g f≠.own)(hs:g .shared=.shared){l:List TV}{l':List V}(h:RVL l l'):RVL (dullL l) (l'.map (V.reflag g)):=by
 rw [<- qaa];exact RVL.dull' hg hs l l' h
theorem qgZ{l:List V}:ownsL l=true↔∃v∈l,v.owns=true:=by
 induction l with
 |nil=>simp [ownsL]
 |cons v l ih=>simp [ownsL,ih]
theorem qck{α β:Type}{R:α->β->Prop}{l:List α}{l':List β}(h:All2 R l l'):∀b∈l',∃a∈l,R a b:=by
 induction h with
 |nil=>simp
 |cons h1 _ ih =>
  intro b hb;rcases qk.1 hb with rfl|hb
  ·exact ⟨_,by simp,h1⟩
  ·obtain ⟨a,ha,hr⟩:=ih b hb;exact ⟨a,by simp [ha],hr⟩
theorem qfd:∀(τ:Ty) (o:Nat) (x:τ.den) (v:V),RTy τ o x v->v.owns=true->(qaE o=true\/o=2000)/\0<τ.depth
 |.int _,_,_,v,h,ho=>by simp only [RTy]at h;simp [h,V.owns]at ho
 |.bool,_,_,v,h,ho=>by simp only [RTy]at h;simp [h,V.owns]at ho
 |.str,_,_,v,h,ho=>by simp only [RTy]at h;simp [h,V.owns]at ho
 |.flt,_,_,v,h,ho=>by simp only [RTy]at h;obtain ⟨b9,rfl,h9⟩:=h;simp [V.owns]at ho
 |.cx,_,_,v,h,ho=>by simp only [RTy]at h;obtain ⟨a9,b9,rfl,h8,h9⟩:=h;simp [V.owns]at ho
 |.err,_,_,v,h,ho=>by simp only [RTy]at h;rcases h with ⟨_,rfl⟩|⟨_,t9,rfl⟩<;>simp [V.owns]at ho
 |.mset _,_,_,v,h,ho=>by simp only [RTy]at h;obtain ⟨h8,rfl⟩:=h;simp [V.owns]at ho
 |.sl t,o,l,v,h,ho=>by
  simp only [RTy]at h;obtain ⟨f,c,l',rfl,hf,h⟩:=h;simp only [V.owns,Bool.or_eq_true,decide_eq_true_eq]at ho;simp only [Ty.depth];refine ⟨?_,by omega⟩;by_cases h2:o=2000
  ·exact .inr h2
  left
  rcases ho with ho|ho
  ·exact (hf.1 h2).1 ho
  ·obtain ⟨b,hb,hbo⟩:=qgZ.1 ho;obtain ⟨a,_,hr⟩:=qck h b hb;have:=(qfd t _ a b hr hbo).1;cases hno:qaE o with
   |true=>rfl
   |false =>
    unfold nx at this;rw [hno]at this;simp only [qf,if_false,hno,false_or]at this;exact absurd this h2
 |.nsl t,o,l,v,h,ho=>by
  simp only [RTy]at h;rcases h with ⟨_,rfl⟩|⟨_,f,c,l',rfl,hf,h⟩
  ·simp [V.owns]at ho
  simp only [V.owns,Bool.or_eq_true,decide_eq_true_eq]at ho;simp only [Ty.depth];refine ⟨?_,by omega⟩;by_cases h2:o=2000
  ·exact .inr h2
  left
  rcases ho with ho|ho
  ·exact (hf.1 h2).1 ho
  ·obtain ⟨b,hb,hbo⟩:=qgZ.1 ho;obtain ⟨a,_,hr⟩:=qck h b hb;have:=(qfd t _ a b hr hbo).1;cases hno:qaE o with
   |true=>rfl
   |false =>
    unfold nx at this;rw [hno]at this;simp only [qf,if_false,hno,false_or]at this;exact absurd this h2
 |.unit,_,_,v,h,ho=>by simp only [RTy]at h;simp [h,V.owns,ownsL]at ho
 |.pair a b,o,x,v,h,ho=>by
  simp only [RTy]at h;obtain ⟨v1,l,rfl,h1,h2⟩:=h;simp only [V.owns,ownsL,Bool.or_eq_true]at ho;simp only [Ty.depth];rcases ho with ho|ho
  ·have:=qfd a o _ _ h1 ho;exact ⟨this.1,by omega⟩
  ·have:=qfd b o _ _ h2 (by simpa only [V.owns]using ho);exact ⟨this.1,by omega⟩
mutual
theorem RV.owns:∀(x:TV) (v:V),RV x v->v.owns=true->x.owns=true
 |.any rs,v,h,ho=>by simp [TV.owns]
 |.t τ o x,v,h,ho=>by simp only [RV]at h;have:=qfd τ o x v h ho;simpa [TV.owns]using this
 |.clp τ x,v,h,ho=>by
  simp only [RV]at h;obtain ⟨f,l',rfl,hf,h⟩:=h;simp only [V.owns,Bool.or_eq_true,decide_eq_true_eq]at ho;rcases ho with ho|ho
  ·exact absurd ho hf
  ·obtain ⟨b,hb,hbo⟩:=qgZ.1 ho;obtain ⟨a,_,hr⟩:=qck h b hb;have:=(qfd τ _ a b hr hbo).1;simp [qaE]at this
 |.room a s,v,h,ho=>rfl
 |.empty o,v,h,ho=>by
  simp only [RV]at h;obtain ⟨f,c,rfl,hf⟩:=h;simp only [V.owns,ownsL,Bool.or_false,decide_eq_true_eq]at ho;simp only [TV.owns,Bool.or_eq_true,decide_eq_true_eq];by_cases h2:o=2000
  ·exact .inr h2
  ·exact .inl ((hf.1 h2).1 ho)
 |.val u,v,h,ho=>by simp only [RV]at h;simp [h,V.owns]at ho
 |.agg l,v,h,ho=>by simp only [RV]at h;obtain ⟨l',rfl,h⟩:=h;simp only [V.owns,TV.owns]at ho ⊢;exact RVL.owns l l' h ho
 |.tuple l,v,h,ho=>by simp only [RV]at h;obtain ⟨l',rfl,h⟩:=h;simp only [V.owns,TV.owns]at ho ⊢;exact RVL.owns l l' h ho
 |.fn g a b,v,h,ho=>by
  simp only [RV]at h;obtain ⟨a',b',rfl,h1,h2⟩:=h;simp only [V.owns,TV.owns,Bool.or_eq_true]at ho ⊢;exact ho.imp (RVL.owns a a' h1) (RVL.owns b b' h2)
 |.ptr q o,v,h,ho=>by simp only [RV]at h;simp [h,V.owns]at ho
 |.mref q,v,h,ho=>by simp only [RV]at h;simp [h,V.owns]at ho
 |.bsl q _ _,v,h,ho=>by simp only [RV]at h;simp [h,V.owns]at ho
 |.yld q,v,h,ho=>by simp only [RV]at h;simp [h,V.owns]at ho
 |.lp ..,v,h,ho=>by simp only [RV]at h
 |.cptr _ l,v,h,ho=>by simp only [RV]at h;obtain ⟨f,l',rfl,h0,_,h⟩:=h;simp only [V.owns,TV.owns,h0,decide_false,Bool.false_or]at ho ⊢;exact RVL.owns l l' h ho
 |.iface t x,v,h,ho=>by simp only [RV]at h;obtain ⟨y,rfl,h⟩:=h;simp only [V.owns,TV.owns]at ho ⊢;exact RV.owns x y h ho
theorem RVL.owns:∀(l:List TV) (l':List V),RVL l l'->ownsL l'=true->ownsTL l=true
 |[],l',h,ho=>by simp only [RVL]at h;simp [h,ownsL]at ho
 |x::l,l',h,ho=>by
  simp only [RVL]at h;obtain ⟨v,m,rfl,h1,h2⟩:=h;simp only [ownsL,ownsTL,Bool.or_eq_true]at ho ⊢;exact ho.imp (RV.owns x v h1) (RVL.owns l m h2)
end
theorem qxu{τ:Ty}(h1:τ.one=true){o:Nat}{x:τ.den}{v:V}(h:RTy τ o x v):v.one=true:=by
 cases τ with
 |unit=>simp [Ty.one]at h1
 |pair a b=>simp [Ty.one]at h1
 |sl t=>simp only [RTy]at h;obtain ⟨f,c,l',rfl,_⟩:=h;rfl
 |nsl t=>simp only [RTy]at h;rcases h with ⟨_,rfl⟩|⟨_,f,c,l',rfl,_⟩<;>rfl
 |flt=>simp only [RTy]at h;obtain ⟨b9,rfl,_⟩:=h;rfl
 |cx=>simp only [RTy]at h;obtain ⟨a9,b9,rfl,_⟩:=h;rfl
 |err=>simp only [RTy]at h;rcases h with ⟨_,rfl⟩|⟨_,t9,rfl⟩<;>rfl
 |mset t=>simp [Ty.one]at h1
 |_=>simp only [RTy]at h;subst h;rfl
theorem RV.one{x:TV}{v:V}(h1:x.one=true)(h:RV x v):v.one=true:=by
 cases x with
 |any rs=>simp [TV.one]at h1
 |t τ o x=>simp only [RV]at h;exact qxu h1 h
 |clp τ x=>simp only [RV]at h;obtain ⟨f,l',rfl,_⟩:=h;rfl
 |room a s=>simp [TV.one]at h1
 |empty own=>simp only [RV]at h;obtain ⟨f,c,rfl,_⟩:=h;rfl
 |val u=>simp only [RV]at h;subst h;exact h1
 |agg l=>simp [TV.one]at h1
 |tuple l=>simp [TV.one]at h1
 |fn g a b=>simp only [RV]at h;obtain ⟨a',b',rfl,_⟩:=h;rfl
 |ptr r o=>simp only [RV]at h;subst h;rfl
 |mref r=>simp only [RV]at h;subst h;rfl
 |bsl r o n=>simp only [RV]at h;subst h;rfl
 |yld r=>simp only [RV]at h;subst h;rfl
 |lp s pe g env ps a b=>simp only [RV]at h
 |cptr _ l=>simp only [RV]at h;obtain ⟨_,l',rfl,_⟩:=h;rfl
 |iface t x=>simp only [RV]at h;obtain ⟨y,rfl,_⟩:=h;rfl
theorem qwa{v:V}(h:v.one=true):v.cells=[v]:=by cases v<;>first|rfl|simp [V.one]at h
theorem RVL.qCg:∀{l:List TV} {l':List V},l.all TV.one=true->RVL l l'->l'.all V.one=true
 |[],l',_,h=>by simp only [RVL]at h;simp [h]
 |x::l,l',h1,h=>by
  simp only [RVL]at h;obtain ⟨v,m,rfl,h2,h3⟩:=h;simp only [List.all_cons,qe]at h1 ⊢;exact ⟨RV.one h1.1 h2,RVL.qCg h1.2 h3⟩
theorem RV.cells{x:TV}{v:V}(hk:x.oks=true)(h:RV x v):RVL x.cells v.cells/\v.oks=true:=by
 by_cases hx:∃l,x=.agg l
 ·obtain ⟨l,rfl⟩:=hx;simp only [RV]at h;obtain ⟨l',rfl,h⟩:=h;simp only [TV.oks,TV.cells]at hk;exact ⟨h,RVL.qCg hk h⟩
 ·have hc:x.cells=[x]:=by cases x<;>first|rfl|exact absurd ⟨_,rfl⟩ hx
  have h1:x.one=true:=by simpa [TV.oks,hc]using hk
  have hv:=RV.one h1 h;have hcv:=qwa hv;rw [hc,hcv];exact ⟨qx.2 ⟨h,q6⟩,by simp [V.oks,hcv,hv]⟩
theorem qcX{c:List V}(h1:q3 c=false)(h2:qfP c=false):qc3 c=false:=by
 cases c with
 |nil=>rfl
 |cons x l=>cases x<;>first|rfl|(simp [q3]at h1;done)|(simp [qfP]at h2)
theorem qal{l:List TV}{l':List V}(h:RVL l l'):q3 l'=false:=by
 cases l with
 |nil=>simp only [RVL]at h;simp [h,q3]
 |cons x l =>
  simp only [RVL]at h;obtain ⟨v,m,rfl,h1,_⟩:=h;cases v with
  |lp s pe g env ps a b =>
   exfalso
   cases x with
   |any rs=>simp [RV,q3]at h1
   |t τ o x =>
    cases τ<;>simp [RV,RTy]at h1
   |lp=>simp only [RV]at h1
   |_=>simp [RV]at h1
  |_=>rfl
mutual
theorem rv_ofTy:∀(τ:Ty) (o:Nat) (x:τ.den) (v:V),RTy τ o x v->RV (ofTy τ o x) v
 |.int _,_,_,v,h=>by simpa only [ofTy,RV]using h
 |.bool,_,_,v,h=>by simpa only [ofTy,RV]using h
 |.str,_,_,v,h=>by simpa only [ofTy,RV]using h
 |.flt,_,_,v,h=>by simpa only [ofTy,RV]using h
 |.cx,_,_,v,h=>by simpa only [ofTy,RV]using h
 |.err,_,_,v,h=>by simpa only [ofTy,RV]using h
 |.mset _,_,_,v,h=>by simpa only [ofTy,RV]using h
 |.sl t,o,l,v,h=>by simpa only [ofTy,RV]using h
 |.nsl t,o,l,v,h=>by simpa only [ofTy,RV]using h
 |.unit,_,_,v,h=>by simp only [RTy]at h;simp [h,ofTy,RV,RVL]
 |.pair a b,o,x,v,h=>by
  simp only [RTy]at h;obtain ⟨v1,l,rfl,h1,h2⟩:=h;simp only [ofTy,RV];exact ⟨_,rfl,qx.2 ⟨rv_ofTy a o _ _ h1,rv_ofTyC b o _ l h2⟩⟩
theorem rv_ofTyC:∀(τ:Ty) (o:Nat) (x:τ.den) (l:List V),RTy τ o x (.agg l)->RVL (ofTyC τ o x) l
 |.int _,_,_,l,h=>by simp [RTy]at h
 |.bool,_,_,l,h=>by simp [RTy]at h
 |.str,_,_,l,h=>by simp [RTy]at h
 |.flt,_,_,l,h=>by simp [RTy]at h
 |.cx,_,_,l,h=>by simp [RTy]at h
 |.err,_,_,l,h=>by simp [RTy]at h
 |.mset _,_,_,l,h=>by simp [RTy]at h
 |.sl t,o,x,l,h=>by simp [RTy]at h
 |.nsl t,o,x,l,h=>by simp [RTy]at h
 |.unit,_,_,l,h=>by simp only [RTy,V.agg.injEq]at h;simp [h,ofTyC,RVL]
 |.pair a b,o,x,l,h=>by
  simp only [RTy,V.agg.injEq]at h;obtain ⟨v1,m,rfl,h1,h2⟩:=h;simp only [ofTyC];exact qx.2 ⟨rv_ofTy a o _ _ h1,rv_ofTyC b o _ m h2⟩
end
theorem qtN{τ:Ty}(h:τ.one=true)(o:Nat)(x:τ.den):(ofTy τ o x).one=true:=by cases τ<;>first|rfl|simp [Ty.one]at h
theorem qn6:∀(τ:Ty),τ.qmT=true->∀(o:Nat) (x:τ.den),(ofTyC τ o x).all TV.one=true
 |.unit,_,o,x=>rfl
 |.pair a b,h,o,x=>by
  simp only [Ty.qmT,qe]at h;simp only [ofTyC,List.all_cons,qe];exact ⟨qtN h.1 o _,qn6 b h.2 o _⟩
 |.int _,h,_,_|.bool,h,_,_|.str,h,_,_|.flt,h,_,_|.cx,h,_,_|.err,h,_,_|.mset _,h,_,_|.nsl _,h,_,_|.sl _,h,_,_=>by simp [Ty.qmT]at h
theorem qpr{τ:Ty}(h:τ.qbn=true)(o:Nat)(x:τ.den):(ofTy τ o x).oks=true:=by
 cases τ with
 |unit=>rfl
 |pair a b =>
  simp only [Ty.qbn,qe]at h;simp only [ofTy,TV.oks,TV.cells,List.all_cons,qe];exact ⟨qtN h.1 o _,qn6 b h.2 o _⟩
 |mset t=>simp [Ty.qbn]at h
 |_=>rfl
theorem qkB:∀(τ:Ty),τ.qmT=true->∀(o:Nat) (x:τ.den),(ofTyC τ o x).length=τ.qaU
 |.unit,_,o,x=>rfl
 |.pair a b,h,o,x=>by
  simp only [Ty.qmT,qe]at h;simp [ofTyC,Ty.qaU,qkB b h.2 o x.2]
 |.int _,h,_,_|.bool,h,_,_|.str,h,_,_|.flt,h,_,_|.cx,h,_,_|.err,h,_,_|.mset _,h,_,_|.nsl _,h,_,_|.sl _,h,_,_=>by simp [Ty.qmT]at h
theorem qsD{τ:Ty}(h:τ.qbn=true)(o:Nat)(x:τ.den):(ofTy τ o x).cells.length=τ.qaU:=by
 cases τ with
 |unit=>rfl
 |pair a b =>
  simp only [Ty.qbn,qe]at h;simp [ofTy,TV.cells,Ty.qaU,qkB b h.2 o x.2]
 |_=>rfl
theorem qhG{τ:Ty}(h:τ.qbn=true){o:Nat}{x:τ.den}{v:V}(hr:RTy τ o x v):v.cells.length=τ.qaU/\v.oks=true:=by
 obtain ⟨h1,h2⟩:=RV.cells (qpr h o x) (rv_ofTy τ o x v hr);exact ⟨by rw [h1.length,qsD h],h2⟩
theorem qsk:∀{d d':Nat} {o' o:Nat},d'<=d->fits d o' o=true->fits d' o' o=true
 |_,0,_,_,_,_=>rfl
 |0,d'+1,_,_,h,_=>by omega
 |d+1,d'+1,o',o,h,hf=>by
  simp only [fits,Bool.or_eq_true,qe]at hf ⊢;exact hf.imp id λhf=>⟨hf.1,qsk (by omega) hf.2⟩
theorem qoT{o' o d:Nat}{f:Fl}(h:fits (d+1) o' o=true)(hf:FlR o' f):FlR o f/\(o=2000\/fits d (nx o') (nx o)=true):=by
 simp only [fits,Bool.or_eq_true,qe,decide_eq_true_eq,beq_iff_eq,Bool.not_eq_true',decide_eq_false_iff_not]at h;rcases h with rfl|⟨⟨⟨h1,h2⟩,h3⟩,h4⟩
 ·exact ⟨⟨λh=>absurd rfl h,λh=>by cases h⟩,.inl rfl⟩
 ·exact ⟨⟨λ_=>by rw [hf.1 h2,h1],λh=>hf.2 (h3.resolve_left λh5=>h5 h)⟩,.inr h4⟩
theorem qlG:∀(d o:Nat),fits d o 2000=true
 |0,_=>rfl
 |d+1,o=>by simp [fits]
theorem qeT:∀(τ:Ty) (o o':Nat) (x:τ.den) (v:V),fits τ.depth o o'=true->RTy τ o x v->RTy τ o' x v
 |.int _,_,_,_,v,_,h=>by simpa only [RTy]using h
 |.bool,_,_,_,v,_,h=>by simpa only [RTy]using h
 |.str,_,_,_,v,_,h=>by simpa only [RTy]using h
 |.flt,_,_,_,v,_,h=>by simpa only [RTy]using h
 |.cx,_,_,_,v,_,h=>by simpa only [RTy]using h
 |.err,_,_,_,v,_,h=>by simpa only [RTy]using h
 |.mset _,_,_,_,v,_,h=>by simpa only [RTy]using h
 |.unit,_,_,_,v,_,h=>by simpa only [RTy]using h
 |.sl t,o,o',l,v,hm,h=>by
  simp only [Ty.depth]at hm;simp only [RTy]at h ⊢;obtain ⟨f,c,l',rfl,hf,h⟩:=h;obtain ⟨h1,h2⟩:=qoT hm hf;refine ⟨f,c,l',rfl,h1,h.mono λa b hab=>qeT t _ _ a b ?_ hab⟩;rcases h2 with rfl|h2
  ·exact qlG _ _
  ·exact h2
 |.nsl t,o,o',l,v,hm,h=>by
  simp only [Ty.depth]at hm;simp only [RTy]at h ⊢;rcases h with h|⟨hne,f,c,l',rfl,hf,h⟩
  ·exact .inl h
  obtain ⟨h1,h2⟩:=qoT hm hf;refine .inr ⟨hne,f,c,l',rfl,h1,h.mono λa b hab=>qeT t _ _ a b ?_ hab⟩;rcases h2 with rfl|h2
  ·exact qlG _ _
  ·exact h2
 |.pair a b,o,o',x,v,hm,h=>by
  simp only [Ty.depth]at hm;simp only [RTy]at h ⊢;obtain ⟨v1,l,rfl,h3,h4⟩:=h;exact ⟨v1,l,rfl,qeT a _ _ _ _ (qsk (by omega) hm) h3,qeT b _ _ _ _ (qsk (by omega) hm) h4⟩
theorem qcP:∀(τ:Ty) (o:Nat) (w:TV) (x:τ.den) (v:V),qem τ o w=some x->RV w v->RTy τ o x v:=by
 have dflt:∀(τ:Ty) (o:Nat) (τ':Ty) (o':Nat) (y:τ'.den) (x:τ.den) (v:V),(if h:τ'=τ then (if fits τ.depth o' o=true then some (cast' h y)else none)else none)=some x->RTy τ' o' y v->RTy τ o x v:=by
  intro τ o τ' o' y x v h hr;split at h
  ·rename_i he;split at h
   ·rename_i hm;simp only [qb]at h;subst h;subst he;exact qeT _ _ _ _ _ hm hr
   ·cases h
  ·cases h
 intro τ;induction τ with
 |int k =>
  intro o w x v h hr;cases w<;>simp only [qem]at h<;>first|cases h|exact dflt _ _ _ _ _ _ _ h (by simpa only [RV]using hr)
 |bool =>
  intro o w x v h hr;cases w<;>simp only [qem]at h<;>first|cases h|exact dflt _ _ _ _ _ _ _ h (by simpa only [RV]using hr)
 |str =>
  intro o w x v h hr;cases w<;>simp only [qem]at h<;>first|cases h|exact dflt _ _ _ _ _ _ _ h (by simpa only [RV]using hr)
 |flt =>
  intro o w x v h hr;cases w<;>simp only [qem]at h<;>first|cases h|exact dflt _ _ _ _ _ _ _ h (by simpa only [RV]using hr)
 |cx =>
  intro o w x v h hr;cases w<;>simp only [qem]at h<;>first|cases h|exact dflt _ _ _ _ _ _ _ h (by simpa only [RV]using hr)
 |err =>
  intro o w x v h hr;cases w<;>simp only [qem]at h<;>first|cases h|exact dflt _ _ _ _ _ _ _ h (by simpa only [RV]using hr)
 |mset t =>
  intro o w x v h hr;cases w<;>simp only [qem]at h<;>first|cases h|exact dflt _ _ _ _ _ _ _ h (by simpa only [RV]using hr)
 |sl t ih =>
  intro o w x v h hr;cases w with
  |empty own =>
   simp only [qem]at h;split at h
   ·rename_i ho;simp only [qb]at h;subst h;simp only [RV]at hr;obtain ⟨f,c,rfl,hf⟩:=hr;simp only [RTy];exact ⟨f,c,[],rfl,(qoT ho hf).1,.nil⟩
   ·cases h
  |t τ' o' y =>
   cases τ' with
   |nsl t' =>
    simp only [qem]at h;split at h
    ·rename_i he;subst he;split at h
     ·rename_i hm;have h':nel y=some x:=h;cases y with
      |nil=>cases h'
      |cons a l =>
       simp only [nel,qb]at h';subst h';simp only [RV,RTy]at hr;rcases hr with ⟨h0,_⟩|⟨_,hr⟩
       ·cases h0
       ·have key:=qeT (.sl t') o' o (a::l) v hm (by simpa only [RTy]using hr);exact key
     ·cases h
    ·cases h
   |_=>simp only [qem]at h;exact dflt _ _ _ _ _ _ _ h (by simpa only [RV]using hr)
  |_=>simp [qem]at h
 |nsl t ih =>
  intro o w x v h hr;cases w with
  |val u =>
   cases u with
   |slice p a b =>
    cases p with
    |some p=>simp [qem]at h
    |none =>
     match a,b with
     |0,0 =>
      simp only [qem,qb]at h;subst h;simp only [RV]at hr;subst hr;simp only [RTy];exact .inl ⟨trivial,trivial⟩
     |_+1,_=>simp [qem]at h
     |0,_+1=>simp [qem]at h
   |_=>simp [qem]at h
  |t τ' o' y =>
   cases τ' with
   |sl t' =>
    simp only [qem]at h;split at h
    ·rename_i he;subst he;split at h
     ·rename_i hm;have h':nel y=some x:=h;cases y with
      |nil=>cases h'
      |cons a l =>
       simp only [nel,qb]at h';subst h';simp only [RV]at hr;have:=qeT (.sl t') o' o _ _ hm hr;simp only [RTy]at this ⊢;exact .inr ⟨by simp,this⟩
     ·cases h
    ·cases h
   |_=>simp only [qem]at h;exact dflt _ _ _ _ _ _ _ h (by simpa only [RV]using hr)
  |_=>simp [qem]at h
 |unit =>
  intro o w x v h hr;cases w with
  |agg l =>
   cases l with
   |nil=>simp only [RV]at hr;obtain ⟨l',rfl,h1⟩:=hr;simp only [RVL]at h1;simp [RTy,h1]
   |cons=>simp [qem]at h
  |t τ' o' y=>simp only [qem]at h;exact dflt _ _ _ _ _ _ _ h (by simpa only [RV]using hr)
  |_=>simp [qem]at h
 |pair a b iha ihb =>
  intro o w x v h hr;cases w with
  |agg l =>
   cases l with
   |nil=>simp [qem]at h
   |cons u l =>
    simp only [qem]at h;obtain ⟨y,hy,h⟩:=qd.1 h;obtain ⟨z,hz,h⟩:=qd.1 h;simp only [qb]at h;subst h;simp only [RV]at hr;obtain ⟨l',rfl,hl⟩:=hr;simp only [RVL]at hl;obtain ⟨v1,m,rfl,h1,h2⟩:=hl;simp only [RTy];exact ⟨v1,m,rfl,iha _ _ _ _ hy h1,ihb _ _ _ _ hz (by simp only [RV];exact ⟨m,rfl,h2⟩)⟩
  |t τ' o' y=>simp only [qem]at h;exact dflt _ _ _ _ _ _ _ h (by simpa only [RV]using hr)
  |_=>simp [qem]at h
theorem qtn:∀(ps:List (Ty×Nat)) (l:List TV) (x:denL (ps.map (·.1))) (l':List V),asL ps l=some x->RVL l l'->RVL (ofL ps x) l'
 |[],l,x,l',h,hr=>by
  cases l with
  |nil=>simpa [ofL]using hr
  |cons=>simp [asL]at h
 |[(τ,o)],l,x,l',h,hr=>by
  match l,h,hr with
  |[v],h,hr =>
   simp only [asL]at h;simp only [RVL]at hr;obtain ⟨u,m,rfl,h1,rfl⟩:=hr;simp only [ofL];exact qx.2 ⟨rv_ofTy _ _ _ _ (qcP _ _ _ _ _ h h1),q6⟩
  |[],h,hr=>simp [asL]at h
  |_::_::_,h,hr=>simp [asL]at h
 |(τ,o)::q::ps,l,x,l',h,hr=>by
  match l,h,hr with
  |[],h,hr=>simp [asL]at h
  |v::l,h,hr =>
   simp only [asL]at h;obtain ⟨y,hy,h⟩:=qd.1 h;obtain ⟨z,hz,h⟩:=qd.1 h;simp only [qb]at h;subst h;simp only [RVL]at hr;obtain ⟨u,m,rfl,h1,h2⟩:=hr;simp only [ofL];exact qx.2 ⟨rv_ofTy _ _ _ _ (qcP _ _ _ _ _ hy h1),qtn (q::ps) l _ _ hz h2⟩
theorem qtm{τ:Ty}{o:Nat}:∀(l:List TV) (x:List τ.den) (l':List V),qvW τ o l=some x->RVL l l'->All2 (RTy τ o) x l'
 |[],x,l',h,hr=>by simp only [qvW,qb]at h;simp only [RVL]at hr;subst h;subst hr;exact .nil
 |v::l,x,l',h,hr=>by
  simp only [qvW]at h;obtain ⟨y,hy,h⟩:=qd.1 h;obtain ⟨z,hz,h⟩:=qd.1 h;simp only [qb]at h;subst h;simp only [RVL]at hr;obtain ⟨u,m,rfl,h1,h2⟩:=hr;exact .cons (qcP _ _ _ _ _ hy h1) (qtm l _ _ hz h2)
theorem qpI(p:Bool)(u:Value):RV (qkK p u) (qcB p u):=by
 unfold qkK qcB;split
 ·simp [RV,RTy]
 ·simp [RV,RTy]
 ·simp [RV,RTy]
 ·simp only [RV,RTy];exact ⟨0,rfl,Fl.qo1⟩
 ·simp only [RV,RTy];exact ⟨0,0,rfl,Fl.qo1,Fl.qo1⟩
 ·cases p
  ·simp only [RV,qef,qf,if_false];exact ⟨_,_,rfl,qeF rfl⟩
  ·simp [RV,qef]
 ·rename_i h1 h2 h3 h4 h5 h6;split
  ·exact absurd rfl h6
  ·simp [RV]
theorem qsU{g:Value->TV}{h:Value->V}(hr:∀u,RV (g u) (h u)):∀l:List Value,RVL (l.map g) (l.map h)
 |[]=>q6
 |u::l=>qx.2 ⟨hr u,qsU hr l⟩
theorem qpH(p:Bool)(u:Value):RV (qlx p u) (ofConst p u):=by
 have key:=qpI p u;cases u<;>first|exact key|(simp only [qlx,ofConst,RV];exact ⟨_,rfl,qsU (qpI p) _⟩)
theorem qeU:∀(τ:Ty) (o:Nat) (x:τ.den) (v:V),RTy τ o x v->RTy τ 1000 x (v.reflag qL)
 |.int _,_,_,v,h=>by simp only [RTy]at h ⊢;simp [h,V.reflag]
 |.bool,_,_,v,h=>by simp only [RTy]at h ⊢;simp [h,V.reflag]
 |.str,_,_,v,h=>by simp only [RTy]at h ⊢;simp [h,V.reflag]
 |.flt,_,_,v,h=>by simp only [RTy]at h ⊢;obtain ⟨b9,rfl,h9⟩:=h;exact ⟨b9,by simp [V.reflag],h9⟩
 |.cx,_,_,v,h=>by simp only [RTy]at h ⊢;obtain ⟨a9,b9,rfl,h8,h9⟩:=h;exact ⟨a9,b9,by simp [V.reflag],h8,h9⟩
 |.err,_,_,v,h=>by simp only [RTy]at h ⊢;rcases h with ⟨hx,rfl⟩|⟨hx,t9,rfl⟩;exact .inl ⟨hx,by simp [V.reflag]⟩;exact .inr ⟨hx,t9,by simp [V.reflag]⟩
 |.mset _,_,_,v,h=>by simp only [RTy]at h ⊢;obtain ⟨h8,rfl⟩:=h;exact ⟨h8,by simp [V.reflag]⟩
 |.sl t,o,l,v,h=>by
  simp only [RTy]at h ⊢;obtain ⟨f,c,l',rfl,_,h⟩:=h;refine ⟨.shared,c,reflagL qL l',by simp [V.reflag,qL],qe3 rfl (by simp) (λ_=>rfl),?_⟩;rw [qaa];exact h.map λa b hab=>qeU t _ a b hab
 |.nsl t,o,l,v,h=>by
  simp only [RTy]at h ⊢;rcases h with ⟨hx,rfl⟩|⟨hne,f,c,l',rfl,_,h⟩
  ·exact .inl ⟨hx,by simp [V.reflag]⟩
  refine .inr ⟨hne,.shared,c,reflagL qL l',by simp [V.reflag,qL],qe3 rfl (by simp) (λ_=>rfl),?_⟩;rw [qaa];exact h.map λa b hab=>qeU t _ a b hab
 |.unit,_,_,v,h=>by simp only [RTy]at h ⊢;simp [h,V.reflag,reflagL]
 |.pair a b,o,x,v,h=>by
  simp only [RTy]at h ⊢;obtain ⟨v1,l,rfl,h1,h2⟩:=h;refine ⟨v1.reflag qL,reflagL qL l,by simp [V.reflag,reflagL],qeU a o _ _ h1,?_⟩;have:=qeU b o _ _ h2;simpa only [V.reflag]using this
mutual
theorem RV.share:∀(x:TV) (v:V),RV x v->RV x.share (v.reflag qL)
 |.any rs,v,h=>by simp only [TV.share,RV]at h ⊢;rw [qfa];exact ⟨h.1,qdH h.2⟩
 |.t τ o x,v,h=>by simp only [TV.share,RV]at h ⊢;exact qeU τ o x v h
 |.clp τ x,v,h=>by
  simp only [TV.share,RV,RTy]at h ⊢;obtain ⟨f,l',rfl,_,h⟩:=h;refine ⟨.shared,true,reflagL qL l',by simp [V.reflag,qL],qe3 rfl (by simp) (λ_=>rfl),?_⟩;rw [qaa];exact h.map λa b hab=>qeU τ _ a b hab
 |.room a s,v,h=>by
  simp only [RV]at h;rcases a with _|a
  ·obtain ⟨_,n,rfl,h0⟩|⟨h9,_⟩:=h
   ·obtain rfl:=h0 rfl;simp only [TV.share,RV,V.reflag,qL];exact ⟨.shared,false,by simp,qe3 rfl (by simp) (λ_=>rfl)⟩
   ·omega
  ·simp only [TV.share,RV];refine .inr ⟨Nat.le_refl _,?_⟩;obtain ⟨_,n,rfl,_⟩|⟨_,rfl|⟨f,hf0,rfl⟩⟩:=h
   ·by_cases hn:n=0
    ·exact .inr ⟨.shared,by simp,by simp [V.reflag,qL,hn]⟩
    ·exact .inl (by simp [V.reflag,qL,hn])
   ·exact .inl rfl
   ·exact .inr ⟨.shared,by simp,by simp [V.reflag,reflagL,qL]⟩
 |.empty own,v,h=>by simp only [TV.share,RV]at h ⊢;obtain ⟨f,c,rfl,_⟩:=h;exact ⟨.shared,c,by simp [V.reflag,reflagL,qL],qe3 rfl (by simp) (λ_=>rfl)⟩
 |.val u,v,h=>by simp only [TV.share,RV]at h ⊢;simp [h,V.reflag]
 |.agg l,v,h=>by simp only [TV.share,RV]at h ⊢;obtain ⟨l',rfl,h⟩:=h;exact ⟨_,by simp only [V.reflag],RVL.share l l' h⟩
 |.tuple l,v,h=>by simp only [TV.share,RV]at h ⊢;obtain ⟨l',rfl,h⟩:=h;exact ⟨_,by simp only [V.reflag],RVL.share l l' h⟩
 |.fn g' a b,v,h=>by simp only [TV.share,RV]at h ⊢;obtain ⟨a',b',rfl,h1,h2⟩:=h;exact ⟨_,_,by simp only [V.reflag],RVL.share a a' h1,RVL.share b b' h2⟩
 |.ptr q o,v,h=>by simp only [TV.share,RV]at h ⊢;simp [h,V.reflag]
 |.mref q,v,h=>by simp only [TV.share,RV]at h ⊢;simp [h,V.reflag]
 |.bsl q _ _,v,h=>by simp only [TV.share,RV]at h ⊢;simp [h,V.reflag]
 |.yld q,v,h=>by simp only [TV.share,RV]at h ⊢;simp [h,V.reflag]
 |.lp ..,v,h=>by simp only [RV]at h
 |.cptr _ l,v,h=>by simp only [TV.share,RV]at h ⊢;obtain ⟨f,l',rfl,_,_,h⟩:=h;exact ⟨.shared,_,by simp only [V.reflag,qL],by simp,λ_=>rfl,RVL.share l l' h⟩
 |.iface t x,v,h=>by simp only [TV.share,RV]at h ⊢;obtain ⟨y,rfl,h⟩:=h;exact ⟨_,by simp only [V.reflag],RV.share x y h⟩
theorem RVL.share:∀(l:List TV) (l':List V),RVL l l'->RVL (shareL l) (reflagL qL l')
 |[],l',h=>by simp only [RVL]at h;simp [h,shareL,reflagL,RVL]
 |x::l,l',h=>by
  simp only [RVL]at h;obtain ⟨v,m,rfl,h1,h2⟩:=h;simp only [shareL,reflagL];exact qx.2 ⟨RV.share x v h1,RVL.share l m h2⟩
end
theorem qtE{o:Nat}:qaE (lo o)=qaE o:=by
 rw [Bool.eq_iff_iff,qdS,qdS];unfold lo;split<;>omega
theorem qBv{o:Nat}:nx (lo o)=lo (nx o):=by
 have h1:=@qtE o;unfold nx;rw [h1];cases ho:qaE o with
 |false=>rfl
 |true =>
  have:=qdS.1 ho;simp only [if_true];unfold lo;split<;>split<;>omega
theorem qAs{o:Nat}:lo o=2000↔o=2000:=by unfold lo;split<;>omega
theorem qwo{g:Fl->Fl}(hg:∀f,g f=.own↔f=.own){o:Nat}{f:Fl}(h:FlR o f):FlR (lo o) (g f) :=
 ⟨λh2=>by rw [hg f,qtE];exact h.1 (λe=>h2 (qAs.2 e)),λh1=>by unfold lo at h1;split at h1<;>omega⟩
theorem qoi{g:Fl->Fl}(hg:∀f,g f=.own↔f=.own):∀(τ:Ty) (o:Nat) (x:τ.den) (v:V),RTy τ o x v->RTy τ (lo o) x (v.reflag g)
 |.int _,_,_,v,h=>by simp only [RTy]at h ⊢;simp [h,V.reflag]
 |.bool,_,_,v,h=>by simp only [RTy]at h ⊢;simp [h,V.reflag]
 |.str,_,_,v,h=>by simp only [RTy]at h ⊢;simp [h,V.reflag]
 |.flt,_,_,v,h=>by simp only [RTy]at h ⊢;obtain ⟨b9,rfl,h9⟩:=h;exact ⟨b9,by simp [V.reflag],h9⟩
 |.cx,_,_,v,h=>by simp only [RTy]at h ⊢;obtain ⟨a9,b9,rfl,h8,h9⟩:=h;exact ⟨a9,b9,by simp [V.reflag],h8,h9⟩
 |.err,_,_,v,h=>by simp only [RTy]at h ⊢;rcases h with ⟨hx,rfl⟩|⟨hx,t9,rfl⟩;exact .inl ⟨hx,by simp [V.reflag]⟩;exact .inr ⟨hx,t9,by simp [V.reflag]⟩
 |.mset _,_,_,v,h=>by simp only [RTy]at h ⊢;obtain ⟨h8,rfl⟩:=h;exact ⟨h8,by simp [V.reflag]⟩
 |.sl t,o,l,v,h=>by
  simp only [RTy]at h ⊢;obtain ⟨f,c,l',rfl,hf,h⟩:=h;refine ⟨g f,c,reflagL g l',by simp [V.reflag],qwo hg hf,?_⟩;rw [qaa,qBv];exact h.map λa b hab=>qoi hg t _ a b hab
 |.nsl t,o,l,v,h=>by
  simp only [RTy]at h ⊢;rcases h with ⟨hx,rfl⟩|⟨hne,f,c,l',rfl,hf,h⟩
  ·exact .inl ⟨hx,by simp [V.reflag]⟩
  refine .inr ⟨hne,g f,c,reflagL g l',by simp [V.reflag],qwo hg hf,?_⟩;rw [qaa,qBv];exact h.map λa b hab=>qoi hg t _ a b hab
 |.unit,_,_,v,h=>by simp only [RTy]at h ⊢;simp [h,V.reflag,reflagL]
 |.pair a b,o,x,v,h=>by
  simp only [RTy]at h ⊢;obtain ⟨v1,l,rfl,h1,h2⟩:=h;refine ⟨v1.reflag g,reflagL g l,by simp [V.reflag,reflagL],qoi hg a o _ _ h1,?_⟩;have:=qoi hg b o _ _ h2;simpa only [V.reflag]using this
theorem qhp{τ:Ty}{o:Nat}{x:τ.den}{v:V}(h:RTy τ o x v):q3 [v]=false:=by
 cases τ with
 |int _=>simp only [RTy]at h;subst h;rfl
 |bool=>simp only [RTy]at h;subst h;rfl
 |str=>simp only [RTy]at h;subst h;rfl
 |flt=>simp only [RTy]at h;obtain ⟨b9,rfl,_⟩:=h;rfl
 |cx=>simp only [RTy]at h;obtain ⟨a9,b9,rfl,_⟩:=h;rfl
 |err=>simp only [RTy]at h;rcases h with ⟨_,rfl⟩|⟨_,t9,rfl⟩<;>rfl
 |mset t=>simp only [RTy]at h;obtain ⟨_,rfl⟩:=h;rfl
 |sl t=>simp only [RTy]at h;obtain ⟨f,c,l',rfl,_⟩:=h;rfl
 |nsl t=>simp only [RTy]at h;rcases h with ⟨_,rfl⟩|⟨_,f,c,l',rfl,_⟩<;>rfl
 |unit=>simp only [RTy]at h;subst h;rfl
 |pair a b=>simp only [RTy]at h;obtain ⟨v1,l,rfl,_⟩:=h;rfl
mutual
theorem RV.lo{g:Fl->Fl}(hg:∀f,g f=.own↔f=.own):∀(x:TV) (v:V),RV x v->RV x.qba (v.reflag g)
 |.any rs,v,h=>by simp only [TV.qba,RV]at h ⊢;rw [qfa];exact ⟨h.1,qdH h.2⟩
 |.t τ o x,v,h=>by simp only [TV.qba,RV]at h ⊢;exact qoi hg τ o x v h
 |.clp τ x,v,h=>by
  simp only [TV.qba,RV]at h ⊢;obtain ⟨f,l',rfl,h0,h⟩:=h;refine ⟨g f,reflagL g l',by simp [V.reflag],λe=>h0 ((hg f).1 e),?_⟩;rw [qaa];exact h.map λa b hab=>qoi hg τ 0 a b hab
 |.room a s,v,h=>by
  simp only [TV.qba,RV]at h ⊢;obtain ⟨h1,n,rfl,h0⟩|⟨h1,rfl|⟨f,hf0,rfl⟩⟩:=h
  ·exact .inl ⟨h1,n,by simp only [V.reflag,if_pos ((hg .own).2 rfl)],h0⟩
  ·exact .inr ⟨h1,.inl rfl⟩
  ·exact .inr ⟨h1,.inr ⟨g f,λe=>hf0 ((hg f).1 e),by simp [V.reflag,reflagL]⟩⟩
 |.empty own,v,h=>by simp only [TV.qba,RV]at h ⊢;obtain ⟨f,c,rfl,h0⟩:=h;exact ⟨g f,c,by simp [V.reflag,reflagL],qwo hg h0⟩
 |.val u,v,h=>by simp only [TV.qba,RV]at h ⊢;simp [h,V.reflag]
 |.agg l,v,h=>by simp only [TV.qba,RV]at h ⊢;obtain ⟨l',rfl,h⟩:=h;exact ⟨_,by simp only [V.reflag],RVL.lo hg l l' h⟩
 |.tuple l,v,h=>by simp only [TV.qba,RV]at h ⊢;obtain ⟨l',rfl,h⟩:=h;exact ⟨_,by simp only [V.reflag],RVL.lo hg l l' h⟩
 |.fn g' a b,v,h=>by simp only [TV.qba,RV]at h ⊢;obtain ⟨a',b',rfl,h1,h2⟩:=h;exact ⟨_,_,by simp only [V.reflag],RVL.lo hg a a' h1,RVL.lo hg b b' h2⟩
 |.ptr q o,v,h=>by simp only [TV.qba,RV]at h ⊢;simp [h,V.reflag]
 |.mref q,v,h=>by simp only [TV.qba,RV]at h ⊢;simp [h,V.reflag]
 |.bsl q _ _,v,h=>by simp only [TV.qba,RV]at h ⊢;simp [h,V.reflag]
 |.yld q,v,h=>by simp only [TV.qba,RV]at h ⊢;simp [h,V.reflag]
 |.lp ..,v,h=>by simp only [RV]at h
 |.cptr _ l,v,h=>by simp only [TV.qba,RV]at h ⊢;obtain ⟨f,l',rfl,h0,_,h⟩:=h;exact ⟨g f,_,by simp only [V.reflag],λe=>h0 ((hg f).1 e),λe=>(by cases e),RVL.lo hg l l' h⟩
 |.iface t x,v,h=>by simp only [TV.qba,RV]at h ⊢;obtain ⟨y,rfl,h⟩:=h;exact ⟨_,by simp only [V.reflag],RV.lo hg x y h⟩
theorem RVL.lo{g:Fl->Fl}(hg:∀f,g f=.own↔f=.own):∀(l:List TV) (l':List V),RVL l l'->RVL (loosenL l) (reflagL g l')
 |[],l',h=>by simp only [RVL]at h;simp [h,loosenL,reflagL,RVL]
 |x::l,l',h=>by
  simp only [RVL]at h;obtain ⟨v,m,rfl,h1,h2⟩:=h;simp only [loosenL,reflagL];exact qx.2 ⟨RV.lo hg x v h1,RVL.lo hg l m h2⟩
end
mutual
theorem reflag_id:∀v:V,v.reflag (λf=>f)=v
 |.undef|.val _|.ptr .. | .yld _|.mref _|.bsl .. | .mp _|.lp ..=>by simp [V.reflag]
 |.cptr _ l=>by simp only [V.reflag,reflagL_id l]
 |.room ..=>by simp [V.reflag]
 |.sl f c l=>by simp only [V.reflag,reflagL_id l]
 |.fn g a b=>by simp only [V.reflag,reflagL_id a,reflagL_id b]
 |.iface t x=>by simp only [V.reflag,reflag_id x]
 |.agg l=>by simp only [V.reflag,reflagL_id l]
 |.tuple l=>by simp only [V.reflag,reflagL_id l]
theorem reflagL_id:∀l:List V,reflagL (λf=>f) l=l
 |[]=>rfl
 |v::l=>by simp only [reflagL,reflag_id v,reflagL_id l]
end
theorem RV.lo0{x:TV}{v:V}(h:RV x v):RV x.qba v:=by
 have:=RV.lo (g:=λf=>f) (λf=>Iff.rfl) x v h
 rwa [reflag_id]at this
theorem qxK{o d:Nat}(h:sure o (d+1)=true):sure (nx o) d=true:=by
 unfold nx;cases ho:qaE o with
 |false =>
  rcases qiW.1 ho with rfl|rfl|rfl
  ·simp [sure]at h
  ·simp [sure]
  ·simp [sure]at h
 |true =>
  have:=qdS.1 ho;simp only [if_true];unfold sure at h ⊢;by_cases h1:o<1000
  ·rw [if_pos h1]at h;rw [if_pos (by omega)];simp only [decide_eq_true_eq]at h ⊢;omega
  ·by_cases h2:o<2000
   ·by_cases h3:o-1<1000
    ·omega
    ·rw [if_neg h3,if_pos (by omega)]
   ·rw [if_neg h1,if_neg h2]at h;simp only [decide_eq_true_eq]at h;rw [if_neg (by omega),if_neg (by omega)];simp only [decide_eq_true_eq]<;>omega
theorem qxJ{o d d':Nat}(h:sure o d=true)(hd:d'<=d):sure o d'=true:=by
 unfold sure at h ⊢;by_cases h1:o<1000
 ·rw [if_pos h1]at h ⊢;simp only [decide_eq_true_eq]at h ⊢;omega
 ·by_cases h2:o<2000
  ·rw [if_neg h1,if_pos h2]
  ·rw [if_neg h1,if_neg h2]at h ⊢;simp only [decide_eq_true_eq]at h ⊢;omega
theorem qpQ{o d:Nat}{f:Fl}(h:sure o (d+1)=true)(hf:FlR o f):f≠.q5:=by
 cases ho:qaE o with
 |true=>rw [hf.own ho];simp
 |false =>
  rcases qiW.1 ho with rfl|rfl|rfl
  ·simp [sure]at h
  ·rw [hf.2 rfl];simp
  ·simp [sure]at h
theorem qtI{l:List V}(h:∀x∈l,x.loose=false):looseL l=false:=by
 induction l with
 |nil=>rfl
 |cons a l ih =>
  simp only [looseL,Bool.or_eq_false_iff];exact ⟨h a (by simp),ih λx hx=>h x (by simp [hx])⟩
theorem qdW:∀(τ:Ty) (o:Nat) (x:τ.den) (v:V),sure o τ.depth=true->RTy τ o x v->v.soft=false/\v.loose=false
 |.int _,_,_,v,_,h=>by simp only [RTy]at h;subst h;exact ⟨rfl,rfl⟩
 |.bool,_,_,v,_,h=>by simp only [RTy]at h;subst h;exact ⟨rfl,rfl⟩
 |.str,_,_,v,_,h=>by simp only [RTy]at h;subst h;exact ⟨rfl,rfl⟩
 |.flt,_,_,v,_,h=>by simp only [RTy]at h;obtain ⟨b9,rfl,h9⟩:=h;exact ⟨rfl,rfl⟩
 |.cx,_,_,v,_,h=>by simp only [RTy]at h;obtain ⟨a9,b9,rfl,h8,h9⟩:=h;exact ⟨rfl,rfl⟩
 |.err,_,_,v,_,h=>by simp only [RTy]at h;rcases h with ⟨_,rfl⟩|⟨_,t9,rfl⟩<;>exact ⟨rfl,rfl⟩
 |.mset _,_,_,v,_,h=>by simp only [RTy]at h;obtain ⟨h8,rfl⟩:=h;exact ⟨rfl,rfl⟩
 |.sl t,o,l,v,hf,h=>by
  simp only [RTy]at h;obtain ⟨f,c,l',rfl,ho,h⟩:=h;simp only [Ty.depth]at hf;have hnd:=qpQ hf ho;have hall:∀b∈l',b.soft=false/\b.loose=false:=λb hb=>by
   obtain ⟨a,_,hr⟩:=qck h b hb;exact qdW t _ a b (qxK hf) hr
  simp only [V.soft,V.loose,Bool.or_eq_false_iff,decide_eq_false_iff_not,Bool.and_eq_false_iff];exact ⟨⟨.inl hnd,qt8 λb hb=>(hall b hb).1⟩,hnd,qtI λb hb=>(hall b hb).2⟩
 |.nsl t,o,l,v,hf,h=>by
  simp only [RTy]at h;rcases h with ⟨_,rfl⟩|⟨_,f,c,l',rfl,ho,h⟩
  ·exact ⟨rfl,rfl⟩
  simp only [Ty.depth]at hf;have hnd:=qpQ hf ho;have hall:∀b∈l',b.soft=false/\b.loose=false:=λb hb=>by
   obtain ⟨a,_,hr⟩:=qck h b hb;exact qdW t _ a b (qxK hf) hr
  simp only [V.soft,V.loose,Bool.or_eq_false_iff,decide_eq_false_iff_not,Bool.and_eq_false_iff];exact ⟨⟨.inl hnd,qt8 λb hb=>(hall b hb).1⟩,hnd,qtI λb hb=>(hall b hb).2⟩
 |.unit,_,_,v,_,h=>by simp only [RTy]at h;subst h;exact ⟨rfl,rfl⟩
 |.pair a b,o,x,v,hf,h=>by
  simp only [RTy]at h;obtain ⟨v1,l,rfl,h1,h2⟩:=h;simp only [Ty.depth]at hf;have e1:=qdW a o _ _ (qxJ hf (by omega)) h1;have e2:=qdW b o _ _ (qxJ hf (by omega)) h2;simp only [V.soft,softL,V.loose,looseL,Bool.or_eq_false_iff]at e2 ⊢;exact ⟨⟨e1.1,e2.1⟩,e1.2,e2.2⟩
mutual
theorem RV.firm:∀(x:TV) (v:V),x.firm=true->RV x v->v.soft=false
 |.any rs,v,hf,h=>by simp [TV.firm]at hf
 |.t τ o x,v,hf,h=>by simp only [TV.firm]at hf;simp only [RV]at h;exact (qdW τ o x v hf h).1
 |.clp τ x,v,hf,h=>by simp [TV.firm]at hf
 |.room a s,v,hf,h=>by simp [TV.firm]at hf
 |.empty own,v,hf,h=>by simp only [RV]at h;obtain ⟨f,c,rfl,_⟩:=h;simp [V.soft,softL]
 |.val u,v,hf,h=>by simp only [RV]at h;subst h;rfl
 |.agg l,v,hf,h=>by simp only [RV]at h;obtain ⟨l',rfl,h⟩:=h;simp only [TV.firm]at hf;simp only [V.soft];exact RVL.firm l l' hf h
 |.tuple l,v,hf,h=>by simp only [RV]at h;obtain ⟨l',rfl,h⟩:=h;simp only [TV.firm]at hf;simp only [V.soft];exact RVL.firm l l' hf h
 |.fn g a b,v,hf,h=>by
  simp only [RV]at h;obtain ⟨a',b',rfl,h1,h2⟩:=h;simp only [TV.firm,qe]at hf;simp only [V.soft,Bool.or_eq_false_iff];exact ⟨RVL.firm a a' hf.1 h1,RVL.firm b b' hf.2 h2⟩
 |.ptr q o,v,hf,h=>by simp only [RV]at h;subst h;rfl
 |.mref q,v,hf,h=>by simp only [RV]at h;subst h;rfl
 |.bsl q _ _,v,hf,h=>by simp only [RV]at h;subst h;rfl
 |.yld q,v,hf,h=>by simp only [RV]at h;subst h;rfl
 |.lp ..,v,hf,h=>by simp only [RV]at h
 |.cptr s l,v,hf,h=>by
  simp only [TV.firm,qe]at hf;simp only [RV]at h;obtain ⟨f,l',rfl,_,hsh,h⟩:=h;have:=hsh hf.1;subst this;simp only [V.soft,RVL.firm l l' hf.2 h]<;>rfl
 |.iface t x,v,hf,h=>by simp only [RV]at h;obtain ⟨y,rfl,h⟩:=h;simp only [TV.firm]at hf;simp only [V.soft];exact RV.firm x y hf h
theorem RVL.firm:∀(l:List TV) (l':List V),firmL l=true->RVL l l'->softL l'=false
 |[],l',hf,h=>by simp only [RVL]at h;subst h;rfl
 |x::l,l',hf,h=>by
  simp only [RVL]at h;obtain ⟨v,m,rfl,h1,h2⟩:=h;simp only [firmL,qe]at hf;simp only [softL,Bool.or_eq_false_iff];exact ⟨RV.firm x v hf.1 h1,RVL.firm l m hf.2 h2⟩
end
mutual
theorem RV.tight:∀(x:TV) (v:V),x.tight=true->RV x v->v.loose=false
 |.any rs,v,hf,h=>by simp [TV.tight]at hf
 |.t τ o x,v,hf,h=>by simp only [TV.tight]at hf;simp only [RV]at h;exact (qdW τ o x v hf h).2
 |.clp τ x,v,hf,h=>by simp [TV.tight]at hf
 |.room a s,v,hf,h=>by simp [TV.tight]at hf
 |.empty o,v,hf,h=>by simp only [TV.tight]at hf;simp only [RV]at h;obtain ⟨f,c,rfl,h0⟩:=h;simp [V.loose,looseL,qpQ hf h0]
 |.val u,v,hf,h=>by simp only [RV]at h;subst h;rfl
 |.agg l,v,hf,h=>by simp only [RV]at h;obtain ⟨l',rfl,h⟩:=h;simp only [TV.tight]at hf;simp only [V.loose];exact RVL.tight l l' hf h
 |.tuple l,v,hf,h=>by simp only [RV]at h;obtain ⟨l',rfl,h⟩:=h;simp only [TV.tight]at hf;simp only [V.loose];exact RVL.tight l l' hf h
 |.fn g a b,v,hf,h=>by
  simp only [RV]at h;obtain ⟨a',b',rfl,h1,h2⟩:=h;simp only [TV.tight,qe]at hf;simp only [V.loose,Bool.or_eq_false_iff];exact ⟨RVL.tight a a' hf.1 h1,RVL.tight b b' hf.2 h2⟩
 |.ptr q o,v,hf,h=>by simp only [RV]at h;subst h;rfl
 |.mref q,v,hf,h=>by simp only [RV]at h;subst h;rfl
 |.bsl q _ _,v,hf,h=>by simp only [RV]at h;subst h;rfl
 |.yld q,v,hf,h=>by simp only [RV]at h;subst h;rfl
 |.lp ..,v,hf,h=>by simp only [RV]at h
 |.cptr s l,v,hf,h=>by
  simp only [TV.tight,qe]at hf;simp only [RV]at h;obtain ⟨f,l',rfl,_,hsh,h⟩:=h;have:=hsh hf.1;subst this;simp only [V.loose,RVL.tight l l' hf.2 h]<;>rfl
 |.iface t x,v,hf,h=>by simp only [RV]at h;obtain ⟨y,rfl,h⟩:=h;simp only [TV.tight]at hf;simp only [V.loose];exact RV.tight x y hf h
theorem RVL.tight:∀(l:List TV) (l':List V),tightL l=true->RVL l l'->looseL l'=false
 |[],l',hf,h=>by simp only [RVL]at h;subst h;rfl
 |x::l,l',hf,h=>by
  simp only [RVL]at h;obtain ⟨v,m,rfl,h1,h2⟩:=h;simp only [tightL,qe]at hf;simp only [looseL,Bool.or_eq_false_iff];exact ⟨RV.tight x v hf.1 h1,RVL.tight l m hf.2 h2⟩
end
theorem qpG{bx:Root->Option (List V)}:∀(τ:Ty) (o:Nat) (x:τ.den) (v:V),τ.isSet=false->RTy τ o x v->peekV bx v=some (v.reflag qL)
 |.int _,o,x,v,hns,h=>by simp only [RTy]at h;subst h;rfl
 |.bool,o,x,v,hns,h=>by simp only [RTy]at h;subst h;rfl
 |.str,o,x,v,hns,h=>by simp only [RTy]at h;subst h;rfl
 |.flt,o,x,v,hns,h=>by simp only [RTy]at h;obtain ⟨b9,rfl,h9⟩:=h;rfl
 |.cx,o,x,v,hns,h=>by simp only [RTy]at h;obtain ⟨a9,b9,rfl,h8,h9⟩:=h;rfl
 |.err,o,x,v,hns,h=>by simp only [RTy]at h;rcases h with ⟨_,rfl⟩|⟨_,t9,rfl⟩<;>rfl
 |.mset _,o,x,v,hns,h=>by simp [Ty.isSet]at hns
 |.sl _,o,x,v,hns,h=>by simp only [RTy]at h;obtain ⟨f,c,l',rfl,_⟩:=h;rfl
 |.nsl _,o,x,v,hns,h=>by simp only [RTy]at h;rcases h with ⟨_,rfl⟩|⟨_,f,c,l',rfl,_⟩<;>rfl
 |.unit,o,x,v,hns,h=>by simp only [RTy]at h;subst h;rfl
 |.pair a b,o,x,v,hns,h=>by
  simp only [RTy]at h;simp only [Ty.isSet,Bool.or_eq_false_iff]at hns;obtain ⟨v1,l,rfl,h1,h2⟩:=h;have e1:=qpG (bx:=bx) a o x.1 v1 hns.1 h1;have e2:=qpG (bx:=bx) b o x.2 _ hns.2 h2;simp only [peekV,V.reflag]at e2 ⊢;obtain ⟨m,hm,he⟩:=qc.1 e2;simp only [V.agg.injEq]at he;subst he;simp only [peekL,e1,hm,reflagL,qi]
theorem qqh{k:IntKind}:∀{l:List TV} {xs:List Int} {l':List V},qqg k l=some xs->RVL l l'->l'=xs.map λx=>V.val (.int k x)
 |[],xs,l',h,hr=>by
  simp only [qqg,qb]at h;subst h;simp only [RVL]at hr;rw [hr]<;>rfl
 |.t (.int k') o x::l,xs,l',h,hr=>by
  simp only [qqg]at h;split at h
  ·rename_i hk;obtain ⟨m,hm,rfl⟩:=qc.1 h;simp only [RVL]at hr;obtain ⟨v,vs,rfl,h1,h2⟩:=hr;simp only [RV,RTy]at h1;rw [h1,qqh hm h2,hk];rfl
  ·cases h
theorem quK{k:IntKind}(xs:List Int):reflagL qL (xs.map λx=>V.val (.int k x))=(xs.map λx=>V.val (.int k x))/\(xs.map λx=>V.val (.int k x)).all V.one=true/\ptrsL (xs.map λx=>V.val (.int k x))=[]:=by
 induction xs with
 |nil=>exact ⟨rfl,rfl,rfl⟩
 |cons x xs ih=>simp only [qh,reflagL,V.reflag,List.all_cons,ptrsL,V.qq,ih.1,ih.2.1,ih.2.2];exact ⟨trivial,by simp [V.one],rfl⟩
theorem qqc{k:IntKind}{o:Nat}:∀(xs:List Int),All2 (RTy (.int k) o) xs (xs.map λx=>V.val (.int k x))
 |[]=>.nil
 |x::xs=>.cons (by simp only [RTy]) (qqc xs)
mutual
theorem peekTV_ok{bt:Root->Option (List TV)}{bx:Root->Option (List V)}(hb:∀r c,bt r=some c->∃c',bx r=some c'/\RVL c c'/\(r.slot<16384->qfP c'=false)):∀(x y:TV) (v:V),peekTV bt x=some y->RV x v->∃u,peekV bx v=some u/\RV y u
 |.any _,y,v,h,hr=>by simp [peekTV]at h
 |.val w,y,v,h,hr=>by
  simp only [peekTV,qb]at h;subst h;simp only [RV]at hr;subst hr;exact ⟨.val w,rfl,by simp [RV]⟩
 |.t τ o x,y,v,h,hr=>by
  simp only [peekTV]at h;cases hs:τ.isSet with
  |true=>rw [hs]at h;cases h
  |false =>
   rw [hs]at h;simp only [cond_false,qb]at h;subst h;simp only [RV]at hr;exact ⟨_,qpG τ o x v hs hr,by simp only [RV];exact qeU τ o x v hr⟩
 |.mref _,y,v,h,hr=>by simp [peekTV]at h
 |.yld _,y,v,h,hr=>by simp [peekTV]at h
 |.lp ..,y,v,h,hr=>by simp [peekTV]at h
 |.bsl r off n,y,v,h,hr=>by
  simp only [peekTV]at h;split at h
  ·rename_i c hc;split at h
   ·rename_i hle;obtain ⟨xs,hxs,rfl⟩:=qc.1 h;simp only [RV]at hr;subst hr;obtain ⟨c',hc',hrc,hmp⟩:=hb r c hc;have hl:=qqh hxs ((hrc.drop off).take n);obtain ⟨e1,e2,e3⟩:=quK (k:=.i64) xs;refine ⟨.sl .shared false (reflagL qL ((c'.drop off).take n)),?_,?_⟩
    ·simp only [peekV,hc'];rw [if_pos ⟨qcX (qal hrc) (hmp hle.2),by rw [hrc.length];exact hle.1,by rw [hl,e1];exact e2,by rw [hl];exact e3⟩]
    ·simp only [RV,RTy];refine ⟨.shared,false,_,rfl,⟨λ_=>by simp [qaE],λ_=>rfl⟩,?_⟩;rw [hl,e1];exact qqc (o:=0) xs
   ·cases h
  ·cases h
 |.clp τ x,y,v,h,hr=>by
  simp only [peekTV,qb]at h;subst h;have h2:=RV.share (.clp τ x) v hr;simp only [RV]at hr;obtain ⟨f,l',rfl,_,_⟩:=hr;exact ⟨_,rfl,h2⟩
 |.room a s,y,v,h,hr=>by simp [peekTV]at h
 |.empty o,y,v,h,hr=>by
  simp only [peekTV,qb]at h;subst h;have h2:=RV.share (.empty o) v hr;simp only [RV]at hr;obtain ⟨f,c,rfl,_⟩:=hr;exact ⟨_,rfl,h2⟩
 |.agg l,y,v,h,hr=>by
  simp only [peekTV]at h;obtain ⟨m,hm,rfl⟩:=qc.1 h;simp only [RV]at hr;obtain ⟨l',rfl,hl⟩:=hr;obtain ⟨u,hu,hru⟩:=peekTL_ok hb l m l' hm hl;exact ⟨.agg u,by simp only [peekV,hu,qi],by simp only [RV];exact ⟨u,rfl,hru⟩⟩
 |.tuple l,y,v,h,hr=>by
  simp only [peekTV]at h;obtain ⟨m,hm,rfl⟩:=qc.1 h;simp only [RV]at hr;obtain ⟨l',rfl,hl⟩:=hr;obtain ⟨u,hu,hru⟩:=peekTL_ok hb l m l' hm hl;exact ⟨.tuple u,by simp only [peekV,hu,qi],by simp only [RV];exact ⟨u,rfl,hru⟩⟩
 |.fn g a b,y,v,h,hr=>by
  simp only [peekTV]at h;split at h
  ·rename_i p q hp hq;simp only [qb]at h;subst h;simp only [RV]at hr;obtain ⟨a',b',rfl,h1,h2⟩:=hr;obtain ⟨u,hu,hru⟩:=peekTL_ok hb a p a' hp h1;obtain ⟨w,hw,hrw⟩:=peekTL_ok hb b q b' hq h2;exact ⟨.fn g u w,by simp only [peekV,hu,hw],by simp only [RV];exact ⟨u,w,rfl,hru,hrw⟩⟩
  ·cases h
 |.ptr r off,y,v,h,hr=>by
  simp only [peekTV]at h;split at h
  ·rename_i c hc;split at h
   ·rename_i hle;simp only [qb]at h;subst h;simp only [RV]at hr;subst hr;obtain ⟨c',hc',hrc,hmp⟩:=hb r c hc;refine ⟨.cptr .shared (reflagL qL (c'.drop off)),?_,?_⟩
    ·simp only [peekV,hc'];rw [if_pos ⟨qcX (qal hrc) (hmp hle.2),by rw [hrc.length];exact hle.1⟩]
    ·simp only [RV];exact ⟨.shared,_,rfl,by simp,λ_=>rfl,RVL.share _ _ (hrc.drop off)⟩
   ·cases h
  ·cases h
 |.cptr _ cs,y,v,h,hr=>by
  simp only [peekTV,qb]at h;subst h;simp only [RV]at hr;obtain ⟨f,l',rfl,_,_,hl⟩:=hr;refine ⟨.cptr .shared (reflagL qL l'),rfl,?_⟩;simp only [RV];exact ⟨.shared,_,rfl,by simp,λ_=>rfl,RVL.share _ _ hl⟩
 |.iface t x,y,v,h,hr=>by
  simp only [peekTV]at h;obtain ⟨m,hm,rfl⟩:=qc.1 h;simp only [RV]at hr;obtain ⟨l',rfl,hl⟩:=hr;obtain ⟨u,hu,hru⟩:=peekTV_ok hb x m l' hm hl;exact ⟨.iface t u,by simp only [peekV,hu,qi],by simp only [RV];exact ⟨u,rfl,hru⟩⟩
theorem peekTL_ok{bt:Root->Option (List TV)}{bx:Root->Option (List V)}(hb:∀r c,bt r=some c->∃c',bx r=some c'/\RVL c c'/\(r.slot<16384->qfP c'=false)):∀(l m:List TV) (l':List V),peekTL bt l=some m->RVL l l'->∃u,peekL bx l'=some u/\RVL m u
 |[],m,l',h,hr=>by
  simp only [peekTL,qb]at h;subst h;simp only [RVL]at hr;subst hr;exact ⟨[],rfl,q6⟩
 |x::l,m,l',h,hr=>by
  simp only [peekTL]at h;split at h
  ·rename_i p q hp hq;simp only [qb]at h;subst h;simp only [RVL]at hr;obtain ⟨v,vs,rfl,h1,h2⟩:=hr;obtain ⟨u,hu,hru⟩:=peekTV_ok hb x p v hp h1;obtain ⟨w,hw,hrw⟩:=peekTL_ok hb l q vs hq h2;exact ⟨u::w,by simp only [peekL,hu,hw],qx.2 ⟨hru,hrw⟩⟩
  ·cases h
end
theorem qyJ{l:List V}(h:∀x∈l,x.qb9=true):mineL l=true:=by
 induction l with
 |nil=>rfl
 |cons x l ih=>simp only [mineL,qe];exact ⟨h x (by simp),ih λy hy=>h y (by simp [hy])⟩
theorem qli:∀(τ:Ty) (o:Nat) (x:τ.den) (v:V),qpY τ o=true->RTy τ o x v->v.qb9=true
 |.int _,o,x,v,hm,h=>by simp only [RTy]at h;subst h;rfl
 |.bool,o,x,v,hm,h=>by simp only [RTy]at h;subst h;rfl
 |.str,o,x,v,hm,h=>by simp only [RTy]at h;subst h;rfl
 |.flt,o,x,v,hm,h=>by simp only [RTy]at h;obtain ⟨b9,rfl,h9⟩:=h;rfl
 |.cx,o,x,v,hm,h=>by simp only [RTy]at h;obtain ⟨a9,b9,rfl,h8,h9⟩:=h;rfl
 |.err,o,x,v,hm,h=>by simp only [RTy]at h;rcases h with ⟨_,rfl⟩|⟨_,t9,rfl⟩<;>rfl
 |.nsl _,o,x,v,hm,h=>by simp [qpY]at hm
 |.mset _,o,x,v,hm,h=>by simp [qpY]at hm
 |.sl t,o,x,v,hm,h=>by
  simp only [qpY,qe]at hm;simp only [RTy]at h;obtain ⟨f,c,l',rfl,hf,hall⟩:=h;simp only [V.qb9,qe,decide_eq_true_eq];refine ⟨hf.own hm.1,qyJ λy hy=>?_⟩;obtain ⟨a,_,ha⟩:=qck hall y hy;exact qli t _ a y hm.2 ha
 |.unit,o,x,v,hm,h=>by simp only [RTy]at h;subst h;rfl
 |.pair a b,o,x,v,hm,h=>by
  simp only [qpY,qe]at hm;simp only [RTy]at h;obtain ⟨v1,l,rfl,h1,h2⟩:=h;have e1:=qli a o x.1 v1 hm.1 h1;have e2:=qli b o x.2 _ hm.2 h2;simp only [V.qb9]at e2 ⊢;simp only [mineL,qe];exact ⟨e1,e2⟩
mutual
theorem RV.qb9:∀(x:TV) (v:V),x.qb9=true->RV x v->v.qb9=true
 |.any _,v,hm,hr=>by simp [TV.qb9]at hm
 |.val w,v,hm,hr=>by simp only [RV]at hr;subst hr;rfl
 |.t τ o x,v,hm,hr=>by simp only [RV]at hr;exact qli τ o x v (by simpa only [TV.qb9]using hm) hr
 |.clp τ x,v,hm,hr=>by simp [TV.qb9]at hm
 |.room a s,v,hm,hr=>by simp [TV.qb9]at hm
 |.empty o,v,hm,hr=>by
  simp only [TV.qb9]at hm;simp only [RV]at hr;obtain ⟨f,c,rfl,hf⟩:=hr;simp only [V.qb9,qe,decide_eq_true_eq];exact ⟨hf.own hm,rfl⟩
 |.agg l,v,hm,hr=>by
  simp only [TV.qb9]at hm;simp only [RV]at hr;obtain ⟨l',rfl,hl⟩:=hr;simp only [V.qb9];exact RVL.qb9 l l' hm hl
 |.tuple l,v,hm,hr=>by
  simp only [TV.qb9]at hm;simp only [RV]at hr;obtain ⟨l',rfl,hl⟩:=hr;simp only [V.qb9];exact RVL.qb9 l l' hm hl
 |.fn g a b,v,hm,hr=>by
  simp only [TV.qb9,qe]at hm;simp only [RV]at hr;obtain ⟨a',b',rfl,h1,h2⟩:=hr;simp only [V.qb9,qe];exact ⟨RVL.qb9 a a' hm.1 h1,RVL.qb9 b b' hm.2 h2⟩
 |.ptr ..,v,hm,hr=>by simp [TV.qb9]at hm
 |.mref _,v,hm,hr=>by simp [TV.qb9]at hm
 |.bsl ..,v,hm,hr=>by simp [TV.qb9]at hm
 |.yld _,v,hm,hr=>by simp [TV.qb9]at hm
 |.lp ..,v,hm,hr=>by simp [TV.qb9]at hm
 |.cptr ..,v,hm,hr=>by simp [TV.qb9]at hm
 |.iface t x,v,hm,hr=>by
  simp only [TV.qb9]at hm;simp only [RV]at hr;obtain ⟨y,rfl,hy⟩:=hr;simp only [V.qb9];exact RV.qb9 x y hm hy
theorem RVL.qb9:∀(l:List TV) (l':List V),mineTL l=true->RVL l l'->mineL l'=true
 |[],l',hm,hr=>by simp only [RVL]at hr;subst hr;rfl
 |x::l,l',hm,hr=>by
  simp only [mineTL,qe]at hm;simp only [RVL]at hr;obtain ⟨v,m,rfl,h1,h2⟩:=hr;simp only [mineL,qe];exact ⟨RV.qb9 x v hm.1 h1,RVL.qb9 l m hm.2 h2⟩
end
end
end Go.Tx
end
