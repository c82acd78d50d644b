/-
  ONE LAW OF A CHAPTER: its program side is run by an interpreter that is proved sound; what it computes is shown to be what the law says. No conditions. Part 8 of 8.
-/
import Derived.Test.YteiciemjanhdcaaGreatDoorMsdg
import Derived.Test.YteiciemjanhdcaaGreatDoorTie
import Derived.Test.YteiciemjanhdcaaGreatDoorCards
import Derived.Lay
import Derived.SevenTiedAt
set_option linter.unusedSimpArgs false
set_option linter.unusedVariables false
set_option linter.unnecessarySimpa false
section
namespace Go.Proofs.YteiciemjanhdcaaGreatDoor.Mat
open Go Go.Ab Go.Tx Go.Dec Go.Proofs.YteiciemjanhdcaaGreatDoor
structure SqB (r:Rg) (t d0 cur:List G) (i:Nat):Prop where
 rd:RdB r t cur
 off:∀k,k<r.2.1.length->(-(r.2.2.2.2.1*(i:Int))<=(cur.getD k g0).1-(d0.getD k g0).1/\(cur.getD k g0).1-(d0.getD k g0).1<=r.2.2.2.2.1*(i:Int))/\(-(r.2.2.2.2.1*(i:Int))<=(cur.getD k g0).2.1-(d0.getD k g0).2.1/\(cur.getD k g0).2.1-(d0.getD k g0).2.1<=r.2.2.2.2.1*(i:Int))
theorem SqB.next{r:Rg}{t d0 cur:List G}{i:Nat}(h:SqB r t d0 cur i)(hz:qfO (qiV r t cur) r.2.1.length=0):SqB r t d0 (qiV r t cur) (i+1):=by
 refine ⟨⟨h.rd.rig,h.rd.tz,hz⟩,λk hk=>?_⟩;obtain ⟨c,c1,c2,e⟩:=qC6 h.rd hk;have ho:=h.off k hk;rw [e];unfold qpj;simp only
 have hm:r.2.2.2.2.1*((i+1:Nat):Int)=r.2.2.2.2.1*(i:Int)+r.2.2.2.2.1:=by rw [Int.natCast_add,Int.mul_add];simp
 rw [hm];omega
theorem qAv{a:Int}(h : -9223372036854775807<=a/\a<=9223372036854775807):qdv a=some (a.natAbs:Int):=by
 unfold qdv;rw [wid (by omega) (by omega)];congr 1
 omega
theorem qwZ(r:Rg)(l:List G×List G×Unit)(x:Int×Int×Unit)(hd:r.2.2.2.1<=9223372036854775807):qdn r l x=some true:=by
 unfold qdn;rw [show qgk=some true from rfl,qb,Bool.not_true,cond_false];by_cases c1:(r.1.length:Int) > 3
 ·rw [decide_eq_true c1,cond_true,qb,cond_true]
 rw [decide_eq_false c1,cond_false,qyr hd,qb];by_cases hE:qrS r l.1 l.2.1=0
 case neg=>rw [decide_eq_false hE,Bool.not_false,cond_true,qb,cond_true]
 rw [decide_eq_true hE,Bool.not_true,cond_false,qc3,qb];by_cases c2:0<=x.1/\x.1<=6
 case neg=>rw [decide_eq_false c2,Bool.not_false,cond_true,qb,cond_true]
 rw [decide_eq_true c2,Bool.not_true,cond_false,qc3,qb];by_cases c3:0<=x.2.1/\x.2.1<=10000
 case neg=>rw [decide_eq_false c3,Bool.not_false,qb,cond_true]
 rw [decide_eq_true c3,Bool.not_true,qb,cond_false];have hB:=RdB.of hE;have hr:=qoV hB.rig;obtain ⟨m1,m3,mR,mB⟩:=qmz hr.1;have hnl:=hr.2.2.1;have hp:r.1.length<=1000000000:=by omega
 have hpr:∀y∈r.1,y.length<=1000000000:=λy hy=>by have:=mR.2 y hy;omega
 have hM2:=(qmz (qv7 hr.2.1).1)
 have hm:r.2.1.length<=1000000000:=by omega
 have hmr:∀y∈r.2.1,y.length<=1000000000:=λy hy=>by have:=hM2.2.2.1.2 y hy;omega
 have tl:=(qd7 hB.tz).1;have dl:=(qd7 hB.dz).1;have hst:=qrQ hB.rig;have hcp:qb4 r=some r:=qwU hp hpr hm hmr;have hct:qO l.1=some l.1:=qcf (by omega);have hcd:qO l.2.1=some l.2.1:=qcf (by omega);rw [hcp,qb,hct,qb,hcd,qb,qpD hp hpr hm hmr hd (by omega) (by omega),qb,if_pos hE,if_pos (show 0<=x.1/\x.1<=20 by omega)];obtain ⟨k,hk⟩:∃k:Nat,x.1=(k:Int):=⟨x.1.toNat,by omega⟩
 rw [hk,Int.toNat_natCast];cases hM:qjE r l.1 k l.2.1 with
 |none=>rfl
 |some L =>
 obtain ⟨hLl,hLb⟩:=qzA (by omega) hM;simp only [decide_true,Bool.not_true,cond_false];rw [decide_eq_true (show (L.length:Int)=(k:Int) by omega),Bool.not_true,cond_false,qb];have hseq:∀i,i<k->∃a,L[i]?=some a/\a=qiV r l.1 ((l.2.1::L).getD i [])/\qfO a r.2.1.length=0/\(l.2.1::L).getD (i+1) []=a:=λi hi=>by
  have ha:L[i]?=some L[i]:=by simp [hLl,hi]
  obtain ⟨e1,e2⟩:=qtY r l.1 hM i _ ha;exact ⟨_,ha,e1,e2,by simp [hLl,hi]⟩
 have sq0:SqB r l.1 l.2.1 l.2.1 0:=⟨hB,λk hk=>by simp⟩
 have main:∀(K:List G×Int->Option ((List G×Int)⊕(Unit⊕Bool))),
   (∀(i:Nat) cur a,i<k->SqB r l.1 l.2.1 cur i->L[i]?=some a->a=qiV r l.1 cur->qfO a r.2.1.length=0->K (cur,(i:Int))=some (.inl (a,((i+1:Nat):Int)))) ->
   (∀cur,K (cur,(k:Int))=some (.inr (.inl ())))->qab K (l.2.1,0)=some (.inl ()):=by
  intro K h1 h2;refine Ok.eq (qbb k (λi (s:List G×Int)=>s=((l.2.1::L).getD i [],(i:Int))/\SqB r l.1 l.2.1 ((l.2.1::L).getD i []) i) _ ⟨rfl,sq0⟩ ?_);rintro i s hi ⟨rfl,hs⟩;by_cases hlt:i<k
  ·obtain ⟨a,ha,e1,e2,e3⟩:=hseq i hlt;rw [h1 i _ a hlt hs ha e1 e2,qaE,e3];refine ⟨hlt,rfl,?_⟩;rw [e1]at e2 ⊢;exact hs.next e2
  ·obtain rfl:i=k:=by omega
   rw [h2,qar]
 rw [main _ (λi cur a hi hs ha ea hz=>?_) (λcur=>?_)]
 ·rw [qb,Sum.elim_inl,qb,qb,qb,qsq hp hpr hm hmr hd (by omega) (by omega),qb,if_pos hE,if_pos c3];rcases qql r l.1 x.2.1 20 l.2.1 (by omega)with h|h|⟨j,h1,h2,h3⟩
  ·rw [h];rfl
  ·rw [h];rfl
  ·rw [h2];simp only [decide_true,Bool.not_true,cond_false];rw [qc3,decide_eq_true (show (0:Int)<=((20-20+j:Nat):Int)/\((20-20+j:Nat):Int)<=20 by omega),qb,Bool.not_true,cond_false];have hiter:∀i,i<=k->qfO (iter r l.1 i l.2.1) r.2.1.length=0:=λi hi=>by
    rw [<- qrZ r l.1 hM i hi];cases i with
    |zero=>exact hB.dz
    |succ i =>
     obtain ⟨a,_,_,e2,e3⟩:=hseq i (by omega);rw [e3];exact e2
   have fin:∀(K:Int->Option (Int⊕(Unit⊕Bool))),(∀i:Nat,i<=j->i<=k->K (i:Int)=some (.inl ((i:Int)+1)))->(∀i:Nat,¬ (i<=j/\i<=k)->K (i:Int)=some (.inr (.inl ())))->qab K 0=some (.inl ()):=by
    intro K g1 g2;refine Ok.eq (qbb (min j k+1) (λi (s:Int)=>s=(i:Int)) _ rfl ?_);rintro i s hi rfl;by_cases hlt:i<=j/\i<=k
    ·rw [g1 i hlt.1 hlt.2,qaE];exact ⟨by omega,by omega⟩
    ·rw [g2 i hlt,qar]
   rw [fin _ (λi i1 i2=>?_) (λi hi=>?_)]
   ·rfl
   ·rw [decide_eq_true (show (i:Int)<=((20-20+j:Nat):Int) by omega),cond_true,decide_eq_true (show (i:Int)<=(k:Int) by omega),qb,cond_true];have hu:(bif decide ((i:Int) > 0)then (idx L (w64 ((i:Int)-1))).bind λx55=>some x55 else some l.2.1)=some (iter r l.1 i l.2.1):=by
     rw [<- qrZ r l.1 hM i i2];cases i with
     |zero=>rfl
     |succ i =>
      obtain ⟨a,e1,_,_,e3⟩:=hseq i (by omega);rw [decide_eq_true (show ((i+1:Nat):Int) > 0 by omega),cond_true,wid (by omega) (by omega),show ((i+1:Nat):Int)-1=((i:Nat):Int) by omega,qaB e1,e3];rfl
    rw [hu,qb,qyg ⟨hB.rig,hB.tz,hiter i i2⟩ c3,qb,h3 i i1];have e:decide (i=j)=decide ((i:Int)=((20-20+j:Nat):Int)):=by
     by_cases c:i=j
     ·rw [decide_eq_true c,decide_eq_true (by omega)]
     ·rw [decide_eq_false c,decide_eq_false (by omega)]
    rw [e];rw [show ((decide ((i:Int)=((20-20+j:Nat):Int))==decide ((i:Int)=((20-20+j:Nat):Int))))=true by simp,Bool.not_true,cond_false,wid (by omega) (by omega)]
   ·by_cases c:(i:Int)<=((20-20+j:Nat):Int)
    ·rw [decide_eq_true c,cond_true,decide_eq_false (show ¬ (i:Int)<=(k:Int) by omega)];rfl
    ·rw [decide_eq_false c];rfl
 ·have e0:decide ((i:Int)<(L.length:Int))=true:=decide_eq_true (by omega);obtain ⟨v1,v2⟩:=qAY hs.rd.dz (by omega) (by omega);have cl:=(qd7 hs.rd.dz).1;have al:=(qd7 hz).1;have hlen:=qvT v1;have hcc:qO cur=some cur:=qcf (by omega);have hR:qcg r l.1 cur 1=some ([a],0):=by
   have hE2:qrS r l.1 cur=0:=by
    unfold qrS;rw [if_pos hB.rig,hnl,if_pos hB.tz];exact hs.rd.dz
   have:=qpD (t:=l.1) (d:=cur) hp hpr hm hmr hd (by omega) (by omega) 1;rw [if_pos hE2,if_pos (by omega)]at this;rw [this,show Int.toNat 1=0+1 from rfl,qiL,<- ea,if_pos hz];rfl
  simp only [e0,cond_true];rw [hcc,qb,qph (by omega) v1,qb,qqP (by omega),v2,qb];simp only [decide_true,Bool.not_true,cond_false];rw [qpC (by omega),qb];simp only [decide_true,Bool.not_true,qb,cond_false];rw [hR];simp only [qb,decide_true,Bool.not_true,cond_false,List.length_singleton,show decide (((1:Nat):Int)=1)=true from rfl];rw [show idx [a] 0=some a by simp [idx],qb,qaB ha,qb,qpC (by omega),qb];simp only [decide_true,Bool.not_true,cond_false,qb];rw [qjN (by omega),qb,dl,hz];simp only [decide_true,Bool.not_true,cond_false,qb];have inner:∀(K:Int->Option (Int⊕(Unit⊕((List G×Int)⊕(Unit⊕Bool))))),(∀q:Nat,q<r.2.1.length->K (q:Int)=some (.inl ((q:Int)+1)))->K ((r.2.1.length:Nat):Int)=some (.inr (.inl ()))->qab K 0=some (.inl ()):=by
   intro K g1 g2;refine Ok.eq (qbb r.2.1.length (λi (s:Int)=>s=(i:Int)) _ rfl ?_);rintro q s hq rfl;by_cases hlt:q<r.2.1.length
   ·rw [g1 q hlt,qaE];exact ⟨hlt,by omega⟩
   ·obtain rfl:q=r.2.1.length:=by omega
    rw [g2,qar]
  rw [inner _ (λq hq=>?_) ?_]
  ·rw [qb,Sum.elim_inl,qcf (by omega),qb,wid (by omega) (by omega)];rfl
  ·have e1:decide (((r.2.1.length:Nat):Int)<(cur.length:Int))=false:=decide_eq_false (by omega);simp only [e1,cond_false]
  ·have e1:decide ((q:Int)<(cur.length:Int))=true:=decide_eq_true (by omega);have qa:idx a (q:Int)=some (a.getD q g0):=qaB (qgc g0 (by omega));have qc:idx cur (q:Int)=some (cur.getD q g0):=qaB (qgc g0 (by omega));have qd:idx l.2.1 (q:Int)=some (l.2.1.getD q g0):=qaB (qgc g0 (by omega));obtain ⟨c,b1,b2,e⟩:=qC6 hs.rd hq;rw [<- ea]at e;have hn:=(hs.next (by rw [<- ea];exact hz)).off q hq;rw [<- ea]at hn;have hbd:=(qd7 hz).2 _ (qbj (d:=g0) (i:=q) (l:=a) (by omega));have hbc:=(qd7 hs.rd.dz).2 _ (qbj (d:=g0) (i:=q) (l:=cur) (by omega));have hbl:=(qd7 hB.dz).2 _ (qbj (d:=g0) (i:=q) (l:=l.2.1) (by omega));unfold Bd at hbd hbc hbl;have ea1:(a.getD q g0).1=c.1+(cur.getD q g0).1:=by rw [e];rfl
   have ea2:(a.getD q g0).2.1=c.2.1+(cur.getD q g0).2.1:=by rw [e];rfl
   have hmul:0<=r.2.2.2.2.1*((i+1:Nat):Int)/\r.2.2.2.2.1*((i+1:Nat):Int)<=1000*7:=⟨Int.mul_nonneg hst.1 (by omega),Int.mul_le_mul hst.2 (by omega) (by omega) (by omega)⟩
   have hw:w64 (w64 ((i:Int)+1)*r.2.2.2.2.1)=r.2.2.2.2.1*((i+1:Nat):Int):=by
    rw [wid (n:=(i:Int)+1) (by omega) (by omega),show ((i:Int)+1)*r.2.2.2.2.1=r.2.2.2.2.1*((i+1:Nat):Int) by rw [Int.mul_comm];rfl,wid (by omega) (by omega)]
   simp only [e1,cond_true,qa,qc,qd,qb];unfold qfr;simp only [qb,hw];rw [wid (n:=(a.getD q g0).1-(cur.getD q g0).1) (by omega) (by omega),wid (n:=(a.getD q g0).2.1-(cur.getD q g0).2.1) (by omega) (by omega),wid (n:=(a.getD q g0).1-(l.2.1.getD q g0).1) (by omega) (by omega),wid (n:=(a.getD q g0).2.1-(l.2.1.getD q g0).2.1) (by omega) (by omega),wid (n:=0-r.2.2.2.2.1) (by omega) (by omega)];rw [qc3,decide_eq_true (show 0-r.2.2.2.2.1<=(a.getD q g0).1-(cur.getD q g0).1/\(a.getD q g0).1-(cur.getD q g0).1<=r.2.2.2.2.1 by omega),qb,Bool.not_true,cond_false,
    qc3,decide_eq_true (show 0-r.2.2.2.2.1<=(a.getD q g0).2.1-(cur.getD q g0).2.1/\(a.getD q g0).2.1-(cur.getD q g0).2.1<=r.2.2.2.2.1 by omega),qb,Bool.not_true,cond_false,
    qAv (by omega),qb,decide_eq_false (show ¬ ((((a.getD q g0).1-(l.2.1.getD q g0).1).natAbs:Int) > r.2.2.2.2.1*((i+1:Nat):Int)) by omega),cond_false,
    qAv (by omega),qb,decide_eq_false (show ¬ ((((a.getD q g0).2.1-(l.2.1.getD q g0).2.1).natAbs:Int) > r.2.2.2.2.1*((i+1:Nat):Int)) by omega),qb,cond_false,wid (by omega) (by omega)]
 ·have e0:decide ((k:Int)<(L.length:Int))=false:=decide_eq_false (by omega);simp only [e0,cond_false]
end Go.Proofs.YteiciemjanhdcaaGreatDoor.Mat
end
section
namespace Go.Proofs.YteiciemjanhdcaaGreatDoor.topDriveBounded
open Go Go.Ab Go.Tx Go.ChangeShapes Go.WideShapes Go.ChangeAt Go.RowKit
theorem true_(x:denP ([(.pair (.sl (.sl (.pair I (.pair I .unit)))) (.pair (.sl (.sl (.pair I (.pair I .unit)))) (.pair I (.pair I (.pair I .unit))))),(.pair (.sl (.pair I (.pair I .unit))) (.pair (.sl (.pair I (.pair I .unit))) .unit)),(.pair I (.pair I .unit))].map Pm.ty))(hx:qEy maxLen [(.pair (.sl (.sl (.pair I (.pair I .unit)))) (.pair (.sl (.sl (.pair I (.pair I .unit)))) (.pair I (.pair I (.pair I .unit))))),(.pair (.sl (.pair I (.pair I .unit))) (.pair (.sl (.pair I (.pair I .unit))) .unit)),(.pair I (.pair I .unit))] x):qbu.F x=some true:=Mat.qwZ x.1 x.2.1 x.2.2 hx.1.2.2.2.1.2
set_option maxRecDepth 100000 in
theorem contract(H:Type)(enc:TypeId×Value->H)(W:World)(base:Nat)(args:Array Value)(ds gs:List (DataW H))(before:List MemPlace)
  (hval:∀(j:Nat) t v,Tryz.f3.params[j]?=some t->args[j]?=some v->Value.okWide Tryz.prog W .any base t v)
  (hW:DataW.Whole enc Tryz.prog Tryz.f3.params.toList Rows.topDriveBoundedSpec.vars false W args.toList ds gs before) (hgl:qhG W (cx0 W)) :
  Calls Tryz.prog 3 args W λe W'=>∃v,e=.returned v/\Rows.topDriveBoundedSpec.post enc Tryz.prog Tryz.f3 false true false false W args v W' :=
 qtg (τs:=[(.pair (.sl (.sl (.pair I (.pair I .unit)))) (.pair (.sl (.sl (.pair I (.pair I .unit)))) (.pair I (.pair I (.pair I .unit))))),(.pair (.sl (.pair I (.pair I .unit))) (.pair (.sl (.pair I (.pair I .unit))) .unit)),(.pair I (.pair I .unit))]) (ts:=[26,29,30]) (tb:=4) (F:=qbu.F) follows qdJ qxi qBA Tryz.func3 (by kernel_rfl) (by kernel_rfl) (by kernel_rfl) (by kernel_rfl) (by kernel_rfl) (by kernel_rfl) Tryz.underlying4 qia true_ rfl
  (λH ds h=>by
   match ds,h with
   |[d1,d2,d3],_=>rfl) H enc W base args ds gs before hval hW hgl
set_option maxRecDepth 100000 in
theorem lifted(os:Os)(started:os.Started)(H:Type)(enc:TypeId×Value->H) :
  ReturnsInHanded {} Tryz.checked os 3 .any (λw args=>(Rows.topDriveBoundedSpec.pre enc Tryz.prog Tryz.f3 Rows.topDriveBoundedRow.domain false w args/\laidMetH Tryz.prog qmV w)/\sizedMet enc Tryz.prog Tryz.f3 (OpenSpec.ofChange Rows.topDriveBoundedSpec) false w args)
   (Rows.topDriveBoundedSpec.post enc Tryz.prog Tryz.f3 false true false false):=by
 refine qeS (C:=Tryz.checked) (X:=λw _=>laidMetH Tryz.prog qmV w) (λ_ _ _ hh h=>h.of_heap hh) own started (by kernel_rfl) Tryz.func3
  (ChangeSpec.witness_shaped (enc:=enc) (C:=Tryz.checked) (os:=os) (X:=λw _=>laidMetH Tryz.prog qmV w) false (World.laidAll Tryz.prog os qmV) #[.agg #[.slice none 0 0,.slice none 0 0,.int .i64 0,.int .i64 0,.int .i64 0],.agg #[.slice none 0 0,.slice none 0 0],.agg #[.int .i64 0,.int .i64 0]] 8 (World.laidAll_os _ _ _)
   (World.shaped_of_ZipB (by kernel_rfl) (by kernel_rfl)) (by kernel_rfl) (by kernel_rfl) (by kernel_rfl)
   (by rw [MakeChecks.laidMetH_plain _ _ _ (by kernel_rfl)];exact laidMet_laidAll _ (by kernel_rfl) (by kernel_rfl))) ?_
 intro W base args ds gs before hval hW hS hL;exact contract H enc W base args ds gs before hval hW (qDB hS hL)
theorem said:Rows.TopDriveBoundedSaid :=
 OpenClaim.holds_of_wide 3 Tryz.f3 rfl rfl rfl rfl rfl rfl rfl ⟨rfl,rfl,rfl,rfl,rfl⟩ rfl rfl rfl rfl rfl (by kernel_rfl) Tryz.func3 (by kernel_rfl)
  (of_decide_eq_true (by kernel_rfl)) (by unfold Func.isWrapper;first|(rw [if_pos (by decide +kernel)];kernel_rfl)|(rw [if_neg (by decide +kernel)];exact ⟨rfl,rfl⟩))
  (λos started H enc _=>lifted os started H enc)
theorem proved:Rows.TopDriveBoundedCardSaid :=
 Claim7.holds_tied_plain_at .later [] [.data, .data, .data, .data, .sentinel, .sentinel, .pinned] true (true, "b047576e82b3618035bcd12881f37f9051199a02151335b10545a8d28bc60f06") true
  said (λ_ h=>by cases h) (by kernel_rfl) (λ_ h=>by cases h) topDriveBounded_row_tie rfl ⟨rfl,rfl⟩ (by kernel_rfl) rfl
  (λf fn hf hfn=>by
   obtain rfl : f = 3 := Option.some.inj ((show Tryz.prog.funcNamed "ductility/ductilitytop.TopDriveBounded" = some 3 by kernel_rfl).symm.trans hf) |>.symm
   obtain rfl:fn=Tryz.f3:=(Option.some.inj (Tryz.func3.symm.trans hfn)).symm;exact ⟨by kernel_rfl,λj t ht=>by
    have hp:Tryz.f3.params=#[26,29,30]:=by kernel_rfl
    rw [hp]at ht;rcases j with _|_|_|j
    ·simp at ht;subst ht;exact (show Tryz.prog.wantsStandIn 26=false by kernel_rfl)
    ·simp at ht;subst ht;exact (show Tryz.prog.wantsStandIn 29=false by kernel_rfl)
    ·simp at ht;subst ht;exact (show Tryz.prog.wantsStandIn 30=false by kernel_rfl)
    ·simp at ht⟩)
  (by kernel_rfl)
end Go.Proofs.YteiciemjanhdcaaGreatDoor.topDriveBounded
end
