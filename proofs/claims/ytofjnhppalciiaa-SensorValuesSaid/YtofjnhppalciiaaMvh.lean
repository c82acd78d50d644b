/-
  ONE LAW OF A CHAPTER: its program side is run by an interpreter that is proved sound; what it computes is shown to be what the law says. No conditions. Part 8 of 8.
-/
import Derived.Test.YtofjnhppalciiaaMvg
import Derived.Test.YtofjnhppalciiaaRows
import Derived.WalkKit
import Derived.Test.YtofjnhppalciiaaProg
import Derived.KernelRfl
set_option linter.unusedSimpArgs false
set_option linter.unusedVariables false
set_option linter.unnecessarySimpa false
section
namespace Go.Tx
open Go Go.Ab Go.RowKit Go.ChangeShapes Go.WideShapes Go.Deep
section
variable {H:Type} {enc:TypeId × Value->H} {P:Program}
theorem qpB{f:Func}{s:ChangeSpec}{apart fresh handsOn again:Bool}{W W':World}{args:Array Value}{v:Value}{ds gs:List (DataW H)}{before pa pv:List MemPlace}
  (hW:DataW.Whole enc P f.params.toList s.vars apart W args.toList ds gs before)
  (hres:∀(b:Nat) (sp:Nat->Bool) (hd:Bool),DataW.TrodAll enc P W' b sp hd f.resultTypes.toList (v.resultList f.resultTypes.size) (s.fn H (ds++gs)).results [])
  (hargs:∀sp:Nat->Bool,(∀p∈before,sp p.block=true)->DataW.TrodAll enc P W' 0 sp true f.params.toList args.toList (s.fn H (ds++gs)).args pa)
  (hvars:∀sp:Nat->Bool,(∀p∈before,sp p.block=true)->DataW.TrodVars enc P W' sp s.vars (s.fn H (ds++gs)).vars pv)
  (hps:before=pa++pv) (hb:Below W.heap.size W W')
  (hok:∀(j:Nat) (t:TypeId) (r:Value),f.resultTypes[j]?=some t->(v.resultList f.resultTypes.size)[j]?=some r->Value.okWide P W' .any 0 t r) :
  s.post enc P f apart fresh handsOn again W args v W':=by
 have hlt:∀p∈before,p.block<W.heap.size:=λp hp=>hW.lt p hp;have hold:∀p∈before,(λb=>decide (b<W.heap.size)) p.block=true:=λp hp=>by simpa using hlt p hp
 refine ⟨ds,gs,before,[],pa,pv,hW,hres _ _ _,hargs _ hold,hvars _ hold,World.keptBut_mono (λp hp=>⟨hp,?_⟩) (hb.frame (·∈before)),λ_=>?_⟩
 ·rw [hps,qj]at hp;exact Or.inr hp
 ·obtain ⟨_,_,_,_,_,hz,hn⟩:=hW;refine ⟨hok,_,_,([]++pa)++pv,⟨[]++pa,pv,trodAll_append (hargs _ (λ_ _=>rfl)) (hres _ _ _),hvars _ (λ_ _=>rfl),rfl,?_,?_⟩,?_⟩
  ·intro b off hp;have hin:MemPlace.cell b off∈before:=by rw [hps];simpa using hp
   rw [hb.frozen (hlt _ hin)];exact hz b off hin
  ·intro ha;have:=hn ha;rw [hps]at this;simpa using this
  ·intro p hp _;rw [hps];simpa using hp
theorem qm8:∀{ts:List TypeId} {vs:List Value} {ds:List (DataW H)} {ps:List MemPlace} {w:World} {b:Nat} {sp:Nat->Bool} {hd:Bool},DataW.TrodAll enc P w b sp hd ts vs ds ps->ds.length=ts.length
 |[],[],[],_,_,_,_,_,_=>rfl
 |[],[],d::ds,_,_,_,_,_,h=>h.elim
 |[],v::vs,_,_,_,_,_,_,h=>by cases h
 |t::ts,[],_,_,_,_,_,_,h=>by cases h
 |t::ts,v::vs,[],_,_,_,_,_,h=>by cases h
 |t::ts,v::vs,d::ds,ps,w,b,sp,hd,⟨p,q,h1,h2,e⟩=>by simp [qm8 h2]
end
theorem qBG{H:Type}:Sm (H:=H) maxLen (λ_=>True) where
 slice:=λes sp _ h=>⟨h,λ_ _=>trivial⟩
 agg:=λ_ _ _ _=>trivial
 str:=λ_ _ h=>h
theorem qq0{P:Program}{H0:Hints}{lib:FuncId->Option (List V->Option V)}(hm:P.follows .mixedOrders=true)(qbO:qh1 P H0)
  (hlib:∀g h args r,lib g=some h->h args=some r->qaS P g args [] r []) (hl:laidOutB P=true) {k:FuncId} {fn:Func} (hfn:P.funcs[k]?=some fn) (hbody:fn.body.isSome=true)
  {ts:List TypeId} {τs:List Ty} (hps:fn.params.toList=ts) (hts:ts.mapM (qzR P)=some τs) (hok:ts.all (okT P 10)=true) (hrd:ts.all (λt=>P.readableRec t&&decide (t<P.types.size))=true)
  {tb:TypeId} (hres:fn.resultTypes=#[tb]) (htb:P.underlying tb=some .bool) {F:denP (τs.map .ty)->Option Bool}
  (he:qN P H0 lib ⟨k,τs.map .ty,[(.bool,0)],F⟩) (hF:∀x,qA4 maxLen τs x->F x=some true)
  {s:ChangeSpec} (hv:s.vars=[]) (hs:∀(H:Type) (ds:List (DataW H)),ds.length=ts.length->s.fn H ds={results:=[.lit (.bool true)],args:=ds})
  (H:Type) (enc:TypeId×Value->H) (W:World) (base:Nat) (args:Array Value) (ds gs:List (DataW H)) (before:List MemPlace)
  (hval:∀(j:Nat) t v,fn.params[j]?=some t->args[j]?=some v->Value.okWide P W .any base t v)
  (hW:DataW.Whole enc P fn.params.toList s.vars false W args.toList ds gs before) :
  Calls P k args W λe W'=>∃v,e=.returned v/\s.post enc P fn false true false false W args v W':=by
 have hW':=hW;have hlt:∀p∈before,p.block<W.heap.size:=λp hp=>hW.lt p hp;obtain ⟨p,q,hA,hV,rfl,hfz,hnd⟩:=hW;rw [hv]at hV;obtain ⟨rfl,rfl⟩:=trodVars_none hV;rw [hps]at hA;have hlen:=qm8 hA;have hval':∀(j:Nat) t v,ts[j]?=some t->args.toList[j]?=some v->Value.okWide P W .any base t v:=λj t v h1 h2 =>
  hval j t v (by rw [<- hps]at h1;simpa using h1) (by simpa using h2)
 refine (qwH hm qbO hlib hl qBG hfn hbody hts hok he hF hval' hA (λ_ _=>trivial) (λx hx=>by simp [qAX]at hx)).mono λe W' ⟨h1,hb⟩=>?_;subst h1;have hfs:s.fn H (ds++[])={results:=[.lit (.bool true)],args:=ds}:=by rw [List.append_nil];exact hs H ds hlen
 refine ⟨_,rfl,qpB (pa:=p) (pv:=[]) hW' ?_ ?_ ?_ rfl hb ?_⟩
 ·intro b sp hd;rw [hfs,hres];exact trodAll_mk1 (shut_bool htb true)
 ·intro sp hsp;rw [hfs,hps];exact qjv hl hb hrd hA (λx hx=>hlt x (by simpa using hx)) sp (λx hx=>hsp x (by simpa using hx))
 ·intro sp _;rw [hfs,hv];rfl
 ·exact ok_one hres rfl (okWide_bool_mk htb true)
end Go.Tx
namespace Go.Proofs.Ytofjnhppalciiaa
open Go Go.Ab Go.Tx
theorem own:ownKnob Try.prog.godebug=none:=by kernel_rfl
theorem qyA:laidOutB Try.prog=true:=by kernel_rfl
end Go.Proofs.Ytofjnhppalciiaa
end
section
namespace Go.Proofs.Ytofjnhppalciiaa
open Go Go.Ab Go.Tx
section
set_option maxRecDepth 100000
noncomputable section
@[reducible] def I:Ty:=.int .i64
@[reducible] def w64 (n:Int):Int:=IntKind.wrap .i64 n
def qyD:List (List Tmp×FuncId×Kind×Join)->List Tmp->FuncId->Kind->Option Join
 |[],_,_,_=>none
 |(c,f,k,j)::l,c',f',k'=>if f=f' then (if k=k' then (if c=c' then some j else qyD l c' f' k')else qyD l c' f' k')else qyD l c' f' k'
def qr6:Nat:=6
def qfl(js:List (List Tmp×FuncId×Kind×Join))(inl:List (List Tmp×FuncId×Tmp)):TH where
 lib:=λg=>decide (g=qr6)
 join:=qyD js
 inl:=λc f d=>inl.any λ(c',f',d')=>decide (f=f')&&decide (d=d')&&decide (c=c')
def Lb:FuncId->Option (List V->Option V):=λg=>if g=qr6 then some (λargs=>match args with
  |[]=>some (.val (.bool true))
  |_=>none)else none
theorem hJ{js:List (List Tmp×FuncId×Kind×Join)}{inl:List (List Tmp×FuncId×Tmp)}:∀g,(qfl js inl).lib g=false->Lb g=none:=λg h=>by
 simp only [qfl,decide_eq_false_iff_not]at h;simp [Lb,h]
def qih:Option Bool:=some true
def qc2:Entry:=⟨6,[],[(.bool,0)],λ_=>qih⟩
theorem qpo:qN Try.prog Hn.hints Lb qc2:=λx y h vs hv=>by
 obtain rfl:true=y:=Option.some.inj h;simp only [qc2,qaF,RVL]at hv;subst hv;refine ⟨.val (.bool true),⟨1,λm hm=>?_⟩,by simp [qpw,qc2,ofL,qcd,ofTy,RV,RTy]⟩;obtain ⟨m',rfl⟩:∃m',m=m'+1:=⟨m-1,by omega⟩
 simp [qkV,Lb,qr6,qc2]
def qee(a0:(List Int)):Option Bool :=
 some (decide ((a0.length:Int)<=62))
def qbs:Entry:=⟨21,[.ty (.sl I)],[(.bool,0)],λx=>qee x⟩
def qlX:TH:=qfl [] []
theorem ql5(x:denP qbs.ps):fnT Try.prog Hn.hints qlX (qea []) 40 21 (qaF qbs.ps x) qbs.rs=qbs.F x:=by kernel_rfl
theorem qmo:qN Try.prog Hn.hints Lb qbs:=qJ qY hJ 40 _ _ _ _ ql5
def qbh(a0:(List Int)):Option (List Int) :=
 (app [] a0).bind λx1 =>
 some x1
def qbr:Entry:=⟨23,[.ty (.sl I)],[((.sl I),1)],λx=>qbh x⟩
def qlW:TH:=qfl [] []
theorem ql4(x:denP qbr.ps):fnT Try.prog Hn.hints qlW (qea []) 40 23 (qaF qbr.ps x) qbr.rs=qbr.F x:=by kernel_rfl
theorem qmm:qN Try.prog Hn.hints Lb qbr:=qJ qY hJ 40 _ _ _ _ ql4
def qaf(a0:Bool)(a1:Int):Option Int :=
 bif a0 then
  some 0
 else
  some a1
def qak:Entry:=⟨58,[.ty .bool,.ty I],[(I,0)],λx=>qaf x.1 x.2⟩
def ql2:TH:=qfl [] []
theorem qma(x:denP qak.ps):fnT Try.prog Hn.hints ql2 (qea []) 40 58 (qaF qak.ps x) qak.rs=qak.F x:=by kernel_rfl
theorem qcc:qN Try.prog Hn.hints Lb qak:=qJ qY hJ 40 _ _ _ _ qma
def qat(a0:(List Int)):Option Int :=
 (qaP (λ(s2:Int) =>
   bif decide (s2<(a0.length:Int))then
    (idx a0 s2).bind λx3 =>
    bif !(decide (x3=0))then
     some (.inr (.inr x3))
    else
     some (.inl (w64 (s2+1)))
   else
    some (.inr (.inl ()))) 0).bind (Sum.elim (λ(p4:Unit) =>
 some 0) some)
def qam:Entry:=⟨57,[.ty (.sl I)],[(I,0)],λx=>qat x⟩
def qnq:TH:=qfl [([],57,.block 0,{lv:=[],ps:=[],abn:=true,D:=⟨32656⟩}),
 ([],57,.loop 0,{lv:=[⟨none,7,0⟩],ps:=[(I,0)],D:=⟨32656⟩})] []
theorem qnu(x:denP qam.ps):fnT Try.prog Hn.hints qnq (qea []) 40 57 (qaF qam.ps x) qam.rs=qam.F x:=by kernel_rfl
theorem qcA:qN Try.prog Hn.hints Lb qam:=qJ qY hJ 40 _ _ _ _ qnu
def qcu(a0:Int)(a1:Int)(a2:Int):Option Bool :=
 (bif decide (a1<=a0)then
   some (decide (a0<=a2))
  else
   some false).bind λ(p1:Bool) =>
 some p1
def qaD:Entry:=⟨62,[.ty I,.ty I,.ty I],[(.bool,0)],λx=>qcu x.1 x.2.1 x.2.2⟩
def ql3:TH:=qfl [([],62,.region 1,{lv:=[⟨none,6,0⟩],ps:=[(.bool,0)],D:=⟨32704⟩})] []
theorem qmb(x:denP qaD.ps):fnT Try.prog Hn.hints ql3 (qea []) 40 62 (qaF qaD.ps x) qaD.rs=qaD.F x:=by kernel_rfl
theorem qeM:qN Try.prog Hn.hints Lb qaD:=qJ qY hJ 40 _ _ _ _ qmb
def qbl(a0:Int)(a1:Int):Option Bool :=
 (qcu a0 (w64 (0-a1)) a1).bind λx1 =>
 some x1
def qaT:Entry:=⟨73,[.ty I,.ty I],[(.bool,0)],λx=>qbl x.1 x.2⟩
def qns:TH:=qfl [] []
theorem qnw(x:denP qaT.ps):fnT Try.prog Hn.hints qns (qea [qaD]) 40 73 (qaF qaT.ps x) qaT.rs=qaT.F x:=by kernel_rfl
theorem qfn:qN Try.prog Hn.hints Lb qaT:=qJ (qt qeM qY) hJ 40 _ _ _ _ qnw
def qct(a0:Int)(a1:Int):Option Int :=
 (qbl a1 (100000:Int)).bind λx1 =>
 (qaf x1 (2:Int)).bind λx2 =>
 some x2
def qaw:Entry:=⟨72,[.ty I,.ty I],[(I,0)],λx=>qct x.1 x.2⟩
def qif:TH:=qfl [] []
theorem qig(x:denP qaw.ps):fnT Try.prog Hn.hints qif (qea [qaT,qak]) 40 72 (qaF qaw.ps x) qaw.rs=qaw.F x:=by kernel_rfl
theorem qij:qN Try.prog Hn.hints Lb qaw:=qJ (qt qfn (qt qcc qY)) hJ 40 _ _ _ _ qig
def qZ(a0:(List Int)):Option (Int×Int) :=
 (qaP (λ(s2:Int) =>
   bif decide (s2<(a0.length:Int))then
    (idx a0 s2).bind λx3 =>
    (qct s2 x3).bind λx4 =>
    bif !(decide (x4=0))then
     some (.inr (.inr (s2,x4)))
    else
     some (.inl (w64 (s2+1)))
   else
    some (.inr (.inl ()))) 0).bind (Sum.elim (λ(p5:Unit) =>
 some (0,0)) some)
def qB:Entry:=⟨71,[.ty (.sl I),.fn 72 []],[(I,0),(I,0)],λx=>qZ x.1⟩
def qcq:TH:=qfl [([],71,.block 0,{lv:=[],ps:=[],abn:=true,D:=⟨33552832⟩}),
 ([],71,.loop 0,{lv:=[⟨none,11,0⟩],ps:=[(I,0)],D:=⟨33552832⟩})] []
theorem qcr(x:denP qB.ps):fnT Try.prog Hn.hints qcq (qea [qaw]) 40 71 (qaF qB.ps x) qB.rs=qB.F x:=by kernel_rfl
theorem qcs:qN Try.prog Hn.hints Lb qB:=qJ (qt qij qY) hJ 40 _ _ _ _ qcr
def qch(a0:(List Int)):Option (Int×Int) :=
 (qaf (decide ((a0.length:Int) > 0)) (10:Int)).bind λx1 =>
 (qaf (decide ((a0.length:Int)<=60)) (8:Int)).bind λx2 =>
 (qat ([x1,x2])).bind λx3 =>
 bif !(decide (x3=0))then
  some (0,x3)
 else
  (qZ a0).bind λx4 =>
  some (x4.1,x4.2)
def qav:Entry:=⟨22,[.ty (.sl I)],[(I,0),(I,0)],λx=>qch x⟩
def qjR:TH:=qfl [] []
theorem qjV(x:denP qav.ps):fnT Try.prog Hn.hints qjR (qea [qB,qam,qak]) 40 22 (qaF qav.ps x) qav.rs=qav.F x:=by kernel_rfl
theorem qfH:qN Try.prog Hn.hints Lb qav:=qJ (qt qcs (qt qcA (qt qcc qY))) hJ 40 _ _ _ _ qjV
def qcE(a0:(List Int)):Option Int :=
 (qaP (λ(s2:(Int×Int)) =>
   bif decide (s2.2<(a0.length:Int))then
    (idx a0 s2.2).bind λx3 =>
    (qaP (λ(s5:(Int×Int)) =>
      bif !(decide (s5.2=0))then
       bif decide (s5.2=0)then
        none
       else
        some (.inl (s5.2,s5.1.tmod s5.2))
      else
       some (.inr s5.1)) (s2.1,x3)).bind λ(p6:Int) =>
    some (.inl (p6,w64 (s2.2+1)))
   else
    some (.inr s2.1)) (0,0)).bind λ(p7:Int) =>
 some (max p7 (w64 (0-p7)))
def qaL:Entry:=⟨75,[.ty (.sl I)],[(I,0)],λx=>qcE x⟩
def qkO:TH:=qfl [([],75,.block 0,{lv:=[⟨none,3,0⟩],ps:=[(I,0)],D:=⟨524072⟩}),
 ([],75,.loop 0,{lv:=[⟨none,3,0⟩,⟨none,8,0⟩],ps:=[(I,0),(I,0)],D:=⟨524072⟩}),
 ([],75,.block 2,{lv:=[⟨none,3,0⟩],ps:=[(I,0)],D:=⟨258088⟩}),
 ([],75,.loop 2,{lv:=[⟨none,3,0⟩,⟨none,5,0⟩],ps:=[(I,0),(I,0)],D:=⟨258088⟩})] []
theorem qkR(x:denP qaL.ps):fnT Try.prog Hn.hints qkO (qea []) 40 75 (qaF qaL.ps x) qaL.rs=qaL.F x:=by kernel_rfl
theorem qgx:qN Try.prog Hn.hints Lb qaL:=qJ qY hJ 40 _ _ _ _ qkR
def qbQ(a0:(Int×Int×Int×Unit)):Option Int :=
 ((qcu a0.2.2.1 (1:Int) (300000000000:Int)).bind λx1 =>
  bif x1 then
   (qbl a0.1 (300000000000:Int)).bind λx2 =>
   bif x2 then
    (qbl a0.2.1 (300000000000:Int)).bind λx3 =>
    some x3
   else
    some false
  else
   some false).bind λ(p4:Bool) =>
 bif !p4 then
  some 2
 else
  (qcE ([a0.1,a0.2.1,a0.2.2.1])).bind λx5 =>
  (qaf (decide (x5=1)) (3:Int)).bind λx6 =>
  some x6
def qan:Entry:=⟨74,[.ty (.pair I (.pair I (.pair I .unit)))],[(I,0)],λx=>qbQ x⟩
def qiY:TH:=qfl [([],74,.region 1,{lv:=[⟨none,3,0⟩],ps:=[(.bool,0)],D:=⟨131064⟩,rs:=[⟨0,1⟩],Dn:=⟨122600⟩})] []
theorem qi3(x:denP qan.ps):fnT Try.prog Hn.hints qiY (qea [qaL,qaT,qak,qaD]) 40 74 (qaF qan.ps x) qan.rs=qan.F x:=by kernel_rfl
theorem qe7:qN Try.prog Hn.hints Lb qan:=qJ (qt qgx (qt qfn (qt qcc (qt qeM qY)))) hJ 40 _ _ _ _ qi3
def qbK(a0:(List Int)):Option Int :=
 (qch a0).bind λx1 =>
 some x1.2
def qap:Entry:=⟨61,[.ty (.sl I)],[(I,0)],λx=>qbK x⟩
def ql1:TH:=qfl [] []
theorem ql9(x:denP qap.ps):fnT Try.prog Hn.hints ql1 (qea [qav]) 40 61 (qaF qap.ps x) qap.rs=qap.F x:=by kernel_rfl
theorem qc9:qN Try.prog Hn.hints Lb qap:=qJ (qt qfH qY) hJ 40 _ _ _ _ ql9
def qbm(a0:(List Int)):Option (List Int) :=
 bif List.isEmpty a0 then
  none
 else
  (app [] a0).bind λx1 =>
  some x1
def qac:Entry:=⟨76,[.ty (.sl I)],[((.sl I),1)],λx=>qbm x⟩
def qf2:TH:=qfl [] []
theorem qf3(x:denP qac.ps):fnT Try.prog Hn.hints qf2 (qea []) 40 76 (qaF qac.ps x) qac.rs=qac.F x:=by kernel_rfl
theorem qge:qN Try.prog Hn.hints Lb qac:=qJ qY hJ 40 _ _ _ _ qf3
def qb0(a0:(Int×Int×Int×Unit))(a1:(List Int)):Option ((Int×(List Int)×Unit)×Int) :=
 (qbQ a0).bind λx1 =>
 (qbK a1).bind λx2 =>
 (qat ([x1,x2])).bind λx3 =>
 bif !(decide (x3=0))then
  some ((0,[],()),x3)
 else
  (qaP (λ(s6:(Int×Int×(List Int))) =>
    bif decide (s6.1<(a1.length:Int))then
     (idx a1 s6.1).bind λx7 =>
     (app s6.2.2 ([w64 ((w64 (a0.1*x7))+a0.2.1)])).bind λx8 =>
     some (.inl (w64 (s6.1+1),s6.2.1,x8))
    else
     some (.inr (s6.2.1,s6.2.2))) (0,a0.2.2.1,[])).bind λ(p9:(Int×(List Int))) =>
  (qbm p9.2).bind λx10 =>
  (app x10 ([p9.1])).bind λx11 =>
  (qcE x11).bind λx12 =>
  bif decide (x12=0)then
   none
  else
   (qaP (λ(s14:(Int×Int×(List Int))) =>
     bif decide (s14.1<(p9.2.length:Int))then
      (idx s14.2.2 s14.1).bind λx15 =>
      bif decide (x12=0)then
       none
      else
       (idx s14.2.2 s14.1).bind λx16 =>
       (idx s14.2.2 s14.1).bind λx17 =>
       let l18:(List Int):=List.set s14.2.2 s14.1.toNat (w64 (x15.tdiv x12))
       some (.inl (w64 (s14.1+1),s14.2.1,l18))
     else
      some (.inr (s14.2.1,s14.2.2))) (0,w64 (p9.1.tdiv x12),p9.2)).bind λ(p19:(Int×(List Int))) =>
   some ((p19.1,p19.2,()),0)
def qas:Entry:=⟨24,[.ty (.pair I (.pair I (.pair I .unit))),.ty (.sl I)],[((.pair I (.pair (.sl I) .unit)),2000),(I,0)],λx=>qb0 x.1 x.2⟩
def qhR:TH:=qfl [([],24,.block 0,{lv:=[⟨some 0,7,0⟩,⟨some 0,7,1⟩],ps:=[(I,0),((.sl I),1)],D:=⟨17592051827200⟩,wr:=[⟨0,7⟩]}),
 ([],24,.loop 0,{lv:=[⟨none,27,0⟩,⟨some 0,7,0⟩,⟨some 0,7,1⟩],ps:=[(I,0),(I,0),((.sl I),1)],D:=⟨17592051827200⟩,wr:=[⟨0,7⟩],rs:=[⟨0,2⟩,⟨0,7⟩],Dn:=⟨13045828944384⟩}),
 ([],24,.block 2,{lv:=[⟨some 0,7,0⟩,⟨some 0,7,1⟩],ps:=[(I,0),((.sl I),1)],D:=⟨4721503586144166676480⟩,wr:=[⟨0,7⟩]}),
 ([],24,.loop 2,{lv:=[⟨none,60,0⟩,⟨some 0,7,0⟩,⟨some 0,7,1⟩],ps:=[(I,0),(I,0),((.sl I),1)],D:=⟨4721503586144166676480⟩,wr:=[⟨0,7⟩],rs:=[⟨0,7⟩],Dn:=⟨4712280214107311900672⟩})] []
theorem qhU(x:denP qas.ps):fnT Try.prog Hn.hints qhR (qea [qan,qaL,qam,qap,qac]) 40 24 (qaF qas.ps x) qas.rs=qas.F x:=by kernel_rfl
theorem qhY:qN Try.prog Hn.hints Lb qas:=qJ (qt qe7 (qt qgx (qt qcA (qt qc9 (qt qge qY))))) hJ 40 _ _ _ _ qhU
def qfe(a0:Int)(a1:Int):Option Int :=
 bif decide (a1=0)then
  none
 else
  bif decide (a1=0)then
   none
  else
   (bif decide (a0.tmod a1<0)then
     some (w64 ((w64 (a0.tdiv a1))-1))
    else
     some (w64 (a0.tdiv a1))).bind λ(p1:Int) =>
   some p1
def qbS:Entry:=⟨77,[.ty I,.ty I],[(I,0)],λx=>qfe x.1 x.2⟩
def qnr:TH:=qfl [([],77,.cond 12,{lv:=[⟨none,5,0⟩],ps:=[(I,0)],D:=⟨24608⟩})] []
theorem qnv(x:denP qbS.ps):fnT Try.prog Hn.hints qnr (qea []) 40 77 (qaF qbS.ps x) qbS.rs=qbS.F x:=by kernel_rfl
theorem qny:qN Try.prog Hn.hints Lb qbS:=qJ qY hJ 40 _ _ _ _ qnv
def qdh(a0:(Int×Int×Int×Unit))(a1:(List Int)):Option ((List (Int×Int×Unit))×Int) :=
 (qbQ a0).bind λx1 =>
 (qbK a1).bind λx2 =>
 (qat ([x1,x2])).bind λx3 =>
 bif !(decide (x3=0))then
  some ([],x3)
 else
  (qaP (λ(s6:((List (Int×Int×Unit))×Int)) =>
    bif decide (s6.2<(a1.length:Int))then
     (idx a1 s6.2).bind λx7 =>
     let v8:Int:=min (w64 ((w64 (a0.1*(w64 (x7-1))))+a0.2.1)) (w64 ((w64 (a0.1*(w64 (x7+1))))+a0.2.1))
     (qfe v8 a0.2.2.1).bind λx9 =>
     let v10:Int:=max (w64 ((w64 (a0.1*(w64 (x7-1))))+a0.2.1)) (w64 ((w64 (a0.1*(w64 (x7+1))))+a0.2.1))
     (qfe (w64 (0-v10)) a0.2.2.1).bind λx11 =>
     (app s6.1 ([(x9,w64 (0-x11),())])).bind λx12 =>
     some (.inl (x12,w64 (s6.2+1)))
    else
     some (.inr s6.1)) ([],0)).bind λ(p13:(List (Int×Int×Unit))) =>
  some (p13,0)
def qaX:Entry:=⟨25,[.ty (.pair I (.pair I (.pair I .unit))),.ty (.sl I)],[((.sl (.pair I (.pair I .unit))),1),(I,0)],λx=>qdh x.1 x.2⟩
def qjS:TH:=qfl [([],25,.block 0,{lv:=[⟨none,7,0⟩],ps:=[((.sl (.pair I (.pair I .unit))),1)],D:=⟨4611686018419003008⟩}),
 ([],25,.loop 0,{lv:=[⟨none,7,0⟩,⟨none,23,0⟩],ps:=[((.sl (.pair I (.pair I .unit))),1),(I,0)],D:=⟨4611686018419003008⟩,rs:=[⟨0,2⟩],Dn:=⟨4593529744120614528⟩})] []
theorem qjW(x:denP qaX.ps):fnT Try.prog Hn.hints qjS (qea [qan,qam,qbS,qap]) 40 25 (qaF qaX.ps x) qaX.rs=qaX.F x:=by kernel_rfl
theorem qj3:qN Try.prog Hn.hints Lb qaX:=qJ (qt qe7 (qt qcA (qt qny (qt qc9 qY)))) hJ 40 _ _ _ _ qjW
def qbk(a0:Int)(a1:(List Int))(a2:(Int×Int×Unit)):Option Bool :=
 ((idx a1 a0).bind λx1 =>
  bif decide (x1<=a2.1)then
   some true
  else
   (idx a1 a0).bind λx2 =>
   some (decide (x2>=a2.2.1))).bind λ(p3:Bool) =>
 some p3
def qar:Entry:=⟨79,[.ty I,.ptr (.sl I),.ptr (.pair I (.pair I .unit))],[(.bool,0)],λx=>qbk x.1 x.2.1 x.2.2⟩
def qhQ:TH:=qfl [([],79,.region 1,{lv:=[⟨none,4,0⟩],ps:=[(.bool,0)],D:=⟨2097136⟩})] []
theorem qhT(x:denP qar.ps):fnT Try.prog Hn.hints qhQ (qea []) 40 79 (qaF qar.ps x) qar.rs=qar.F x:=by kernel_rfl
theorem qhX:qN Try.prog Hn.hints Lb qar:=qJ qY hJ 40 _ _ _ _ qhT
def qdi(a0:Int):Option Bool :=
 some true
def qa3:Entry:=⟨80,[.ty I],[(.bool,0)],λx=>qdi x⟩
def ql0:TH:=qfl [] []
theorem ql8(x:denP qa3.ps):fnT Try.prog Hn.hints ql0 (qea []) 40 80 (qaF qa3.ps x) qa3.rs=qa3.F x:=by kernel_rfl
theorem qgX:qN Try.prog Hn.hints Lb qa3:=qJ qY hJ 40 _ _ _ _ ql8
def qF(a0:(List Int))(a1:(List Int))(a2:(Int×Int×Unit)):Option (List (Int×Int×Unit)) :=
 (qaP (λ(s2:((List (Int×Int×Unit))×Int)) =>
   bif decide (s2.2<(a0.length:Int))then
    ((qbk s2.2 a1 a2).bind λx3 =>
     bif !x3 then
      some s2.1
     else
      (bif decide ((s2.1.length:Int) > 0)then
        (idx s2.1 (w64 ((s2.1.length:Int)-1))).bind λx4 =>
        bif decide (x4.2.1=w64 (s2.2-1))then
         (qdi s2.2).bind λx5 =>
         some x5
        else
         some false
       else
        some false).bind λ(p6:Bool) =>
      (bif p6 then
        (idx s2.1 (w64 ((s2.1.length:Int)-1))).bind λx7 =>
        (idx s2.1 (w64 ((s2.1.length:Int)-1))).bind λx8 =>
        let l9:(List (Int×Int×Unit)):=List.set s2.1 (w64 ((s2.1.length:Int)-1)).toNat (x8.1,s2.2,())
        some l9
       else
        (app s2.1 ([(s2.2,s2.2,())])).bind λx10 =>
        some x10).bind λ(p11:(List (Int×Int×Unit))) =>
      some p11).bind λ(p12:(List (Int×Int×Unit))) =>
    some (.inl (p12,w64 (s2.2+1)))
   else
    some (.inr s2.1)) ([],0)).bind λ(p13:(List (Int×Int×Unit))) =>
 some p13
def qu:Entry:=⟨78,[.ty (.sl I),.fn 79 [.p (.sl I),.p (.pair I (.pair I .unit))],.fn 80 []],[((.sl (.pair I (.pair I .unit))),1)],λx=>qF x.1 x.2.1.1 x.2.1.2⟩
def qaY:TH:=qfl [([],78,.block 0,{lv:=[⟨none,7,0⟩],ps:=[((.sl (.pair I (.pair I .unit))),1)],D:=⟨4503599627367296⟩}),
 ([],78,.loop 0,{lv:=[⟨none,7,0⟩,⟨none,12,0⟩],ps:=[((.sl (.pair I (.pair I .unit))),1),(I,0)],D:=⟨4503599627367296⟩}),
 ([],78,.block 1,{lv:=[⟨none,7,0⟩],ps:=[((.sl (.pair I (.pair I .unit))),1)],D:=⟨2251799813669760⟩}),
 ([],78,.region 7,{lv:=[⟨none,38,0⟩],ps:=[(.bool,0)],D:=⟨549753716736⟩}),
 ([],78,.cond 38,{lv:=[⟨none,7,0⟩],ps:=[((.sl (.pair I (.pair I .unit))),1)],D:=⟨2251250058395776⟩})] []
theorem qaZ(x:denP qu.ps):fnT Try.prog Hn.hints qaY (qea [qar,qa3]) 40 78 (qaF qu.ps x) qu.rs=qu.F x:=by kernel_rfl
theorem qa0:qN Try.prog Hn.hints Lb qu:=qJ (qt qhX (qt qgX qY)) hJ 40 _ _ _ _ qaZ
def qcM(a0:(List Int))(a1:(Int×Int×Unit)):Option ((List (Int×Int×Unit))×Int) :=
 ((qbK a0).bind λx1 =>
  (qbl a1.1 (100000:Int)).bind λx2 =>
  bif x2 then
   (qbl a1.2.1 (100000:Int)).bind λx3 =>
   (qaf x3 (2:Int)).bind λx4 =>
   (qaf (decide (a1.1<=a1.2.1)) (9:Int)).bind λx5 =>
   (qat ([x1,x4,x5])).bind λx6 =>
   some x6
  else
   (qaf false (2:Int)).bind λx7 =>
   (qaf (decide (a1.1<=a1.2.1)) (9:Int)).bind λx8 =>
   (qat ([x1,x7,x8])).bind λx9 =>
   some x9).bind λ(p10:Int) =>
 bif !(decide (p10=0))then
  some ([],p10)
 else
  (qF a0 a0 a1).bind λx11 =>
  some (x11,0)
def qaI:Entry:=⟨26,[.ty (.sl I),.ty (.pair I (.pair I .unit))],[((.sl (.pair I (.pair I .unit))),1),(I,0)],λx=>qcM x.1 x.2⟩
def qiZ:TH:=qfl [([],26,.region 1,{lv:=[⟨none,6,0⟩],ps:=[(I,0)],D:=⟨67108800⟩,rs:=[⟨0,3⟩],Dn:=⟨65789376⟩})] []
theorem qi4(x:denP qaI.ps):fnT Try.prog Hn.hints qiZ (qea [qam,qap,qu,qaT,qak]) 40 26 (qaF qaI.ps x) qaI.rs=qaI.F x:=by kernel_rfl
theorem qjd:qN Try.prog Hn.hints Lb qaI:=qJ (qt qcA (qt qc9 (qt qa0 (qt qfn (qt qcc qY))))) hJ 40 _ _ _ _ qi4
def qcN(a0:Int)(a1:(List Int)):Option Bool :=
 (idx a1 a0).bind λx1 =>
 (idx a1 (w64 (a0-1))).bind λx2 =>
 some (decide (x1=x2))
def qaJ:Entry:=⟨81,[.ty I,.ptr (.sl I)],[(.bool,0)],λx=>qcN x.1 x.2⟩
def qi0:TH:=qfl [] []
theorem qi5(x:denP qaJ.ps):fnT Try.prog Hn.hints qi0 (qea []) 40 81 (qaF qaJ.ps x) qaJ.rs=qaJ.F x:=by kernel_rfl
theorem qje:qN Try.prog Hn.hints Lb qaJ:=qJ qY hJ 40 _ _ _ _ qi5
def qH(a0:(List Int))(a1:(List Int)):Option (List (Int×Int×Unit)) :=
 (qaP (λ(s2:((List (Int×Int×Unit))×Int)) =>
   bif decide (s2.2<(a0.length:Int))then
    ((qdi s2.2).bind λx3 =>
     bif !x3 then
      some s2.1
     else
      (bif decide ((s2.1.length:Int) > 0)then
        (idx s2.1 (w64 ((s2.1.length:Int)-1))).bind λx4 =>
        bif decide (x4.2.1=w64 (s2.2-1))then
         (qcN s2.2 a1).bind λx5 =>
         some x5
        else
         some false
       else
        some false).bind λ(p6:Bool) =>
      (bif p6 then
        (idx s2.1 (w64 ((s2.1.length:Int)-1))).bind λx7 =>
        (idx s2.1 (w64 ((s2.1.length:Int)-1))).bind λx8 =>
        let l9:(List (Int×Int×Unit)):=List.set s2.1 (w64 ((s2.1.length:Int)-1)).toNat (x8.1,s2.2,())
        some l9
       else
        (app s2.1 ([(s2.2,s2.2,())])).bind λx10 =>
        some x10).bind λ(p11:(List (Int×Int×Unit))) =>
      some p11).bind λ(p12:(List (Int×Int×Unit))) =>
    some (.inl (p12,w64 (s2.2+1)))
   else
    some (.inr s2.1)) ([],0)).bind λ(p13:(List (Int×Int×Unit))) =>
 some p13
def qv:Entry:=⟨78,[.ty (.sl I),.fn 80 [],.fn 81 [.p (.sl I)]],[((.sl (.pair I (.pair I .unit))),1)],λx=>qH x.1 x.2.2⟩
def qa6:TH:=qfl [([],78,.block 0,{lv:=[⟨none,7,0⟩],ps:=[((.sl (.pair I (.pair I .unit))),1)],D:=⟨4503599627367296⟩}),
 ([],78,.loop 0,{lv:=[⟨none,7,0⟩,⟨none,12,0⟩],ps:=[((.sl (.pair I (.pair I .unit))),1),(I,0)],D:=⟨4503599627367296⟩}),
 ([],78,.block 1,{lv:=[⟨none,7,0⟩],ps:=[((.sl (.pair I (.pair I .unit))),1)],D:=⟨2251799813669760⟩}),
 ([],78,.region 7,{lv:=[⟨none,38,0⟩],ps:=[(.bool,0)],D:=⟨549753716736⟩}),
 ([],78,.cond 38,{lv:=[⟨none,7,0⟩],ps:=[((.sl (.pair I (.pair I .unit))),1)],D:=⟨2251250058395776⟩})] []
theorem qa7(x:denP qv.ps):fnT Try.prog Hn.hints qa6 (qea [qaJ,qa3]) 40 78 (qaF qv.ps x) qv.rs=qv.F x:=by kernel_rfl
theorem qa8:qN Try.prog Hn.hints Lb qv:=qJ (qt qje (qt qgX qY)) hJ 40 _ _ _ _ qa7
def qbe(a0:(Int×Int×Unit))(a1:Int):Option Bool :=
 some (decide (w64 ((w64 (a0.2.1-a0.1))+1)<a1))
def qao:Entry:=⟨83,[.ty (.pair I (.pair I .unit)),.ptr I],[(.bool,0)],λx=>qbe x.1 x.2⟩
def qi1:TH:=qfl [] []
theorem qi6(x:denP qao.ps):fnT Try.prog Hn.hints qi1 (qea []) 40 83 (qaF qao.ps x) qao.rs=qao.F x:=by kernel_rfl
theorem qe8:qN Try.prog Hn.hints Lb qao:=qJ qY hJ 40 _ _ _ _ qi6
def qz(a0:(List (Int×Int×Unit)))(a1:Int):Option Int :=
 (qaP (λ(s2:Int) =>
   bif decide (s2<(a0.length:Int))then
    (idx a0 s2).bind λx3 =>
    (qbe x3 a1).bind λx4 =>
    bif x4 then
     some (.inr (.inr s2))
    else
     some (.inl (w64 (s2+1)))
   else
    some (.inr (.inl ()))) 0).bind (Sum.elim (λ(p5:Unit) =>
 some (-1)) some)
def qp:Entry:=⟨104,[.ty (.sl (.pair I (.pair I .unit))),.fn 83 [.p I]],[(I,0)],λx=>qz x.1 x.2⟩
def qax:TH:=qfl [([],104,.block 0,{lv:=[],ps:=[],abn:=true,D:=⟨524064⟩}),
 ([],104,.loop 0,{lv:=[⟨none,8,0⟩],ps:=[(I,0)],D:=⟨524064⟩})] []
theorem qay(x:denP qp.ps):fnT Try.prog Hn.hints qax (qea [qao]) 40 104 (qaF qp.ps x) qp.rs=qp.F x:=by kernel_rfl
theorem qaA:qN Try.prog Hn.hints Lb qp:=qJ (qt qe8 qY) hJ 40 _ _ _ _ qay
def qdM(a0:(List Int))(a1:Int):Option ((List (Int×Int×Unit))×Int) :=
 (qbK a0).bind λx1 =>
 (qcu a1 (2:Int) (60:Int)).bind λx2 =>
 (qaf x2 (2:Int)).bind λx3 =>
 (qat ([x1,x3])).bind λx4 =>
 bif !(decide (x4=0))then
  some ([],x4)
 else
  (qH a0 a0).bind λx5 =>
  ((qz x5 a1).bind λx6 =>
   bif decide (x6=(-1))then
    some (x5,0)
   else
    (qaP (λ(s8:((List (Int×Int×Unit))×Int×Int)) =>
      bif decide (s8.2.2<(s8.1.length:Int))then
       (idx s8.1 s8.2.2).bind λx9 =>
       (qbe x9 a1).bind λx10 =>
       (bif !x10 then
         (idx s8.1 s8.2.1).bind λx11 =>
         (idx s8.1 s8.2.1).bind λx12 =>
         let l13:(List (Int×Int×Unit)):=List.set s8.1 s8.2.1.toNat x9
         some (l13,w64 (s8.2.1+1))
        else
         some (s8.1,s8.2.1)).bind λ(p14:((List (Int×Int×Unit))×Int)) =>
       some (.inl (p14.1,p14.2,w64 (s8.2.2+1)))
      else
       some (.inr (s8.1,s8.2.1))) (x5,x6,w64 (x6+1))).bind λ(p15:((List (Int×Int×Unit))×Int)) =>
    (qBi p15.1 p15.2 (0,0,())).bind λx16 =>
    (qBj x16 p15.2).bind λx17 =>
    bif decide (p15.2=0)then
     some ([],0)
    else
     some (x17,0)).bind λ(p18:((List (Int×Int×Unit))×Int)) =>
  some (p18.1,p18.2)
def qbd:Entry:=⟨27,[.ty (.sl I),.ty I],[((.sl (.pair I (.pair I .unit))),2000),(I,0)],λx=>qdM x.1 x.2⟩
def qkN:TH:=qfl [([],27,.region 5,{lv:=[⟨none,4,0⟩,⟨none,5,0⟩],ps:=[((.sl (.pair I (.pair I .unit))),2000),(I,0)],D:=⟨15737008⟩,rs:=[⟨0,3⟩],Dn:=⟨11542704⟩}),
 ([23],82,.block 0,{lv:=[⟨none,0,0⟩,⟨none,5,0⟩],ps:=[((.sl (.pair I (.pair I .unit))),1),(I,0)],D:=⟨68719411681⟩,wr:=[⟨0,7⟩]}),
 ([23],82,.loop 0,{lv:=[⟨none,0,0⟩,⟨none,5,0⟩,⟨none,6,0⟩],ps:=[((.sl (.pair I (.pair I .unit))),1),(I,0),(I,0)],D:=⟨68719411681⟩,wr:=[⟨0,7⟩],rs:=[⟨0,7⟩],Dn:=⟨68719411553⟩}),
 ([23],82,.cond 29,{lv:=[⟨none,0,0⟩,⟨none,5,0⟩],ps:=[((.sl (.pair I (.pair I .unit))),1),(I,0)],D:=⟨67666837537⟩})] []
theorem qkQ(x:denP qbd.ps):fnT Try.prog Hn.hints qkN (qea [qao,qam,qap,qv,qak,qaD,qp]) 40 27 (qaF qbd.ps x) qbd.rs=qbd.F x:=by kernel_rfl
theorem qkU:qN Try.prog Hn.hints Lb qbd:=qJ (qt qe8 (qt qcA (qt qc9 (qt qa8 (qt qcc (qt qeM (qt qaA qY))))))) hJ 40 _ _ _ _ qkQ
def qa2(a0:Int)(a1:Int)(a2:Int):Option Bool :=
 (bif decide (a1<=a0)then
   some (decide (a0<=a2))
  else
   some false).bind λ(p1:Bool) =>
 some p1
def qaO:Entry:=⟨31,[.ty I,.ty I,.ty I],[(.bool,0)],λx=>qa2 x.1 x.2.1 x.2.2⟩
def qo7:TH:=qfl [([],31,.region 1,{lv:=[⟨none,6,0⟩],ps:=[(.bool,0)],D:=⟨32704⟩})] []
theorem qpa(x:denP qaO.ps):fnT Try.prog Hn.hints qo7 (qea []) 40 31 (qaF qaO.ps x) qaO.rs=qaO.F x:=by kernel_rfl
theorem qeg:qN Try.prog Hn.hints Lb qaO:=qJ qY hJ 40 _ _ _ _ qpa
def qdJ(a0:(List Int)):Option (Int×Int) :=
 bif decide ((a0.length:Int)=0)then
  some (0,10)
 else
  bif decide ((a0.length:Int) > 60)then
   some (0,8)
  else
   (qaP (λ(s2:Int) =>
     bif decide (s2<(a0.length:Int))then
      (idx a0 s2).bind λx3 =>
      (qa2 x3 (-100000:Int) (100000:Int)).bind λx4 =>
      bif !x4 then
       some (.inr (.inr (s2,2)))
      else
       some (.inl (w64 (s2+1)))
     else
      some (.inr (.inl ()))) 0).bind (Sum.elim (λ(p5:Unit) =>
   some (0,0)) some)
def qbc:Entry:=⟨28,[.ty (.sl I)],[(I,0),(I,0)],λx=>qdJ x⟩
def qkM:TH:=qfl [([],28,.block 0,{lv:=[],ps:=[],abn:=true,D:=⟨16775184⟩}),
 ([],28,.loop 0,{lv:=[⟨none,4,0⟩],ps:=[(I,0)],D:=⟨16775184⟩})] []
theorem qkP(x:denP qbc.ps):fnT Try.prog Hn.hints qkM (qea [qaO]) 40 28 (qaF qbc.ps x) qbc.rs=qbc.F x:=by kernel_rfl
theorem qkT:qN Try.prog Hn.hints Lb qbc:=qJ (qt qeg qY) hJ 40 _ _ _ _ qkP
def qft(a0:Int):Option Int :=
 some (max a0 (w64 (0-a0)))
def qcR:Entry:=⟨70,[.ty I],[(I,0)],λx=>qft x⟩
def qst:TH:=qfl [] []
theorem qsw(x:denP qcR.ps):fnT Try.prog Hn.hints qst (qea []) 40 70 (qaF qcR.ps x) qcR.rs=qcR.F x:=by kernel_rfl
theorem qmn:qN Try.prog Hn.hints Lb qcR:=qJ qY hJ 40 _ _ _ _ qsw
def qe0(a0:Int)(a1:Int):Option Int :=
 (qaP (λ(s2:(Int×Int)) =>
   bif !(decide (s2.2=0))then
    bif decide (s2.2=0)then
     none
    else
     some (.inl (s2.2,s2.1.tmod s2.2))
   else
    some (.inr s2.1)) (a0,a1)).bind λ(p3:Int) =>
 (qft p3).bind λx4 =>
 some x4
def qdr:Entry:=⟨84,[.ty I,.ty I],[(I,0)],λx=>qe0 x.1 x.2⟩
def quP:TH:=qfl [([],84,.block 0,{lv:=[⟨none,0,0⟩],ps:=[(I,0)],D:=⟨2019⟩}),
 ([],84,.loop 0,{lv:=[⟨none,0,0⟩,⟨none,1,0⟩],ps:=[(I,0),(I,0)],D:=⟨2019⟩})] []
theorem quR(x:denP qdr.ps):fnT Try.prog Hn.hints quP (qea [qcR]) 40 84 (qaF qdr.ps x) qdr.rs=qdr.F x:=by kernel_rfl
theorem qn5:qN Try.prog Hn.hints Lb qdr:=qJ (qt qmn qY) hJ 40 _ _ _ _ quR
def qei(a0:(Int×Int×Int×Unit)):Option Int :=
 ((qa2 a0.2.2.1 (1:Int) (300000000000:Int)).bind λx1 =>
  bif !x1 then
   some true
  else
   (qa2 a0.1 (-300000000000:Int) (300000000000:Int)).bind λx2 =>
   bif !x2 then
    some true
   else
    (qa2 a0.2.1 (-300000000000:Int) (300000000000:Int)).bind λx3 =>
    some (!x3)).bind λ(p4:Bool) =>
 bif p4 then
  some 2
 else
  (qe0 a0.1 a0.2.1).bind λx5 =>
  (qe0 x5 a0.2.2.1).bind λx6 =>
  bif !(decide (x6=1))then
   some 3
  else
   some 0
def qbu:Entry:=⟨29,[.ty (.pair I (.pair I (.pair I .unit)))],[(I,0)],λx=>qei x⟩
def qlZ:TH:=qfl [([],29,.region 1,{lv:=[⟨none,18,0⟩],ps:=[(.bool,0)],D:=⟨524280⟩,rs:=[⟨0,1⟩],Dn:=⟨507632⟩})] []
theorem ql7(x:denP qbu.ps):fnT Try.prog Hn.hints qlZ (qea [qdr,qaO]) 40 29 (qaF qbu.ps x) qbu.rs=qbu.F x:=by kernel_rfl
theorem qmq:qN Try.prog Hn.hints Lb qbu:=qJ (qt qn5 (qt qeg qY)) hJ 40 _ _ _ _ ql7
def qcf(a0:(Int×Int×Unit)):Option Int :=
 ((qa2 a0.1 (-100000:Int) (100000:Int)).bind λx1 =>
  bif !x1 then
   some true
  else
   (qa2 a0.2.1 (-100000:Int) (100000:Int)).bind λx2 =>
   some (!x2)).bind λ(p3:Bool) =>
 bif p3 then
  some 2
 else
  bif decide (a0.1 > a0.2.1)then
   some 9
  else
   some 0
def qaW:Entry:=⟨30,[.ty (.pair I (.pair I .unit))],[(I,0)],λx=>qcf x⟩
def qjQ:TH:=qfl [([],30,.region 1,{lv:=[⟨none,12,0⟩],ps:=[(.bool,0)],D:=⟨8184⟩,rs:=[⟨0,1⟩],Dn:=⟨7920⟩})] []
theorem qjU(x:denP qaW.ps):fnT Try.prog Hn.hints qjQ (qea [qaO]) 40 30 (qaF qaW.ps x) qaW.rs=qaW.F x:=by kernel_rfl
theorem qj2:qN Try.prog Hn.hints Lb qaW:=qJ (qt qeg qY) hJ 40 _ _ _ _ qjU
def qdc(a0:(List Int))(a1:(Int×Int×Unit)):Option (List (Int×Int×Unit)) :=
 (qaP (λ(s2:((List (Int×Int×Unit))×Int)) =>
   bif decide (s2.2<(a0.length:Int))then
    (((idx a0 s2.2).bind λx3 =>
      bif decide (x3 > a1.1)then
       (idx a0 s2.2).bind λx4 =>
       some (decide (x4<a1.2.1))
      else
       some false).bind λ(p5:Bool) =>
     bif p5 then
      some (s2.1,s2.2)
     else
      (qaP (λ(s7:Int) =>
        (bif decide (w64 (s7+1)<(a0.length:Int))then
          (idx a0 (w64 (s7+1))).bind λx8 =>
          bif decide (x8<=a1.1)then
           some true
          else
           (idx a0 (w64 (s7+1))).bind λx9 =>
           some (decide (x9>=a1.2.1))
         else
          some false).bind λ(p10:Bool) =>
        bif p10 then
         some (.inl (w64 (s7+1)))
        else
         some (.inr s7)) s2.2).bind λ(p11:Int) =>
      (app s2.1 ([(s2.2,p11,())])).bind λx12 =>
      some (x12,p11)).bind λ(p13:((List (Int×Int×Unit))×Int)) =>
    some (.inl (p13.1,w64 (p13.2+1)))
   else
    some (.inr s2.1)) ([],0)).bind λ(p14:(List (Int×Int×Unit))) =>
 some p14
def qbt:Entry:=⟨33,[.ty (.sl I),.ty (.pair I (.pair I .unit))],[((.sl (.pair I (.pair I .unit))),1)],λx=>qdc x.1 x.2⟩
def qlY:TH:=qfl [([],33,.block 0,{lv:=[⟨none,5,0⟩],ps:=[((.sl (.pair I (.pair I .unit))),1)],D:=⟨36893488147419103200⟩}),
 ([],33,.loop 0,{lv:=[⟨none,5,0⟩,⟨none,6,0⟩],ps:=[((.sl (.pair I (.pair I .unit))),1),(I,0)],D:=⟨36893488147419103200⟩,rs:=[⟨0,3⟩],Dn:=⟨36891231949491535840⟩}),
 ([],33,.block 1,{lv:=[⟨none,5,0⟩,⟨none,6,0⟩],ps:=[((.sl (.pair I (.pair I .unit))),1),(I,0)],D:=⟨36893488147419087072⟩,rs:=[⟨0,3⟩],Dn:=⟨36891231949491519712⟩}),
 ([],33,.region 5,{lv:=[⟨none,29,0⟩],ps:=[(.bool,0)],D:=⟨1073725440⟩,rs:=[⟨0,3⟩],Dn:=⟨1006354432⟩}),
 ([],33,.block 2,{lv:=[⟨none,7,0⟩],ps:=[(I,0)],D:=⟨288230374004228224⟩,rs:=[⟨0,3⟩],Dn:=⟨285974176144031872⟩}),
 ([],33,.loop 2,{lv:=[⟨none,7,0⟩],ps:=[(I,0)],D:=⟨288230374004228224⟩,rs:=[⟨0,3⟩],Dn:=⟨285974176144031872⟩}),
 ([],33,.region 7,{lv:=[⟨none,55,0⟩],ps:=[(.bool,0)],D:=⟨72057591890444288⟩,rs:=[⟨0,3⟩],Dn:=⟨69801394030247936⟩})] []
theorem ql6(x:denP qbt.ps):fnT Try.prog Hn.hints qlY (qea []) 40 33 (qaF qbt.ps x) qbt.rs=qbt.F x:=by kernel_rfl
theorem qmp:qN Try.prog Hn.hints Lb qbt:=qJ qY hJ 40 _ _ _ _ ql6
def qah(a0:(List (Int×Int×Unit)))(a1:(List (Int×Int×Unit))):Option Bool :=
 bif !(decide ((a0.length:Int)=(a1.length:Int)))then
  some false
 else
  (qaP (λ(s2:Int) =>
    bif decide (s2<(a0.length:Int))then
     (idx a0 s2).bind λx3 =>
     (idx a1 s2).bind λx4 =>
     let v5:Bool:=!(bif decide (x3.1=x4.1)then (bif decide (x3.2.1=x4.2.1)then true else false)else false)
     bif v5 then
      some (.inr (.inr false))
     else
      some (.inl (w64 (s2+1)))
    else
     some (.inr (.inl ()))) 0).bind (Sum.elim (λ(p6:Unit) =>
  some true) some)
def qcm:Entry:=⟨32,[.ty (.sl (.pair I (.pair I .unit))),.ty (.sl (.pair I (.pair I .unit)))],[(.bool,0)],λx=>qah x.1 x.2⟩
def qo6:TH:=qfl [([],32,.block 0,{lv:=[],ps:=[],abn:=true,D:=⟨67106848⟩}),
 ([],32,.loop 0,{lv:=[⟨none,5,0⟩],ps:=[(I,0)],D:=⟨67106848⟩})] []
theorem qo9(x:denP qcm.ps):fnT Try.prog Hn.hints qo6 (qea []) 40 32 (qaF qcm.ps x) qcm.rs=qcm.F x:=by kernel_rfl
theorem qpn:qN Try.prog Hn.hints Lb qcm:=qJ qY hJ 40 _ _ _ _ qo9
def qa5(a0:(List Int))(a1:Int):Option (List (Int×Int×Unit)) :=
 (qaP (λ(s2:((List (Int×Int×Unit))×Int)) =>
   bif decide (s2.2<(a0.length:Int))then
    (qaP (λ(s4:Int) =>
      (bif decide (w64 (s4+1)<(a0.length:Int))then
        (idx a0 (w64 (s4+1))).bind λx5 =>
        (idx a0 s2.2).bind λx6 =>
        some (decide (x5=x6))
       else
        some false).bind λ(p7:Bool) =>
      bif p7 then
       some (.inl (w64 (s4+1)))
      else
       some (.inr s4)) s2.2).bind λ(p8:Int) =>
    (bif decide (w64 ((w64 (p8-s2.2))+1)>=a1)then
      (app s2.1 ([(s2.2,p8,())])).bind λx9 =>
      some x9
     else
      some s2.1).bind λ(p10:(List (Int×Int×Unit))) =>
    some (.inl (p10,w64 (p8+1)))
   else
    some (.inr s2.1)) ([],0)).bind λ(p11:(List (Int×Int×Unit))) =>
 some p11
def qcn:Entry:=⟨34,[.ty (.sl I),.ty I],[((.sl (.pair I (.pair I .unit))),1)],λx=>qa5 x.1 x.2⟩
def qo8:TH:=qfl [([],34,.block 0,{lv:=[⟨none,5,0⟩],ps:=[((.sl (.pair I (.pair I .unit))),1)],D:=⟨140737488355296⟩}),
 ([],34,.loop 0,{lv:=[⟨none,5,0⟩,⟨none,6,0⟩],ps:=[((.sl (.pair I (.pair I .unit))),1),(I,0)],D:=⟨140737488355296⟩}),
 ([],34,.block 2,{lv:=[⟨none,7,0⟩],ps:=[(I,0)],D:=⟨17179836544⟩}),
 ([],34,.loop 2,{lv:=[⟨none,7,0⟩],ps:=[(I,0)],D:=⟨17179836544⟩}),
 ([],34,.region 6,{lv:=[⟨none,31,0⟩],ps:=[(.bool,0)],D:=⟨4294934528⟩}),
 ([],34,.cond 39,{lv:=[⟨none,5,0⟩],ps:=[((.sl (.pair I (.pair I .unit))),1)],D:=⟨69269232549920⟩})] []
theorem qpb(x:denP qcn.ps):fnT Try.prog Hn.hints qo8 (qea []) 40 34 (qaF qcn.ps x) qcn.rs=qcn.F x:=by kernel_rfl
theorem qpp:qN Try.prog Hn.hints Lb qcn:=qJ qY hJ 40 _ _ _ _ qpb
def qiI(a0:(List Int))(a1:(List Int)):Option Bool :=
 bif !(decide ((a0.length:Int)=(a1.length:Int)))then
  some false
 else
  (qaP (λ(s2:Int) =>
    bif decide (s2<(a0.length:Int))then
     (idx a0 s2).bind λx3 =>
     (idx a1 s2).bind λx4 =>
     bif !(decide (x3=x4))then
      some (.inr (.inr false))
     else
      some (.inl (w64 (s2+1)))
    else
     some (.inr (.inl ()))) 0).bind (Sum.elim (λ(p5:Unit) =>
  some true) some)
def qds:Entry:=⟨45,[.ty (.sl I),.ty (.sl I)],[(.bool,0)],λx=>qiI x.1 x.2⟩
def qss:TH:=qfl [([],45,.block 0,{lv:=[],ps:=[],abn:=true,D:=⟨67106848⟩}),
 ([],45,.loop 0,{lv:=[⟨none,5,0⟩],ps:=[(I,0)],D:=⟨67106848⟩})] []
theorem qsv(x:denP qds.ps):fnT Try.prog Hn.hints qss (qea []) 40 45 (qaF qds.ps x) qds.rs=qds.F x:=by kernel_rfl
theorem qsC:qN Try.prog Hn.hints Lb qds:=qJ qY hJ 40 _ _ _ _ qsv
def qbP(a0:(Int×(List Int)×Unit))(a1:(Int×(List Int)×Unit)):Option Bool :=
 (bif decide (a0.1=a1.1)then
   (qiI a0.2.1 a1.2.1).bind λx1 =>
   some x1
  else
   some false).bind λ(p2:Bool) =>
 some p2
def qaH:Entry:=⟨35,[.ty (.pair I (.pair (.sl I) .unit)),.ty (.pair I (.pair (.sl I) .unit))],[(.bool,0)],λx=>qbP x.1 x.2⟩
def qiX:TH:=qfl [([],35,.region 1,{lv:=[⟨none,4,0⟩],ps:=[(.bool,0)],D:=⟨131056⟩,rs:=[⟨0,2⟩,⟨0,3⟩],Dn:=⟨120656⟩})] []
theorem qi2(x:denP qaH.ps):fnT Try.prog Hn.hints qiX (qea [qds]) 40 35 (qaF qaH.ps x) qaH.rs=qaH.F x:=by kernel_rfl
theorem qjc:qN Try.prog Hn.hints Lb qaH:=qJ (qt qsC qY) hJ 40 _ _ _ _ qi2
def qdd(a0:(Int×Int×Int×Unit))(a1:(List Int)):Option (Int×(List Int)×Unit) :=
 (qaP (λ(s3:(Int×(List Int)×Int)) =>
   bif decide (s3.2.2<(a1.length:Int))then
    (idx a1 s3.2.2).bind λx4 =>
    (app s3.2.1 ([w64 ((w64 (a0.1*x4))+a0.2.1)])).bind λx5 =>
    (idx x5 s3.2.2).bind λx6 =>
    (qe0 s3.1 x6).bind λx7 =>
    some (.inl (x7,x5,w64 (s3.2.2+1)))
   else
    some (.inr (s3.1,s3.2.1))) (a0.2.2.1,[],0)).bind λ(p8:(Int×(List Int))) =>
 (qaP (λ(s10:((List Int)×Int)) =>
   bif decide (s10.2<(s10.1.length:Int))then
    (idx s10.1 s10.2).bind λx11 =>
    bif decide (p8.1=0)then
     none
    else
     (idx s10.1 s10.2).bind λx12 =>
     (idx s10.1 s10.2).bind λx13 =>
     let l14:(List Int):=List.set s10.1 s10.2.toNat (w64 (x11.tdiv p8.1))
     some (.inl (l14,w64 (s10.2+1)))
   else
    some (.inr s10.1)) (p8.2,0)).bind λ(p15:(List Int)) =>
 bif decide (p8.1=0)then
  none
 else
  some (w64 (a0.2.2.1.tdiv p8.1),p15,())
def qaV:Entry:=⟨36,[.ty (.pair I (.pair I (.pair I .unit))),.ty (.sl I)],[((.pair I (.pair (.sl I) .unit)),1)],λx=>qdd x.1 x.2⟩
def qjP:TH:=qfl [([],36,.block 0,{lv:=[⟨none,5,0⟩,⟨none,6,0⟩],ps:=[(I,0),((.sl I),1)],D:=⟨68719474912⟩}),
 ([],36,.loop 0,{lv:=[⟨none,5,0⟩,⟨none,6,0⟩,⟨none,7,0⟩],ps:=[(I,0),((.sl I),1),(I,0)],D:=⟨68719474912⟩,rs:=[⟨0,2⟩],Dn:=⟨68685658336⟩}),
 ([],36,.block 2,{lv:=[⟨none,6,0⟩],ps:=[((.sl I),1)],D:=⟨2251731094208832⟩}),
 ([],36,.loop 2,{lv:=[⟨none,6,0⟩,⟨none,8,0⟩],ps:=[((.sl I),1),(I,0)],D:=⟨2251731094208832⟩})] []
theorem qjT(x:denP qaV.ps):fnT Try.prog Hn.hints qjP (qea [qdr]) 40 36 (qaF qaV.ps x) qaV.rs=qaV.F x:=by kernel_rfl
theorem qj1:qN Try.prog Hn.hints Lb qaV:=qJ (qt qn5 qY) hJ 40 _ _ _ _ qjT
def qdp(a0:Int)(a1:Int):Option Int :=
 bif decide (a1=0)then
  none
 else
  bif decide (a1=0)then
   none
  else
   (bif decide (a0.tmod a1<0)then
     some (w64 ((w64 (a0.tdiv a1))-1))
    else
     some (w64 (a0.tdiv a1))).bind λ(p1:Int) =>
   some p1
def qby:Entry:=⟨38,[.ty I,.ty I],[(I,0)],λx=>qdp x.1 x.2⟩
def qqX:TH:=qfl [([],38,.cond 12,{lv:=[⟨none,5,0⟩],ps:=[(I,0)],D:=⟨24608⟩})] []
theorem qqY(x:denP qby.ps):fnT Try.prog Hn.hints qqX (qea []) 40 38 (qaF qby.ps x) qby.rs=qby.F x:=by kernel_rfl
theorem qgW:qN Try.prog Hn.hints Lb qby:=qJ qY hJ 40 _ _ _ _ qqY
def qfs(a0:Int)(a1:Int):Option Int :=
 (qdp (w64 (0-a0)) a1).bind λx1 =>
 some (w64 (0-x1))
def qcQ:Entry:=⟨39,[.ty I,.ty I],[(I,0)],λx=>qfs x.1 x.2⟩
def qsr:TH:=qfl [] []
theorem qsu(x:denP qcQ.ps):fnT Try.prog Hn.hints qsr (qea [qby]) 40 39 (qaF qcQ.ps x) qcQ.rs=qcQ.F x:=by kernel_rfl
theorem qml:qN Try.prog Hn.hints Lb qcQ:=qJ (qt qgW qY) hJ 40 _ _ _ _ qsu
def qfb(a0:(Int×Int×Int×Unit))(a1:(List Int)):Option (List (Int×Int×Unit)) :=
 (qaP (λ(s3:((List (Int×Int×Unit))×Int)) =>
   bif decide (s3.2<(a1.length:Int))then
    (idx a1 s3.2).bind λx4 =>
    (qft a0.1).bind λx5 =>
    (idx a1 s3.2).bind λx6 =>
    (qft a0.1).bind λx7 =>
    (qdp (w64 ((w64 ((w64 (a0.1*x4))+a0.2.1))-x5)) a0.2.2.1).bind λx8 =>
    (qfs (w64 ((w64 ((w64 (a0.1*x6))+a0.2.1))+x7)) a0.2.2.1).bind λx9 =>
    (app s3.1 ([(x8,x9,())])).bind λx10 =>
    some (.inl (x10,w64 (s3.2+1)))
   else
    some (.inr s3.1)) ([],0)).bind λ(p11:(List (Int×Int×Unit))) =>
 some p11
def qbR:Entry:=⟨37,[.ty (.pair I (.pair I (.pair I .unit))),.ty (.sl I)],[((.sl (.pair I (.pair I .unit))),1)],λx=>qfb x.1 x.2⟩
def qnp:TH:=qfl [([],37,.block 0,{lv:=[⟨none,5,0⟩],ps:=[((.sl (.pair I (.pair I .unit))),1)],D:=⟨36028797018963936⟩}),
 ([],37,.loop 0,{lv:=[⟨none,5,0⟩,⟨none,6,0⟩],ps:=[((.sl (.pair I (.pair I .unit))),1),(I,0)],D:=⟨36028797018963936⟩,rs:=[⟨0,2⟩],Dn:=⟨35430043643510752⟩})] []
theorem qnt(x:denP qbR.ps):fnT Try.prog Hn.hints qnp (qea [qcQ,qby,qcR]) 40 37 (qaF qbR.ps x) qbR.rs=qbR.F x:=by kernel_rfl
theorem qnx:qN Try.prog Hn.hints Lb qbR:=qJ (qt qml (qt qgW (qt qmn qY))) hJ 40 _ _ _ _ qnt
def qc6(a0:(Int×Int×Int×Unit))(a1:(List Int))(a2:(Int×Int×Int×Unit)):Option Bool :=
 (qih).bind λx1 =>
 bif !x1 then
  some false
 else
  (qee a1).bind λx2 =>
  bif !x2 then
   some true
  else
   (qbh a1).bind λx3 =>
   (qch x3).bind λx4 =>
   (qbh a1).bind λx5 =>
   (qb0 a0 x5).bind λx6 =>
   (qbh a1).bind λx7 =>
   (qdh a0 x7).bind λx8 =>
   (qbh a1).bind λx9 =>
   (qcM x9 (a2.1,a2.2.1,())).bind λx10 =>
   (qbh a1).bind λx11 =>
   (qdM x11 a2.2.2.1).bind λx12 =>
   (qdJ a1).bind λx13 =>
   (bif !(decide (x4.2=x13.2))then
     some true
    else
     some (!(decide (x4.1=x13.1)))).bind λ(p14:Bool) =>
   bif p14 then
    some false
   else
    (qei a0).bind λx15 =>
    (bif decide (x13.2=0)then
      (qcf (a2.1,a2.2.1,())).bind λx16 =>
      (qa2 a2.2.2.1 (2:Int) (60:Int)).bind λx17 =>
      (bif !x17 then
        some 2
       else
        some x13.2).bind λ(p18:Int) =>
      some (x16,p18)
     else
      some (x13.2,x13.2)).bind λ(p19:(Int×Int)) =>
    (bif decide (x15=0)then
      some x13.2
     else
      some x15).bind λ(p20:Int) =>
    (bif !(decide (x10.2=p19.1))then
      some true
     else
      bif !(decide (x12.2=p19.2))then
       some true
      else
       bif !(decide (x6.2=p20))then
        some true
       else
        some (!(decide (x8.2=p20)))).bind λ(p21:Bool) =>
    bif p21 then
     some false
    else
     (bif !(decide (p19.1=0))then
       bif !(decide ((x10.1.length:Int)=0))then
        some true
       else
        bif decide (p19.1=0)then
         (qdc a1 (a2.1,a2.2.1,())).bind λx22 =>
         (qah x10.1 x22).bind λx23 =>
         bif !x23 then
          some true
         else
          bif !(decide (p19.2=0))then
           bif !(decide ((x12.1.length:Int)=0))then
            some true
           else
            bif decide (p19.2=0)then
             (qa5 a1 a2.2.2.1).bind λx24 =>
             (qah x12.1 x24).bind λx25 =>
             some (!x25)
            else
             some false
          else
           bif decide (p19.2=0)then
            (qa5 a1 a2.2.2.1).bind λx26 =>
            (qah x12.1 x26).bind λx27 =>
            some (!x27)
           else
            some false
        else
         bif !(decide (p19.2=0))then
          bif !(decide ((x12.1.length:Int)=0))then
           some true
          else
           bif decide (p19.2=0)then
            (qa5 a1 a2.2.2.1).bind λx28 =>
            (qah x12.1 x28).bind λx29 =>
            some (!x29)
           else
            some false
         else
          bif decide (p19.2=0)then
           (qa5 a1 a2.2.2.1).bind λx30 =>
           (qah x12.1 x30).bind λx31 =>
           some (!x31)
          else
           some false
      else
       bif decide (p19.1=0)then
        (qdc a1 (a2.1,a2.2.1,())).bind λx32 =>
        (qah x10.1 x32).bind λx33 =>
        bif !x33 then
         some true
        else
         bif !(decide (p19.2=0))then
          bif !(decide ((x12.1.length:Int)=0))then
           some true
          else
           bif decide (p19.2=0)then
            (qa5 a1 a2.2.2.1).bind λx34 =>
            (qah x12.1 x34).bind λx35 =>
            some (!x35)
           else
            some false
         else
          bif decide (p19.2=0)then
           (qa5 a1 a2.2.2.1).bind λx36 =>
           (qah x12.1 x36).bind λx37 =>
           some (!x37)
          else
           some false
       else
        bif !(decide (p19.2=0))then
         bif !(decide ((x12.1.length:Int)=0))then
          some true
         else
          bif decide (p19.2=0)then
           (qa5 a1 a2.2.2.1).bind λx38 =>
           (qah x12.1 x38).bind λx39 =>
           some (!x39)
          else
           some false
        else
         bif decide (p19.2=0)then
          (qa5 a1 a2.2.2.1).bind λx40 =>
          (qah x12.1 x40).bind λx41 =>
          some (!x41)
         else
          some false).bind λ(p42:Bool) =>
     bif p42 then
      some false
     else
      bif !(decide (p20=0))then
       (bif decide ((x8.1.length:Int)=0)then
         (qbP x6.1 (0,[],())).bind λx43 =>
         some x43
        else
         some false).bind λ(p44:Bool) =>
       some p44
      else
       ((qdd a0 a1).bind λx45 =>
        (qbP x6.1 x45).bind λx46 =>
        bif !x46 then
         some true
        else
         (qfb a0 a1).bind λx47 =>
         (qah x8.1 x47).bind λx48 =>
         some (!x48)).bind λ(p49:Bool) =>
       bif p49 then
        some false
       else
        (qaP (λ(s51:Int) =>
          bif decide (s51<(a1.length:Int))then
           ((idx x6.1.2.1 s51).bind λx52 =>
            (qdp x52 x6.1.1).bind λx53 =>
            (idx x8.1 s51).bind λx54 =>
            bif decide (x53<x54.1)then
             some true
            else
             (idx x6.1.2.1 s51).bind λx55 =>
             (qfs x55 x6.1.1).bind λx56 =>
             (idx x8.1 s51).bind λx57 =>
             some (decide (x56 > x57.2.1))).bind λ(p58:Bool) =>
           bif p58 then
            some (.inr (.inr false))
           else
            some (.inl (w64 (s51+1)))
          else
           some (.inr (.inl ()))) 0).bind (Sum.elim (λ(p59:Unit) =>
        some true) some)
def qai:Entry:=⟨4,[.ty (.pair I (.pair I (.pair I .unit))),.ty (.sl I),.ty (.pair I (.pair I (.pair I .unit)))],[(.bool,0)],λx=>qc6 x.1 x.2.1 x.2.2⟩
def qhP:TH:=qfl [([],4,.region 11,{lv:=[⟨none,76,0⟩],ps:=[(.bool,0)],D:=⟨150525431641469941186560⟩}),
 ([],4,.cond 82,{lv:=[⟨none,19,0⟩,⟨none,20,0⟩],ps:=[(I,0),(I,0)],D:=⟨1228268632728463241503047680⟩,rs:=[⟨0,5⟩],Dn:=⟨1141225973716209940924203008⟩}),
 ([],4,.cond 89,{lv:=[⟨none,20,0⟩],ps:=[(I,0)],D:=⟨1048576⟩}),
 ([],4,.cond 91,{lv:=[⟨none,21,0⟩],ps:=[(I,0)],D:=⟨4951760157141521099598594048⟩}),
 ([],4,.region 20,{lv:=[⟨none,110,0⟩],ps:=[(.bool,0)],D:=⟨2596138525747099531223048971616256⟩}),
 ([],4,.region 22,{lv:=[⟨none,152,0⟩],ps:=[(.bool,0)],D:=⟨11417981541645082900037020341781695842897362944⟩,rs:=[⟨0,5⟩],Dn:=⟨11328778539583312474912223502230189432387928064⟩}),
 ([],4,.region 25,{lv:=[⟨none,6,0⟩],ps:=[(.bool,0)],D:=⟨11646341172480632629435613510707880312883212453952⟩}),
 ([],4,.region 26,{lv:=[⟨none,176,0⟩],ps:=[(.bool,0)],D:=⟨191550250595137460071447748915126917688185142812606464⟩}),
 ([],4,.block 0,{lv:=[],ps:=[],abn:=true,D:=⟨13164036458378086394631517353164010661468098277116296516520116224⟩}),
 ([],4,.loop 0,{lv:=[⟨none,22,0⟩],ps:=[(I,0)],D:=⟨13164036458378086394631517353164010661468098277116296516520116224⟩,rs:=[⟨0,9⟩],Dn:=⟨13150778814934126936263637559298580902315665627070460219157905408⟩}),
 ([],4,.region 31,{lv:=[⟨none,212,0⟩],ps:=[(.bool,0)],D:=⟨13164036446309684010312642593592027822659413456118725929320054784⟩,rs:=[⟨0,9⟩],Dn:=⟨13150778802865724551944762799726598063506980806072889631957843968⟩})] []
theorem qhS(x:denP qai.ps):fnT Try.prog Hn.hints qhP (qea [qcQ,qbr,qby,qcm,qaO,qc2,qbs,qbc,qbt,qaV,qaW,qbu,qbR,qaH,qcn,qav,qaI,qas,qaX,qbd]) 40 4 (qaF qai.ps x) qai.rs=qai.F x:=by kernel_rfl
theorem qhW:qN Try.prog Hn.hints Lb qai:=qJ (qt qml (qt qmm (qt qgW (qt qpn (qt qeg (qt qpo (qt qmo (qt qkT (qt qmp (qt qj1 (qt qj2 (qt qmq (qt qnx (qt qjc (qt qpp (qt qfH (qt qjd (qt qhY (qt qj3 (qt qkU qY)))))))))))))))))))) hJ 40 _ _ _ _ qhS
end
end
end Go.Proofs.Ytofjnhppalciiaa
end
section
namespace Go.Tx
open Go
section
theorem qiC{n:Int}(h1 : -9223372036854775808<=n)(h2:n<=9223372036854775807):IntKind.wrap .i64 n=n:=by
 rw [IntKind.wrap_i64];omega
theorem qbz{α:Type}{l:List α}{i:Nat}{a:α}(h:l[i]?=some a):idx l (i:Int)=some a:=by simp [idx,h]
theorem qvV{α:Type}{l l2:List α}(h:l.length+l2.length<=4294967296):app l l2=some (l++l2):=by simp [app,h]
section
variable {σ ρ:Type} {f:σ->Option (σ ⊕ ρ)}
theorem qj0:∀{n m:Nat} {s:σ} {r:ρ},qhV f n s=some r->n<=m->qhV f m s=some r
 |0,m,s,r,h,_=>by simp [qhV]at h
 |n+1,0,s,r,h,hm=>by omega
 |n+1,m+1,s,r,h,hm=>by
  simp only [qhV]at h ⊢;cases hf:f s with
  |none=>rw [hf]at h;cases h
  |some x =>
   rw [hf]at h;cases x with
   |inl s'=>exact qj0 h (by omega)
   |inr r'=>exact h
theorem qpi{n:Nat}{s:σ}{r:ρ}(h:qhV f n s=some r):qaP f s=some r:=by
 have hex:∃n r,qhV f n s=some r:=⟨n,r,h⟩
 cases hl:qaP f s with
 |none=>exfalso;unfold qaP at hl;rw [dif_pos hex]at hl;cases hl
 |some r' =>
  obtain ⟨m,hm⟩:=qhs hl;have h1:=qj0 h (Nat.le_max_left n m);have h2:=qj0 hm (Nat.le_max_right n m);rw [<- h1,<- h2]
theorem qfE{s s':σ}(h:f s=some (.inl s')):qaP f s=qaP f s':=by
 cases hl:qaP f s' with
 |some r =>
  obtain ⟨n,hn⟩:=qhs hl;exact qpi (n:=n+1) (by simp [qhV,h,hn])
 |none =>
  cases hl2:qaP f s with
  |none=>rfl
  |some r =>
   obtain ⟨n,hn⟩:=qhs hl2;cases n with
   |zero=>simp [qhV]at hn
   |succ n =>
    simp only [qhV,h]at hn;rw [qpi hn]at hl;cases hl
theorem qc8{s:σ}{r:ρ}(h:f s=some (.inr r)):qaP f s=some r:=qpi (n:=1) (by simp [qhV,h])
theorem qyE(n:Nat)(I:Nat->σ->Prop)(Q:ρ->Prop)
  (hs:∀i s,i<=n->I i s->(∃s',f s=some (.inl s')/\i<n/\I (i+1) s')\/(∃r,f s=some (.inr r)/\Q r)) {s:σ} (h0:I 0 s):∃r,qaP f s=some r/\Q r:=by
 have h:∀k i s,n-i=k->i<=n->I i s->∃r,qaP f s=some r/\Q r:=by
  intro k;induction k with
  |zero =>
   intro i s hk hi hI;rcases hs i s hi hI with ⟨s',_,h,_⟩|⟨r,h,hq⟩
   ·omega
   ·exact ⟨r,qc8 h,hq⟩
  |succ k ih =>
   intro i s hk hi hI;rcases hs i s hi hI with ⟨s',h,hlt,hI'⟩|⟨r,h,hq⟩
   ·obtain ⟨r,hr,hq⟩:=ih (i+1) s' (by omega) (by omega) hI';exact ⟨r,by rw [qfE h,hr],hq⟩
   ·exact ⟨r,qc8 h,hq⟩
 exact h n 0 s (by omega) (by omega) h0
end
def qd2{α ρ:Type}(g:Nat->α->Option ρ):Nat->List α->Option ρ
 |_,[]=>none
 |k,a::l=>match g k a with
  |some r=>some r
  |none=>qd2 g (k+1) l
theorem qlF{α ρ:Type}(g:α->Option ρ):∀(l:List α) (k:Nat),qd2 (λ_ a=>g a) k l=l.findSome? g
 |[],k=>rfl
 |a::l,k=>by simp only [qd2,List.findSome?_cons];cases g a<;>simp [qlF g l]
def qvu{ρ:Type}:Option ρ->Unit⊕ρ
 |some r=>.inr r
 |none=>.inl ()
def stp{ρ:Type}(i:Nat):Option ρ->Int⊕(Unit⊕ρ)
 |some r=>.inr (.inr r)
 |none=>.inl ((i:Int)+1)
theorem qeK{α ρ:Type}(l:List α){f:Int->Option (Int⊕(Unit⊕ρ))}(g:Nat->α->Option ρ)
  (h:∀(i:Nat) (a:α),l[i]?=some a->f i=some (stp i (g i a)))
  (he:f l.length=some (.inr (.inl ()))):qaP f 0=some (qvu (qd2 g 0 l)):=by
 have key:∀(l2 l1:List α),l1++l2=l->qaP f (l1.length:Nat)=some (qvu (qd2 g l1.length l2)):=by
  intro l2;induction l2 with
  |nil =>
   intro l1 e;have:l1=l:=by simpa using e
   subst this;rw [qc8 he];rfl
  |cons a l2 ih =>
   intro l1 e;have hi:l[l1.length]?=some a:=by rw [<- e];simp
   have hf:=h _ _ hi;simp only [qd2];cases hg:g l1.length a with
   |some r=>rw [hg]at hf;rw [qc8 hf];rfl
   |none =>
    rw [hg]at hf;rw [qfE hf];have:=ih (l1++[a]) (by simp [e]);simpa using this
 simpa using key l [] rfl
end
section
def Ok{α:Type}(o:Option α)(Q:α->Prop):Prop:=∃a,o=some a/\Q a
section
variable {α β σ ρ τ:Type}
theorem qd4{a:α}{Q:α->Prop}:Ok (some a) Q↔Q a:=⟨λ⟨_,h,hq⟩=>by cases h;exact hq,λh=>⟨a,rfl,h⟩⟩
theorem ok_none{Q:α->Prop}:Ok (none:Option α) Q↔False:=⟨λ⟨_,h,_⟩=>(by cases h),λh=>h.elim⟩
theorem ok_eq{o:Option α}{a:α}:Ok o (λr=>r=a)↔o=some a:=⟨λ⟨_,h,hq⟩=>by rw [h,hq],λh=>⟨a,h,rfl⟩⟩
theorem Ok.eq{o:Option α}{a:α}(h:Ok o (λr=>r=a)):o=some a:=ok_eq.1 h
theorem Ok.mono{o:Option α}{P Q:α->Prop}(h:Ok o P)(hq:∀a,P a->Q a):Ok o Q:=by obtain ⟨a,h1,h2⟩:=h;exact ⟨a,h1,hq a h2⟩
theorem Ok.bind{o:Option α}{k:α->Option β}{P:α->Prop}{Q:β->Prop}(h:Ok o P)(hk:∀a,P a->Ok (k a) Q):Ok (o.bind k) Q:=by
 obtain ⟨a,h1,h2⟩:=h;rw [h1];exact hk a h2
theorem qeO{o:Option α}{k:α->Option β}{Q:β->Prop}:Ok (o.bind k) Q↔Ok o λa=>Ok (k a) Q:=by
 cases o with
 |none=>simp [ok_none]
 |some a=>simp [qd4]
theorem qBn{l:List α}{n:Int}(d:α)(h0:0<=n)(h1:n<l.length):idx l n=some (l.getD n.toNat d):=by
 unfold idx;rw [if_pos h0];have:n.toNat<l.length:=by omega
 simp [this]
theorem qfU{l:List α}{a:α}(h:l.length<=4294967295):app l [a]=some (l++[a]):=qvV (by simp;omega)
theorem qz0{l2:List α}(h:l2.length<=4294967296):app [] l2=some l2:=by rw [qvV (by simpa using h)];rfl
def Rnd(o:Option (σ⊕ρ))(I:σ->Prop)(Q:ρ->Prop):Prop:=Ok o λx=>match x with
 |.inl s=>I s
 |.inr r=>Q r
theorem qde{s:σ}{I:σ->Prop}{Q:ρ->Prop}:Rnd (some (.inl s)) I Q↔I s:=qd4
theorem qgk{r:ρ}{I:σ->Prop}{Q:ρ->Prop}:Rnd (some (.inr r):Option (σ⊕ρ)) I Q↔Q r:=qd4
theorem qga{f:σ->Option (σ⊕ρ)}(n:Nat)(I:Nat->σ->Prop)(Q:ρ->Prop){s:σ}(h0:I 0 s)
  (hs:∀i s,i<=n->I i s->Rnd (f s) (λs'=>i<n/\I (i+1) s') Q):Ok (qaP f s) Q:=by
 obtain ⟨r,h1,h2⟩:=qyE n I Q (λi s hi hI=>by
  obtain ⟨x,hx,h⟩:=hs i s hi hI;cases x with
  |inl s'=>exact .inl ⟨s',hx,h⟩
  |inr r=>exact .inr ⟨r,hx,h⟩) h0
 exact ⟨r,h1,h2⟩
end
theorem qcS{α:Type}{l:List α}{i:Nat}{a d:α}(h:l[i]?=some a):l.getD i d=a:=by simp [h]
theorem qm4{α:Type}{l:List α}{i:Nat}(d:α)(h:i<l.length):l.take (i+1)=l.take i++[l.getD i d]:=by
 rw [List.take_add_one];simp [h]
end
section
section
variable {α β ρ τ:Type}
theorem qq1{l:List α}{i:Nat}{a:α}(h:l[i]?=some a):i<l.length:=(qm.1 h).1
theorem qfv{g:Nat->α->Option ρ}:∀{l:List α} {k:Nat},qd2 g k l=none↔∀i a,l[i]?=some a->g (k+i) a=none
 |[],k=>by simp [qd2]
 |a::l,k=>by
  simp only [qd2];cases hg:g k a with
  |some r =>
   simp only [reduceCtorEq,false_iff];intro h;have:=h 0 a rfl;simp [hg]at this
  |none =>
   simp only
   rw [qfv (l:=l) (k:=k+1)];constructor
   ·intro h i b hb;cases i with
    |zero=>simp at hb;subst hb;simpa using hg
    |succ i=>have:=h i b (by simpa using hb);rw [<- this];congr 1;omega
   ·intro h i b hb;have:=h (i+1) b (by simpa using hb);rw [<- this];congr 1;omega
theorem qnM{g:Nat->α->Option ρ}{r:ρ}:∀{l:List α} {k:Nat},qd2 g k l=some r->∃i a,l[i]?=some a/\g (k+i) a=some r/\∀j b,j<i->l[j]?=some b->g (k+j) b=none
 |[],k,h=>by simp [qd2]at h
 |a::l,k,h=>by
  simp only [qd2]at h;cases hg:g k a with
  |some r' =>
   rw [hg]at h;simp only [qb]at h;subst h;exact ⟨0,a,rfl,by simpa using hg,λj b hj=>by omega⟩
  |none =>
   rw [hg]at h;obtain ⟨i,b,h1,h2,h3⟩:=qnM (l:=l) (k:=k+1) h;refine ⟨i+1,b,by simpa using h1,by rw [<- h2];congr 1;omega,λj c hj hc=>?_⟩;cases j with
   |zero=>simp at hc;subst hc;simpa using hg
   |succ j=>have:=h3 j c (by omega) (by simpa using hc);rw [<- this];congr 1;omega
end
end
theorem qlA{f:Int×Int->Option ((Int×Int)⊕Int)}(hf:∀s,f s=if s.2=0 then some (.inr s.1)else some (.inl (s.2,s.1.tmod s.2))):∀(n:Nat) (a b:Int),b.natAbs<=n->∃r,qaP f (a,b)=some r/\r.natAbs=Int.gcd a b:=by
 intro n;induction n with
 |zero =>
  intro a b hb;have:b=0:=by omega
  subst this;exact ⟨a,qc8 (by rw [hf];simp),by simp⟩
 |succ n ih =>
  intro a b hb;by_cases h0:b=0
  ·subst h0;exact ⟨a,qc8 (by rw [hf];simp),by simp⟩
  ·have hlt:(a.tmod b).natAbs<b.natAbs:=by
    rw [Int.natAbs_tmod];exact Nat.mod_lt _ (by omega)
   obtain ⟨r,h1,h2⟩:=ih b (a.tmod b) (by omega);refine ⟨r,by rw [qfE (s':=(b,a.tmod b)) (by rw [hf];simp [h0])];exact h1,?_⟩;rw [h2];unfold Int.gcd;rw [Int.natAbs_tmod,Nat.gcd_comm,<- Nat.gcd_rec,Nat.gcd_comm]
def qnj:Nat->List Int->Nat
 |g,[]=>g
 |g,n::l=>qnj (Nat.gcd g n.natAbs) l
def qrX(l:List Int):Nat:=qnj 0 l
theorem qlK(g:Nat)(n:Int):∀(l:List Int),qnj g (l++[n])=Nat.gcd (qnj g l) n.natAbs:=by
 intro l;induction l generalizing g with
 |nil=>rfl
 |cons m l ih=>simp only [List.cons_append,qnj];exact ih _
theorem qyt(a b:Int):qrX [a,b]=Int.gcd a b:=by simp [qrX,qnj,Int.gcd]
theorem quH(a b c:Int):qrX [a,b,c]=Nat.gcd (Int.gcd a b) c.natAbs:=by simp [qrX,qnj,Int.gcd]
theorem qsl{B:Nat}:∀{l:List Int} {g:Nat},g<=B->(∀x∈l,x.natAbs<=B)->qnj g l<=B
 |[],g,hg,_=>hg
 |n::l,g,hg,h=>by
  simp only [qnj];refine qsl ?_ λx hx=>h x (by simp [hx]);have h1:=h n (by simp);by_cases hg0:g=0
  ·subst hg0;simpa using h1
  ·exact Nat.le_trans (Nat.le_of_dvd (by omega) (Nat.gcd_dvd_left g n.natAbs)) hg
theorem qqN:∀{l:List Int} {g:Nat},qnj g l=0↔g=0/\∀x∈l,x=0
 |[],g=>by simp [qnj]
 |n::l,g=>by
  simp only [qnj,qqN (l:=l),Nat.gcd_eq_zero_iff,qk,forall_eq_or_imp];constructor
  ·rintro ⟨⟨h1,h2⟩,h3⟩;exact ⟨h1,by omega,h3⟩
  ·rintro ⟨h1,h2,h3⟩;exact ⟨⟨h1,by omega⟩,h3⟩
theorem qfk:∀(l:List Int) (g:Nat),qnj g l ∣ g
 |[],g=>Nat.dvd_refl g
 |n::l,g=>Nat.dvd_trans (qfk l _) (Nat.gcd_dvd_left ..)
theorem qoV:∀{l:List Int} {g:Nat} {x:Int},x∈l->((qnj g l:Nat):Int) ∣ x
 |n::l,g,x,hx=>by
  rcases qk.1 hx with rfl|hx
  ·have h1:=Nat.dvd_trans (qfk l (Nat.gcd g x.natAbs)) (Nat.gcd_dvd_right ..);exact Int.ofNat_dvd_left.2 h1
  ·exact qoV (l:=l) hx
theorem qqv(l:List Int)(hl:l.length<=1000000000)(hb:∀x∈l,x.natAbs<=4611686018427387904) :
  (qaP (λ(s2:(Int×Int)) =>
   bif decide (s2.2<(l.length:Int))then
    (idx l s2.2).bind λx3 =>
    (qaP (λ(s5:(Int×Int)) =>
      bif !(decide (s5.2=0))then
       bif decide (s5.2=0)then
        none
       else
        some (.inl (s5.2,s5.1.tmod s5.2))
      else
       some (.inr s5.1)) (s2.1,x3)).bind λ(p6:Int) =>
    some (.inl (p6,IntKind.wrap .i64 (s2.2+1)))
   else
    some (.inr s2.1)) (0,0)).bind (λ(p7:Int)=>some (max p7 (IntKind.wrap .i64 (0-p7))))=some (qrX l:Int):=by
 refine Ok.eq ?_;rw [qeO];refine (qga l.length (λi (s:Int×Int)=>s.2=(i:Int)/\s.1.natAbs=qrX (l.take i)) (λr:Int=>r.natAbs=qrX l) ⟨rfl,rfl⟩ ?_).mono ?_
 ·rintro i ⟨g,s⟩ hi ⟨h1,h2⟩;simp only at h1 h2;subst h1;by_cases hlt:i<l.length
  ·have e0:decide ((i:Int)<(l.length:Int))=true:=by simp<;>omega
   simp only [e0,cond_true];rw [qBn 0 (by omega) (by omega)];simp only [qa,Int.toNat_natCast];obtain ⟨r,h3,h4⟩:=qlA (f:=λ(s5:(Int×Int))=>bif !(decide (s5.2=0))then bif decide (s5.2=0)then none else some (.inl (s5.2,s5.1.tmod s5.2))else some (.inr s5.1)) (λs=>by
    by_cases h:s.2=0<;>simp [h]) (l.getD i 0).natAbs g (l.getD i 0) (Nat.le_refl _)
   rw [h3];simp only [qa];rw [qiC (by omega) (by omega),qde];refine ⟨hlt,by simp,?_⟩;rw [h4,qm4 0 hlt];unfold qrX at h2 ⊢;rw [qlK,<- h2];rfl
  ·have:i=l.length:=by omega
   subst this;have e0:decide ((l.length:Int)<(l.length:Int))=false:=by simp
   simp only [e0,cond_false];rw [qgk];simpa using h2
 ·intro r hr;have hle:qrX l<=4611686018427387904:=qsl (by omega) hb;rw [qiC (by omega) (by omega),qd4];omega
theorem qx4(a b:Int)(ha:a.natAbs<=4611686018427387904)(hb:b.natAbs<=4611686018427387904) :
  Ok (qaP (λ(s2:(Int×Int)) =>
   bif !(decide (s2.2=0))then
    bif decide (s2.2=0)then
     none
    else
     some (.inl (s2.2,s2.1.tmod s2.2))
   else
    some (.inr s2.1)) (a,b)) λr=>r.natAbs=Int.gcd a b:=by
 obtain ⟨r,h1,h2⟩:=qlA (f:=λ(s2:(Int×Int))=>bif !(decide (s2.2=0))then bif decide (s2.2=0)then none else some (.inl (s2.2,s2.1.tmod s2.2))else some (.inr s2.1)) (λs=>by
  by_cases h:s.2=0<;>simp [h]) b.natAbs a b (Nat.le_refl _)
 exact ⟨r,h1,h2⟩
theorem qzC{a b:Int}{B:Nat}(ha:a.natAbs<=B)(hb:b.natAbs<=B):Int.gcd a b<=B:=by
 have:=qsl (B:=B) (l:=[a,b]) (g:=0) (by omega) (by simp [ha,hb]);have e:=qyt a b;unfold qrX at e;omega
section
section
variable {α:Type}
theorem qun{a b A B:Int}(h1 : -A<=a/\a<=A)(h2 : -B<=b/\b<=B) : -(A*B)<=a*b/\a*b<=A*B:=by
 have hA:0<=A:=by omega
 have hB:0<=B:=by omega
 have e:(a*b).natAbs=a.natAbs*b.natAbs:=Int.natAbs_mul a b;have h3:a.natAbs*b.natAbs<=A.natAbs*B.natAbs:=Nat.mul_le_mul (by omega) (by omega);have h4:((A.natAbs*B.natAbs:Nat):Int)=A*B:=by
  rw [Int.natCast_mul];congr 1<;>omega
 omega
end
end
section
section
variable {α β:Type}
theorem qfh{l:List α}{i:Nat}(d:α)(h:i<l.length):l[i]?=some (l.getD i d):=by simp [h]
end
end
end Go.Tx
end
section
namespace Go.Proofs.Ytofjnhppalciiaa
open Go Go.Ab Go.Tx
def big:Nat:=9223372036854775807
theorem qng(a b c:Int):qcu a b c=some (decide (b<=a/\a<=c)):=by
 unfold qcu;by_cases h:b<=a<;>simp [h]
theorem qex(a b c:Int):qa2 a b c=some (decide (b<=a/\a<=c)):=by
 unfold qa2;by_cases h:b<=a<;>simp [h]
theorem qnc(b:Bool)(v:Int):qaf b v=some (if b then 0 else v):=by
 unfold qaf;cases b<;>simp
def qgu:List Int->Int
 |[]=>0
 |a::l=>if a=0 then qgu l else a
theorem qyr(l:List Int)(hl:l.length<=big):qat l=some (qgu l):=by
 unfold qat;unfold big at hl;rw [qeK l (λ_ a=>if a=0 then none else some a)]
 ·rw [qlF];simp only [qa];clear hl;induction l with
  |nil=>rfl
  |cons a l ih =>
   simp only [List.findSome?_cons,qgu];by_cases h:a=0
   ·simp only [h,if_true];exact ih
   ·simp [h,qvu]
 ·intro i a hi;have hlt:i<l.length:=(qm.1 hi).1;have h1:(i:Int)<(l.length:Int):=by omega
  simp only [h1,decide_true,cond_true,qbz hi,qa,qiC (n:=(i:Int)+1) (by omega) (by omega)];by_cases h:a=0<;>simp [h,stp]
 ·simp
theorem qhk{l:List Int}(hl:l.length<=100):qat l=some (qgu l):=qyr l (by unfold big;omega)
theorem wid{n:Int}(h1 : -9223372036854775808<=n)(h2:n<=9223372036854775807):w64 n=n:=qiC h1 h2
theorem qt7(a b:Int)(h1:0<=b)(h2:b<=9223372036854775807):qbl a b=some (decide (-b<=a/\a<=b)):=by
 unfold qbl;rw [qng];simp only [w64,qiC (n:=0-b) (by omega) (by omega),qa];congr 2
 simp
def qhB(l:List Int):Int:=if l.length=0 then 10 else if 60<l.length then 8 else if ∀v∈l,-100000<=v/\v<=100000 then 0 else 2
theorem qoz(i a:Int):qct i a=some (if -100000<=a/\a<=100000 then 0 else 2):=by
 unfold qct;rw [qt7 _ _ (by omega) (by omega)];simp [qnc]
def qwr(i:Nat)(a:Int):Option (Int×Int):=if -100000<=a/\a<=100000 then none else some ((i:Int),2)
theorem qqG:∀(l:List Int) (k:Nat),(qd2 qwr k l=none/\∀v∈l,-100000<=v/\v<=100000)\/(∃r,qd2 qwr k l=some r/\r.2=2/\¬ ∀v∈l,-100000<=v/\v<=100000)
 |[],k=>.inl ⟨rfl,by simp⟩
 |a::l,k=>by
  simp only [qd2,qwr];by_cases h : -100000<=a/\a<=100000
  ·simp only [h,if_true,and_self];rcases qqG l (k+1)with ⟨h1,h2⟩|⟨r,h1,h2,h3⟩
   ·refine .inl ⟨h1,?_⟩;intro v hv;rcases qk.1 hv with rfl|hv
    ·exact h
    ·exact h2 v hv
   ·exact .inr ⟨r,h1,h2,λhh=>h3 λv hv=>hh v (List.mem_cons_of_mem _ hv)⟩
  ·refine .inr ⟨((k:Int),2),by simp [h],rfl,λhh=>h (hh a (List.mem_cons_self))⟩
theorem qAb(l:List Int)(hl:l.length<=big):qZ l=some ((qd2 qwr 0 l).getD (0,0)):=by
 unfold qZ;unfold big at hl;rw [qeK l qwr]
 ·simp only [qa];cases qd2 qwr 0 l<;>simp [qvu]
 ·intro i a hi;have hlt:i<l.length:=(qm.1 hi).1;have h1:(i:Int)<(l.length:Int):=by omega
  simp only [h1,decide_true,cond_true,qbz hi,qa,qiC (n:=(i:Int)+1) (by omega) (by omega),qoz];by_cases h : -100000<=a/\a<=100000<;>simp [h,stp,qwr]
 ·simp
def qA1(l:List Int):Int×Int:=if l.length=0 then (0,10)else if 60<l.length then (0,8)else (qd2 qwr 0 l).getD (0,0)
theorem qtW(l:List Int):(qA1 l).2=qhB l:=by
 unfold qA1 qhB;by_cases h0:l.length=0
 ·simp [h0]
 ·by_cases h1:60<l.length
  ·simp [h0,h1]
  ·rcases qqG l 0 with ⟨h2,h3⟩|⟨r,h2,h3,h4⟩
   ·rw [if_neg h0,if_neg h1,if_neg h0,if_neg h1,h2,if_pos h3];rfl
   ·rw [if_neg h0,if_neg h1,if_neg h0,if_neg h1,h2,if_neg h4];exact h3
theorem qkF(l:List Int)(hl:l.length<=big):qch l=some (qA1 l):=by
 unfold qch;simp only [qnc,qa];rw [qhk (by simp)];simp only [qa,qgu,qAb l hl];unfold qA1;by_cases h0:l.length=0
 ·simp [h0]
 ·by_cases h1:60<l.length
  ·have a1:(l.length:Int) > 0:=by omega
   have a2:¬ (l.length:Int)<=60:=by omega
   simp [h0,h1,a1,a2]
  ·have a1:(l.length:Int) > 0:=by omega
   have a2:(l.length:Int)<=60:=by omega
   simp [h0,h1,a1,a2]
theorem qrq(l:List Int):qdJ l=some (qA1 l):=by
 unfold qdJ qA1;by_cases h0:l.length=0
 ·simp [h0]
 ·by_cases h1:60<l.length
  ·have a1:¬ (l.length:Int)=0:=by omega
   have a2:(l.length:Int) > 60:=by omega
   simp only [a1,a2,h0,h1];simp
  ·have a1:¬ (l.length:Int)=0:=by omega
   have a2:¬ (l.length:Int) > 60:=by omega
   rw [qeK l qwr]
   ·simp only [a1,a2,h0,h1,decide_false,cond_false,if_false,qa];cases qd2 qwr 0 l<;>simp [qvu]
   ·intro i a hi;have hlt:i<l.length:=(qm.1 hi).1;have h1:(i:Int)<(l.length:Int):=by omega
    simp only [h1,decide_true,cond_true,qbz hi,qa,qiC (n:=(i:Int)+1) (by omega) (by omega),qex];by_cases h : -100000<=a/\a<=100000<;>simp [h,stp,qwr]
   ·simp
theorem qjg(l:List Int)(hl:l.length<=big):qbK l=some (qhB l):=by
 unfold qbK;rw [qkF l hl];simp only [qa,qtW]
theorem qvi(l:List Int):qee l=some (decide (l.length<=62)):=by
 unfold qee;congr 2
 exact propext (by omega)
theorem qrZ(l:List Int)(hl:l.length<=4294967296):qbh l=some l:=by
 unfold qbh;rw [qvV (by simpa using hl)];rfl
theorem qxc{l:List Int}(h:qhB l=0):0<l.length/\l.length<=60/\∀v∈l,-100000<=v/\v<=100000:=by
 unfold qhB at h;split at h
 ·cases h
 ·split at h
  ·cases h
  ·split at h
   ·rename_i h1 h2 h3;exact ⟨by omega,by omega,h3⟩
   ·cases h
theorem qlm(a k:Int)(h0:0<=k)(h1:k<=4611686018427387904):qbl a k=some (decide (-k<=a/\a<=k)):=qt7 a k h0 (by omega)
theorem qnd(b:Bool)(e:Int):qaf b e=some (if b then 0 else e):=qnc b e
theorem qvM{v:Int}(h:v.natAbs<=4611686018427387904):qft v=some (v.natAbs:Int):=by
 unfold qft;rw [wid (by omega) (by omega)];congr 1;omega
abbrev Ln:=Int×Int×Int×Unit
abbrev Rg:=Int×Int×Unit
theorem qnH(l:List Int)(hl:l.length<=1000000000)(hb:∀x∈l,x.natAbs<=4611686018427387904):qcE l=some (qrX l:Int):=by
 unfold qcE;exact qqv l hl hb
theorem qvI{a b:Int}(ha:a.natAbs<=4611686018427387904)(hb:b.natAbs<=4611686018427387904):qe0 a b=some (Int.gcd a b:Int):=by
 unfold qe0;refine Ok.eq ?_;rw [qeO];refine (qx4 a b ha hb).mono λr hr=>?_;have:=qzC ha hb;rw [qvM (by omega)];simp only [qa,qd4];omega
def qAh(g o d:Int):Nat:=Nat.gcd (Int.gcd g o) d.natAbs
theorem qAi(g o d:Int):qrX [g,o,d]=qAh g o d:=quH g o d
def mst(x:Ln):Prop:=(1<=x.2.2.1/\x.2.2.1<=300000000000)/\(-300000000000<=x.1/\x.1<=300000000000)/\(-300000000000<=x.2.1/\x.2.1<=300000000000)
instance (x:Ln):Decidable (mst x):=inferInstanceAs (Decidable (_/\_))
def qi7(x:Ln):Int:=if mst x then (if qAh x.1 x.2.1 x.2.2.1=1 then 0 else 3)else 2
theorem qkq(x:Ln):qbQ x=some (qi7 x):=by
 unfold qbQ;rw [qng,qlm _ _ (by omega) (by omega),qlm _ _ (by omega) (by omega)];simp only [qa];have e:(bif decide (1<=x.2.2.1/\x.2.2.1<=300000000000)then bif decide (-300000000000<=x.1/\x.1<=300000000000)then some (decide (-300000000000<=x.2.1/\x.2.1<=300000000000))else some false else some false)=some (decide (mst x)):=by
  unfold mst;by_cases c1:1<=x.2.2.1/\x.2.2.1<=300000000000<;>by_cases c2 : -300000000000<=x.1/\x.1<=300000000000<;>simp only [c1,c2,decide_true,decide_false,cond_true,cond_false,and_true,true_and,false_and,and_false,and_self]<;>rfl
 rw [e];simp only [qa];unfold qi7;by_cases c:mst x
 ·obtain ⟨c1,c2,c3⟩:=c;have c:mst x:=⟨c1,c2,c3⟩
  rw [if_pos c];simp only [c,decide_true,Bool.not_true,cond_false];rw [qnH _ (by simp) (by simp;omega),qAi];simp only [qa,qnd];by_cases c4:qAh x.1 x.2.1 x.2.2.1=1
  ·simp [c4]
  ·have:¬ ((qAh x.1 x.2.1 x.2.2.1:Int)=1):=by omega
   simp [c4,this]
 ·rw [if_neg c];simp only [c,decide_false,Bool.not_false,cond_true]
theorem qzV{g o d:Int}{B:Nat}(hB:B<=4611686018427387904)(h1:g.natAbs<=B)(h2:o.natAbs<=B)(h3:d.natAbs<=B) :
  (qe0 g o).bind (λx1=>qe0 x1 d)=some (qAh g o d:Int):=by
 rw [qvI (by omega) (by omega)];simp only [qa];have:=qzC h1 h2;rw [qvI (by omega) (by omega)];rfl
theorem quk(x:Ln):qei x=some (qi7 x):=by
 unfold qei;rw [qex,qex,qex];simp only [qa];have e:(bif !(decide (1<=x.2.2.1/\x.2.2.1<=300000000000))then some true else bif !(decide (-300000000000<=x.1/\x.1<=300000000000))then some true else some (!(decide (-300000000000<=x.2.1/\x.2.1<=300000000000))))=some (!(decide (mst x))):=by
  unfold mst;by_cases c1:1<=x.2.2.1/\x.2.2.1<=300000000000<;>by_cases c2 : -300000000000<=x.1/\x.1<=300000000000<;>simp only [c1,c2,decide_true,decide_false,cond_true,cond_false,and_true,true_and,false_and,and_false,and_self,Bool.not_true,Bool.not_false]<;>rfl
 rw [e];simp only [qa];unfold qi7;by_cases c:mst x
 ·obtain ⟨c1,c2,c3⟩:=c;have c:mst x:=⟨c1,c2,c3⟩
  rw [if_pos c];simp only [c,decide_true,Bool.not_true,cond_false];rw [<- Option.bind_assoc,qzV (B:=300000000000) (by omega) (by omega) (by omega) (by omega)];simp only [qa];by_cases c4:qAh x.1 x.2.1 x.2.2.1=1
  ·simp [c4]
  ·have:¬ ((qAh x.1 x.2.1 x.2.2.1:Int)=1):=by omega
   simp [c4,this]
 ·rw [if_neg c];simp only [c,decide_false,Bool.not_false,cond_true]
theorem qhK(x g:Int):(x.tdiv g).natAbs<=x.natAbs:=by rw [Int.natAbs_tdiv];exact Nat.div_le_self _ _
def qdf(p q:Nat->Bool):Nat->List Rg
 |0=>[]
 |i+1=>if p i then (match (qdf p q i).getLast? with
  |some r=>if r.2.1=(i:Int)-1/\q i=true then (qdf p q i).dropLast++[(r.1,(i:Int),())]else qdf p q i++[((i:Int),(i:Int),())]
  |none=>qdf p q i++[((i:Int),(i:Int),())])else qdf p q i
theorem qlk(p q:Nat->Bool):∀i,∀r∈qdf p q i,0<=r.1/\r.1<=r.2.1/\r.2.1<(i:Int)
 |0,r,h=>by simp [qdf]at h
 |i+1,r,h=>by
  have ih:=qlk p q i;have old:r∈qdf p q i->0<=r.1/\r.1<=r.2.1/\r.2.1<((i+1:Nat):Int):=λh=>by have:=ih r h;omega
  have one:r∈qdf p q i++[((i:Int),(i:Int),())]->0<=r.1/\r.1<=r.2.1/\r.2.1<((i+1:Nat):Int):=λh=>by
   rcases qj.1 h with h|h
   ·exact old h
   ·rw [List.mem_singleton]at h;subst h;simp only<;>omega
  simp only [qdf]at h;split at h
  ·split at h
   ·rename_i r0 hr0;split at h
    ·rcases qj.1 h with h|h
     ·exact old (List.dropLast_subset _ h)
     ·rw [List.mem_singleton]at h;have:=ih r0 (List.mem_of_getLast? hr0);subst h;simp only
      omega
    ·exact one h
   ·exact one h
  ·exact old h
theorem qhH(p q:Nat->Bool):∀i,(qdf p q i).length<=i
 |0=>by simp [qdf]
 |i+1=>by
  have ih:=qhH p q i;simp only [qdf];split
  ·split
   ·rename_i r0 hr0;split
    ·simp<;>omega
    ·simp<;>omega
   ·simp<;>omega
  ·omega
theorem qrB(n:Nat)(hn:n<=1000)(p q:Nat->Bool)(is on:Int->Option Bool)(hp:∀i,i<n->is (i:Int)=some (p i))(hq:∀i:Nat,0<i->i<n->on (i:Int)=some (q i)) :
  (qaP (λ(s2:((List (Int×Int×Unit))×Int)) =>
   bif decide (s2.2<(n:Int))then
    ((is s2.2).bind λx3 =>
     bif !x3 then
      some s2.1
     else
      (bif decide ((s2.1.length:Int) > 0)then
        (idx s2.1 (w64 ((s2.1.length:Int)-1))).bind λx4 =>
        bif decide (x4.2.1=w64 (s2.2-1))then
         (on s2.2).bind λx5 =>
         some x5
        else
         some false
       else
        some false).bind λ(p6:Bool) =>
      (bif p6 then
        (idx s2.1 (w64 ((s2.1.length:Int)-1))).bind λx7 =>
        (idx s2.1 (w64 ((s2.1.length:Int)-1))).bind λx8 =>
        let l9:(List (Int×Int×Unit)):=List.set s2.1 (w64 ((s2.1.length:Int)-1)).toNat (x8.1,s2.2,())
        some l9
       else
        (app s2.1 ([(s2.2,s2.2,())])).bind λx10 =>
        some x10).bind λ(p11:(List (Int×Int×Unit))) =>
      some p11).bind λ(p12:(List (Int×Int×Unit))) =>
    some (.inl (p12,w64 (s2.2+1)))
   else
    some (.inr s2.1)) ([],0)).bind (λ(p13:(List (Int×Int×Unit)))=>some p13)=some (qdf p q n):=by
 refine Ok.eq ?_;rw [qeO];refine (qga n (λi (s:List Rg×Int)=>s=(qdf p q i,(i:Int))) (λr=>r=qdf p q n) rfl ?_).mono ?_
 ·rintro i s hi rfl;by_cases hlt:i<n
  ·have e0:decide ((i:Int)<(n:Int))=true:=by simp<;>omega
   simp only [e0,cond_true];rw [hp i hlt,wid (n:=(i:Int)+1) (by omega) (by omega),wid (n:=(i:Int)-1) (by omega) (by omega)];simp only [qa];have hlen:=qhH p q i;have hmem:=qlk p q i;have hR:qdf p q (i+1)=if p i then (match (qdf p q i).getLast? with
    |some r=>if r.2.1=(i:Int)-1/\q i=true then (qdf p q i).dropLast++[(r.1,(i:Int),())]else qdf p q i++[((i:Int),(i:Int),())]
    |none=>qdf p q i++[((i:Int),(i:Int),())])else qdf p q i:=rfl
   generalize qdf p q i=out at *;cases hpi:p i with
   |false =>
    simp only [Bool.not_false,cond_true,qa];rw [qde];refine ⟨hlt,?_⟩;rw [hR,hpi];rfl
   |true =>
    simp only [Bool.not_true,cond_false];rw [hpi]at hR;simp only [if_true]at hR;rcases List.eq_nil_or_concat out with rfl|⟨l,r,rfl⟩
    ·have c:decide (((([]:List Rg).length:Nat):Int) > 0)=false:=by simp
     simp only [c,cond_false,qa];rw [qfU (by simp)];simp only [qa];rw [qde];exact ⟨hlt,by rw [hR];rfl⟩
    ·rw [List.concat_eq_append]at *;have c:decide ((((l++[r]).length:Nat):Int) > 0)=true:=decide_eq_true (by simp only [List.length_append,List.length_singleton];omega);have hl1:(l++[r]).length=l.length+1:=by simp
     have ew:w64 (((l++[r]).length:Int)-1)=(l.length:Int):=by rw [wid (by omega) (by omega)];omega
     have hget:idx (l++[r]) (l.length:Int)=some r:=qbz (by simp);rw [c,ew,hget];simp only [cond_true,qa,Int.toNat_natCast];have hlast:(l++[r]).getLast?=some r:=by simp
     have hset:List.set (l++[r]) l.length (r.1,(i:Int),())=l++[(r.1,(i:Int),())]:=by simp
     rw [hlast]at hR;simp only [List.dropLast_concat]at hR;rw [hset,qfU (by omega)];simp only [qa];have hrm:=hmem r (by simp);by_cases c1:r.2.1=(i:Int)-1
     ·have hi0:0<i:=by omega
      rw [hq i hi0 hlt,decide_eq_true c1];simp only [cond_true,qa];cases hqi:q i with
      |true =>
       simp only [cond_true,qa];rw [qde];exact ⟨hlt,by rw [hR,if_pos ⟨c1,hqi⟩];rfl⟩
      |false =>
       simp only [cond_false,qa];rw [qde];exact ⟨hlt,by rw [hR,if_neg (λh=>by rw [hqi]at h;cases h.2)];rfl⟩
     ·rw [decide_eq_false c1];simp only [cond_false,qa];rw [qde];exact ⟨hlt,by rw [hR,if_neg (λh=>c1 h.1)];rfl⟩
  ·have:i=n:=by omega
   subst this;have e0:decide ((i:Int)<(i:Int))=false:=by simp
   simp only [e0,cond_false];rw [qgk]
 ·rintro r rfl;rw [qd4]
theorem qjM(n:Nat)(c:Nat->Bool){g:Int->Option (Int⊕Int)}(hg:∀k:Nat,k<n->g (k:Int)=some (if k+1<n/\c (k+1)=true then .inl ((k:Int)+1)else .inr (k:Int))) :
  ∀m i:Nat,n-i<=m->i<n->∃j,i<=j/\j<n/\(∀k,i<k->k<=j->c k=true)/\(j+1<n->c (j+1)=false)/\qaP g (i:Int)=some (j:Int)
 |0,i,hm,hi=>by omega
 |m+1,i,hm,hi=>by
  by_cases h:i+1<n/\c (i+1)=true
  ·obtain ⟨j,h1,h2,h3,h4,h5⟩:=qjM n c hg m (i+1) (by omega) h.1;refine ⟨j,by omega,h2,λk hk hk2=>?_,h4,?_⟩
   ·by_cases e:k=i+1
    ·subst e;exact h.2
    ·exact h3 k (by omega) hk2
   ·rw [qfE (s':=((i+1:Nat):Int)) (by rw [hg i hi,if_pos h];rfl)];exact h5
  ·refine ⟨i,Nat.le_refl _,hi,λk hk hk2=>by omega,λh2=>?_,?_⟩
   ·cases hc:c (i+1)with
    |false=>rfl
    |true=>exact absurd ⟨h2,hc⟩ h
   ·exact qc8 (by rw [hg i hi,if_neg h])
theorem qtY(n:Nat)(p q:Nat->Bool)(qgM:Rg->Bool){f:List Rg×Int->Option ((List Rg×Int)⊕List Rg)}
  (h0:∀out (i:Nat),i<n->p i=false->f (out,(i:Int))=some (.inl (out,(i:Int)+1)))
  (h1:∀out (i:Nat),i<n->p i=true->∃j:Nat,i<=j/\j<n/\(∀k,i<k->k<=j->p k=true/\q k=true)/\(j+1<n->¬ (p (j+1)=true/\q (j+1)=true)) /\
   (out.length<=i->f (out,(i:Int))=some (.inl (if qgM ((i:Int),(j:Int),())then out++[((i:Int),(j:Int),())]else out,(j:Int)+1))))
  (he:∀out,f (out,(n:Int))=some (.inr out)):qaP f ([],0)=some ((qdf p q n).filter qgM):=by
 have key:∀m i:Nat,n-i<=m->i<=n->(i<n->p i=true->∀r,(qdf p q i).getLast?=some r->¬ (r.2.1=(i:Int)-1/\q i=true)) ->
   qaP f ((qdf p q i).filter qgM,(i:Int))=some ((qdf p q n).filter qgM):=by
  intro m;induction m with
  |zero =>
   intro i hm hi _;have:i=n:=by omega
   subst this;exact qc8 (he _)
  |succ m ih =>
   intro i hm hi hb;by_cases hin:i=n
   ·subst hin;exact qc8 (he _)
   have hlt:i<n:=by omega
   cases hp:p i with
   |false =>
    have hR:qdf p q (i+1)=qdf p q i:=by simp [qdf,hp]
    rw [qfE (h0 _ i hlt hp)];have:=ih (i+1) (by omega) (by omega) (λ_ _ r hr hc=>by
     rw [hR]at hr;have:=qlk p q i r (List.mem_of_getLast? hr);omega)
    rw [hR]at this;exact this
   |true =>
    obtain ⟨j,a1,a2,a3,a4,a5⟩:=h1 ((qdf p q i).filter qgM) i hlt hp;have hfl:((qdf p q i).filter qgM).length<=i:=Nat.le_trans (List.length_filter_le _ _) (qhH p q i);have hR1:qdf p q (i+1)=qdf p q i++[((i:Int),(i:Int),())]:=by
     simp only [qdf,hp,if_true];split
     ·rename_i r hr;rw [if_neg (hb hlt hp r hr)]
     ·rfl
    have hRk:∀d:Nat,i+d<=j->qdf p q (i+d+1)=qdf p q i++[((i:Int),((i+d:Nat):Int),())]:=by
     intro d;induction d with
     |zero=>intro _;exact hR1
     |succ d ihd =>
      intro hd;have h2:=ihd (by omega);obtain ⟨b1,b2⟩:=a3 (i+d+1) (by omega) (by omega);have e:i+(d+1)=i+d+1:=by omega
      rw [e];have hun:qdf p q (i+d+1+1)=(match (qdf p q (i+d+1)).getLast? with
       |some r=>if r.2.1=((i+d+1:Nat):Int)-1/\q (i+d+1)=true then (qdf p q (i+d+1)).dropLast++[(r.1,((i+d+1:Nat):Int),())]else qdf p q (i+d+1)++[(((i+d+1:Nat):Int),((i+d+1:Nat):Int),())]
       |none=>qdf p q (i+d+1)++[(((i+d+1:Nat):Int),((i+d+1:Nat):Int),())]):=by
       rw [qdf,if_pos b1]
      rw [hun,h2];simp only [List.getLast?_append,List.getLast?_singleton,Option.some_or,List.dropLast_concat];rw [if_pos ⟨by omega,b2⟩]
    obtain ⟨d,rfl⟩:∃d,j=i+d:=⟨j-i,by omega⟩
    have hRj:=hRk d (Nat.le_refl _);rw [qfE (a5 hfl)];have:=ih (i+d+1) (by omega) (by omega) (λg1 g2 r hr hc=>by
     exact a4 g1 ⟨g2,hc.2⟩)
    rw [hRj,List.filter_append]at this;have e2:(if qgM ((i:Int),((i+d:Nat):Int),())then (qdf p q i).filter qgM++[((i:Int),((i+d:Nat):Int),())]else (qdf p q i).filter qgM)=(qdf p q i).filter qgM++List.filter qgM [((i:Int),((i+d:Nat):Int),())]:=by
     cases hk:qgM ((i:Int),((i+d:Nat):Int),())<;>simp only [List.filter,hk,if_true,List.append_nil,qf,if_false]
    rw [e2];exact this
 exact key n 0 (by omega) (by omega) (λ_ _ r hr=>by simp [qdf]at hr)
def pC(raw:List Int)(a:Rg)(i:Nat):Bool:=decide (raw.getD i 0<=a.1)||decide (raw.getD i 0>=a.2.1)
def yes(i:Nat):Bool:=true
def qBV(a:Rg):Int:=if (-100000<=a.1/\a.1<=100000)/\(-100000<=a.2.1/\a.2.1<=100000)then (if a.1<=a.2.1 then 0 else 9)else 2
theorem qqb(a:Rg):qcf a=some (qBV a):=by
 unfold qcf qBV;rw [qex,qex];simp only [qa];by_cases c1 : -100000<=a.1/\a.1<=100000
 ·by_cases c2 : -100000<=a.2.1/\a.2.1<=100000
  ·rw [decide_eq_true c1,decide_eq_true c2,if_pos ⟨c1,c2⟩];simp only [Bool.not_true,cond_false,qa];by_cases c3:a.1<=a.2.1
   ·rw [if_pos c3,decide_eq_false (show ¬ a.1 > a.2.1 by omega)];rfl
   ·rw [if_neg c3,decide_eq_true (show a.1 > a.2.1 by omega)];rfl
  ·rw [decide_eq_true c1,decide_eq_false c2,if_neg (λh=>c2 h.2)];rfl
 ·rw [decide_eq_false c1,if_neg (λh=>c1 h.1)];rfl
def clE(raw:List Int)(a:Rg):Int:=if qhB raw=0 then qBV a else qhB raw
theorem qAq{raw:List Int}{a:Rg}{i:Nat}(hi:i<raw.length):qbk (i:Int) raw a=some (pC raw a i):=by
 unfold qbk pC;rw [qbz (qfh 0 hi)];simp only [qa];by_cases c1:raw.getD i 0<=a.1
 ·rw [decide_eq_true c1];rfl
 ·rw [decide_eq_false c1];rfl
theorem qp7{raw:List Int}(hl:raw.length<=1000)(a:Rg):qcM raw a=some (if clE raw a=0 then qdf (pC raw a) yes raw.length else [],clE raw a):=by
 unfold qcM;rw [qjg _ (by unfold big;omega),qlm _ _ (by omega) (by omega),qlm _ _ (by omega) (by omega)];simp only [qa,qnd];have key:(bif decide (-100000<=a.1/\a.1<=100000)then (qat [qhB raw,if decide (-100000<=a.2.1/\a.2.1<=100000)=true then 0 else 2,if decide (a.1<=a.2.1)=true then 0 else 9]).bind λx6=>some x6
   else (qat [qhB raw,if false=true then 0 else 2,if decide (a.1<=a.2.1)=true then 0 else 9]).bind λx6=>some x6)=some (clE raw a):=by
  rw [qhk (by simp),qhk (by simp)];simp only [qa,qgu];unfold clE qBV;by_cases c0:qhB raw=0
  ·rw [if_pos c0,if_pos c0,if_pos c0];by_cases c1 : -100000<=a.1/\a.1<=100000
   ·by_cases c2 : -100000<=a.2.1/\a.2.1<=100000
    ·rw [if_pos (And.intro c1 c2),decide_eq_true c1,decide_eq_true c2];by_cases c3:a.1<=a.2.1
     ·rw [if_pos c3,decide_eq_true c3];rfl
     ·rw [if_neg c3,decide_eq_false c3];rfl
    ·rw [if_neg (λh:(-100000<=a.1/\a.1<=100000)/\(-100000<=a.2.1/\a.2.1<=100000)=>c2 h.2),decide_eq_true c1,decide_eq_false c2];rfl
   ·rw [if_neg (λh:(-100000<=a.1/\a.1<=100000)/\(-100000<=a.2.1/\a.2.1<=100000)=>c1 h.1),decide_eq_false c1];rfl
  ·rw [if_neg c0];cases decide (-100000<=a.1/\a.1<=100000)<;>simp [c0]
 rw [key];simp only [qa];by_cases c:clE raw a=0
 ·rw [c,if_pos rfl];simp only [decide_true,Bool.not_true,cond_false];have hr:qF raw raw a=some (qdf (pC raw a) yes raw.length):=by
   unfold qF;exact qrB raw.length hl (pC raw a) yes (λi=>qbk i raw a) qdi (λi hi=>qAq hi) (λi _ _=>rfl)
  rw [hr];rfl
 ·rw [decide_eq_false c,if_neg c];rfl
theorem quj{raw:List Int}(hl:raw.length<=1000)(a:Rg):qdc raw a=some (qdf (pC raw a) yes raw.length):=by
 unfold qdc;rw [qtY raw.length (pC raw a) yes (λ_=>true)]
 ·simp
 ·intro out i hi hp;have e0:decide ((i:Int)<(raw.length:Int))=true:=by simp<;>omega
  unfold pC at hp;simp only [Bool.or_eq_false_iff,decide_eq_false_iff_not]at hp;simp only [e0,cond_true];rw [qbz (qfh 0 hi)];simp only [qa];rw [decide_eq_true (show raw.getD i 0 > a.1 by omega)];simp only [cond_true,qa];rw [decide_eq_true (show raw.getD i 0<a.2.1 by omega)];simp only [cond_true,qa];rw [wid (by omega) (by omega)]
 ·intro out i hi hp;have e0:decide ((i:Int)<(raw.length:Int))=true:=by simp<;>omega
  obtain ⟨j,b1,b2,b3,b4,b5⟩:=qjM raw.length (pC raw a) (g:=λ(s7:Int) =>
        (bif decide (w64 (s7+1)<(raw.length:Int))then
          (idx raw (w64 (s7+1))).bind λx8 =>
          bif decide (x8<=a.1)then
           some true
          else
           (idx raw (w64 (s7+1))).bind λx9 =>
           some (decide (x9>=a.2.1))
         else
          some false).bind λ(p10:Bool) =>
        bif p10 then
         some (.inl (w64 (s7+1)))
        else
         some (.inr s7)) (λk hk=>by
    rw [wid (n:=(k:Int)+1) (by omega) (by omega)];by_cases c:k+1<raw.length
    ·have e1:((k:Int)+1)=((k+1:Nat):Int):=by omega
     rw [decide_eq_true (show (k:Int)+1<(raw.length:Int) by omega),e1,qbz (qfh 0 c)];simp only [cond_true,qa];unfold pC;by_cases c1:raw.getD (k+1) 0<=a.1
     ·rw [decide_eq_true c1];simp [c]
     ·rw [decide_eq_false c1];by_cases c2:raw.getD (k+1) 0>=a.2.1
      ·rw [decide_eq_true c2];simp [c]
      ·rw [decide_eq_false c2];simp [c]
    ·rw [decide_eq_false (show ¬ (k:Int)+1<(raw.length:Int) by omega)];simp [c]) raw.length i (by omega) hi
  refine ⟨j,b1,b2,λk h1 h2=>⟨b3 k h1 h2,rfl⟩,λh1 h2=>(by rw [b4 h1]at h2;cases h2.1),λho=>?_⟩;simp only [e0,cond_true];rw [qbz (qfh 0 hi)];simp only [qa];have hcl:(bif decide (raw.getD i 0 > a.1)then some (decide (raw.getD i 0<a.2.1))else some false)=some false:=by
   unfold pC at hp;simp only [Bool.or_eq_true,decide_eq_true_eq]at hp;by_cases c1:raw.getD i 0<=a.1
   ·rw [decide_eq_false (show ¬ raw.getD i 0 > a.1 by omega)];rfl
   ·rw [decide_eq_true (show raw.getD i 0 > a.1 by omega),decide_eq_false (show ¬ raw.getD i 0<a.2.1 by omega)];rfl
  rw [hcl];simp only [qa,cond_false];rw [b5];simp only [qa];rw [qfU (by omega)];simp only [qa,if_true];rw [wid (by omega) (by omega)]
 ·intro out;simp
def qS(raw:List Int)(i:Nat):Bool:=decide (raw.getD i 0=raw.getD (i-1) 0)
def qc4(L:Int)(r:Rg):Bool:=!decide (r.2.1-r.1+1<L)
theorem qt6{r:Rg}(h:0<=r.1/\r.1<=r.2.1/\r.2.1<=1000)(L:Int):qbe r L=some (!qc4 L r):=by
 unfold qbe qc4;rw [wid (n:=r.2.1-r.1) (by omega) (by omega),wid (n:=r.2.1-r.1+1) (by omega) (by omega),Bool.not_not]
theorem qqa{l:List Rg}(hl:l.length<=1000)(hb:∀r∈l,0<=r.1/\r.1<=r.2.1/\r.2.1<=1000)(L:Int) :
  qz l L=some ((qd2 (λi r=>if qc4 L r then none else some (i:Int)) 0 l).getD (-1)):=by
 unfold qz;rw [qeK l (λi r=>if qc4 L r then none else some (i:Int))]
 ·simp only [qa];cases qd2 (λi r=>if qc4 L r then none else some (i:Int)) 0 l<;>simp [qvu]
 ·intro i a hi;have hlt:i<l.length:=(qm.1 hi).1;have h1:(i:Int)<(l.length:Int):=by omega
  simp only [h1,decide_true,cond_true,qbz hi,qa,wid (n:=(i:Int)+1) (by omega) (by omega),qt6 (hb a (List.mem_of_getElem? hi))];cases qc4 L a<;>simp [stp]
 ·simp
theorem qyl{l:List Rg}(hl:l.length<=1000)(hb:∀r∈l,0<=r.1/\r.1<=r.2.1/\r.2.1<=1000)(L:Int){i0:Nat}(hi0:i0<l.length)(hk:qc4 L (l.getD i0 (0,0,()))=false)(hkb:∀r∈l.take i0,qc4 L r=true) :
  Ok (qaP (λ(s8:((List (Int×Int×Unit))×Int×Int)) =>
      bif decide (s8.2.2<(s8.1.length:Int))then
       (idx s8.1 s8.2.2).bind λx9 =>
       (qbe x9 L).bind λx10 =>
       (bif !x10 then
         (idx s8.1 s8.2.1).bind λx11 =>
         (idx s8.1 s8.2.1).bind λx12 =>
         let l13:(List (Int×Int×Unit)):=List.set s8.1 s8.2.1.toNat x9
         some (l13,w64 (s8.2.1+1))
        else
         some (s8.1,s8.2.1)).bind λ(p14:((List (Int×Int×Unit))×Int)) =>
       some (.inl (p14.1,p14.2,w64 (s8.2.2+1)))
      else
       some (.inr (s8.1,s8.2.1))) (l,(i0:Int),w64 ((i0:Int)+1)))
   λr=>∃i:Nat,r.2=(i:Int)/\i<l.length/\r.1.length=l.length/\r.1.take i=l.filter (qc4 L):=by
 rw [wid (by omega) (by omega)];refine qga (l.length-(i0+1)) (λk (s:List Rg×Int×Int)=>s.1.length=l.length/\s.2.2=((i0+1+k:Nat):Int)/\∃i:Nat,s.2.1=(i:Int)/\i<i0+1+k/\s.1.take i=(l.take (i0+1+k)).filter (qc4 L)/\∀m,i0+1+k<=m->s.1[m]?=l[m]?) _ ?_ ?_
 ·refine ⟨rfl,by simp,i0,rfl,by omega,?_,λm _=>rfl⟩;show l.take i0=(l.take (i0+1)).filter (qc4 L);rw [qm4 (0,0,()) hi0,List.filter_append,List.filter_eq_self.2 hkb];simp only [List.filter,hk,List.append_nil]
 ·rintro k ⟨sl,si,sj⟩ hkn ⟨h1,h2,i,h3,h4,h5,h6⟩;simp only at h1 h2 h3 h5 h6;subst h2 h3;by_cases hlt:i0+1+k<l.length
  ·have e0:decide (((i0+1+k:Nat):Int)<(sl.length:Int))=true:=by rw [h1];simp<;>omega
   have hv:sl[i0+1+k]?=some (l.getD (i0+1+k) (0,0,())):=by rw [h6 _ (Nat.le_refl _)];exact qfh _ hlt
   have hm:=hb _ (List.mem_of_getElem? (qfh (0,0,()) hlt));have hiv:i<sl.length:=by omega
   simp only [e0,cond_true];rw [qbz hv];simp only [qa];rw [qt6 hm];simp only [qa,Bool.not_not];have hn:(l.take (i0+1+(k+1))).filter (qc4 L)=(l.take (i0+1+k)).filter (qc4 L)++List.filter (qc4 L) [l.getD (i0+1+k) (0,0,())]:=by
    rw [show i0+1+(k+1)=i0+1+k+1 by omega,qm4 (0,0,()) hlt,List.filter_append]
   generalize l.getD (i0+1+k) (0,0,())=v at *;rw [wid (n:=((i0+1+k:Nat):Int)+1) (by omega) (by omega)];cases hkv:qc4 L v with
   |true =>
    simp only [cond_true];rw [qbz (List.getElem?_eq_getElem hiv)];simp only [qa,Int.toNat_natCast];rw [wid (n:=(i:Int)+1) (by omega) (by omega),qde];refine ⟨by omega,by simp [h1],by simp;omega,i+1,by simp,by omega,?_,λm hm2=>?_⟩
    ·simp only
     rw [List.take_add_one,List.take_set_of_le (Nat.le_refl _),h5,hn];simp [List.filter,hkv,hiv]
    ·simp only
     rw [List.getElem?_set_ne (by omega)];exact h6 m (by omega)
   |false =>
    simp only [cond_false,qa];rw [qde];refine ⟨by omega,h1,by simp;omega,i,rfl,by omega,?_,λm hm2=>h6 m (by omega)⟩;rw [hn,<- h5];simp [List.filter,hkv]
  ·have hkk:i0+1+k=l.length:=by omega
   have e0:decide (((i0+1+k:Nat):Int)<(sl.length:Int))=false:=by rw [h1,hkk];simp
   simp only [e0,cond_false];rw [qgk];refine ⟨i,rfl,by omega,h1,?_⟩;simp only
   rw [h5,hkk,List.take_length]
theorem qum{raw:List Int}(hl:raw.length<=1000)(L:Int):qdM raw L=some (if (if qhB raw=0 then (if 2<=L/\L<=60 then 0 else 2)else qhB raw)=0 then (qdf yes (qS raw) raw.length).filter (qc4 L)else [],if qhB raw=0 then (if 2<=L/\L<=60 then 0 else 2)else qhB raw):=by
 unfold qdM;rw [qjg _ (by unfold big;omega),qng];simp only [qa,qnd];rw [qhk (by simp)];have hE:qgu [qhB raw,if decide (2<=L/\L<=60)=true then 0 else 2]=if qhB raw=0 then (if 2<=L/\L<=60 then 0 else 2)else qhB raw:=by
  by_cases c0:qhB raw=0
  ·by_cases c1:2<=L/\L<=60<;>simp [qgu,c0,c1]
  ·simp [qgu,c0]
 rw [hE];simp only [qa];generalize (if qhB raw=0 then (if 2<=L/\L<=60 then (0:Int)else 2)else qhB raw)=e;by_cases c:e=0
 case neg=>rw [decide_eq_false c,if_neg c];rfl
 subst c;simp only [decide_true,Bool.not_true,cond_false,if_true];have hr:qH raw raw=some (qdf yes (qS raw) raw.length):=by
  unfold qH;refine qrB raw.length hl yes (qS raw) qdi (λi=>qcN i raw) (λi hi=>rfl) (λi h0 hi=>?_);unfold qcN qS;rw [wid (by omega) (by omega),qbz (qfh 0 hi),show (i:Int)-1=((i-1:Nat):Int) by omega,qbz (qfh 0 (show i-1<raw.length by omega))];rfl
 rw [hr];simp only [qa];have hlen:=qhH yes (qS raw) raw.length;have hmem:=qlk yes (qS raw) raw.length;generalize qdf yes (qS raw) raw.length=l at *;have hb:∀r∈l,0<=r.1/\r.1<=r.2.1/\r.2.1<=1000:=λr hr=>by have:=hmem r hr;omega
 rw [qqa (by omega) hb];simp only [qa];cases hf:qd2 (λi r=>if qc4 L r then none else some (i:Int)) 0 l with
 |none =>
  rw [qfv]at hf;have hall:∀r∈l,qc4 L r=true:=λr hr=>by
   obtain ⟨i,hi⟩:=List.mem_iff_getElem?.1 hr;have:=hf i r hi;cases hk:qc4 L r with
   |true=>rfl
   |false=>simp [hk]at this
  rw [List.filter_eq_self.2 hall];rfl
 |some v =>
  obtain ⟨i0,a,h1,h2,h3⟩:=qnM hf;have hi0:i0<l.length:=qq1 h1;have ha:l.getD i0 (0,0,())=a:=qcS h1;have hka:qc4 L a=false:=by
   cases hk:qc4 L a with
   |false=>rfl
   |true=>simp [hk]at h2
  have hv:v=(i0:Int):=by simpa [hka]using h2.symm
  subst hv;have hkb:∀r∈l.take i0,qc4 L r=true:=λr hr=>by
   obtain ⟨j,hj⟩:=List.mem_iff_getElem?.1 hr;have hji:j<i0:=by have:=qq1 hj;simp at this;omega
   rw [List.getElem?_take_of_lt hji]at hj;have:=h3 j r hji hj;cases hk:qc4 L r with
   |true=>rfl
   |false=>simp [hk]at this
  simp only [Option.getD_some];rw [decide_eq_false (show ¬ (i0:Int) = -1 by omega)];simp only [cond_false];refine Ok.eq ?_;rw [qeO,qeO];refine (qyl (by omega) hb L hi0 (by rw [ha];exact hka) hkb).mono ?_;rintro ⟨rl,ri⟩ ⟨i,g1,g2,g3,g4⟩;simp only at g1 g3 g4;subst g1;have hne:rl.isEmpty=false:=by
   cases rl with
   |nil=>simp at g3;omega
   |cons=>rfl
  have hcl:qBi rl (i:Int) (0,0,())=some (rl.take i++List.replicate (rl.length-i) (0,0,())):=by
   unfold qBi;rw [if_pos ⟨hne,by omega,by omega⟩];simp
  rw [hcl];simp only [qa];have hlt:(rl.take i).length=i:=by simp<;>omega
  have hcu:qBj (rl.take i++List.replicate (rl.length-i) ((0,0,()):Rg)) (i:Int)=some (rl.take i):=by
   unfold qBj;rw [if_pos ⟨by
    cases hq:(rl.take i++List.replicate (rl.length-i) ((0,0,()):Rg))with
    |nil =>
     have:=congrArg List.length hq;simp at this;omega
    |cons=>rfl,by omega,by simp;omega⟩]
   simp only [Int.toNat_natCast];rw [List.take_left' hlt]
  rw [hcu];simp only [qa];by_cases h0:(i:Int)=0
  ·rw [decide_eq_true h0];have:i=0:=by omega
   subst this;simp only [cond_true,qa,qd4];rw [<- g4];rfl
  ·rw [decide_eq_false h0];simp only [cond_false,qa,qd4];rw [<- g4]
theorem qx6{raw:List Int}(hl:raw.length<=1000)(L:Int):qa5 raw L=some ((qdf yes (qS raw) raw.length).filter (qc4 L)):=by
 unfold qa5;rw [qtY raw.length yes (qS raw) (qc4 L)]
 ·rfl
 ·intro out i hi hp;cases hp
 ·intro out i hi hp;have e0:decide ((i:Int)<(raw.length:Int))=true:=by simp<;>omega
  obtain ⟨j,b1,b2,b3,b4,b5⟩:=qjM raw.length (λk=>decide (raw.getD k 0=raw.getD i 0)) (g:=λ(s4:Int) =>
      (bif decide (w64 (s4+1)<(raw.length:Int))then
        (idx raw (w64 (s4+1))).bind λx5 =>
        (idx raw (i:Int)).bind λx6 =>
        some (decide (x5=x6))
       else
        some false).bind λ(p7:Bool) =>
      bif p7 then
       some (.inl (w64 (s4+1)))
      else
       some (.inr s4)) (λk hk=>by
    rw [wid (n:=(k:Int)+1) (by omega) (by omega),qbz (qfh 0 hi)];by_cases c:k+1<raw.length
    ·have e1:((k:Int)+1)=((k+1:Nat):Int):=by omega
     rw [decide_eq_true (show (k:Int)+1<(raw.length:Int) by omega),e1,qbz (qfh 0 c)];simp only [cond_true,qa];by_cases c1:raw.getD (k+1) 0=raw.getD i 0
     ·rw [decide_eq_true c1];simp [c]
     ·rw [decide_eq_false c1];simp
    ·rw [decide_eq_false (show ¬ (k:Int)+1<(raw.length:Int) by omega)];simp [c]) raw.length i (by omega) hi
  have hsame:∀k,i<=k->k<=j->raw.getD k 0=raw.getD i 0:=λk h1 h2=>by
   by_cases e:k=i
   ·rw [e]
   ·exact of_decide_eq_true (b3 k (by omega) h2)
  refine ⟨j,b1,b2,λk h1 h2=>⟨rfl,?_⟩,λh1 h2=>?_,λho=>?_⟩
  ·unfold qS;rw [hsame k (by omega) h2,hsame (k-1) (by omega) (by omega)];simp
  ·have h3:=b4 h1;have h4:=h2.2;unfold qS at h4;rw [show j+1-1=j by omega,hsame j b1 (Nat.le_refl _)]at h4;rw [h4]at h3;cases h3
  ·simp only [e0,cond_true];rw [b5];simp only [qa];rw [wid (n:=(j:Int)-i) (by omega) (by omega),wid (n:=(j:Int)-i+1) (by omega) (by omega),wid (n:=(j:Int)+1) (by omega) (by omega),qfU (by omega)];unfold qc4;by_cases c:(j:Int)-i+1<L
   ·rw [decide_eq_false (show ¬ (j:Int)-i+1>=L by omega)];simp [c]
   ·rw [decide_eq_true (show (j:Int)-i+1>=L by omega)];simp [c]
 ·intro out;simp
theorem qpN{α:Type}(f:α->α):∀(l:List α) (i:Nat) (a:α),l[i]?=some a->((l.take i).map f++l.drop i).set i (f a)=(l.take (i+1)).map f++l.drop (i+1)
 |[],i,a,h=>by simp at h
 |b::l,0,a,h=>by simp at h;subst h;simp
 |b::l,i+1,a,h=>by
  have h':l[i]?=some a:=by simpa using h
  have:=qpN f l i a h';simp only [List.take_succ_cons,qh,List.drop_succ_cons,List.cons_append,List.set_cons_succ];rw [this]
theorem qoZ{α:Type}(f:α->α):∀(l:List α) (i:Nat) (a:α),l[i]?=some a->((l.take i).map f++l.drop i)[i]?=some a
 |[],i,a,h=>by simp at h
 |b::l,0,a,h=>by simpa using h
 |b::l,i+1,a,h=>by
  have h':l[i]?=some a:=by simpa using h
  have:=qoZ f l i a h';simp only [List.take_succ_cons,qh,List.drop_succ_cons,List.cons_append,List.getElem?_cons_succ];exact this
theorem qp8{l:List Int}(h1:1<=l.length)(h2:l.length<=1000000000):qbm l=some l:=by
 unfold qbm;have e:List.isEmpty l=false:=by
  cases l with
  |nil=>simp at h1
  |cons a l=>rfl
 rw [e];simp only [cond_false];rw [qz0 (by omega)];rfl
def pt(c:Ln)(r:Int):Int:=c.1*r+c.2.1
def dvs(c:Ln)(raw:List Int):Nat:=qrX (raw.map (pt c)++[c.2.2.1])
structure Good (c:Ln) (raw:List Int):Prop where
 a : -300000000000<=c.1/\c.1<=300000000000
 b : -300000000000<=c.2.1/\c.2.1<=300000000000
 d:1<=c.2.2.1/\c.2.2.1<=300000000000
 len1:1<=raw.length
 len2:raw.length<=60
 v:∀x∈raw,-100000<=x/\x<=100000
theorem qAj{c:Ln}{raw:List Int}(hc:qi7 c=0)(hr:qhB raw=0):Good c raw:=by
 obtain ⟨r1,r2,r3⟩:=qxc hr;have hm:mst c:=by
  unfold qi7 at hc;by_cases h:mst c
  ·exact h
  ·rw [if_neg h]at hc;cases hc
 exact ⟨hm.2.1,hm.2.2,hm.1,by omega,r2,r3⟩
theorem Good.p{c:Ln}{raw:List Int}(g:Good c raw):∀x∈raw,(-30000000000000000<=c.1*x/\c.1*x<=30000000000000000) /\ -30000300000000000<=pt c x/\pt c x<=30000300000000000:=λx hx=>by
 have:=qun g.a (g.v x hx);have:=g.b;unfold pt;omega
theorem Good.pm{c:Ln}{raw:List Int}(g:Good c raw):∀v∈raw.map (pt c),-30000300000000000<=v/\v<=30000300000000000:=λv hv=>by
 obtain ⟨x,hx,rfl⟩:=List.mem_map.1 hv;exact (g.p x hx).2
theorem Good.qB8{c:Ln}{raw:List Int}(g:Good c raw):0<dvs c raw:=by
 refine Nat.pos_of_ne_zero λh0=>?_;unfold dvs qrX at h0;have:=(qqN.1 h0).2 c.2.2.1 (by simp);have:=g.d;omega
def qvB(c:Ln)(raw:List Int):Int×List Int×Unit:=(c.2.2.1.tdiv (dvs c raw),(raw.map (pt c)).map (λv=>v.tdiv (dvs c raw)),())
def lrE(c:Ln)(raw:List Int):Int:=if qi7 c=0 then qhB raw else qi7 c
theorem qq4(c:Ln)(raw:List Int):qgu [qi7 c,qhB raw]=lrE c raw:=by
 unfold lrE;by_cases h:qi7 c=0
 ·by_cases h2:qhB raw=0<;>simp [qgu,h,h2]
 ·simp [qgu,h]
theorem qpj{c:Ln}{raw:List Int}(h:lrE c raw=0):Good c raw:=by
 unfold lrE at h;by_cases h1:qi7 c=0
 ·rw [if_pos h1]at h;exact qAj h1 h
 ·rw [if_neg h1]at h;exact absurd h h1
theorem qnl{c:Ln}{raw:List Int}(hl:raw.length<=1000):qb0 c raw=some (if lrE c raw=0 then qvB c raw else (0,[],()),lrE c raw):=by
 unfold qb0;rw [qkq,qjg _ (by unfold big;omega)];simp only [qa];rw [qhk (by simp),qq4];simp only [qa];by_cases he:lrE c raw=0
 case neg=>rw [if_neg he,decide_eq_false he];rfl
 have g:=qpj he;rw [he,if_pos rfl];simp only [decide_true,Bool.not_true,cond_false];have h1:=g.len1;have h2:=g.len2;have b3:=g.d;refine Ok.eq ?_;rw [qeO];refine (qga raw.length (λi (s:Int×Int×List Int)=>s=((i:Int),c.2.2.1,(raw.take i).map (pt c))) (λr=>r=(c.2.2.1,raw.map (pt c))) (by simp) ?_).mono ?_
 ·rintro i s hi rfl;by_cases hlt:i<raw.length
  ·have e0:decide ((i:Int)<(raw.length:Int))=true:=by simp<;>omega
   have hp:raw[i]?=some raw[i]:=by simp [hlt]
   have hm:=List.mem_of_getElem? hp;obtain ⟨q1,q2⟩:=g.p _ hm;simp only [e0,cond_true];rw [qbz hp];simp only [qa];unfold pt at *;rw [wid (n:=c.1*raw[i]) (by omega) (by omega),wid (n:=c.1*raw[i]+c.2.1) (by omega) (by omega),qfU (by simp;omega)];simp only [qa];rw [wid (n:=(i:Int)+1) (by omega) (by omega),qde];refine ⟨hlt,?_⟩;rw [List.take_add_one,hp];simp only [List.map_append,Option.toList_some,qh,List.map_nil]<;>rfl
  ·have:i=raw.length:=by omega
   subst this;have e0:decide ((raw.length:Int)<(raw.length:Int))=false:=by simp
   simp only [e0,cond_false];rw [qgk,List.take_length]
 rintro _ rfl;simp only
 have hlen:(raw.map (pt c)).length=raw.length:=List.length_map ..;have pm:=g.pm;have hd:=g.qB8;unfold qvB;generalize hps:raw.map (pt c)=ps at *;rw [qp8 (by omega) (by omega)];simp only [qa];rw [qfU (by omega)];simp only [qa];have hdv:dvs c raw=qrX (ps++[c.2.2.1]):=by unfold dvs;rw [hps]
 rw [qnH _ (by simp;omega) (λx hx=>by
  rw [qj,List.mem_singleton]at hx;cases hx with
  |inl hx=>have:=pm x hx;omega
  |inr hx=>subst hx;omega),<- hdv]
 generalize dvs c raw=e at *;have hne:¬ ((e:Int)=0):=by omega
 simp only [qa,hne,decide_false,cond_false];rw [qeO];have td:=qhK c.2.2.1 e;rw [wid (n:=c.2.2.1.tdiv e) (by omega) (by omega)];refine (qga ps.length (λi (s:Int×Int×List Int)=>s=((i:Int),c.2.2.1.tdiv e,(ps.take i).map (λv=>v.tdiv e)++ps.drop i)) (λr=>r=(c.2.2.1.tdiv e,ps.map (λv=>v.tdiv e))) (by simp) ?_).mono ?_
 ·rintro i s hi rfl;by_cases hlt:i<ps.length
  ·have e0:decide ((i:Int)<(ps.length:Int))=true:=by simp<;>omega
   have hp:ps[i]?=some ps[i]:=by simp [hlt]
   have hm:=List.mem_of_getElem? hp;have q:=pm _ hm;have tq:=qhK ps[i] e;simp only [e0,cond_true];rw [qbz (qoZ (λv=>v.tdiv e) ps i _ hp)];simp only [qa,Int.toNat_natCast];rw [wid (n:=ps[i].tdiv e) (by omega) (by omega),wid (n:=(i:Int)+1) (by omega) (by omega),qde];refine ⟨hlt,?_⟩;have:=qpN (λv:Int=>v.tdiv e) ps i _ hp;rw [this];rfl
  ·have:i=ps.length:=by omega
   subst this;have e0:decide ((ps.length:Int)<(ps.length:Int))=false:=by simp
   simp only [e0,cond_false];rw [qgk,List.take_length,List.drop_length,List.append_nil]
 rintro _ rfl;rw [qd4]
theorem qtx(h:Nat):∀(l:List Int) (g:Nat),qnj (Nat.gcd g h) l=Nat.gcd (qnj g l) h
 |[],g=>rfl
 |x::l,g=>by
  show qnj (Nat.gcd (Nat.gcd g h) x.natAbs) l=Nat.gcd (qnj (Nat.gcd g x.natAbs) l) h;rw [<- qtx h l,Nat.gcd_assoc,Nat.gcd_comm h,<- Nat.gcd_assoc]
theorem qBl(c:Ln)(raw:List Int):dvs c raw=qnj c.2.2.1.natAbs (raw.map (pt c)):=by
 unfold dvs qrX;rw [qlK,<- qtx,Nat.gcd_zero_left]
theorem qp9{c:Ln}{raw:List Int}(g:Good c raw):qdd c raw=some (qvB c raw):=by
 unfold qdd;have h1:=g.len1;have h2:=g.len2;have b3:=g.d;have hd:=g.qB8;have hlen:(raw.map (pt c)).length=raw.length:=List.length_map ..;refine Ok.eq ?_;rw [qeO];refine (qga raw.length (λi (s:Int×List Int×Int)=>s=((qnj c.2.2.1.natAbs ((raw.take i).map (pt c)):Int),(raw.take i).map (pt c),(i:Int))) (λr=>r=((dvs c raw:Int),raw.map (pt c))) ?_ ?_).mono ?_
 ·have:((c.2.2.1.natAbs:Nat):Int)=c.2.2.1:=by omega
  simp only [List.take_zero,List.map_nil,qnj];rw [this];rfl
 ·rintro i s hi rfl;by_cases hlt:i<raw.length
  ·have e0:decide ((i:Int)<(raw.length:Int))=true:=by simp<;>omega
   have hp:raw[i]?=some raw[i]:=by simp [hlt]
   have hm:=List.mem_of_getElem? hp;obtain ⟨q1,q2⟩:=g.p _ hm;have hnx:(raw.take (i+1)).map (pt c)=(raw.take i).map (pt c)++[pt c raw[i]]:=by
    rw [List.take_add_one,hp];simp only [List.map_append,Option.toList_some,qh,List.map_nil]
   have hG:qnj c.2.2.1.natAbs ((raw.take i).map (pt c))<=300000000000:=Nat.le_trans (Nat.le_of_dvd (by omega) (qfk _ _)) (by omega);have htl:((raw.take i).map (pt c)).length=i:=by simp<;>omega
   simp only [e0,cond_true];rw [qbz hp];simp only [qa];have ept:w64 (w64 (c.1*raw[i])+c.2.1)=pt c raw[i]:=by
    unfold pt at q2 ⊢;rw [wid (n:=c.1*raw[i]) (by omega) (by omega),wid (n:=c.1*raw[i]+c.2.1) (by omega) (by omega)]
   rw [ept,qfU (by simp;omega)];simp only [qa];rw [qbz (a:=pt c raw[i]) (by rw [List.getElem?_append_right (by omega),htl];simp)];simp only [qa];rw [qvI (by omega) (by omega),wid (n:=(i:Int)+1) (by omega) (by omega)];simp only [qa];rw [qde];refine ⟨hlt,?_⟩;rw [hnx,qlK];rfl
  ·have:i=raw.length:=by omega
   subst this;have e0:decide ((raw.length:Int)<(raw.length:Int))=false:=by simp
   simp only [e0,cond_false];rw [qgk,List.take_length,qBl]
 rintro _ rfl;simp only
 have pm:=g.pm;unfold qvB;generalize raw.map (pt c)=ps at *;generalize dvs c raw=e at *;have hne:¬ ((e:Int)=0):=by omega
 have td:=qhK c.2.2.1 e;rw [decide_eq_false hne,wid (n:=c.2.2.1.tdiv e) (by omega) (by omega)];simp only [cond_false];rw [qeO];refine (qga ps.length (λi (s:List Int×Int)=>s=((ps.take i).map (λv=>v.tdiv e)++ps.drop i,(i:Int))) (λr=>r=ps.map (λv=>v.tdiv e)) (by simp) ?_).mono ?_
 ·rintro i s hi rfl;have hsl:((ps.take i).map (λv:Int=>v.tdiv e)++ps.drop i).length=ps.length:=by simp<;>omega
  by_cases hlt:i<ps.length
  ·have e0:decide ((i:Int)<(((ps.take i).map (λv:Int=>v.tdiv e)++ps.drop i).length:Int))=true:=by rw [hsl];simp<;>omega
   have hp:ps[i]?=some ps[i]:=by simp [hlt]
   have hm:=List.mem_of_getElem? hp;have q:=pm _ hm;have tq:=qhK ps[i] e;simp only [e0,cond_true];rw [qbz (qoZ (λv=>v.tdiv e) ps i _ hp)];simp only [qa,Int.toNat_natCast];rw [wid (n:=ps[i].tdiv e) (by omega) (by omega),wid (n:=(i:Int)+1) (by omega) (by omega),qde];refine ⟨hlt,?_⟩;have:=qpN (λv:Int=>v.tdiv e) ps i _ hp;rw [this];rfl
  ·have:i=ps.length:=by omega
   subst this;have e0:decide (((ps.length:Nat):Int)<(((ps.take ps.length).map (λv:Int=>v.tdiv e)++ps.drop ps.length).length:Int))=false:=by rw [hsl];simp
   simp only [e0,cond_false];rw [qgk,List.take_length,List.drop_length,List.append_nil]
 rintro _ rfl;rw [qd4]
theorem qzW{l:List Int}(hl:l.length<=1000000000):qiI l l=some true:=by
 unfold qiI;simp only [decide_true,Bool.not_true,cond_false];rw [qeK l (λ_ _=>none)]
 ·have:qd2 (λ(_:Nat) (_:Int)=>(none:Option Bool)) 0 l=none:=qfv.2 λ_ _ _=>rfl;rw [this];rfl
 ·intro i a hi;have hlt:=qq1 hi;rw [decide_eq_true (show (i:Int)<(l.length:Int) by omega),qbz hi,wid (by omega) (by omega)];simp [stp]
 ·simp
theorem qiG{v:Int×List Int×Unit}(hl:v.2.1.length<=1000000000):qbP v v=some true:=by
 unfold qbP;rw [qzW hl,decide_eq_true rfl];rfl
theorem qk0{a b:Int}(ha : -4000000000000000000<=a/\a<=4000000000000000000)(hb:0<b):qdp a b=some (a / b):=by
 unfold qdp;have ht:=qhK a b;rw [decide_eq_false (show ¬ b=0 by omega),cond_false,cond_false,wid (n:=a.tdiv b) (by omega) (by omega),wid (n:=a.tdiv b-1) (by omega) (by omega)];by_cases h0:0<=a
 ·have e1:a.tmod b=a % b:=Int.tmod_eq_emod_of_nonneg h0;have e2:a.tdiv b=a / b:=Int.tdiv_eq_ediv_of_nonneg h0;have h2:=Int.emod_nonneg a (show b≠0 by omega);rw [e1,e2,decide_eq_false (show ¬ a % b<0 by omega)];rfl
 ·have e1:(-a).tmod b=(-a) % b:=Int.tmod_eq_emod_of_nonneg (by omega);have e2:(-a).tdiv b=(-a) / b:=Int.tdiv_eq_ediv_of_nonneg (by omega);rw [Int.neg_tmod]at e1;rw [Int.neg_tdiv]at e2;have h2:=Int.emod_nonneg (-a) (show b≠0 by omega);have h3:=Int.emod_lt_of_pos (-a) hb;have h4:=Int.mul_ediv_add_emod (-a) b;generalize (-a) / b=q at *;generalize (-a) % b=r at *;have e3:a.tmod b = -r:=by omega
  have e4:a.tdiv b = -q:=by omega
  rw [e3,e4];by_cases c:r=0
  ·have e5:a / b = -q:=((Int.ediv_emod_unique (a:=a) (q:=-q) (r:=0) hb).2 ⟨by rw [Int.mul_neg];omega,by omega,hb⟩).1;rw [e5,decide_eq_false (show ¬ -r<0 by omega)];rfl
  ·have e5:a / b = -q-1:=((Int.ediv_emod_unique (a:=a) (q:=-q-1) (r:=b-r) hb).2 ⟨by rw [Int.mul_sub,Int.mul_neg,Int.mul_one];omega,by omega,by omega⟩).1;rw [e5,decide_eq_true (show -r<0 by omega)];rfl
theorem qtu{a b:Int}(ha : -4000000000000000000<=a/\a<=4000000000000000000)(hb:0<b):qfe a b=some (a / b):=qk0 ha hb
theorem qzy{a b B:Int}(h : -B<=a/\a<=B)(hb:0<b) : -B<=a / b/\a / b<=B:=by
 have h1:=Int.emod_nonneg a (show b≠0 by omega);have h2:=Int.emod_lt_of_pos a hb;have h3:=Int.mul_ediv_add_emod a b;constructor
 ·refine Classical.byContradiction λhn=>?_;have h4:a / b <= -B-1:=by omega
  have h5:b*(a / b)<=b*(-B-1):=Int.mul_le_mul_of_nonneg_left h4 (by omega);have h6:b*(-B-1)<=1*(-B-1):=Int.mul_le_mul_of_nonpos_right (by omega) (by omega);have h7:b*(a / b)<=b*(-B)-b:=by rw [show b*(-B)-b=b*(-B-1) by rw [Int.mul_sub,Int.mul_one]];exact h5
  have h8:b*(-B)<=1*(-B):=Int.mul_le_mul_of_nonpos_right (by omega) (by omega);omega
 ·refine Classical.byContradiction λhn=>?_;have h4:B+1<=a / b:=by omega
  have h5:b*(B+1)<=b*(a / b):=Int.mul_le_mul_of_nonneg_left h4 (by omega);have h6:1*(B+1)<=b*(B+1):=Int.mul_le_mul_of_nonneg_right (by omega) (by omega);omega
def rng(c:Ln)(x:Int):Rg:=((pt c x-(c.1.natAbs:Int)) / c.2.2.1,-(-(pt c x+(c.1.natAbs:Int)) / c.2.2.1),())
theorem qr1{c:Ln}{raw:List Int}(hl:raw.length<=1000):qdh c raw=some (if lrE c raw=0 then raw.map (rng c)else [],lrE c raw):=by
 unfold qdh;rw [qkq,qjg _ (by unfold big;omega)];simp only [qa];rw [qhk (by simp),qq4];simp only [qa];by_cases he:lrE c raw=0
 case neg=>rw [if_neg he,decide_eq_false he];rfl
 have g:=qpj he;rw [he,if_pos rfl];simp only [decide_true,Bool.not_true,cond_false];have h2:=g.len2;have ga:=g.a;have gd:=g.d;refine Ok.eq ?_;rw [qeO];refine (qga raw.length (λi (s:List Rg×Int)=>s=((raw.take i).map (rng c),(i:Int))) (λr=>r=raw.map (rng c)) (by simp) ?_).mono ?_
 ·rintro i s hi rfl;by_cases hlt:i<raw.length
  ·have e0:decide ((i:Int)<(raw.length:Int))=true:=by simp<;>omega
   have hp:raw[i]?=some raw[i]:=by simp [hlt]
   have hm:=List.mem_of_getElem? hp;obtain ⟨q1,q2⟩:=g.p _ hm;have hv:=g.v _ hm;simp only [e0,cond_true];rw [qbz hp];simp only [qa];have m1:c.1*(raw[i]-1)=c.1*raw[i]-c.1:=by rw [Int.mul_sub,Int.mul_one]
   have m2:c.1*(raw[i]+1)=c.1*raw[i]+c.1:=by rw [Int.mul_add,Int.mul_one]
   have hb:=g.b;have hpt:pt c raw[i]=c.1*raw[i]+c.2.1:=rfl;have hr:rng c raw[i]=((pt c raw[i]-(c.1.natAbs:Int)) / c.2.2.1,-(-(pt c raw[i]+(c.1.natAbs:Int)) / c.2.2.1),()):=rfl;rw [wid (n:=raw[i]-1) (by omega) (by omega),wid (n:=raw[i]+1) (by omega) (by omega),m1,m2];rw [wid (n:=c.1*raw[i]-c.1) (by omega) (by omega),wid (n:=c.1*raw[i]+c.1) (by omega) (by omega),wid (n:=c.1*raw[i]-c.1+c.2.1) (by omega) (by omega),wid (n:=c.1*raw[i]+c.1+c.2.1) (by omega) (by omega)];have emin:min (c.1*raw[i]-c.1+c.2.1) (c.1*raw[i]+c.1+c.2.1)=pt c raw[i]-(c.1.natAbs:Int):=by omega
   have emax:max (c.1*raw[i]-c.1+c.2.1) (c.1*raw[i]+c.1+c.2.1)=pt c raw[i]+(c.1.natAbs:Int):=by omega
   rw [emin,emax,wid (n:=0-(pt c raw[i]+(c.1.natAbs:Int))) (by omega) (by omega),Int.zero_sub];rw [qtu (by omega) (by omega),qtu (by omega) (by omega)];simp only [qa];have db:=qzy (a:=-(pt c raw[i]+(c.1.natAbs:Int))) (b:=c.2.2.1) (B:=40000000000000000) (by omega) (by omega);rw [qfU (by simp;omega),wid (n:=0-_) (by omega) (by omega),wid (n:=(i:Int)+1) (by omega) (by omega),Int.zero_sub];simp only [qa];rw [qde];refine ⟨hlt,?_⟩;rw [List.take_add_one,hp];simp only [List.map_append,Option.toList_some,qh,List.map_nil]<;>rfl
  ·have:i=raw.length:=by omega
   subst this;have e0:decide ((raw.length:Int)<(raw.length:Int))=false:=by simp
   simp only [e0,cond_false];rw [qgk,List.take_length]
 ·rintro r rfl;rw [qd4]
theorem qvG{a b:Int}(ha : -400000000000000000<=a/\a<=400000000000000000)(hb:0<b):qfs a b=some (-(-a / b)):=by
 unfold qfs;have db:=qzy (a:=-a) (b:=b) (B:=400000000000000000) (by omega) hb;rw [wid (n:=0-a) (by omega) (by omega),Int.zero_sub,qk0 (by omega) hb];simp only [qa];rw [wid (by omega) (by omega),Int.zero_sub]
theorem qvL{c:Ln}{raw:List Int}(g:Good c raw):qfb c raw=some (raw.map (rng c)):=by
 unfold qfb;have h2:=g.len2;have ga:=g.a;have gd:=g.d;refine Ok.eq ?_;rw [qeO];refine (qga raw.length (λi (s:List Rg×Int)=>s=((raw.take i).map (rng c),(i:Int))) (λr=>r=raw.map (rng c)) (by simp) ?_).mono ?_
 ·rintro i s hi rfl;by_cases hlt:i<raw.length
  ·have e0:decide ((i:Int)<(raw.length:Int))=true:=by simp<;>omega
   have hp:raw[i]?=some raw[i]:=by simp [hlt]
   have hm:=List.mem_of_getElem? hp;obtain ⟨q1,q2⟩:=g.p _ hm;simp only [e0,cond_true];rw [qbz hp,qvM (by omega)];simp only [qa];have hb:=g.b;have ept:w64 (w64 (c.1*raw[i])+c.2.1)=pt c raw[i]:=by
    unfold pt at q2 ⊢;rw [wid (n:=c.1*raw[i]) (by omega) (by omega),wid (n:=c.1*raw[i]+c.2.1) (by omega) (by omega)]
   rw [ept,wid (n:=pt c raw[i]-_) (by omega) (by omega),wid (n:=pt c raw[i]+_) (by omega) (by omega),qk0 (by omega) (by omega),qvG (by omega) (by omega)];simp only [qa];rw [qfU (by simp;omega),wid (n:=(i:Int)+1) (by omega) (by omega)];simp only [qa];rw [qde];refine ⟨hlt,?_⟩;rw [List.take_add_one,hp];simp only [List.map_append,Option.toList_some,qh,List.map_nil]<;>rfl
  ·have:i=raw.length:=by omega
   subst this;have e0:decide ((raw.length:Int)<(raw.length:Int))=false:=by simp
   simp only [e0,cond_false];rw [qgk,List.take_length]
 ·rintro r rfl;rw [qd4]
theorem qgm{l:List Rg}(hl:l.length<=1000000000):qah l l=some true:=by
 unfold qah;simp only [decide_true,Bool.not_true,cond_false];rw [qeK l (λ_ _=>none)]
 ·have:qd2 (λ(_:Nat) (_:Rg)=>(none:Option Bool)) 0 l=none:=qfv.2 λ_ _ _=>rfl;rw [this];rfl
 ·intro i a hi;have hlt:=qq1 hi;rw [decide_eq_true (show (i:Int)<(l.length:Int) by omega),qbz hi,wid (by omega) (by omega)];simp [stp]
 ·simp
theorem qyw{c:Ln}{raw:List Int}(g:Good c raw){x:Int}(hx:x∈raw) :
  0<c.2.2.1.tdiv (dvs c raw)/\((pt c x).tdiv (dvs c raw)) / (c.2.2.1.tdiv (dvs c raw))=pt c x / c.2.2.1/\(-((pt c x).tdiv (dvs c raw))) / (c.2.2.1.tdiv (dvs c raw))=(-(pt c x)) / c.2.2.1:=by
 have hd:=g.qB8;have h1:(dvs c raw:Int) ∣ pt c x:=qoV (List.mem_append_left _ (List.mem_map_of_mem hx));have h2:(dvs c raw:Int) ∣ c.2.2.1:=qoV (List.mem_append_right _ (by simp));have gd:=g.d;generalize dvs c raw=e at *;obtain ⟨u,hu⟩:=h1;obtain ⟨v,hv⟩:=h2;have he:(e:Int)≠0:=by omega
 rw [hu,hv,Int.mul_tdiv_cancel_left _ he,Int.mul_tdiv_cancel_left _ he];have hvp:0<v:=by
  refine Classical.byContradiction λhn=>?_;have:=Int.mul_nonpos_of_nonneg_of_nonpos (a:=(e:Int)) (b:=v) (by omega) (by omega);omega
 refine ⟨hvp,(Int.mul_ediv_mul_of_pos _ _ (by omega)).symm,?_⟩;rw [<- Int.mul_neg];exact (Int.mul_ediv_mul_of_pos _ _ (by omega)).symm
end Go.Proofs.Ytofjnhppalciiaa
end
section
namespace Go.Proofs.Ytofjnhppalciiaa
open Go Go.Ab Go.Tx Go.RowKit
def stE(raw:List Int)(L:Int):Int:=if qhB raw=0 then (if 2<=L/\L<=60 then 0 else 2)else qhB raw
theorem qAd(raw:List Int)(a:Rg)(L:Int) :
  (bif decide (qhB raw=0)then
      (qcf a).bind λx16 =>
      (qa2 L (2:Int) (60:Int)).bind λx17 =>
      (bif !x17 then
        some 2
       else
        some (qhB raw)).bind λ(p18:Int) =>
      some (x16,p18)
     else
      some (qhB raw,qhB raw))=some (clE raw a,stE raw L):=by
 rw [qqb,qex];simp only [qa];unfold clE stE;by_cases h:qhB raw=0
 ·rw [decide_eq_true h,if_pos h,if_pos h];by_cases h2:2<=L/\L<=60
  ·rw [decide_eq_true h2,if_pos h2,h];rfl
  ·rw [decide_eq_false h2,if_neg h2];rfl
 ·rw [decide_eq_false h,if_neg h,if_neg h];rfl
theorem qyC(c:Ln)(raw:List Int):(bif decide (qi7 c=0)then some (qhB raw)else some (qi7 c))=some (lrE c raw):=by
 unfold lrE;by_cases h:qi7 c=0
 ·rw [decide_eq_true h,if_pos h];rfl
 ·rw [decide_eq_false h,if_neg h];rfl
theorem qwG{c:Ln}{raw:List Int}(g:Good c raw) :
  (qaP (λ(s51:Int) =>
          bif decide (s51<(raw.length:Int))then
           ((idx (qvB c raw).2.1 s51).bind λx52 =>
            (qdp x52 (qvB c raw).1).bind λx53 =>
            (idx (raw.map (rng c)) s51).bind λx54 =>
            bif decide (x53<x54.1)then
             some true
            else
             (idx (qvB c raw).2.1 s51).bind λx55 =>
             (qfs x55 (qvB c raw).1).bind λx56 =>
             (idx (raw.map (rng c)) s51).bind λx57 =>
             some (decide (x56 > x57.2.1))).bind λ(p58:Bool) =>
           bif p58 then
            some (.inr (.inr false))
           else
            some (.inl (w64 (s51+1)))
          else
           some (.inr (.inl ()))) 0).bind (Sum.elim (λ(p59:Unit) =>
        some true) some)=some true:=by
 rw [qeK raw (λ_ _=>none)]
 ·have:qd2 (λ(_:Nat) (_:Int)=>(none:Option Bool)) 0 raw=none:=qfv.2 λ_ _ _=>rfl;rw [this];rfl
 ·intro i x hi;have hlt:=qq1 hi;have hx:=List.mem_of_getElem? hi;have h2:=g.len2;obtain ⟨q1,q2⟩:=g.p x hx;obtain ⟨w1,w2,w3⟩:=qyw g hx;have td:=qhK (pt c x) (dvs c raw);have gd:=g.d;have hP:(qvB c raw).2.1[i]?=some ((pt c x).tdiv (dvs c raw)):=by
   unfold qvB;simp only [List.getElem?_map,hi,qi]
  have hR:(raw.map (rng c))[i]?=some (rng c x):=by simp only [List.getElem?_map,hi,qi]
  have hD:(qvB c raw).1=c.2.2.1.tdiv (dvs c raw):=rfl;rw [decide_eq_true (show (i:Int)<(raw.length:Int) by omega),qbz hP,qbz hR,hD];simp only [cond_true,qa];rw [qk0 (by omega) w1,qvG (by omega) w1,w2,w3];simp only [qa];have hlo:¬ (pt c x / c.2.2.1<(rng c x).1):=by
   have:(pt c x-(c.1.natAbs:Int)) / c.2.2.1<=pt c x / c.2.2.1:=Int.ediv_le_ediv (by omega) (by omega);have e:(rng c x).1=(pt c x-(c.1.natAbs:Int)) / c.2.2.1:=rfl;omega
  have hhi:¬ (-(-(pt c x) / c.2.2.1) > (rng c x).2.1):=by
   have : -(pt c x+(c.1.natAbs:Int)) / c.2.2.1 <= -(pt c x) / c.2.2.1:=Int.ediv_le_ediv (by omega) (by omega);have e:(rng c x).2.1 = -(-(pt c x+(c.1.natAbs:Int)) / c.2.2.1):=rfl;omega
  rw [decide_eq_false hlo,decide_eq_false hhi,wid (by omega) (by omega)];rfl
 ·simp
theorem qlp(a0:Ln)(a1:List Int)(a2:Int×Int×Int×Unit):qc6 a0 a1 a2=some true:=by
 unfold qc6;have aw:qih=some true:=rfl;rw [aw];simp only [qa,Bool.not_true,cond_false];rw [qvi];simp only [qa];by_cases hs:a1.length<=62
 case neg=>rw [decide_eq_false hs];rfl
 rw [decide_eq_true hs];simp only [Bool.not_true,cond_false];rw [qrZ _ (by omega)];simp only [qa];rw [qkF _ (by unfold big;omega),qnl (by omega),qr1 (by omega),qp7 (by omega),qum (by omega),qrq];simp only [qa,decide_true,Bool.not_true,cond_false];rw [quk];simp only [qa,qtW];have e1:=qAd a1 (a2.1,a2.2.1,()) a2.2.2.1;rw [e1];simp only [qa];rw [qyC];simp only [qa];have e2:(if qhB a1=0 then (if 2<=a2.2.2.1/\a2.2.2.1<=60 then (0:Int)else 2)else qhB a1)=stE a1 a2.2.2.1:=rfl;rw [e2];simp only [decide_true,Bool.not_true,cond_false,qa];rw [quj (by omega),qx6 (by omega)];simp only [qa];have r1:qah (qdf (pC a1 (a2.1,a2.2.1,())) yes a1.length) (qdf (pC a1 (a2.1,a2.2.1,())) yes a1.length)=some true:=qgm (by have:=qhH (pC a1 (a2.1,a2.2.1,())) yes a1.length;omega);have r2:qah ((qdf yes (qS a1) a1.length).filter (qc4 a2.2.2.1)) ((qdf yes (qS a1) a1.length).filter (qc4 a2.2.2.1))=some true:=qgm (by
  have h1:=qhH yes (qS a1) a1.length;have h2:=List.length_filter_le (qc4 a2.2.2.1) (qdf yes (qS a1) a1.length);omega)
 generalize clE a1 (a2.1,a2.2.1,())=eC;generalize stE a1 a2.2.2.1=eS;by_cases cC:eC=0<;>by_cases cS:eS=0
 all_goals
  simp only [cC,cS,decide_true,decide_false,if_true,if_false,Bool.not_true,Bool.not_false,cond_true,cond_false,r1,r2,qa,List.length_nil,Int.natCast_zero,Int.ofNat_zero];by_cases cL:lrE a0 a1=0
  ·have g:=qpj cL;have hl2:=g.len2;simp only [cL,decide_true,if_true,Bool.not_true,cond_false];rw [qp9 g];simp only [qa];rw [qiG (by unfold qvB;simp;omega)];simp only [qa,Bool.not_true,cond_false];rw [qvL g];simp only [qa];rw [qgm (by simp;omega)];simp only [qa,Bool.not_true,cond_false];exact qwG g
  ·simp only [cL,decide_false,if_false,Bool.not_false,cond_true,List.length_nil];rw [qiG (by simp)];rfl
theorem qf6:∀x:denP ([Ty.pair I (.pair I (.pair I .unit)),.sl I,.pair I (.pair I (.pair I .unit))].map .ty),qA4 maxLen [.pair I (.pair I (.pair I .unit)),.sl I,.pair I (.pair I (.pair I .unit))] x->qai.F x=some true:=λx _=>qlp x.1 x.2.1 x.2.2
end Go.Proofs.Ytofjnhppalciiaa
end
section
namespace Go.Proofs.Ytofjnhppalciiaa.sensorValues
open Go Go.Ab Go.Tx Go.ChangeShapes Go.WideShapes Go.ChangeAt Go.RowKit
theorem hlib:∀g h args r,Lb g=some h->h args=some r->qaS Try.prog g args [] r []:=λg h args r hg hr=>by
 unfold Lb at hg;split at hg
 ·rename_i e;subst e;cases hg;cases args with
  |nil=>cases hr;exact qx8
  |cons a l=>cases hr
 ·cases hg
set_option maxRecDepth 100000 in
theorem contract(H:Type)(enc:TypeId×Value->H)(W:World)(base:Nat)(args:Array Value)(ds gs:List (DataW H))(before:List MemPlace)
  (hval:∀(j:Nat) t v,Try.f4.params[j]?=some t->args[j]?=some v->Value.okWide Try.prog W .any base t v)
  (hW:DataW.Whole enc Try.prog Try.f4.params.toList Rows.sensorValuesSpec.vars false W args.toList ds gs before) :
  Calls Try.prog 4 args W λe W'=>∃v,e=.returned v/\Rows.sensorValuesSpec.post enc Try.prog Try.f4 false true false false W args v W' :=
 qq0 (τs:=[(.pair I (.pair I (.pair I .unit))),(.sl I),(.pair I (.pair I (.pair I .unit)))]) (ts:=[50,25,54]) (tb:=4) (F:=qai.F) follows qbO hlib qyA Try.func4 (by kernel_rfl) (by kernel_rfl) (by kernel_rfl) (by kernel_rfl) (by kernel_rfl) (by kernel_rfl) Try.underlying4 qhW qf6 rfl
  (λH ds h=>by
   match ds,h with
   |[d1,d2,d3],_=>rfl) H enc W base args ds gs before hval hW
set_option maxRecDepth 100000 in
theorem lifted(os:Os)(started:os.Started)(H:Type)(enc:TypeId×Value->H) :
  ReturnsInHanded {} Try.checked os 4 .any (Rows.sensorValuesSpec.pre6 enc Try.prog Try.f4 Rows.sensorValuesRow.domain false) (Rows.sensorValuesSpec.post enc Try.prog Try.f4 false true false false):=by
 refine returnsInHanded_of_change (C:=Try.checked) own started (by kernel_rfl) Try.func4
  (ChangeSpec.witness6 (enc:=enc) (C:=Try.checked) false ⟨#[],#[.agg #[.int .i64 0,.int .i64 0,.int .i64 0],.slice none 0 0,.agg #[.int .i64 0,.int .i64 0,.int .i64 0]],[]⟩ 8 (by kernel_rfl) (by kernel_rfl) (by kernel_rfl) (by kernel_rfl)) ?_
 intro W base args ds gs before hval hW _ _;exact contract H enc W base args ds gs before hval hW
theorem proved:Rows.SensorValuesSaid :=
 OpenClaim.holds_of_wide 4 Try.f4 rfl rfl rfl rfl rfl rfl rfl ⟨rfl,rfl,rfl,rfl,rfl⟩ rfl rfl rfl rfl rfl (by kernel_rfl) Try.func4 (by kernel_rfl)
  (of_decide_eq_true (by kernel_rfl)) (by unfold Func.isWrapper;first|(rw [if_pos (by decide +kernel)];kernel_rfl)|(rw [if_neg (by decide +kernel)];exact ⟨rfl,rfl⟩))
  (λos started H enc _=>lifted os started H enc)
end Go.Proofs.Ytofjnhppalciiaa.sensorValues
end
