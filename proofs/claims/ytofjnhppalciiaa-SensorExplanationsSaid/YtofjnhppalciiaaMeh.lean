/-
  ONE LAW OF A CHAPTER: its program side is run by an interpreter that is proved sound; what it computes is shown to be what the law says. No conditions. Part 8 of 8.
-/
import Derived.Test.YtofjnhppalciiaaMeg
import Derived.Test.YtofjnhppalciiaaRows
import Derived.WalkKit
import Derived.Test.YtofjnhppalciiaaProg
import Derived.KernelRfl
set_option linter.unusedSimpArgs false
set_option linter.unusedVariables false
set_option linter.unnecessarySimpa false
section
namespace Go.Tx
open Go Go.Ab Go.RowKit Go.ChangeShapes Go.WideShapes Go.Deep
section
variable {H:Type} {enc:TypeId × Value->H} {P:Program}
theorem qp6{f:Func}{s:ChangeSpec}{apart fresh handsOn again:Bool}{W W':World}{args:Array Value}{v:Value}{ds gs:List (DataW H)}{before pa pv:List MemPlace}
  (hW:DataW.Whole enc P f.params.toList s.vars apart W args.toList ds gs before)
  (hres:∀(b:Nat) (sp:Nat->Bool) (hd:Bool),DataW.TrodAll enc P W' b sp hd f.resultTypes.toList (v.resultList f.resultTypes.size) (s.fn H (ds++gs)).results [])
  (hargs:∀sp:Nat->Bool,(∀p∈before,sp p.block=true)->DataW.TrodAll enc P W' 0 sp true f.params.toList args.toList (s.fn H (ds++gs)).args pa)
  (hvars:∀sp:Nat->Bool,(∀p∈before,sp p.block=true)->DataW.TrodVars enc P W' sp s.vars (s.fn H (ds++gs)).vars pv)
  (hps:before=pa++pv) (hb:Below W.heap.size W W')
  (hok:∀(j:Nat) (t:TypeId) (r:Value),f.resultTypes[j]?=some t->(v.resultList f.resultTypes.size)[j]?=some r->Value.okWide P W' .any 0 t r) :
  s.post enc P f apart fresh handsOn again W args v W':=by
 have hlt:∀p∈before,p.block<W.heap.size:=λp hp=>hW.lt p hp;have hold:∀p∈before,(λb=>decide (b<W.heap.size)) p.block=true:=λp hp=>by simpa using hlt p hp
 refine ⟨ds,gs,before,[],pa,pv,hW,hres _ _ _,hargs _ hold,hvars _ hold,World.keptBut_mono (λp hp=>⟨hp,?_⟩) (hb.frame (·∈before)),λ_=>?_⟩
 ·rw [hps,qj]at hp;exact Or.inr hp
 ·obtain ⟨_,_,_,_,_,hz,hn⟩:=hW;refine ⟨hok,_,_,([]++pa)++pv,⟨[]++pa,pv,trodAll_append (hargs _ (λ_ _=>rfl)) (hres _ _ _),hvars _ (λ_ _=>rfl),rfl,?_,?_⟩,?_⟩
  ·intro b off hp;have hin:MemPlace.cell b off∈before:=by rw [hps];simpa using hp
   rw [hb.frozen (hlt _ hin)];exact hz b off hin
  ·intro ha;have:=hn ha;rw [hps]at this;simpa using this
  ·intro p hp _;rw [hps];simpa using hp
theorem qnH:∀{ts:List TypeId} {vs:List Value} {ds:List (DataW H)} {ps:List MemPlace} {w:World} {b:Nat} {sp:Nat->Bool} {hd:Bool},DataW.TrodAll enc P w b sp hd ts vs ds ps->ds.length=ts.length
 |[],[],[],_,_,_,_,_,_=>rfl
 |[],[],d::ds,_,_,_,_,_,h=>h.elim
 |[],v::vs,_,_,_,_,_,_,h=>by cases h
 |t::ts,[],_,_,_,_,_,_,h=>by cases h
 |t::ts,v::vs,[],_,_,_,_,_,h=>by cases h
 |t::ts,v::vs,d::ds,ps,w,b,sp,hd,⟨p,q,h1,h2,e⟩=>by simp [qnH h2]
end
theorem qCr{H:Type}:Sm (H:=H) maxLen (λ_=>True) where
 slice:=λes sp _ h=>⟨h,λ_ _=>trivial⟩
 agg:=λ_ _ _ _=>trivial
 str:=λ_ _ h=>h
theorem qro{P:Program}{H0:Hints}{lib:FuncId->Option (List V->Option V)}(hm:P.follows .mixedOrders=true)(qco:qjc P H0)
  (hlib:∀g h args r,lib g=some h->h args=some r->qaY P g args [] r []) (hl:laidOutB P=true) {k:FuncId} {fn:Func} (hfn:P.funcs[k]?=some fn) (hbody:fn.body.isSome=true)
  {ts:List TypeId} {τs:List Ty} (hps:fn.params.toList=ts) (hts:ts.mapM (qAK P)=some τs) (hok:ts.all (okT P 10)=true) (hrd:ts.all (λt=>P.readableRec t&&decide (t<P.types.size))=true)
  {tb:TypeId} (hres:fn.resultTypes=#[tb]) (htb:P.underlying tb=some .bool) {F:denP (τs.map .ty)->Option Bool}
  (he:qG P H0 lib ⟨k,τs.map .ty,[(.bool,0)],F⟩) (hF:∀x,qBN maxLen τs x->F x=some true)
  {s:ChangeSpec} (hv:s.vars=[]) (hs:∀(H:Type) (ds:List (DataW H)),ds.length=ts.length->s.fn H ds={results:=[.lit (.bool true)],args:=ds})
  (H:Type) (enc:TypeId×Value->H) (W:World) (base:Nat) (args:Array Value) (ds gs:List (DataW H)) (before:List MemPlace)
  (hval:∀(j:Nat) t v,fn.params[j]?=some t->args[j]?=some v->Value.okWide P W .any base t v)
  (hW:DataW.Whole enc P fn.params.toList s.vars false W args.toList ds gs before) :
  Calls P k args W λe W'=>∃v,e=.returned v/\s.post enc P fn false true false false W args v W':=by
 have hW':=hW;have hlt:∀p∈before,p.block<W.heap.size:=λp hp=>hW.lt p hp;obtain ⟨p,q,hA,hV,rfl,hfz,hnd⟩:=hW;rw [hv]at hV;obtain ⟨rfl,rfl⟩:=trodVars_none hV;rw [hps]at hA;have hlen:=qnH hA;have hval':∀(j:Nat) t v,ts[j]?=some t->args.toList[j]?=some v->Value.okWide P W .any base t v:=λj t v h1 h2 =>
  hval j t v (by rw [<- hps]at h1;simpa using h1) (by simpa using h2)
 refine (qxh hm qco hlib hl qCr hfn hbody hts hok he hF hval' hA (λ_ _=>trivial) (λx hx=>by simp [qB5]at hx)).mono λe W' ⟨h1,hb⟩=>?_;subst h1;have hfs:s.fn H (ds++[])={results:=[.lit (.bool true)],args:=ds}:=by rw [List.append_nil];exact hs H ds hlen
 refine ⟨_,rfl,qp6 (pa:=p) (pv:=[]) hW' ?_ ?_ ?_ rfl hb ?_⟩
 ·intro b sp hd;rw [hfs,hres];exact trodAll_mk1 (shut_bool htb true)
 ·intro sp hsp;rw [hfs,hps];exact qj9 hl hb hrd hA (λx hx=>hlt x (by simpa using hx)) sp (λx hx=>hsp x (by simpa using hx))
 ·intro sp _;rw [hfs,hv];rfl
 ·exact ok_one hres rfl (okWide_bool_mk htb true)
end Go.Tx
namespace Go.Proofs.Ytofjnhppalciiaa
open Go Go.Ab Go.Tx
theorem own:ownKnob Try.prog.godebug=none:=by kernel_rfl
theorem qzh:laidOutB Try.prog=true:=by kernel_rfl
end Go.Proofs.Ytofjnhppalciiaa
end
section
namespace Go.Proofs.Ytofjnhppalciiaa
open Go Go.Ab Go.Tx
section
set_option maxRecDepth 100000
noncomputable section
@[reducible] def I:Ty:=.int .i64
@[reducible] def w64 (n:Int):Int:=IntKind.wrap .i64 n
def qzj:List (List Tmp×FuncId×Kind×Join)->List Tmp->FuncId->Kind->Option Join
 |[],_,_,_=>none
 |(c,f,k,j)::l,c',f',k'=>if f=f' then (if k=k' then (if c=c' then some j else qzj l c' f' k')else qzj l c' f' k')else qzj l c' f' k'
def qsw:Nat:=6
def qeI(js:List (List Tmp×FuncId×Kind×Join))(inl:List (List Tmp×FuncId×Tmp)):TH where
 lib:=λg=>decide (g=qsw)
 join:=qzj js
 inl:=λc f d=>inl.any λ(c',f',d')=>decide (f=f')&&decide (d=d')&&decide (c=c')
def Lb:FuncId->Option (List V->Option V):=λg=>if g=qsw then some (λargs=>match args with
  |[]=>some (.val (.bool true))
  |_=>none)else none
theorem hJ{js:List (List Tmp×FuncId×Kind×Join)}{inl:List (List Tmp×FuncId×Tmp)}:∀g,(qeI js inl).lib g=false->Lb g=none:=λg h=>by
 simp only [qeI,decide_eq_false_iff_not]at h;simp [Lb,h]
def qxB(js:List (List Tmp×FuncId×Kind×Join))(inl:List (List Tmp×FuncId×Tmp))(io:IoT):TH:={qeI js inl with io:=io}
theorem qDe{js:List (List Tmp×FuncId×Kind×Join)}{inl:List (List Tmp×FuncId×Tmp)}{io:IoT}:∀g,(qxB js inl io).lib g=false->Lb g=none:=λg h=>hJ (js:=js) (inl:=inl) g h
def qiK:Option Bool:=some true
def qc5:Entry:=⟨6,[],[(.bool,0)],λ_=>qiK⟩
theorem qpT:qG Try.prog Hn.hints Lb qc5:=λx y h vs hv=>by
 obtain rfl:true=y:=Option.some.inj h;simp only [qc5,qaE,RVL]at hv;subst hv;refine ⟨.val (.bool true),⟨1,λm hm=>?_⟩,by simp [qp0,qc5,ofL,qcU,ofTy,RV,RTy]⟩;obtain ⟨m',rfl⟩:∃m',m=m'+1:=⟨m-1,by omega⟩
 simp [qn5,Lb,qsw,qc5]
def qei(a0:(List Int)):Option Bool :=
 some (decide ((a0.length:Int)<=62))
def qbw:Entry:=⟨21,[.ty (.sl I)],[(.bool,0)],λx=>qei x⟩
def qmF:TH:=qeI [] []
theorem qmK(x:denP qbw.ps):fnT Try.prog Hn.hints qmF (qdA []) 40 21 (qaE qbw.ps x) qbw.rs=qbw.F x:=by kernel_rfl
theorem qmY:qG Try.prog Hn.hints Lb qbw:=qA qP hJ 40 _ _ _ _ qmK
def qcD(a0:(List (List Int))):Option Bool :=
 (qaD (λ(s2:Int) =>
   bif decide (s2<(a0.length:Int))then
    (idx a0 s2).bind λx3 =>
    (qei x3).bind λx4 =>
    bif !x4 then
     some (.inr (.inr false))
    else
     some (.inl (w64 (s2+1)))
   else
    some (.inr (.inl ()))) 0).bind (Sum.elim (λ(p5:Unit) =>
 some (decide ((a0.length:Int)<=9))) some)
def qbb:Entry:=⟨56,[.ty (.sl (.sl I))],[(.bool,0)],λx=>qcD x⟩
def qlt:TH:=qeI [([],56,.block 0,{lv:=[],ps:=[],abn:=true,D:=⟨65528⟩}),
 ([],56,.loop 0,{lv:=[⟨none,3,0⟩],ps:=[(I,0)],D:=⟨65528⟩})] []
theorem qlx(x:denP qbb.ps):fnT Try.prog Hn.hints qlt (qdA [qbw]) 40 56 (qaE qbb.ps x) qbb.rs=qbb.F x:=by kernel_rfl
theorem qlB:qG Try.prog Hn.hints Lb qbb:=qA (qq qmY qP) hJ 40 _ _ _ _ qlx
def qdm(a0:Int)(a1:Int)(a2:Int):Option Bool :=
 (bif decide (a1<=a0)then
   some (decide (a0<=a2))
  else
   some false).bind λ(p1:Bool) =>
 some p1
def qbj:Entry:=⟨31,[.ty I,.ty I,.ty I],[(.bool,0)],λx=>qdm x.1 x.2.1 x.2.2⟩
def qpG:TH:=qeI [([],31,.region 1,{lv:=[⟨none,6,0⟩],ps:=[(.bool,0)],D:=⟨32704⟩})] []
theorem qpI(x:denP qbj.ps):fnT Try.prog Hn.hints qpG (qdA []) 40 31 (qaE qbj.ps x) qbj.rs=qbj.F x:=by kernel_rfl
theorem qgq:qG Try.prog Hn.hints Lb qbj:=qA qP hJ 40 _ _ _ _ qpI
def qfw(a0:(List Int)):Option (Int×Int) :=
 bif decide ((a0.length:Int)=0)then
  some (0,10)
 else
  bif decide ((a0.length:Int) > 60)then
   some (0,8)
  else
   (qaD (λ(s2:Int) =>
     bif decide (s2<(a0.length:Int))then
      (idx a0 s2).bind λx3 =>
      (qdm x3 (-100000:Int) (100000:Int)).bind λx4 =>
      bif !x4 then
       some (.inr (.inr (s2,2)))
      else
       some (.inl (w64 (s2+1)))
     else
      some (.inr (.inl ()))) 0).bind (Sum.elim (λ(p5:Unit) =>
   some (0,0)) some)
def qbc:Entry:=⟨28,[.ty (.sl I)],[(I,0),(I,0)],λx=>qfw x⟩
def qlu:TH:=qeI [([],28,.block 0,{lv:=[],ps:=[],abn:=true,D:=⟨16775184⟩}),
 ([],28,.loop 0,{lv:=[⟨none,4,0⟩],ps:=[(I,0)],D:=⟨16775184⟩})] []
theorem qly(x:denP qbc.ps):fnT Try.prog Hn.hints qlu (qdA [qbj]) 40 28 (qaE qbc.ps x) qbc.rs=qbc.F x:=by kernel_rfl
theorem qlC:qG Try.prog Hn.hints Lb qbc:=qA (qq qgq qP) hJ 40 _ _ _ _ qly
def qdV(a0:(List Int)):Option Int :=
 (qfw a0).bind λx1 =>
 some x1.2
def qbn:Entry:=⟨69,[.ty (.sl I)],[(I,0)],λx=>qdV x⟩
def qnX:TH:=qeI [] []
theorem qn1(x:denP qbn.ps):fnT Try.prog Hn.hints qnX (qdA [qbc]) 40 69 (qaE qbn.ps x) qbn.rs=qbn.F x:=by kernel_rfl
theorem qin:qG Try.prog Hn.hints Lb qbn:=qA (qq qlC qP) hJ 40 _ _ _ _ qn1
def qbZ(a0:((List (List Int))×Int×Unit)):Option (Int×Int) :=
 bif decide ((a0.1.length:Int)=0)then
  some (0,10)
 else
  bif decide ((a0.1.length:Int) > 4)then
   some (0,8)
  else
   (qaD (λ(s2:Int) =>
     bif decide (s2<(a0.1.length:Int))then
      (idx a0.1 s2).bind λx3 =>
      (qdV x3).bind λx4 =>
      bif !(decide (x4=0))then
       some (.inr (.inr (s2,x4)))
      else
       (idx a0.1 s2).bind λx5 =>
       (idx a0.1 0).bind λx6 =>
       bif !(decide ((x5.length:Int)=(x6.length:Int)))then
        some (.inr (.inr (s2,13)))
       else
        some (.inl (w64 (s2+1)))
     else
      some (.inr (.inl ()))) 0).bind (Sum.elim (λ(p7:Unit) =>
   (qdm a0.2.1 (0:Int) (100000:Int)).bind λx8 =>
   bif !x8 then
    some (0,2)
   else
    some (0,0)) some)
def qaw:Entry:=⟨14,[.ty (.pair (.sl (.sl I)) (.pair I .unit))],[(I,0),(I,0)],λx=>qbZ x⟩
def qjB:TH:=qeI [([],14,.block 0,{lv:=[],ps:=[],abn:=true,D:=⟨17592186028080⟩,rs:=[⟨0,1⟩],Dn:=⟨17592185995312⟩}),
 ([],14,.loop 0,{lv:=[⟨none,4,0⟩],ps:=[(I,0)],D:=⟨17592186028080⟩,rs:=[⟨0,1⟩],Dn:=⟨17452597461040⟩})] []
theorem qjG(x:denP qaw.ps):fnT Try.prog Hn.hints qjB (qdA [qbj,qbn]) 40 14 (qaE qaw.ps x) qaw.rs=qaw.F x:=by kernel_rfl
theorem qfg:qG Try.prog Hn.hints Lb qaw:=qA (qq qgq (qq qin qP)) hJ 40 _ _ _ _ qjG
def qfx(a0:((List (List Int))×Int×Unit)):Option Int :=
 (qbZ a0).bind λx1 =>
 some x1.2
def qbd:Entry:=⟨40,[.ty (.pair (.sl (.sl I)) (.pair I .unit))],[(I,0)],λx=>qfx x⟩
def qlv:TH:=qeI [] []
theorem qlz(x:denP qbd.ps):fnT Try.prog Hn.hints qlv (qdA [qaw]) 40 40 (qaE qbd.ps x) qbd.rs=qbd.F x:=by kernel_rfl
theorem qlD:qG Try.prog Hn.hints Lb qbd:=qA (qq qfg qP) hJ 40 _ _ _ _ qlz
def qa2(a0:((List (List Int))×Int×Unit))(a1:(List (List Int))):Option Int :=
 bif !(decide ((a1.length:Int)=(a0.1.length:Int)))then
  some 10
 else
  (qaD (λ(s2:Int) =>
    bif decide (s2<(a1.length:Int))then
     (idx a1 s2).bind λx3 =>
     (qdV x3).bind λx4 =>
     bif !(decide (x4=0))then
      some (.inr (.inr x4))
     else
      (idx a1 s2).bind λx5 =>
      (idx a0.1 0).bind λx6 =>
      bif !(decide ((x5.length:Int)=(x6.length:Int)))then
       some (.inr (.inr 13))
      else
       some (.inl (w64 (s2+1)))
    else
     some (.inr (.inl ()))) 0).bind (Sum.elim (λ(p7:Unit) =>
  some 0) some)
def qaq:Entry:=⟨15,[.ty (.pair (.sl (.sl I)) (.pair I .unit)),.ty (.sl (.sl I))],[(I,0)],λx=>qa2 x.1 x.2⟩
def qiB:TH:=qeI [([],15,.block 0,{lv:=[],ps:=[],abn:=true,D:=⟨274877898848⟩}),
 ([],15,.loop 0,{lv:=[⟨none,5,0⟩],ps:=[(I,0)],D:=⟨274877898848⟩,rs:=[⟨0,2⟩],Dn:=⟨270582931552⟩})] []
theorem qiG(x:denP qaq.ps):fnT Try.prog Hn.hints qiB (qdA [qbn]) 40 15 (qaE qaq.ps x) qaq.rs=qaq.F x:=by kernel_rfl
theorem qeL:qG Try.prog Hn.hints Lb qaq:=qA (qq qin qP) hJ 40 _ _ _ _ qiG
def qfd(a0:((List (List Int))×Int×Unit))(a1:(List (List Int))):Option Bool :=
 ((qcD a0.1).bind λx1 =>
  bif x1 then
   (qcD a1).bind λx2 =>
   bif x2 then
    bif decide ((a0.1.length:Int)<=6)then
     bif decide ((a1.length:Int)<=3)then
      some true
     else
      (qfx a0).bind λx3 =>
      bif !(decide (x3=0))then
       some true
      else
       (qa2 a0 a1).bind λx4 =>
       some (!(decide (x4=0)))
    else
     some false
   else
    some false
  else
   some false).bind λ(p5:Bool) =>
 some p5
def qb3:Entry:=⟨7,[.ty (.pair (.sl (.sl I)) (.pair I .unit)),.ty (.sl (.sl I))],[(.bool,0)],λx=>qfd x.1 x.2⟩
def qnW:TH:=qeI [([],7,.region 1,{lv:=[⟨none,4,0⟩],ps:=[(.bool,0)],D:=⟨17179869168⟩,rs:=[⟨0,2⟩],Dn:=⟨17179860944⟩})] []
theorem qn0(x:denP qb3.ps):fnT Try.prog Hn.hints qnW (qdA [qbb,qaq,qbd]) 40 7 (qaE qb3.ps x) qb3.rs=qb3.F x:=by kernel_rfl
theorem qn4:qG Try.prog Hn.hints Lb qb3:=qA (qq qlB (qq qeL (qq qlD qP))) hJ 40 _ _ _ _ qn0
def qbG(a0:(List Int)):Option (List Int) :=
 (app [] a0).bind λx1 =>
 some x1
def qaL:Entry:=⟨23,[.ty (.sl I)],[((.sl I),1)],λx=>qbG x⟩
def qmE:TH:=qeI [] []
theorem qmJ(x:denP qaL.ps):fnT Try.prog Hn.hints qmE (qdA []) 40 23 (qaE qaL.ps x) qaL.rs=qaL.F x:=by kernel_rfl
theorem qeK:qG Try.prog Hn.hints Lb qaL:=qA qP hJ 40 _ _ _ _ qmJ
def qb2(a0:(List (List Int))):Option (List (List Int)) :=
 (qaD (λ(s3:((List (List Int))×Int)) =>
   bif decide (s3.2<(a0.length:Int))then
    (idx a0 s3.2).bind λx4 =>
    (qbG x4).bind λx5 =>
    (app s3.1 ([x5])).bind λx6 =>
    some (.inl (x6,w64 (s3.2+1)))
   else
    some (.inr s3.1)) ([],0)).bind λ(p7:(List (List Int))) =>
 some p7
def qaT:Entry:=⟨11,[.ty (.sl (.sl I))],[((.sl (.sl I)),2)],λx=>qb2 x⟩
def qls:TH:=qeI [([],11,.block 0,{lv:=[⟨none,3,0⟩],ps:=[((.sl (.sl I)),2)],D:=⟨524280⟩}),
 ([],11,.loop 0,{lv:=[⟨none,3,0⟩,⟨none,4,0⟩],ps:=[((.sl (.sl I)),2),(I,0)],D:=⟨524280⟩})] []
theorem qlw(x:denP qaT.ps):fnT Try.prog Hn.hints qls (qdA [qaL]) 40 11 (qaE qaT.ps x) qaT.rs=qaT.F x:=by kernel_rfl
theorem qgJ:qG Try.prog Hn.hints Lb qaT:=qA (qq qeK qP) hJ 40 _ _ _ _ qlw
def qbA(a0:((List (List Int))×Int×Unit)):Option ((List (List Int))×Int×Unit) :=
 (qb2 a0.1).bind λx1 =>
 some (x1,a0.2.1,())
def qaZ:Entry:=⟨9,[.ty (.pair (.sl (.sl I)) (.pair I .unit))],[((.pair (.sl (.sl I)) (.pair I .unit)),2)],λx=>qbA x⟩
def qkx:TH:=qeI [] []
theorem qkz(x:denP qaZ.ps):fnT Try.prog Hn.hints qkx (qdA [qaT]) 40 9 (qaE qaZ.ps x) qaZ.rs=qaZ.F x:=by kernel_rfl
theorem qkF:qG Try.prog Hn.hints Lb qaZ:=qA (qq qgJ qP) hJ 40 _ _ _ _ qkz
def qI(a0:Bool)(a1:Int):Option Int :=
 bif a0 then
  some 0
 else
  some a1
def q9:Entry:=⟨58,[.ty .bool,.ty I],[(I,0)],λx=>qI x.1 x.2⟩
def qmH:TH:=qeI [] []
theorem qmM(x:denP q9.ps):fnT Try.prog Hn.hints qmH (qdA []) 40 58 (qaE q9.ps x) q9.rs=q9.F x:=by kernel_rfl
theorem qbz:qG Try.prog Hn.hints Lb q9:=qA qP hJ 40 _ _ _ _ qmM
def qad(a0:(List Int)):Option Int :=
 (qaD (λ(s2:Int) =>
   bif decide (s2<(a0.length:Int))then
    (idx a0 s2).bind λx3 =>
    bif !(decide (x3=0))then
     some (.inr (.inr x3))
    else
     some (.inl (w64 (s2+1)))
   else
    some (.inr (.inl ()))) 0).bind (Sum.elim (λ(p4:Unit) =>
 some 0) some)
def qav:Entry:=⟨57,[.ty (.sl I)],[(I,0)],λx=>qad x⟩
def qnY:TH:=qeI [([],57,.block 0,{lv:=[],ps:=[],abn:=true,D:=⟨32656⟩}),
 ([],57,.loop 0,{lv:=[⟨none,7,0⟩],ps:=[(I,0)],D:=⟨32656⟩})] []
theorem qn2(x:denP qav.ps):fnT Try.prog Hn.hints qnY (qdA []) 40 57 (qaE qav.ps x) qav.rs=qav.F x:=by kernel_rfl
theorem qcF:qG Try.prog Hn.hints Lb qav:=qA qP hJ 40 _ _ _ _ qn2
def qbV(a0:Int)(a1:Int)(a2:Int):Option Bool :=
 (bif decide (a1<=a0)then
   some (decide (a0<=a2))
  else
   some false).bind λ(p1:Bool) =>
 some p1
def qaM:Entry:=⟨62,[.ty I,.ty I,.ty I],[(.bool,0)],λx=>qbV x.1 x.2.1 x.2.2⟩
def qmI:TH:=qeI [([],62,.region 1,{lv:=[⟨none,6,0⟩],ps:=[(.bool,0)],D:=⟨32704⟩})] []
theorem qmN(x:denP qaM.ps):fnT Try.prog Hn.hints qmI (qdA []) 40 62 (qaE qaM.ps x) qaM.rs=qaM.F x:=by kernel_rfl
theorem qeO:qG Try.prog Hn.hints Lb qaM:=qA qP hJ 40 _ _ _ _ qmN
def qdY(a0:Int)(a1:Int):Option Bool :=
 (qbV a0 (w64 (0-a1)) a1).bind λx1 =>
 some x1
def qbo:Entry:=⟨73,[.ty I,.ty I],[(.bool,0)],λx=>qdY x.1 x.2⟩
def qnZ:TH:=qeI [] []
theorem qn3(x:denP qbo.ps):fnT Try.prog Hn.hints qnZ (qdA [qaM]) 40 73 (qaE qbo.ps x) qbo.rs=qbo.F x:=by kernel_rfl
theorem qio:qG Try.prog Hn.hints Lb qbo:=qA (qq qeO qP) hJ 40 _ _ _ _ qn3
def qcv(a0:Int)(a1:Int):Option Int :=
 (qdY a1 (100000:Int)).bind λx1 =>
 (qI x1 (2:Int)).bind λx2 =>
 some x2
def qaG:Entry:=⟨72,[.ty I,.ty I],[(I,0)],λx=>qcv x.1 x.2⟩
def qiC:TH:=qeI [] []
theorem qiH(x:denP qaG.ps):fnT Try.prog Hn.hints qiC (qdA [qbo,q9]) 40 72 (qaE qaG.ps x) qaG.rs=qaG.F x:=by kernel_rfl
theorem qiN:qG Try.prog Hn.hints Lb qaG:=qA (qq qio (qq qbz qP)) hJ 40 _ _ _ _ qiH
def qZ(a0:(List Int)):Option (Int×Int) :=
 (qaD (λ(s2:Int) =>
   bif decide (s2<(a0.length:Int))then
    (idx a0 s2).bind λx3 =>
    (qcv s2 x3).bind λx4 =>
    bif !(decide (x4=0))then
     some (.inr (.inr (s2,x4)))
    else
     some (.inl (w64 (s2+1)))
   else
    some (.inr (.inl ()))) 0).bind (Sum.elim (λ(p5:Unit) =>
 some (0,0)) some)
def qy:Entry:=⟨71,[.ty (.sl I),.fn 72 []],[(I,0),(I,0)],λx=>qZ x.1⟩
def qcp:TH:=qeI [([],71,.block 0,{lv:=[],ps:=[],abn:=true,D:=⟨33552832⟩}),
 ([],71,.loop 0,{lv:=[⟨none,11,0⟩],ps:=[(I,0)],D:=⟨33552832⟩})] []
theorem qcq(x:denP qy.ps):fnT Try.prog Hn.hints qcp (qdA [qaG]) 40 71 (qaE qy.ps x) qy.rs=qy.F x:=by kernel_rfl
theorem qcs:qG Try.prog Hn.hints Lb qy:=qA (qq qiN qP) hJ 40 _ _ _ _ qcq
def qeS(a0:(List Int)):Option (Int×Int) :=
 (qI (decide ((a0.length:Int) > 0)) (10:Int)).bind λx1 =>
 (qI (decide ((a0.length:Int)<=60)) (8:Int)).bind λx2 =>
 (qad ([x1,x2])).bind λx3 =>
 bif !(decide (x3=0))then
  some (0,x3)
 else
  (qZ a0).bind λx4 =>
  some (x4.1,x4.2)
def qa0:Entry:=⟨22,[.ty (.sl I)],[(I,0),(I,0)],λx=>qeS x⟩
def qky:TH:=qeI [] []
theorem qkA(x:denP qa0.ps):fnT Try.prog Hn.hints qky (qdA [qy,qav,q9]) 40 22 (qaE qa0.ps x) qa0.rs=qa0.F x:=by kernel_rfl
theorem qkG:qG Try.prog Hn.hints Lb qa0:=qA (qq qcs (qq qcF (qq qbz qP))) hJ 40 _ _ _ _ qkA
def qbU(a0:(List Int)):Option Int :=
 (qeS a0).bind λx1 =>
 some x1.2
def qa5:Entry:=⟨61,[.ty (.sl I)],[(I,0)],λx=>qbU x⟩
def qmG:TH:=qeI [] []
theorem qmL(x:denP qa5.ps):fnT Try.prog Hn.hints qmG (qdA [qa0]) 40 61 (qaE qa5.ps x) qa5.rs=qa5.F x:=by kernel_rfl
theorem qhg:qG Try.prog Hn.hints Lb qa5:=qA (qq qkG qP) hJ 40 _ _ _ _ qmL
def qbB(a0:((List (List Int))×Int×Unit)):Option (Int×Int) :=
 (qI (decide ((a0.1.length:Int) > 0)) (10:Int)).bind λx1 =>
 (qI (decide ((a0.1.length:Int)<=4)) (8:Int)).bind λx2 =>
 (qad ([x1,x2])).bind λx3 =>
 bif !(decide (x3=0))then
  some (0,x3)
 else
  ((qaD (λ(s5:Int) =>
     bif decide (s5<(a0.1.length:Int))then
      (idx a0.1 s5).bind λx6 =>
      (qbU x6).bind λx7 =>
      (idx a0.1 0).bind λx8 =>
      (qI (decide ((x6.length:Int)=(x8.length:Int))) (13:Int)).bind λx9 =>
      (qad ([x7,x9])).bind λx10 =>
      bif !(decide (x10=0))then
       some (.inr (.inr (s5,x10)))
      else
       some (.inl (w64 (s5+1)))
     else
      some (.inr (.inl ()))) 0).bind (Sum.elim (λ(p11:Unit) =>
   some (0,0)) some)).bind λ(p12:(Int×Int)) =>
  bif !(decide (p12.2=0))then
   some (p12.1,p12.2)
  else
   (qbV a0.2.1 (0:Int) (100000:Int)).bind λx13 =>
   (qI x13 (2:Int)).bind λx14 =>
   some (0,x14)
def qar:Entry:=⟨8,[.ty (.pair (.sl (.sl I)) (.pair I .unit))],[(I,0),(I,0)],λx=>qbB x⟩
def qiD:TH:=qeI [([26],59,.inl 0,{lv:=[⟨none,4,0⟩,⟨none,5,0⟩],ps:=[(I,0),(I,0)],D:=⟨33554416⟩,rs:=[⟨0,1⟩],Dn:=⟨33488880⟩}),
 ([26],59,.block 0,{lv:=[],ps:=[],abn:=true,D:=⟨33552832⟩}),
 ([26],59,.loop 0,{lv:=[⟨none,11,0⟩],ps:=[(I,0)],D:=⟨33552832⟩,rs:=[⟨0,1⟩],Dn:=⟨33487296⟩})] []
theorem qiI(x:denP qar.ps):fnT Try.prog Hn.hints qiD (qdA [qav,qa5,q9,qaM]) 40 8 (qaE qar.ps x) qar.rs=qar.F x:=by kernel_rfl
theorem qeM:qG Try.prog Hn.hints Lb qar:=qA (qq qcF (qq qhg (qq qbz (qq qeO qP)))) hJ 40 _ _ _ _ qiI
def qcR(a0:(List (List Int))):Option Int :=
 bif decide ((a0.length:Int)=0)then
  some 0
 else
  (idx a0 0).bind λx1 =>
  some (x1.length:Int)
def qaQ:Entry:=⟨86,[.ty (.sl (.sl I))],[(I,0)],λx=>qcR x⟩
def qjE:TH:=qeI [] []
theorem qjJ(x:denP qaQ.ps):fnT Try.prog Hn.hints qjE (qdA []) 40 86 (qaE qaQ.ps x) qaQ.rs=qaQ.F x:=by kernel_rfl
theorem qjS:qG Try.prog Hn.hints Lb qaQ:=qA qP hJ 40 _ _ _ _ qjJ
def qb9(a0:(List (List Int)))(a1:Int)(a2:Int):Option Int :=
 ((qaD (λ(s2:Int) =>
    bif decide (s2<(a0.length:Int))then
     (idx a0 s2).bind λx3 =>
     (qbU x3).bind λx4 =>
     (qI (decide ((x3.length:Int)=a2)) (13:Int)).bind λx5 =>
     (qad ([x4,x5])).bind λx6 =>
     bif !(decide (x6=0))then
      some (.inr (.inr (s2,x6)))
     else
      some (.inl (w64 (s2+1)))
    else
     some (.inr (.inl ()))) 0).bind (Sum.elim (λ(p7:Unit) =>
  some (0,0)) some)).bind λ(p8:(Int×Int)) =>
 (qI (decide ((a0.length:Int) > 0)) (10:Int)).bind λx9 =>
 (qI (decide ((a0.length:Int)<=a1)) (8:Int)).bind λx10 =>
 (qad ([x9,x10,p8.2])).bind λx11 =>
 some x11
def qaA:Entry:=⟨85,[.ty (.sl (.sl I)),.ty I,.ty I],[(I,0)],λx=>qb9 x.1 x.2.1 x.2.2⟩
def qh3:TH:=qeI [([12],59,.inl 0,{lv:=[⟨none,4,0⟩,⟨none,5,0⟩],ps:=[(I,0),(I,0)],D:=⟨33554416⟩,rs:=[⟨0,5⟩],Dn:=⟨33488880⟩}),
 ([12],59,.block 0,{lv:=[],ps:=[],abn:=true,D:=⟨33552832⟩}),
 ([12],59,.loop 0,{lv:=[⟨none,11,0⟩],ps:=[(I,0)],D:=⟨33552832⟩,rs:=[⟨0,5⟩],Dn:=⟨33487296⟩})] []
theorem qh7(x:denP qaA.ps):fnT Try.prog Hn.hints qh3 (qdA [qav,qa5,q9]) 40 85 (qaE qaA.ps x) qaA.rs=qaA.F x:=by kernel_rfl
theorem qic:qG Try.prog Hn.hints Lb qaA:=qA (qq qcF (qq qhg (qq qbz qP))) hJ 40 _ _ _ _ qh7
def qb0(a0:((List (List Int))×Int×Unit))(a1:(List (List Int))):Option (((List (List Int))×Int×(List (List Int))×Unit)×Int) :=
 (qbB a0).bind λx1 =>
 (qI (decide ((a1.length:Int)=(a0.1.length:Int))) (10:Int)).bind λx2 =>
 (qcR a0.1).bind λx3 =>
 (qb9 a1 (4:Int) x3).bind λx4 =>
 (qad ([x1.2,x2,x4])).bind λx5 =>
 some ((a0.1,a0.2.1,a1,()),x5)
def qax:Entry:=⟨63,[.ty (.pair (.sl (.sl I)) (.pair I .unit)),.ty (.sl (.sl I))],[((.pair (.sl (.sl I)) (.pair I (.pair (.sl (.sl I)) .unit))),1000),(I,0)],λx=>qb0 x.1 x.2⟩
def qjD:TH:=qeI [] []
theorem qjI(x:denP qax.ps):fnT Try.prog Hn.hints qjD (qdA [qar,qaA,qav,qaQ,q9]) 40 63 (qaE qax.ps x) qax.rs=qax.F x:=by kernel_rfl
theorem qfh:qG Try.prog Hn.hints Lb qax:=qA (qq qeM (qq qic (qq qcF (qq qjS (qq qbz qP))))) hJ 40 _ _ _ _ qjI
def qC(a0:(List (Int×Bool×Unit))):Option (List (Int×Bool×Unit)) :=
 bif List.isEmpty a0 then
  none
 else
  (app [] a0).bind λx1 =>
  some x1
def qw:Entry:=⟨97,[.ty (.sl (.pair I (.pair .bool .unit)))],[((.sl (.pair I (.pair .bool .unit))),1)],λx=>qC x⟩
def qbL:TH:=qeI [] []
theorem qbM(x:denP qw.ps):fnT Try.prog Hn.hints qbL (qdA []) 40 97 (qaE qw.ps x) qw.rs=qw.F x:=by kernel_rfl
theorem qbO:qG Try.prog Hn.hints Lb qw:=qA qP hJ 40 _ _ _ _ qbM
def qbl(a0:(Int×Bool×Unit)):Option Int :=
 bif a0.2.1 then
  some (-1)
 else
  some 1
def qaB:Entry:=⟨87,[.ty (.pair I (.pair .bool .unit))],[(I,0)],λx=>qbl x⟩
def qh5:TH:=qeI [] []
theorem qh9(x:denP qaB.ps):fnT Try.prog Hn.hints qh5 (qdA []) 40 87 (qaE qaB.ps x) qaB.rs=qaB.F x:=by kernel_rfl
theorem qid:qG Try.prog Hn.hints Lb qaB:=qA qP hJ 40 _ _ _ _ qh9
def qX(a0:((List (List Int))×Int×(List (List Int))×Unit))(a1:Int)(a2:(Int×Bool×Unit)):Option Bool :=
 (idx a0.2.2.1 a1).bind λx1 =>
 (qaD (λ(s3:Int) =>
   bif decide (s3<(x1.length:Int))then
    (idx x1 s3).bind λx4 =>
    (bif !(decide (a2.1=(-1)))then
      (qbl a2).bind λx5 =>
      (idx a0.1 a2.1).bind λx6 =>
      (idx x6 s3).bind λx7 =>
      some (w64 (x5*x7))
     else
      some 0).bind λ(p8:Int) =>
    (qdY (w64 (x4-p8)) a0.2.1).bind λx9 =>
    bif !x9 then
     some (.inr (.inr false))
    else
     some (.inl (w64 (s3+1)))
   else
    some (.inr (.inl ()))) 0).bind (Sum.elim (λ(p10:Unit) =>
 some true) some)
def qas:Entry:=⟨67,[.ty (.pair (.sl (.sl I)) (.pair I (.pair (.sl (.sl I)) .unit))),.ty I,.ty (.pair I (.pair .bool .unit))],[(.bool,0)],λx=>qX x.1 x.2.1 x.2.2⟩
def qiE:TH:=qeI [([],67,.block 0,{lv:=[],ps:=[],abn:=true,D:=⟨70368744113024⟩}),
 ([],67,.loop 0,{lv:=[⟨none,16,0⟩],ps:=[(I,0)],D:=⟨70368744113024⟩,rs:=[⟨0,3⟩,⟨0,5⟩],Dn:=⟨67069468935040⟩}),
 ([],67,.cond 23,{lv:=[⟨none,9,0⟩],ps:=[(I,0)],D:=⟨137422176768⟩,rs:=[⟨0,3⟩,⟨0,5⟩],Dn:=⟨136683979264⟩})] []
theorem qiJ(x:denP qas.ps):fnT Try.prog Hn.hints qiE (qdA [qbo,qaB]) 40 67 (qaE qas.ps x) qas.rs=qas.F x:=by kernel_rfl
theorem qeN:qG Try.prog Hn.hints Lb qas:=qA (qq qio (qq qid qP)) hJ 40 _ _ _ _ qiJ
def qL(a0:(Int×Bool×Unit))(a1:Int):Option Int :=
 bif decide (a0.1=(-1))then
  some 1
 else
  (bif a0.2.1 then
    some 1
   else
    some 0).bind λ(p1:Int) =>
  (bif !(decide (a0.1=a1))then
    some (w64 (p1+1))
   else
    some p1).bind λ(p2:Int) =>
  some p2
def qal:Entry:=⟨68,[.ty (.pair I (.pair .bool .unit)),.ty I],[(I,0)],λx=>qL x.1 x.2⟩
def qh4:TH:=qeI [([],68,.cond 10,{lv:=[⟨none,5,0⟩],ps:=[(I,0)],D:=⟨6176⟩}),
 ([],68,.cond 16,{lv:=[⟨none,5,0⟩],ps:=[(I,0)],D:=⟨393248⟩})] []
theorem qh8(x:denP qal.ps):fnT Try.prog Hn.hints qh4 (qdA []) 40 68 (qaE qal.ps x) qal.rs=qal.F x:=by kernel_rfl
theorem qeb:qG Try.prog Hn.hints Lb qal:=qA qP hJ 40 _ _ _ _ qh8
def q5(n:Nat):((List (List Int))×Int×(List (List Int))×(List (Int×Bool×Unit))×Int)->(List (Int×Bool×Unit))->Int->Option ((List (List Int))×Int×(List (List Int))×(List (Int×Bool×Unit))×Int) :=
 Nat.rec (motive:=λ_=>((List (List Int))×Int×(List (List Int))×(List (Int×Bool×Unit))×Int)->(List (Int×Bool×Unit))->Int->Option ((List (List Int))×Int×(List (List Int))×(List (Int×Bool×Unit))×Int)) (λ_ _ _=>none) (λ_ ih b0 a0 a1 =>
 (bif !(List.isEmpty b0.2.2.2.1)then
   some (decide (a1>=b0.2.2.2.2))
  else
   some false).bind λ(p1:Bool) =>
 bif p1 then
  some (b0.1,b0.2.1,b0.2.2.1,b0.2.2.2.1,b0.2.2.2.2)
 else
  bif decide ((a0.length:Int)=(b0.2.2.1.length:Int))then
   (qC a0).bind λx2 =>
   ((((nel x2).bind λx6 =>
      some (x6,a1)).bind λx5 =>
     some (b0.2.2.1,x5)).bind λx4 =>
    some (b0.2.1,x4)).bind λx3 =>
   some (b0.1,x3)
  else
   (qX (b0.1,b0.2.1,b0.2.2.1,()) (a0.length:Int) ((-1),false,())).bind λx7 =>
   (bif x7 then
     (slc a0 0 (a0.length:Int)).bind λx8 =>
     bif decide ((a0.length:Int)=(a0.length:Int))then
      (app x8 ([((-1),false,())])).bind λx9 =>
      (qL ((-1),false,()) (a0.length:Int)).bind λx10 =>
      (ih (b0.1,b0.2.1,b0.2.2.1,b0.2.2.2.1,b0.2.2.2.2) x9 (w64 (a1+x10))).bind λx11 =>
      some (x11.1,x11.2.1,x11.2.2.1,x11.2.2.2.1,x11.2.2.2.2)
     else
      none
    else
     some (b0.1,b0.2.1,b0.2.2.1,b0.2.2.2.1,b0.2.2.2.2)).bind λ(p12:((List (List Int))×Int×(List (List Int))×(List (Int×Bool×Unit))×Int)) =>
   (qaD (λ(s14:(Int×(List (List Int))×Int×(List (List Int))×(List (Int×Bool×Unit))×Int)) =>
     bif decide (s14.1<(b0.1.length:Int))then
      (bif !(decide (s14.1=(-1)))then
        ((qaD (λ(s16:Int) =>
           bif decide (s16<(a0.length:Int))then
            (idx a0 s16).bind λx17 =>
            bif decide (x17.1=s14.1)then
             some (.inr (.inr s16))
            else
             some (.inl (w64 (s16+1)))
           else
            some (.inr (.inl ()))) 0).bind (Sum.elim (λ(p18:Unit) =>
         some (-1)) some)).bind λ(p19:Int) =>
        some (decide (p19>=0))
       else
        some false).bind λ(p20:Bool) =>
      (bif !p20 then
        (qX (s14.2.1,s14.2.2.1,s14.2.2.2.1,()) (a0.length:Int) (s14.1,false,())).bind λx21 =>
        some x21
       else
        some false).bind λ(p22:Bool) =>
      (bif p22 then
        (slc a0 0 (a0.length:Int)).bind λx23 =>
        bif decide ((a0.length:Int)=(a0.length:Int))then
         (app x23 ([(s14.1,false,())])).bind λx24 =>
         (qL (s14.1,false,()) (a0.length:Int)).bind λx25 =>
         (ih (s14.2.1,s14.2.2.1,s14.2.2.2.1,s14.2.2.2.2.1,s14.2.2.2.2.2) x24 (w64 (a1+x25))).bind λx26 =>
         some (x26.1,x26.2.1,x26.2.2.1,x26.2.2.2.1,x26.2.2.2.2)
        else
         none
       else
        some (s14.2.1,s14.2.2.1,s14.2.2.2.1,s14.2.2.2.2.1,s14.2.2.2.2.2)).bind λ(p27:((List (List Int))×Int×(List (List Int))×(List (Int×Bool×Unit))×Int)) =>
      (bif !(decide (s14.1=(-1)))then
        ((qaD (λ(s29:Int) =>
           bif decide (s29<(a0.length:Int))then
            (idx a0 s29).bind λx30 =>
            bif decide (x30.1=s14.1)then
             some (.inr (.inr s29))
            else
             some (.inl (w64 (s29+1)))
           else
            some (.inr (.inl ()))) 0).bind (Sum.elim (λ(p31:Unit) =>
         some (-1)) some)).bind λ(p32:Int) =>
        some (decide (p32>=0))
       else
        some false).bind λ(p33:Bool) =>
      (bif !p33 then
        (qX (p27.1,p27.2.1,p27.2.2.1,()) (a0.length:Int) (s14.1,true,())).bind λx34 =>
        some x34
       else
        some false).bind λ(p35:Bool) =>
      (bif p35 then
        (slc a0 0 (a0.length:Int)).bind λx36 =>
        bif decide ((a0.length:Int)=(a0.length:Int))then
         (app x36 ([(s14.1,true,())])).bind λx37 =>
         (qL (s14.1,true,()) (a0.length:Int)).bind λx38 =>
         (ih (p27.1,p27.2.1,p27.2.2.1,p27.2.2.2.1,p27.2.2.2.2) x37 (w64 (a1+x38))).bind λx39 =>
         some (x39.1,x39.2.1,x39.2.2.1,x39.2.2.2.1,x39.2.2.2.2)
        else
         none
       else
        some (p27.1,p27.2.1,p27.2.2.1,p27.2.2.2.1,p27.2.2.2.2)).bind λ(p40:((List (List Int))×Int×(List (List Int))×(List (Int×Bool×Unit))×Int)) =>
      some (.inl (w64 (s14.1+1),p40.1,p40.2.1,p40.2.2.1,p40.2.2.2.1,p40.2.2.2.2))
     else
      some (.inr (s14.2.1,s14.2.2.1,s14.2.2.2.1,s14.2.2.2.2.1,s14.2.2.2.2.2))) (0,p12.1,p12.2.1,p12.2.2.1,p12.2.2.2.1,p12.2.2.2.2)).bind λ(p41:((List (List Int))×Int×(List (List Int))×(List (Int×Bool×Unit))×Int)) =>
   some (p41.1,p41.2.1,p41.2.2.1,p41.2.2.2.1,p41.2.2.2.2)) n
def qe3:((List (List Int))×Int×(List (List Int))×(List (Int×Bool×Unit))×Int)->(List (Int×Bool×Unit))->Int->Option ((List (List Int))×Int×(List (List Int))×(List (Int×Bool×Unit))×Int):=q5 12
def qO(n:Nat):IoEntry:=⟨64,[((.sl (.sl I)),1000),(I,0),((.sl (.sl I)),1000),((.nsl (.pair I (.pair .bool .unit))),1),(I,0)],[((.sl (.pair I (.pair .bool .unit))),0),(I,0)],λx y=>q5 n x y.1 y.2⟩
def qd9:IoEntry:=qO 12
def qh2(n:Nat):TH:=qxB [([],64,.region 1,{lv:=[⟨none,21,0⟩],ps:=[(.bool,0)],D:=⟨4193792⟩,rs:=[⟨0,0⟩],Dn:=⟨3731456⟩}),
 ([7,46],64,.cond 65,{lv:=[⟨some 0,0,0⟩,⟨some 0,0,1⟩,⟨some 0,0,2⟩,⟨some 0,0,3⟩,⟨some 0,0,4⟩],ps:=[((.sl (.sl I)),1000),(I,0),((.sl (.sl I)),1000),((.nsl (.pair I (.pair .bool .unit))),1),(I,0)],D:=⟨302157667927362455470080⟩,wr:=[⟨0,0⟩],rs:=[⟨0,0⟩],Dn:=⟨302083880951067617263616⟩}),
 ([46],98,.block 0,{lv:=[⟨some 0,0,0⟩,⟨some 0,0,1⟩,⟨some 0,0,2⟩,⟨some 0,0,3⟩,⟨some 0,0,4⟩],ps:=[((.sl (.sl I)),1000),(I,0),((.sl (.sl I)),1000),((.nsl (.pair I (.pair .bool .unit))),1),(I,0)],D:=⟨536862736⟩,wr:=[⟨0,0⟩]}),
 ([46],98,.loop 0,{lv:=[⟨none,13,0⟩,⟨some 0,0,0⟩,⟨some 0,0,1⟩,⟨some 0,0,2⟩,⟨some 0,0,3⟩,⟨some 0,0,4⟩],ps:=[(I,0),((.sl (.sl I)),1000),(I,0),((.sl (.sl I)),1000),((.nsl (.pair I (.pair .bool .unit))),1),(I,0)],D:=⟨536862736⟩,wr:=[⟨0,0⟩],rs:=[⟨1,46⟩],Dn:=⟨532602896⟩}),
 ([19,46],64,.region 7,{lv:=[⟨none,8,0⟩],ps:=[(.bool,0)],D:=⟨35888059530608896⟩,rs:=[⟨3,7⟩],Dn:=⟨31243722414883072⟩}),
 ([7,53,19,46],113,.inl 0,{lv:=[⟨none,4,0⟩],ps:=[(I,0)],D:=⟨524272⟩,rs:=[⟨3,7⟩],Dn:=⟨522224⟩}),
 ([7,53,19,46],113,.block 0,{lv:=[],ps:=[],abn:=true,D:=⟨524064⟩}),
 ([7,53,19,46],113,.loop 0,{lv:=[⟨none,8,0⟩],ps:=[(I,0)],D:=⟨524064⟩,rs:=[⟨3,7⟩],Dn:=⟨522016⟩}),
 ([19,46],64,.region 8,{lv:=[⟨none,65,0⟩],ps:=[(.bool,0)],D:=⟨73750947497819242496⟩,rs:=[⟨0,0⟩],Dn:=⟨71733334864757260288⟩}),
 ([19,46],64,.cond 65,{lv:=[⟨some 0,0,0⟩,⟨some 0,0,1⟩,⟨some 0,0,2⟩,⟨some 0,0,3⟩,⟨some 0,0,4⟩],ps:=[((.sl (.sl I)),1000),(I,0),((.sl (.sl I)),1000),((.nsl (.pair I (.pair .bool .unit))),1),(I,0)],D:=⟨302157667927362455470080⟩,wr:=[⟨0,0⟩],rs:=[⟨0,0⟩],Dn:=⟨302083880951067617263616⟩}),
 ([25,46],64,.region 7,{lv:=[⟨none,8,0⟩],ps:=[(.bool,0)],D:=⟨35888059530608896⟩,rs:=[⟨3,7⟩],Dn:=⟨31243722414883072⟩}),
 ([7,53,25,46],113,.inl 0,{lv:=[⟨none,4,0⟩],ps:=[(I,0)],D:=⟨524272⟩,rs:=[⟨3,7⟩],Dn:=⟨522224⟩}),
 ([7,53,25,46],113,.block 0,{lv:=[],ps:=[],abn:=true,D:=⟨524064⟩}),
 ([7,53,25,46],113,.loop 0,{lv:=[⟨none,8,0⟩],ps:=[(I,0)],D:=⟨524064⟩,rs:=[⟨3,7⟩],Dn:=⟨522016⟩}),
 ([25,46],64,.region 8,{lv:=[⟨none,65,0⟩],ps:=[(.bool,0)],D:=⟨73750947497819242496⟩,rs:=[⟨0,0⟩],Dn:=⟨71733334864757260288⟩}),
 ([25,46],64,.cond 65,{lv:=[⟨some 0,0,0⟩,⟨some 0,0,1⟩,⟨some 0,0,2⟩,⟨some 0,0,3⟩,⟨some 0,0,4⟩],ps:=[((.sl (.sl I)),1000),(I,0),((.sl (.sl I)),1000),((.nsl (.pair I (.pair .bool .unit))),1),(I,0)],D:=⟨302157667927362455470080⟩,wr:=[⟨0,0⟩],rs:=[⟨0,0⟩],Dn:=⟨302083880951067617263616⟩})] [([7,46],64,68),([19,46],64,68),([25,46],64,68)] (qvY [qO n])
theorem qh6(n:Nat)(x:denL ((qO (n+1)).bs.map (·.1)))(y:denL ((qO (n+1)).ps.map (·.1))):qCP Try.prog Hn.hints (qh2 n) (qdA [qal,qas,qw]) 40 64 (ofL (qO (n+1)).bs x) (ofL (qO (n+1)).ps y) (qO (n+1)).bs=(qO (n+1)).F x y:=by kernel_rfl
theorem qdj:∀n,qjb Try.prog Hn.hints Lb (qO n)
 |0=>⟨rfl,λx y z h=>by cases (show none=some z from h)⟩
 |n+1=>qsQ (qq qeb (qq qeN (qq qbO qP))) qDe 40 _ _ _ _ (qh6 n) (qqj (by simp only [qk,List.mem_nil_iff,or_false];rintro e rfl;exact qdj n)) rfl
theorem qib:qjb Try.prog Hn.hints Lb qd9:=qdj 12
def qcQ(a0:(List (Int×Bool×Unit))):Option ((List Int)×(List Bool)×Unit) :=
 (qaD (λ(s3:(Int×(List Int)×(List Bool))) =>
   bif decide (s3.1<(a0.length:Int))then
    (idx a0 s3.1).bind λx4 =>
    (app s3.2.1 ([x4.1])).bind λx5 =>
    (app s3.2.2 ([x4.2.1])).bind λx6 =>
    some (.inl (w64 (s3.1+1),x5,x6))
   else
    some (.inr (s3.2.1,s3.2.2))) (0,[],[])).bind λ(p7:((List Int)×(List Bool))) =>
 some (p7.1,p7.2,())
def qaP:Entry:=⟨65,[.ty (.sl (.pair I (.pair .bool .unit)))],[((.pair (.sl I) (.pair (.sl .bool) .unit)),0)],λx=>qcQ x⟩
def qjC:TH:=qeI [([],65,.block 0,{lv:=[⟨some 0,3,0⟩,⟨some 0,3,1⟩],ps:=[((.sl I),1),((.sl .bool),1)],D:=⟨134217504⟩,wr:=[⟨0,3⟩,⟨0,5⟩]}),
 ([],65,.loop 0,{lv:=[⟨none,8,0⟩,⟨some 0,3,0⟩,⟨some 0,3,1⟩],ps:=[(I,0),((.sl I),1),((.sl .bool),1)],D:=⟨134217504⟩,wr:=[⟨0,3⟩,⟨0,5⟩],rs:=[⟨0,3⟩,⟨0,5⟩],Dn:=⟨82554624⟩})] []
theorem qjH(x:denP qaP.ps):fnT Try.prog Hn.hints qjC (qdA []) 40 65 (qaE qaP.ps x) qaP.rs=qaP.F x:=by kernel_rfl
theorem qjR:qG Try.prog Hn.hints Lb qaP:=qA qP hJ 40 _ _ _ _ qjH
def qbv(a0:((List (List Int))×Int×Unit))(a1:(List (List Int))):Option (((List Int)×(List Bool)×Unit)×Int×Int) :=
 (qb0 a0 a1).bind λx1 =>
 bif !(decide (x1.2=0))then
  some (([],[],()),0,x1.2)
 else
  (qe3 (x1.1.1,x1.1.2.1,x1.1.2.2.1,[],0) [] (0:Int)).bind λx2 =>
  bif List.isEmpty x2.2.2.2.1 then
   some (([],[],()),0,12)
  else
   (nel x2.2.2.2.1).bind λx3 =>
   (qcQ x3).bind λx4 =>
   some (x4,x2.2.2.2.2,0)
def qap:Entry:=⟨10,[.ty (.pair (.sl (.sl I)) (.pair I .unit)),.ty (.sl (.sl I))],[((.pair (.sl I) (.pair (.sl .bool) .unit)),2000),(I,0),(I,0)],λx=>qbv x.1 x.2⟩
def qgQ:TH:=qxB [] [] (qvY [qd9])
theorem qgS(x:denP qap.ps):fnT Try.prog Hn.hints qgQ (qdA [qaP,qax]) 40 10 (qaE qap.ps x) qap.rs=qap.F x:=by kernel_rfl
theorem qgU:qG Try.prog Hn.hints Lb qap:=qA (qq qjR (qq qfh qP)) qDe 40 _ _ _ _ qgS (qqj (by simp only [qk,List.mem_nil_iff,or_false];rintro e rfl;exact qib))
def qaN(a0:((List Int)×(List Bool)×Unit)):Option ((List Int)×(List Bool)×Unit) :=
 (qbG a0.1).bind λx1 =>
 (app [] a0.2.1).bind λx2 =>
 some (x1,x2,())
def qaf:Entry:=⟨13,[.ty (.pair (.sl I) (.pair (.sl .bool) .unit))],[((.pair (.sl I) (.pair (.sl .bool) .unit)),1)],λx=>qaN x⟩
def qga:TH:=qeI [] []
theorem qgd(x:denP qaf.ps):fnT Try.prog Hn.hints qga (qdA [qaL]) 40 13 (qaE qaf.ps x) qaf.rs=qaf.F x:=by kernel_rfl
theorem qgr:qG Try.prog Hn.hints Lb qaf:=qA (qq qeK qP) hJ 40 _ _ _ _ qgd
def qbm(a0:(List Int))(a1:Int):Option Int :=
 (qaD (λ(s2:Int) =>
   bif decide (s2<(a0.length:Int))then
    (idx a0 s2).bind λx3 =>
    bif decide (a1=x3)then
     some (.inr (.inr s2))
    else
     some (.inl (w64 (s2+1)))
   else
    some (.inr (.inl ()))) 0).bind (Sum.elim (λ(p4:Unit) =>
 some (-1)) some)
def qah:Entry:=⟨114,[.ty (.sl I),.ty I],[(I,0)],λx=>qbm x.1 x.2⟩
def qgc:TH:=qeI [([],114,.block 0,{lv:=[],ps:=[],abn:=true,D:=⟨524064⟩}),
 ([],114,.loop 0,{lv:=[⟨none,8,0⟩],ps:=[(I,0)],D:=⟨524064⟩})] []
theorem qgf(x:denP qah.ps):fnT Try.prog Hn.hints qgc (qdA []) 40 114 (qaE qah.ps x) qah.rs=qah.F x:=by kernel_rfl
theorem qgt:qG Try.prog Hn.hints Lb qah:=qA qP hJ 40 _ _ _ _ qgf
def qau(a0:(List Int))(a1:Int):Option Bool :=
 (qbm a0 a1).bind λx1 =>
 some (decide (x1>=0))
def q1:Entry:=⟨103,[.ty (.sl I),.ty I],[(.bool,0)],λx=>qau x.1 x.2⟩
def qeX:TH:=qeI [] []
theorem qeZ(x:denP q1.ps):fnT Try.prog Hn.hints qeX (qdA [qah]) 40 103 (qaE q1.ps x) q1.rs=q1.F x:=by kernel_rfl
theorem qe1:qG Try.prog Hn.hints Lb q1:=qA (qq qgt qP) hJ 40 _ _ _ _ qeZ
def qbf(a0:((List Int)×(List Bool)×Unit))(a1:Int):Option ((List (Int×Bool×Unit))×Int) :=
 (bif !(decide ((a0.1.length:Int)=a1))then
   some true
  else
   some (!(decide ((a0.2.1.length:Int)=a1)))).bind λ(p1:Bool) =>
 bif p1 then
  some ([],10)
 else
  ((qaD (λ(s3:(Int×(List (Int×Bool×Unit)))) =>
     bif decide (s3.1<(a0.1.length:Int))then
      (idx a0.1 s3.1).bind λx4 =>
      (idx a0.2.1 s3.1).bind λx5 =>
      (app s3.2 ([(x4,x5,())])).bind λx6 =>
      (bif !(decide (x4=(-1)))then
        (slc a0.1 0 s3.1).bind λx7 =>
        (qau x7 x4).bind λx8 =>
        some x8
       else
        some false).bind λ(p9:Bool) =>
      ((qbV x4 (-1:Int) (w64 (a1-1))).bind λx10 =>
       (qI x10 (6:Int)).bind λx11 =>
       (qI (!p9) (23:Int)).bind λx12 =>
       bif !(decide (x4=(-1)))then
        (qI true (3:Int)).bind λx13 =>
        (qad ([x11,x12,x13])).bind λx14 =>
        some x14
       else
        (idx a0.2.1 s3.1).bind λx15 =>
        (qI (!x15) (3:Int)).bind λx16 =>
        (qad ([x11,x12,x16])).bind λx17 =>
        some x17).bind λ(p18:Int) =>
      bif !(decide (p18=0))then
       some (.inr (.inr (s3.1,p18,x6)))
      else
       some (.inl (w64 (s3.1+1),x6))
     else
      some (.inr (.inl s3.2))) (0,[])).bind (Sum.elim (λ(p19:(List (Int×Bool×Unit))) =>
   some (0,0,p19)) some)).bind λ(p20:(Int×Int×(List (Int×Bool×Unit)))) =>
  some (p20.2.2,p20.2.1)
def qaR:Entry:=⟨66,[.ty (.pair (.sl I) (.pair (.sl .bool) .unit)),.ty I],[((.sl (.pair I (.pair .bool .unit))),1),(I,0)],λx=>qbf x.1 x.2⟩
def qjF:TH:=qeI [([],66,.region 1,{lv:=[⟨none,20,0⟩],ps:=[(.bool,0)],D:=⟨2096640⟩,rs:=[⟨0,2⟩],Dn:=⟨2063360⟩}),
 ([25],71,.inl 0,{lv:=[⟨none,4,0⟩,⟨none,5,0⟩,⟨some 0,6,0⟩],ps:=[(I,0),(I,0),((.sl (.pair I (.pair .bool .unit))),1)],D:=⟨33554416⟩,wr:=[⟨0,6⟩],rs:=[⟨0,2⟩,⟨0,3⟩,⟨0,6⟩],Dn:=⟨33488880⟩}),
 ([25],71,.block 0,{lv:=[⟨some 0,6,0⟩],ps:=[((.sl (.pair I (.pair .bool .unit))),1)],abn:=true,D:=⟨33552832⟩,wr:=[⟨0,6⟩]}),
 ([25],71,.loop 0,{lv:=[⟨none,11,0⟩,⟨some 0,6,0⟩],ps:=[(I,0),((.sl (.pair I (.pair .bool .unit))),1)],D:=⟨33552832⟩,wr:=[⟨0,6⟩],rs:=[⟨0,2⟩,⟨0,3⟩,⟨0,6⟩],Dn:=⟨33487296⟩}),
 ([19,25],102,.region 2,{lv:=[⟨none,8,0⟩],ps:=[(.bool,0)],D:=⟨536346880⟩,rs:=[⟨0,2⟩],Dn:=⟨532152576⟩}),
 ([19,25],102,.region 3,{lv:=[⟨none,7,0⟩],ps:=[(I,0)],D:=⟨1125899369971840⟩,rs:=[⟨0,2⟩],Dn:=⟨1124799858344064⟩})] []
theorem qjK(x:denP qaR.ps):fnT Try.prog Hn.hints qjF (qdA [qav,q9,qaM,q1]) 40 66 (qaE qaR.ps x) qaR.rs=qaR.F x:=by kernel_rfl
theorem qjT:qG Try.prog Hn.hints Lb qaR:=qA (qq qcF (qq qbz (qq qeO (qq qe1 qP)))) hJ 40 _ _ _ _ qjK
def qaX(a0:((List (List Int))×Int×Unit))(a1:(List (List Int)))(a2:((List Int)×(List Bool)×Unit)):Option (Int×Int) :=
 (qb0 a0 a1).bind λx1 =>
 bif !(decide (x1.2=0))then
  some (0,x1.2)
 else
  (qbf a2 (a1.length:Int)).bind λx2 =>
  bif !(decide (x2.2=0))then
   some (0,x2.2)
  else
   (qaD (λ(s4:(Int×Int)) =>
     bif decide (s4.2<(x2.1.length:Int))then
      (idx x2.1 s4.2).bind λx5 =>
      (qX x1.1 s4.2 x5).bind λx6 =>
      bif !x6 then
       some (.inr (.inr (0,19)))
      else
       (qL x5 s4.2).bind λx7 =>
       some (.inl (w64 (s4.1+x7),w64 (s4.2+1)))
     else
      some (.inr (.inl s4.1))) (0,0)).bind (Sum.elim (λ(p8:Int) =>
   some (p8,0)) some)
def q4:Entry:=⟨12,[.ty (.pair (.sl (.sl I)) (.pair I .unit)),.ty (.sl (.sl I)),.ty (.pair (.sl I) (.pair (.sl .bool) .unit))],[(I,0),(I,0)],λx=>qaX x.1 x.2.1 x.2.2⟩
def qfr:TH:=qeI [([],12,.block 0,{lv:=[⟨none,11,0⟩],ps:=[(I,0)],abn:=true,D:=⟨2251765453962240⟩,wr:=[⟨0,13⟩]}),
 ([],12,.loop 0,{lv:=[⟨none,11,0⟩,⟨none,35,0⟩],ps:=[(I,0),(I,0)],D:=⟨2251765453962240⟩,wr:=[⟨0,13⟩],rs:=[⟨0,13⟩],Dn:=⟨2251765453954048⟩})] []
theorem qfs(x:denP q4.ps):fnT Try.prog Hn.hints qfr (qdA [qax,qal,qaR,qas]) 40 12 (qaE q4.ps x) q4.rs=q4.F x:=by kernel_rfl
theorem qfu:qG Try.prog Hn.hints Lb q4:=qA (qq qfh (qq qeb (qq qjT (qq qeN qP)))) hJ 40 _ _ _ _ qfs
def qjf(a0:(List Int))(a1:(List Int)):Option Bool :=
 bif !(decide ((a0.length:Int)=(a1.length:Int)))then
  some false
 else
  (qaD (λ(s2:Int) =>
    bif decide (s2<(a0.length:Int))then
     (idx a0 s2).bind λx3 =>
     (idx a1 s2).bind λx4 =>
     bif !(decide (x3=x4))then
      some (.inr (.inr false))
     else
      some (.inl (w64 (s2+1)))
    else
     some (.inr (.inl ()))) 0).bind (Sum.elim (λ(p5:Unit) =>
  some true) some)
def qdo:Entry:=⟨45,[.ty (.sl I),.ty (.sl I)],[(.bool,0)],λx=>qjf x.1 x.2⟩
def qsU:TH:=qeI [([],45,.block 0,{lv:=[],ps:=[],abn:=true,D:=⟨67106848⟩}),
 ([],45,.loop 0,{lv:=[⟨none,5,0⟩],ps:=[(I,0)],D:=⟨67106848⟩})] []
theorem qsX(x:denP qdo.ps):fnT Try.prog Hn.hints qsU (qdA []) 40 45 (qaE qdo.ps x) qdo.rs=qdo.F x:=by kernel_rfl
theorem qs7:qG Try.prog Hn.hints Lb qdo:=qA qP hJ 40 _ _ _ _ qsX
def qab(a0:((List Int)×(List Bool)×Unit))(a1:((List Int)×(List Bool)×Unit)):Option Bool :=
 ((qjf a0.1 a1.1).bind λx1 =>
  bif !x1 then
   some true
  else
   some (!(decide ((a0.2.1.length:Int)=(a1.2.1.length:Int))))).bind λ(p2:Bool) =>
 bif p2 then
  some false
 else
  (qaD (λ(s4:Int) =>
    bif decide (s4<(a0.2.1.length:Int))then
     (idx a0.2.1 s4).bind λx5 =>
     (idx a1.2.1 s4).bind λx6 =>
     bif !(x5==x6)then
      some (.inr (.inr false))
     else
      some (.inl (w64 (s4+1)))
    else
     some (.inr (.inl ()))) 0).bind (Sum.elim (λ(p7:Unit) =>
  some true) some)
def qag:Entry:=⟨16,[.ty (.pair (.sl I) (.pair (.sl .bool) .unit)),.ty (.pair (.sl I) (.pair (.sl .bool) .unit))],[(.bool,0)],λx=>qab x.1 x.2⟩
def qgb:TH:=qeI [([],16,.region 1,{lv:=[⟨none,20,0⟩],ps:=[(.bool,0)],D:=⟨2097088⟩,rs:=[⟨0,2⟩,⟨0,3⟩],Dn:=⟨2023040⟩}),
 ([],16,.block 0,{lv:=[],ps:=[],abn:=true,D:=⟨549753716768⟩,rs:=[⟨0,2⟩],Dn:=⟨549749522464⟩}),
 ([],16,.loop 0,{lv:=[⟨none,5,0⟩],ps:=[(I,0)],D:=⟨549753716768⟩,rs:=[⟨0,2⟩,⟨0,3⟩],Dn:=⟨540891152416⟩})] []
theorem qge(x:denP qag.ps):fnT Try.prog Hn.hints qgb (qdA [qdo]) 40 16 (qaE qag.ps x) qag.rs=qag.F x:=by kernel_rfl
theorem qgs:qG Try.prog Hn.hints Lb qag:=qA (qq qs7 qP) hJ 40 _ _ _ _ qge
def qhy(a0:(List Int))(a1:Int):Option Bool :=
 (qaD (λ(s2:Int) =>
   bif decide (s2<(a0.length:Int))then
    (idx a0 s2).bind λx3 =>
    bif decide (x3=a1)then
     some (.inr (.inr true))
    else
     some (.inl (w64 (s2+1)))
   else
    some (.inr (.inl ()))) 0).bind (Sum.elim (λ(p4:Unit) =>
 some false) some)
def qep:Entry:=⟨44,[.ty (.sl I),.ty I],[(.bool,0)],λx=>qhy x.1 x.2⟩
def qvl:TH:=qeI [([],44,.block 0,{lv:=[],ps:=[],abn:=true,D:=⟨262112⟩}),
 ([],44,.loop 0,{lv:=[⟨none,5,0⟩],ps:=[(I,0)],D:=⟨262112⟩})] []
theorem qvn(x:denP qep.ps):fnT Try.prog Hn.hints qvl (qdA []) 40 44 (qaE qep.ps x) qep.rs=qep.F x:=by kernel_rfl
theorem qvv:qG Try.prog Hn.hints Lb qep:=qA qP hJ 40 _ _ _ _ qvn
def qjV(a0:Int):Option (List ((List Int)×(List Bool)×Unit)) :=
 (qaD (λ(s2:((List ((List Int)×(List Bool)×Unit))×Int)) =>
   bif decide (s2.2<a0)then
    (qaD (λ(s4:((List ((List Int)×(List Bool)×Unit))×Int)) =>
      bif decide (s4.2<(s2.1.length:Int))then
       (qaD (λ(s6:((List ((List Int)×(List Bool)×Unit))×Int)) =>
         bif decide (s6.2<w64 (2*a0))then
          (idx s2.1 s4.2).bind λx7 =>
          (qbG x7.1).bind λx8 =>
          (app x8 ([(-1)])).bind λx9 =>
          (idx s2.1 s4.2).bind λx10 =>
          (app [] x10.2.1).bind λx11 =>
          (app x11 ([false])).bind λx12 =>
          (bif decide (s6.2>=0)then
            (idx x9 s2.2).bind λx13 =>
            (idx x9 s2.2).bind λx14 =>
            let l15:(List Int):=List.set x9 s2.2.toNat (w64 (s6.2.tdiv 2))
            (idx x12 s2.2).bind λx16 =>
            (idx x12 s2.2).bind λx17 =>
            let l18:(List Bool):=List.set x12 s2.2.toNat (decide (s6.2.tmod 2=1))
            some (l15,l18)
           else
            some (x9,x12)).bind λ(p19:((List Int)×(List Bool))) =>
          (bif decide (s6.2<0)then
            some true
           else
            (idx s2.1 s4.2).bind λx20 =>
            (qhy x20.1 (w64 (s6.2.tdiv 2))).bind λx21 =>
            some (!x21)).bind λ(p22:Bool) =>
          (bif p22 then
            (app s6.1 ([(p19.1,p19.2,())])).bind λx23 =>
            some x23
           else
            some s6.1).bind λ(p24:(List ((List Int)×(List Bool)×Unit))) =>
          some (.inl (p24,w64 (s6.2+1)))
         else
          some (.inr s6.1)) (s4.1,(-1))).bind λ(p25:(List ((List Int)×(List Bool)×Unit))) =>
       some (.inl (p25,w64 (s4.2+1)))
      else
       some (.inr s4.1)) ([],0)).bind λ(p26:(List ((List Int)×(List Bool)×Unit))) =>
    some (.inl (p26,w64 (s2.2+1)))
   else
    some (.inr s2.1)) ([([],[],())],0)).bind λ(p27:(List ((List Int)×(List Bool)×Unit))) =>
 some p27
def qdq:Entry:=⟨42,[.ty I],[((.sl (.pair (.sl I) (.pair (.sl .bool) .unit))),2)],λx=>qjV x⟩
def qsW:TH:=qeI [([],42,.block 0,{lv:=[⟨none,3,0⟩],ps:=[((.sl (.pair (.sl I) (.pair (.sl .bool) .unit))),2)],D:=⟨604462909807314587352568⟩,wr:=[⟨0,8⟩]}),
 ([],42,.loop 0,{lv:=[⟨none,3,0⟩,⟨none,4,0⟩],ps:=[((.sl (.pair (.sl I) (.pair (.sl .bool) .unit))),2),(I,0)],D:=⟨604462909807314587352568⟩,wr:=[⟨0,8⟩]}),
 ([],42,.block 2,{lv:=[⟨none,5,0⟩],ps:=[((.sl (.pair (.sl I) (.pair (.sl .bool) .unit))),2)],D:=⟨302231454903657293611488⟩,wr:=[⟨0,8⟩]}),
 ([],42,.loop 2,{lv:=[⟨none,5,0⟩,⟨none,6,0⟩],ps:=[((.sl (.pair (.sl I) (.pair (.sl .bool) .unit))),2),(I,0)],D:=⟨302231454903657293611488⟩,wr:=[⟨0,8⟩]}),
 ([],42,.block 4,{lv:=[⟨none,5,0⟩],ps:=[((.sl (.pair (.sl I) (.pair (.sl .bool) .unit))),2)],D:=⟨302231454903657289613728⟩,wr:=[⟨0,8⟩]}),
 ([],42,.loop 4,{lv:=[⟨none,5,0⟩,⟨none,7,0⟩],ps:=[((.sl (.pair (.sl I) (.pair (.sl .bool) .unit))),2),(I,0)],D:=⟨302231454903657289613728⟩,wr:=[⟨0,8⟩],rs:=[⟨0,8⟩],Dn:=⟨302231452370382499217568⟩}),
 ([],42,.cond 47,{lv:=[⟨some 0,8,0⟩,⟨some 0,8,1⟩],ps:=[((.sl I),1),((.sl .bool),1)],D:=⟨2305631627297947648⟩,wr:=[⟨0,8⟩],rs:=[⟨0,8⟩],Dn:=⟨2303098352507551744⟩}),
 ([],42,.region 15,{lv:=[⟨none,73,0⟩],ps:=[(.bool,0)],D:=⟨18887160088469367160832⟩}),
 ([],42,.cond 73,{lv:=[⟨none,5,0⟩],ps:=[((.sl (.pair (.sl I) (.pair (.sl .bool) .unit))),2)],D:=⟨283341988972178712821792⟩,wr:=[⟨0,8⟩]})] []
theorem qsZ(x:denP qdq.ps):fnT Try.prog Hn.hints qsW (qdA [qaL,qep]) 40 42 (qaE qdq.ps x) qdq.rs=qdq.F x:=by kernel_rfl
theorem qs9:qG Try.prog Hn.hints Lb qdq:=qA (qq qeK (qq qvv qP)) hJ 40 _ _ _ _ qsZ
def qjg(a0:Int):Option Int :=
 some (max a0 (w64 (0-a0)))
def qdp:Entry:=⟨70,[.ty I],[(I,0)],λx=>qjg x⟩
def qsV:TH:=qeI [] []
theorem qsY(x:denP qdp.ps):fnT Try.prog Hn.hints qsV (qdA []) 40 70 (qaE qdp.ps x) qdp.rs=qdp.F x:=by kernel_rfl
theorem qs8:qG Try.prog Hn.hints Lb qdp:=qA qP hJ 40 _ _ _ _ qsY
def qcV(a0:((List (List Int))×Int×Unit))(a1:(List (List Int)))(a2:((List Int)×(List Bool)×Unit)):Option Bool :=
 (qaD (λ(s2:Int) =>
   bif decide (s2<(a1.length:Int))then
    (qaD (λ(s4:Int) =>
      (idx a1 s2).bind λx5 =>
      bif decide (s4<(x5.length:Int))then
       (idx a2.1 s2).bind λx6 =>
       (bif decide (x6>=0)then
         (idx a2.1 s2).bind λx7 =>
         (idx a0.1 x7).bind λx8 =>
         (idx x8 s4).bind λx9 =>
         some x9
        else
         some 0).bind λ(p10:Int) =>
       (idx a2.2.1 s2).bind λx11 =>
       (bif x11 then
         some (w64 (0-p10))
        else
         some p10).bind λ(p12:Int) =>
       (idx a1 s2).bind λx13 =>
       (idx x13 s4).bind λx14 =>
       (qjg (w64 (x14-p12))).bind λx15 =>
       bif decide (x15 > a0.2.1)then
        some (.inr (.inr (.inr (.inr false))))
       else
        some (.inl (w64 (s4+1)))
      else
       some (.inr (.inl ()))) 0).bind (Sum.elim (λ(p16:Unit) =>
    some (.inl (w64 (s2+1)))) some)
   else
    some (.inr (.inl ()))) 0).bind (Sum.elim (λ(p17:Unit) =>
 some true) some)
def qbJ:Entry:=⟨20,[.ty (.pair (.sl (.sl I)) (.pair I .unit)),.ty (.sl (.sl I)),.ty (.pair (.sl I) (.pair (.sl .bool) .unit))],[(.bool,0)],λx=>qcV x.1 x.2.1 x.2.2⟩
def qpH:TH:=qeI [([],20,.block 0,{lv:=[],ps:=[],abn:=true,D:=⟨9223372036854775680⟩}),
 ([],20,.loop 0,{lv:=[⟨none,7,0⟩],ps:=[(I,0)],D:=⟨9223372036854775680⟩}),
 ([],20,.block 2,{lv:=[],ps:=[],abn:=true,D:=⟨9223372036854711040⟩}),
 ([],20,.loop 2,{lv:=[⟨none,8,0⟩],ps:=[(I,0)],D:=⟨9223372036854711040⟩,rs:=[⟨0,3⟩,⟨0,5⟩],Dn:=⟨8070441725383869184⟩}),
 ([],20,.cond 30,{lv:=[⟨none,9,0⟩],ps:=[(I,0)],D:=⟨8793945539072⟩,rs:=[⟨0,3⟩,⟨0,5⟩],Dn:=⟨8783208120832⟩}),
 ([],20,.cond 47,{lv:=[⟨none,9,0⟩],ps:=[(I,0)],D:=⟨844424930132480⟩})] []
theorem qpJ(x:denP qbJ.ps):fnT Try.prog Hn.hints qpH (qdA [qdp]) 40 20 (qaE qbJ.ps x) qbJ.rs=qbJ.F x:=by kernel_rfl
theorem qjQ:qG Try.prog Hn.hints Lb qbJ:=qA (qq qs8 qP) hJ 40 _ _ _ _ qpJ
def qbe(a0:((List Int)×(List Bool)×Unit)):Option Int :=
 (qaD (λ(s2:(Int×Int)) =>
   bif decide (s2.2<(a0.1.length:Int))then
    ((idx a0.1 s2.2).bind λx3 =>
     bif decide (x3=(-1))then
      some (w64 (s2.1+1))
     else
      (idx a0.2.1 s2.2).bind λx4 =>
      (bif x4 then
        some (w64 (s2.1+1))
       else
        some s2.1).bind λ(p5:Int) =>
      (idx a0.1 s2.2).bind λx6 =>
      (bif !(decide (x6=s2.2))then
        some (w64 (p5+1))
       else
        some p5).bind λ(p7:Int) =>
      some p7).bind λ(p8:Int) =>
    some (.inl (p8,w64 (s2.2+1)))
   else
    some (.inr s2.1)) (0,0)).bind λ(p9:Int) =>
 some p9
def qcd:Entry:=⟨18,[.ty (.pair (.sl I) (.pair (.sl .bool) .unit))],[(I,0)],λx=>qbe x⟩
def qrl:TH:=qeI [([],18,.block 0,{lv:=[⟨none,3,0⟩],ps:=[(I,0)],D:=⟨68719476728⟩,rs:=[⟨0,1⟩],Dn:=⟨68719476664⟩}),
 ([],18,.loop 0,{lv:=[⟨none,3,0⟩,⟨none,4,0⟩],ps:=[(I,0),(I,0)],D:=⟨68719476728⟩,rs:=[⟨0,1⟩],Dn:=⟨68584206264⟩}),
 ([],18,.block 1,{lv:=[⟨none,3,0⟩],ps:=[(I,0)],D:=⟨68719472648⟩,rs:=[⟨0,1⟩],Dn:=⟨68584202248⟩}),
 ([],18,.cond 24,{lv:=[⟨none,3,0⟩],ps:=[(I,0)],D:=⟨100663304⟩}),
 ([],18,.cond 33,{lv:=[⟨none,3,0⟩],ps:=[(I,0)],D:=⟨51539607560⟩})] []
theorem qrm(x:denP qcd.ps):fnT Try.prog Hn.hints qrl (qdA []) 40 18 (qaE qcd.ps x) qcd.rs=qcd.F x:=by kernel_rfl
theorem qlf:qG Try.prog Hn.hints Lb qcd:=qA qP hJ 40 _ _ _ _ qrm
def qct(a0:((List (List Int))×Int×Unit))(a1:(List (List Int))):Option (((List Int)×(List Bool)×Unit)×Bool) :=
 (qjV (a1.length:Int)).bind λx1 =>
 (qaD (λ(s3:(Bool×Int×(List Int)×(List Bool))) =>
   bif decide (s3.2.1<(x1.length:Int))then
    (bif !s3.1 then
      (idx x1 s3.2.1).bind λx4 =>
      (qcV a0 a1 x4).bind λx5 =>
      some x5
     else
      (idx x1 s3.2.1).bind λx6 =>
      (qbe x6).bind λx7 =>
      (qbe (s3.2.2.1,s3.2.2.2,())).bind λx8 =>
      bif decide (x7<x8)then
       (idx x1 s3.2.1).bind λx9 =>
       (qcV a0 a1 x9).bind λx10 =>
       some x10
      else
       some false).bind λ(p11:Bool) =>
    (bif p11 then
      (idx x1 s3.2.1).bind λx12 =>
      some (true,x12.1,x12.2.1)
     else
      some (s3.1,s3.2.2.1,s3.2.2.2)).bind λ(p13:(Bool×(List Int)×(List Bool))) =>
    some (.inl (p13.1,w64 (s3.2.1+1),p13.2.1,p13.2.2))
   else
    some (.inr (s3.1,s3.2.2.1,s3.2.2.2))) (false,0,[],[])).bind λ(p14:(Bool×(List Int)×(List Bool))) =>
 some ((p14.2.1,p14.2.2,()),p14.1)
def qaF:Entry:=⟨17,[.ty (.pair (.sl (.sl I)) (.pair I .unit)),.ty (.sl (.sl I))],[((.pair (.sl I) (.pair (.sl .bool) .unit)),0),(.bool,0)],λx=>qct x.1 x.2⟩
def qiA:TH:=qeI [([],17,.block 0,{lv:=[⟨none,8,0⟩,⟨some 0,7,0⟩,⟨some 0,7,1⟩],ps:=[(.bool,0),((.sl I),2000),((.sl .bool),2000)],D:=⟨17592186036992⟩,wr:=[⟨0,7⟩]}),
 ([],17,.loop 0,{lv:=[⟨none,8,0⟩,⟨none,9,0⟩,⟨some 0,7,0⟩,⟨some 0,7,1⟩],ps:=[(.bool,0),(I,0),((.sl I),2000),((.sl .bool),2000)],D:=⟨17592186036992⟩,wr:=[⟨0,7⟩]}),
 ([],17,.region 7,{lv:=[⟨none,39,0⟩],ps:=[(.bool,0)],D:=⟨1099511103488⟩}),
 ([],17,.cond 39,{lv:=[⟨none,8,0⟩,⟨some 0,7,0⟩,⟨some 0,7,1⟩],ps:=[(.bool,0),((.sl I),2000),((.sl .bool),2000)],D:=⟨16492674416896⟩,wr:=[⟨0,7⟩]})] []
theorem qiF(x:denP qaF.ps):fnT Try.prog Hn.hints qiA (qdA [qdq,qcd,qbJ]) 40 17 (qaE qaF.ps x) qaF.rs=qaF.F x:=by kernel_rfl
theorem qiM:qG Try.prog Hn.hints Lb qaF:=qA (qq qs9 (qq qlf (qq qjQ qP))) hJ 40 _ _ _ _ qiF
def qam(a0:((List Int)×(List Bool)×Unit))(a1:Int):Option Int :=
 (bif !(decide ((a0.1.length:Int)=a1))then
   some true
  else
   some (!(decide ((a0.2.1.length:Int)=a1)))).bind λ(p1:Bool) =>
 bif p1 then
  some 10
 else
  (qaD (λ(s3:Int) =>
    bif decide (s3<a1)then
     (idx a0.1 s3).bind λx4 =>
     (qdm x4 (-1:Int) (w64 (a1-1))).bind λx5 =>
     bif !x5 then
      some (.inr (.inr 6))
     else
      (qaD (λ(s7:Int) =>
        bif decide (s7<s3)then
         ((idx a0.1 s3).bind λx8 =>
          bif !(decide (x8=(-1)))then
           (idx a0.1 s7).bind λx9 =>
           (idx a0.1 s3).bind λx10 =>
           some (decide (x9=x10))
          else
           some false).bind λ(p11:Bool) =>
         bif p11 then
          some (.inr (.inr (.inr (.inr 23))))
         else
          some (.inl (w64 (s7+1)))
        else
         some (.inr (.inl ()))) 0).bind (Sum.elim (λ(p12:Unit) =>
      ((idx a0.1 s3).bind λx13 =>
       bif decide (x13=(-1))then
        (idx a0.2.1 s3).bind λx14 =>
        some x14
       else
        some false).bind λ(p15:Bool) =>
      bif p15 then
       some (.inr (.inr 3))
      else
       some (.inl (w64 (s3+1)))) some)
    else
     some (.inr (.inl ()))) 0).bind (Sum.elim (λ(p16:Unit) =>
  some 0) some)
def qao:Entry:=⟨19,[.ty (.pair (.sl I) (.pair (.sl .bool) .unit)),.ty I],[(I,0)],λx=>qam x.1 x.2⟩
def qgP:TH:=qeI [([],19,.region 1,{lv:=[⟨none,18,0⟩],ps:=[(.bool,0)],D:=⟨524160⟩,rs:=[⟨0,2⟩],Dn:=⟨515840⟩}),
 ([],19,.block 0,{lv:=[],ps:=[],abn:=true,D:=⟨1180591620717410779232⟩}),
 ([],19,.loop 0,{lv:=[⟨none,5,0⟩],ps:=[(I,0)],D:=⟨1180591620717410779232⟩,rs:=[⟨0,2⟩],Dn:=⟨1162000761455608594528⟩}),
 ([],19,.block 2,{lv:=[],ps:=[],abn:=true,D:=⟨144115179485921344⟩}),
 ([],19,.loop 2,{lv:=[⟨none,6,0⟩],ps:=[(I,0)],D:=⟨144115179485921344⟩,rs:=[⟨0,2⟩],Dn:=⟨142953820329082944⟩}),
 ([],19,.region 11,{lv:=[⟨none,56,0⟩],ps:=[(.bool,0)],D:=⟨144114913197948928⟩,rs:=[⟨0,2⟩],Dn:=⟨142953554041110528⟩}),
 ([],19,.region 13,{lv:=[⟨none,69,0⟩],ps:=[(.bool,0)],D:=⟨1180447505529335447552⟩,rs:=[⟨0,2⟩],Dn:=⟨1161856646267550040064⟩})] []
theorem qgR(x:denP qao.ps):fnT Try.prog Hn.hints qgP (qdA [qbj]) 40 19 (qaE qao.ps x) qao.rs=qao.F x:=by kernel_rfl
theorem qgT:qG Try.prog Hn.hints Lb qao:=qA (qq qgq qP) hJ 40 _ _ _ _ qgR
def qbx(a0:((List (List Int))×Int×Unit))(a1:(List (List Int)))(a2:((List Int)×(List Bool)×Unit)):Option Bool :=
 (qiK).bind λx1 =>
 bif !x1 then
  some false
 else
  ((qfd a0 a1).bind λx2 =>
   bif !x2 then
    some true
   else
    bif decide ((a2.1.length:Int) > 6)then
     some true
    else
     some (decide ((a2.2.1.length:Int) > 6))).bind λ(p3:Bool) =>
  bif p3 then
   some true
  else
   (qbA a0).bind λx4 =>
   (qbB x4).bind λx5 =>
   (qbA a0).bind λx6 =>
   (qb2 a1).bind λx7 =>
   (qbv x6 x7).bind λx8 =>
   (qbA a0).bind λx9 =>
   (qb2 a1).bind λx10 =>
   (qaN a2).bind λx11 =>
   (qaX x9 x10 x11).bind λx12 =>
   (qbZ a0).bind λx13 =>
   (bif !(decide (x5.2=x13.2))then
     some true
    else
     some (!(decide (x5.1=x13.1)))).bind λ(p14:Bool) =>
   bif p14 then
    some false
   else
    (bif decide (x13.2=0)then
      (qa2 a0 a1).bind λx15 =>
      some x15
     else
      some x13.2).bind λ(p16:Int) =>
    bif !(decide (p16=0))then
     (bif decide (x8.2.2=p16)then
       bif decide (x12.2=p16)then
        bif decide (x8.2.1=0)then
         bif decide (x12.1=0)then
          (qab x8.1 ([],[],())).bind λx17 =>
          some x17
         else
          some false
        else
         some false
       else
        some false
      else
       some false).bind λ(p18:Bool) =>
     some p18
    else
     (qct a0 a1).bind λx19 =>
     (bif !x19.2 then
       bif !(decide (x8.2.2=12))then
        some true
       else
        bif !(decide (x8.2.1=0))then
         some true
        else
         (qab x8.1 ([],[],())).bind λx20 =>
         bif !x20 then
          some true
         else
          bif x19.2 then
           bif !(decide (x8.2.2=0))then
            some true
           else
            (qbe x19.1).bind λx21 =>
            bif !(decide (x8.2.1=x21))then
             some true
            else
             (qab x8.1 x19.1).bind λx22 =>
             some (!x22)
          else
           some false
      else
       bif x19.2 then
        bif !(decide (x8.2.2=0))then
         some true
        else
         (qbe x19.1).bind λx23 =>
         bif !(decide (x8.2.1=x23))then
          some true
         else
          (qab x8.1 x19.1).bind λx24 =>
          some (!x24)
       else
        some false).bind λ(p25:Bool) =>
     bif p25 then
      some false
     else
      (qam a2 (a1.length:Int)).bind λx26 =>
      (bif decide (x26=0)then
        (qcV a0 a1 a2).bind λx27 =>
        some (!x27)
       else
        some false).bind λ(p28:Bool) =>
      (bif p28 then
        some 19
       else
        some x26).bind λ(p29:Int) =>
      bif !(decide (p29=0))then
       (bif decide (x12.2=p29)then
         some (decide (x12.1=0))
        else
         some false).bind λ(p30:Bool) =>
       some p30
      else
       (bif decide (x12.2=0)then
         (qbe a2).bind λx31 =>
         some (decide (x12.1=x31))
        else
         some false).bind λ(p32:Bool) =>
       some p32
def qQ:Entry:=⟨3,[.ty (.pair (.sl (.sl I)) (.pair I .unit)),.ty (.sl (.sl I)),.ty (.pair (.sl I) (.pair (.sl .bool) .unit))],[(.bool,0)],λx=>qbx x.1 x.2.1 x.2.2⟩
def qeW:TH:=qeI [([],3,.region 3,{lv:=[⟨none,35,0⟩],ps:=[(.bool,0)],D:=⟨68718428160⟩,rs:=[⟨0,5⟩],Dn:=⟨66537390080⟩}),
 ([],3,.region 9,{lv:=[⟨none,73,0⟩],ps:=[(.bool,0)],D:=⟨18815678955183742648320⟩}),
 ([],3,.cond 75,{lv:=[⟨none,15,0⟩],ps:=[(I,0)],D:=⟨528905046081400263966720⟩}),
 ([],3,.region 14,{lv:=[⟨none,6,0⟩],ps:=[(.bool,0)],D:=⟨5070599983061278376728463409216⟩}),
 ([],3,.region 16,{lv:=[⟨none,142,0⟩],ps:=[(.bool,0)],D:=⟨11150372598940793017109432409541024732413952⟩}),
 ([],3,.region 19,{lv:=[⟨none,155,0⟩],ps:=[(.bool,0)],D:=⟨91165446371593187402598016298586501836447940608⟩}),
 ([],3,.cond 155,{lv:=[⟨none,15,0⟩],ps:=[(I,0)],D:=⟨32768⟩}),
 ([],3,.region 22,{lv:=[⟨none,6,0⟩],ps:=[(.bool,0)],D:=⟨46402676985256167652966993438741985874075858239552⟩}),
 ([],3,.region 23,{lv:=[⟨none,6,0⟩],ps:=[(.bool,0)],D:=⟨11925853360620167812542068234964869440392409550684224⟩})] []
theorem qeY(x:denP qQ.ps):fnT Try.prog Hn.hints qeW (qdA [qaT,qc5,qb3,qaw,qaf,qaZ,qcd,qaF,qao,qbJ,qaq,qag,q4,qar,qap]) 40 3 (qaE qQ.ps x) qQ.rs=qQ.F x:=by kernel_rfl
theorem qe0:qG Try.prog Hn.hints Lb qQ:=qA (qq qgJ (qq qpT (qq qn4 (qq qfg (qq qgr (qq qkF (qq qlf (qq qiM (qq qgT (qq qjQ (qq qeL (qq qgs (qq qfu (qq qeM (qq qgU qP))))))))))))))) hJ 40 _ _ _ _ qeY
end
end
end Go.Proofs.Ytofjnhppalciiaa
end
section
namespace Go.Tx
open Go
section
theorem qhw{n:Int}(h1 : -9223372036854775808<=n)(h2:n<=9223372036854775807):IntKind.wrap .i64 n=n:=by
 rw [IntKind.wrap_i64];omega
theorem qw6{α:Type}(l:List α)(i:Nat):idx l (i:Int)=l[i]?:=by simp [idx]
theorem qzc{α:Type}(l:List α):idx l 0=l[0]?:=by simp [idx]
theorem qcC{α:Type}{l:List α}{i:Nat}{a:α}(h:l[i]?=some a):idx l (i:Int)=some a:=by simp [idx,h]
theorem qAo{α:Type}{l l2:List α}(h:l.length+l2.length<=4294967296):app l l2=some (l++l2):=by simp [app,h]
section
variable {σ ρ:Type} {f:σ->Option (σ ⊕ ρ)}
theorem qkE:∀{n m:Nat} {s:σ} {r:ρ},qia f n s=some r->n<=m->qia f m s=some r
 |0,m,s,r,h,_=>by simp [qia]at h
 |n+1,0,s,r,h,hm=>by omega
 |n+1,m+1,s,r,h,hm=>by
  simp only [qia]at h ⊢;cases hf:f s with
  |none=>rw [hf]at h;cases h
  |some x =>
   rw [hf]at h;cases x with
   |inl s'=>exact qkE h (by omega)
   |inr r'=>exact h
theorem qpQ{n:Nat}{s:σ}{r:ρ}(h:qia f n s=some r):qaD f s=some r:=by
 have hex:∃n r,qia f n s=some r:=⟨n,r,h⟩
 cases hl:qaD f s with
 |none=>exfalso;unfold qaD at hl;rw [dif_pos hex]at hl;cases hl
 |some r' =>
  obtain ⟨m,hm⟩:=qhK hl;have h1:=qkE h (Nat.le_max_left n m);have h2:=qkE hm (Nat.le_max_right n m);rw [<- h1,<- h2]
theorem qrs{s s':σ}(h:f s=some (.inl s')):qaD f s=qaD f s':=by
 cases hl:qaD f s' with
 |some r =>
  obtain ⟨n,hn⟩:=qhK hl;exact qpQ (n:=n+1) (by simp [qia,h,hn])
 |none =>
  cases hl2:qaD f s with
  |none=>rfl
  |some r =>
   obtain ⟨n,hn⟩:=qhK hl2;cases n with
   |zero=>simp [qia]at hn
   |succ n =>
    simp only [qia,h]at hn;rw [qpQ hn]at hl;cases hl
theorem qjN{s:σ}{r:ρ}(h:f s=some (.inr r)):qaD f s=some r:=qpQ (n:=1) (by simp [qia,h])
theorem qzk(n:Nat)(I:Nat->σ->Prop)(Q:ρ->Prop)
  (hs:∀i s,i<=n->I i s->(∃s',f s=some (.inl s')/\i<n/\I (i+1) s')\/(∃r,f s=some (.inr r)/\Q r)) {s:σ} (h0:I 0 s):∃r,qaD f s=some r/\Q r:=by
 have h:∀k i s,n-i=k->i<=n->I i s->∃r,qaD f s=some r/\Q r:=by
  intro k;induction k with
  |zero =>
   intro i s hk hi hI;rcases hs i s hi hI with ⟨s',_,h,_⟩|⟨r,h,hq⟩
   ·omega
   ·exact ⟨r,qjN h,hq⟩
  |succ k ih =>
   intro i s hk hi hI;rcases hs i s hi hI with ⟨s',h,hlt,hI'⟩|⟨r,h,hq⟩
   ·obtain ⟨r,hr,hq⟩:=ih (i+1) s' (by omega) (by omega) hI';exact ⟨r,by rw [qrs h,hr],hq⟩
   ·exact ⟨r,qjN h,hq⟩
 exact h n 0 s (by omega) (by omega) h0
end
def qbs{α ρ:Type}(g:Nat->α->Option ρ):Nat->List α->Option ρ
 |_,[]=>none
 |k,a::l=>match g k a with
  |some r=>some r
  |none=>qbs g (k+1) l
theorem qf8{α ρ:Type}(g:α->Option ρ):∀(l:List α) (k:Nat),qbs (λ_ a=>g a) k l=l.findSome? g
 |[],k=>rfl
 |a::l,k=>by simp only [qbs,List.findSome?_cons];cases g a<;>simp [qf8 g l]
def qgW{ρ:Type}:Option ρ->Unit⊕ρ
 |some r=>.inr r
 |none=>.inl ()
def stp{ρ:Type}(i:Nat):Option ρ->Int⊕(Unit⊕ρ)
 |some r=>.inr (.inr r)
 |none=>.inl ((i:Int)+1)
theorem qdT{α ρ:Type}(l:List α){f:Int->Option (Int⊕(Unit⊕ρ))}(g:Nat->α->Option ρ)
  (h:∀(i:Nat) (a:α),l[i]?=some a->f i=some (stp i (g i a)))
  (he:f l.length=some (.inr (.inl ()))):qaD f 0=some (qgW (qbs g 0 l)):=by
 have key:∀(l2 l1:List α),l1++l2=l->qaD f (l1.length:Nat)=some (qgW (qbs g l1.length l2)):=by
  intro l2;induction l2 with
  |nil =>
   intro l1 e;have:l1=l:=by simpa using e
   subst this;rw [qjN he];rfl
  |cons a l2 ih =>
   intro l1 e;have hi:l[l1.length]?=some a:=by rw [<- e];simp
   have hf:=h _ _ hi;simp only [qbs];cases hg:g l1.length a with
   |some r=>rw [hg]at hf;rw [qjN hf];rfl
   |none =>
    rw [hg]at hf;rw [qrs hf];have:=ih (l1++[a]) (by simp [e]);simpa using this
 simpa using key l [] rfl
end
section
def Ok{α:Type}(o:Option α)(Q:α->Prop):Prop:=∃a,o=some a/\Q a
section
variable {α β σ ρ τ:Type}
theorem qbP{a:α}{Q:α->Prop}:Ok (some a) Q↔Q a:=⟨λ⟨_,h,hq⟩=>by cases h;exact hq,λh=>⟨a,rfl,h⟩⟩
theorem ok_none{Q:α->Prop}:Ok (none:Option α) Q↔False:=⟨λ⟨_,h,_⟩=>(by cases h),λh=>h.elim⟩
theorem ok_eq{o:Option α}{a:α}:Ok o (λr=>r=a)↔o=some a:=⟨λ⟨_,h,hq⟩=>by rw [h,hq],λh=>⟨a,h,rfl⟩⟩
theorem Ok.eq{o:Option α}{a:α}(h:Ok o (λr=>r=a)):o=some a:=ok_eq.1 h
theorem Ok.mono{o:Option α}{P Q:α->Prop}(h:Ok o P)(hq:∀a,P a->Q a):Ok o Q:=by obtain ⟨a,h1,h2⟩:=h;exact ⟨a,h1,hq a h2⟩
theorem Ok.bind{o:Option α}{k:α->Option β}{P:α->Prop}{Q:β->Prop}(h:Ok o P)(hk:∀a,P a->Ok (k a) Q):Ok (o.bind k) Q:=by
 obtain ⟨a,h1,h2⟩:=h;rw [h1];exact hk a h2
theorem qiO{o:Option α}{k:α->Option β}{Q:β->Prop}:Ok (o.bind k) Q↔Ok o λa=>Ok (k a) Q:=by
 cases o with
 |none=>simp [ok_none]
 |some a=>simp [qbP]
theorem qCh{c:Bool}{a b:Option α}{Q:α->Prop}:Ok (bif c then a else b) Q↔(c=true->Ok a Q)/\(c=false->Ok b Q):=by cases c<;>simp
theorem qc3{c:Prop}[Decidable c]{a b:α}:(bif decide c then a else b)=if c then a else b:=by by_cases h:c<;>simp [h]
theorem qef{c:Prop}[Decidable c]{a b:α}:(bif !(decide c)then a else b)=if c then b else a:=by by_cases h:c<;>simp [h]
theorem qos{l:List α}{n:Int}(d:α)(h0:0<=n)(h1:n<l.length):idx l n=some (l.getD n.toNat d):=by
 unfold idx;rw [if_pos h0];have:n.toNat<l.length:=by omega
 simp [this]
theorem qg8{l:List Int}{n:Int}(h0:0<=n)(h1:n<l.length):idx l n=some (l.getD n.toNat 0):=qos 0 h0 h1
theorem qsP{l:List (List α)}{n:Int}(h0:0<=n)(h1:n<l.length):idx l n=some (l.getD n.toNat []):=qos [] h0 h1
theorem qg1{l:List α}{a:α}(h:l.length<=4294967295):app l [a]=some (l++[a]):=qAo (by simp;omega)
theorem qpi{l2:List α}(h:l2.length<=4294967296):app [] l2=some l2:=by rw [qAo (by simpa using h)];rfl
theorem qAG{l:List α}{a b:Int}(h:0<=a/\a<=b/\b<=l.length):slc l a b=some ((l.take b.toNat).drop a.toNat):=by unfold slc;rw [if_pos h]
def Rnd(o:Option (σ⊕ρ))(I:σ->Prop)(Q:ρ->Prop):Prop:=Ok o λx=>match x with
 |.inl s=>I s
 |.inr r=>Q r
theorem qa9{s:σ}{I:σ->Prop}{Q:ρ->Prop}:Rnd (some (.inl s)) I Q↔I s:=qbP
theorem qbp{r:ρ}{I:σ->Prop}{Q:ρ->Prop}:Rnd (some (.inr r):Option (σ⊕ρ)) I Q↔Q r:=qbP
theorem qdc{c:Bool}{a b:Option (σ⊕ρ)}{I:σ->Prop}{Q:ρ->Prop}:Rnd (bif c then a else b) I Q↔(c=true->Rnd a I Q)/\(c=false->Rnd b I Q):=qCh
theorem qc8{f:σ->Option (σ⊕ρ)}(n:Nat)(I:Nat->σ->Prop)(Q:ρ->Prop){s:σ}(h0:I 0 s)
  (hs:∀i s,i<=n->I i s->Rnd (f s) (λs'=>i<n/\I (i+1) s') Q):Ok (qaD f s) Q:=by
 obtain ⟨r,h1,h2⟩:=qzk n I Q (λi s hi hI=>by
  obtain ⟨x,hx,h⟩:=hs i s hi hI;cases x with
  |inl s'=>exact .inl ⟨s',hx,h⟩
  |inr r=>exact .inr ⟨r,hx,h⟩) h0
 exact ⟨r,h1,h2⟩
theorem qmZ{o:Option (α⊕β)}{k:α->Option β}{Q:β->Prop}:Ok (o.bind (Sum.elim k some)) Q↔Ok o λx=>match x with
  |.inl a=>Ok (k a) Q
  |.inr b=>Q b:=by
 rw [qiO];cases o with
 |none=>simp [ok_none]
 |some x=>cases x<;>simp [qbP]
end
theorem qzM{α σ ρ:Type}{o:Option (α⊕(σ⊕ρ))}{k:α->Option (σ⊕ρ)}{I:σ->Prop}{Q:ρ->Prop}:Rnd (o.bind (Sum.elim k some)) I Q↔Ok o λx=>match x with
  |.inl a=>Rnd (k a) I Q
  |.inr b=>match b with
   |.inl s=>I s
   |.inr r=>Q r:=by
 cases o with
 |none=>simp [Rnd,ok_none]
 |some x=>cases x with
  |inl a=>simp only [qa,Sum.elim_inl,qbP]
  |inr b=>simp only [qa,Sum.elim_inr,qbP];unfold Rnd;rw [qbP]
theorem qbK{α:Type}{l:List α}{i:Nat}{a d:α}(h:l[i]?=some a):l.getD i d=a:=by simp [h]
theorem qsb{α:Type}{l:List α}{i:Nat}(d:α)(h:i<l.length):l.take (i+1)=l.take i++[l.getD i d]:=by
 rw [List.take_add_one];simp [h]
end
section
section
variable {α β ρ τ:Type}
theorem qfE{l:List α}{i:Nat}{a:α}(h:l[i]?=some a):i<l.length:=(qm.1 h).1
theorem qhF(l:List α)(K:Int->Option (Int⊕(Unit⊕ρ)))(g:Nat->α->Option ρ)(h:∀(i:Nat) (a:α),l[i]?=some a->K i=some (stp i (g i a))) :
  qaD (λs=>bif decide (s<(l.length:Int))then K s else some (.inr (.inl ()))) 0=some (qgW (qbs g 0 l)):=by
 refine qdT l g (λi a hi=>?_) ?_
 ·have:=qfE hi;have e:decide ((i:Int)<(l.length:Int))=true:=by simp<;>omega
  simp only [e,cond_true];exact h i a hi
 ·simp
theorem qfB{o:Option ρ}{k:Unit->Option ρ}:(some (qgW o)).bind (Sum.elim k some)=(match o with
  |some r=>some r
  |none=>k ()):=by cases o<;>rfl
theorem qdr{g:Nat->α->Option ρ}:∀{l:List α} {k:Nat},qbs g k l=none↔∀i a,l[i]?=some a->g (k+i) a=none
 |[],k=>by simp [qbs]
 |a::l,k=>by
  simp only [qbs];cases hg:g k a with
  |some r =>
   simp only [reduceCtorEq,false_iff];intro h;have:=h 0 a rfl;simp [hg]at this
  |none =>
   simp only
   rw [qdr (l:=l) (k:=k+1)];constructor
   ·intro h i b hb;cases i with
    |zero=>simp at hb;subst hb;simpa using hg
    |succ i=>have:=h i b (by simpa using hb);rw [<- this];congr 1;omega
   ·intro h i b hb;have:=h (i+1) b (by simpa using hb);rw [<- this];congr 1;omega
theorem qeq{g:Nat->α->Option ρ}{r:ρ}:∀{l:List α} {k:Nat},qbs g k l=some r->∃i a,l[i]?=some a/\g (k+i) a=some r/\∀j b,j<i->l[j]?=some b->g (k+j) b=none
 |[],k,h=>by simp [qbs]at h
 |a::l,k,h=>by
  simp only [qbs]at h;cases hg:g k a with
  |some r' =>
   rw [hg]at h;simp only [qb]at h;subst h;exact ⟨0,a,rfl,by simpa using hg,λj b hj=>by omega⟩
  |none =>
   rw [hg]at h;obtain ⟨i,b,h1,h2,h3⟩:=qeq (l:=l) (k:=k+1) h;refine ⟨i+1,b,by simpa using h1,by rw [<- h2];congr 1;omega,λj c hj hc=>?_⟩;cases j with
   |zero=>simp at hc;subst hc;simpa using hg
   |succ j=>have:=h3 j c (by omega) (by simpa using hc);rw [<- this];congr 1;omega
theorem qA5(l:List α)(p:α->Bool)(hl:l.length<=1000000000) :
  Ok ((qaD (λ(s2:Int) =>
   bif decide (s2<(l.length:Int))then
    (idx l s2).bind λx3 =>
    bif p x3 then
     some (.inr (.inr s2))
    else
     some (.inl (IntKind.wrap .i64 (s2+1)))
   else
    some (.inr (.inl ()))) 0).bind (Sum.elim (λ(p5:Unit) =>
  some (-1)) some)) λr=>decide (r>=0)=l.any p:=by
 rw [qhF l _ (λi a=>if p a then some (i:Int)else none) (λi a hi=>by
  have:=qfE hi;rw [qcC hi];simp only [qa];cases hp:p a
  ·simp only [cond_false,qf,if_false,stp];rw [qhw (by omega) (by omega)]
  ·simp [stp]),qfB]
 cases hf:qbs (λi a=>if p a then some (i:Int)else none) 0 l with
 |none =>
  rw [qdr]at hf;have:l.any p=false:=by
   rw [List.any_eq_false];intro x hx;obtain ⟨i,hi⟩:=List.mem_iff_getElem?.1 hx;have:=hf i x hi;simpa using this
  exact ⟨_,rfl,by rw [this];rfl⟩
 |some r =>
  obtain ⟨i,a,h1,h2,_⟩:=qeq hf;have hp:p a=true:=by
   cases hp:p a
   ·simp [hp]at h2
   ·rfl
  have:l.any p=true:=List.any_eq_true.2 ⟨a,List.mem_of_getElem? h1,hp⟩;simp only [hp,if_true,qb]at h2;exact ⟨_,rfl,by rw [this];simp;omega⟩
end
end

section
section
variable {α:Type}
end
end
section
section
variable {α β:Type}
def mkL(n:Nat)(f:Nat->α):List α:=(List.range n).map f
theorem qs4(n:Nat)(f:Nat->α):(mkL n f).length=n:=by simp [mkL]
theorem qxA{n:Nat}(f:Nat->α){k:Nat}(h:k<n):(mkL n f)[k]?=some (f k):=by simp [mkL,h]
theorem qzq{n:Nat}(f:Nat->α){k:Nat}(d:α)(h:k<n):(mkL n f).getD k d=f k:=qbK (qxA f h)
theorem qzr(n:Nat)(f:Nat->α):mkL (n+1) f=mkL n f++[f n]:=by simp [mkL,List.range_succ]
theorem qxz{n:Nat}{f g:Nat->α}(h:∀k,k<n->f k=g k):mkL n f=mkL n g:=List.map_congr_left λk hk=>h k (by simpa using hk)
theorem qBf{n:Nat}{f:Nat->α}{x:α}(h:x∈mkL n f):∃k,k<n/\x=f k:=by
 obtain ⟨k,hk,rfl⟩:=List.mem_map.1 h;exact ⟨k,by simpa using hk,rfl⟩
theorem qlT(l:List α)(d:α):l=mkL l.length λk=>l.getD k d:=by
 apply List.ext_getElem?;intro k;by_cases h:k<l.length
 ·rw [qxA _ h];simp [h]
 ·rw [List.getElem?_eq_none (by omega),List.getElem?_eq_none (by rw [qs4];omega)]
theorem qxq{n:Nat}(f:Nat->α)(g:α->β):(mkL n f).map g=mkL n λk=>g (f k):=by simp [mkL]
theorem qb6{l:List α}{i:Nat}{d:α}(h:i<l.length):l.getD i d∈l:=by
 have:l[i]?=some (l.getD i d):=by simp [h]
 exact List.mem_of_getElem? this
theorem qki{l:List α}{i:Nat}(d:α)(h:i<l.length):l[i]?=some (l.getD i d):=by simp [h]
theorem qA6{K:List β×Int->Option ((List β×Int)⊕List β)}(l:List α)(f:α->β)
  (h:∀(i:Nat) a out,l[i]?=some a->out.length=i->K (out,(i:Int))=some (.inl (out++[f a],(i:Int)+1))) (he:∀out,out.length=l.length->K (out,(l.length:Int))=some (.inr out)):qaD K ([],0)=some (l.map f):=by
 refine Ok.eq (qc8 l.length (λi (s:List β×Int)=>s=((l.take i).map f,(i:Int))) (λr=>r=l.map f) (by simp) ?_);rintro i s hi rfl;by_cases hlt:i<l.length
 ·have ha:l[i]?=some l[i]:=by simp [hlt]
  rw [h i _ _ ha (by simp;omega),qa9];refine ⟨hlt,?_⟩;have e:(l.take (i+1)).map f=(l.take i).map f++[f l[i]]:=by rw [List.take_add_one,ha];simp only [List.map_append,Option.toList_some,qh,List.map_nil]
  rw [e];rfl
 ·have:i=l.length:=by omega
  subst this;rw [he _ (by simp),qbp];simp
theorem qy9{l m:List α}(d:α):(l.length=m.length/\∀i,i<l.length->l.getD i d=m.getD i d)↔l=m:=by
 constructor
 ·rintro ⟨h1,h2⟩;rw [qlT l d,qlT m d,h1];exact qxz λk hk=>h2 k (by omega)
 ·rintro rfl;exact ⟨rfl,λ_ _=>rfl⟩
theorem qre [DecidableEq α]{l m:List α}(d:α)(hl:l.length=m.length)(hb:l.length<=1000000000)(e:α->α->Bool)(he:∀a b,a∈l->b∈m->(e a b=true↔a=b)){K:Int->Option (Int⊕(Unit⊕Bool))}
  (h:∀i,i<l.length->K (i:Int)=some (if e (l.getD i d) (m.getD i d)=true then .inl ((i:Int)+1)else .inr (.inr false))) :
  (qaD (λs=>bif decide (s<(l.length:Int))then K s else some (.inr (.inl ()))) 0).bind (Sum.elim (λ(p5:Unit)=>some true) some)=some (decide (l=m)):=by
 refine Ok.eq (qmZ.2 ?_);refine (qc8 l.length (λi (s:Int)=>s=(i:Int)/\∀j,j<i->l.getD j d=m.getD j d) (λr=>(r=.inl ()/\∀j,j<l.length->l.getD j d=m.getD j d)\/(r=.inr false/\∃j,j<l.length/\l.getD j d≠m.getD j d)) ⟨rfl,by simp⟩ ?_).mono ?_
 ·rintro i s hi ⟨rfl,hI⟩;by_cases hlt:i<l.length
  ·have e0:decide ((i:Int)<(l.length:Int))=true:=by simp<;>omega
   simp only [e0,cond_true];rw [h i hlt];have hm:=he (l.getD i d) (m.getD i d) (qb6 hlt) (qb6 (by omega));by_cases c:e (l.getD i d) (m.getD i d)=true
   ·rw [if_pos c,qa9];refine ⟨hlt,by simp,λj hj=>?_⟩;by_cases hji:j<i
    ·exact hI j hji
    ·have:j=i:=by omega
     subst this;exact hm.1 c
   ·rw [if_neg c,qbp];exact .inr ⟨rfl,i,hlt,λh=>c (hm.2 h)⟩
  ·have:i=l.length:=by omega
   subst this;have e0:decide ((l.length:Int)<(l.length:Int))=false:=by simp
   simp only [e0,cond_false];rw [qbp];exact .inl ⟨rfl,hI⟩
 ·rintro r (⟨rfl,h1⟩|⟨rfl,j,hj,hne⟩)
  ·simp only [qbP];rw [eq_comm,decide_eq_true_iff];exact (qy9 d).1 ⟨hl,h1⟩
  ·simp only;rw [eq_comm,decide_eq_false_iff_not]
   exact λh=>hne (by rw [h])
end
end
end Go.Tx
end
section
namespace Go.Proofs.Ytofjnhppalciiaa
open Go Go.Ab Go.Tx
def big:Nat:=9223372036854775807
theorem qnN(a b c:Int):qbV a b c=some (decide (b<=a/\a<=c)):=by
 unfold qbV;by_cases h:b<=a<;>simp [h]
theorem ql6(a b c:Int):qdm a b c=some (decide (b<=a/\a<=c)):=by
 unfold qdm;by_cases h:b<=a<;>simp [h]
theorem qcL(b:Bool)(v:Int):qI b v=some (if b then 0 else v):=by
 unfold qI;cases b<;>simp
def qbq:List Int->Int
 |[]=>0
 |a::l=>if a=0 then qbq l else a
theorem qy6(l:List Int)(hl:l.length<=big):qad l=some (qbq l):=by
 unfold qad;unfold big at hl;rw [qdT l (λ_ a=>if a=0 then none else some a)]
 ·rw [qf8];simp only [qa];clear hl;induction l with
  |nil=>rfl
  |cons a l ih =>
   simp only [List.findSome?_cons,qbq];by_cases h:a=0
   ·simp only [h,if_true];exact ih
   ·simp [h,qgW]
 ·intro i a hi;have hlt:i<l.length:=(qm.1 hi).1;have h1:(i:Int)<(l.length:Int):=by omega
  simp only [h1,decide_true,cond_true,qcC hi,qa,qhw (n:=(i:Int)+1) (by omega) (by omega)];by_cases h:a=0<;>simp [h,stp]
 ·simp
theorem qfa{l:List Int}(hl:l.length<=100):qad l=some (qbq l):=qy6 l (by unfold big;omega)
theorem quH(a b:Int)(h1:0<=b)(h2:b<=9223372036854775807):qdY a b=some (decide (-b<=a/\a<=b)):=by
 unfold qdY;rw [qnN];simp only [w64,qhw (n:=0-b) (by omega) (by omega),qa];congr 2
 simp
def qtk(l:List Int):Int:=if l.length=0 then 10 else if 60<l.length then 8 else if ∀v∈l,-100000<=v/\v<=100000 then 0 else 2
theorem qpb(i a:Int):qcv i a=some (if -100000<=a/\a<=100000 then 0 else 2):=by
 unfold qcv;rw [quH _ _ (by omega) (by omega)];simp [qcL]
def qy8(i:Nat)(a:Int):Option (Int×Int):=if -100000<=a/\a<=100000 then none else some ((i:Int),2)
theorem qmo:∀(l:List Int) (k:Nat),(qbs qy8 k l=none/\∀v∈l,-100000<=v/\v<=100000)\/(∃r,qbs qy8 k l=some r/\r.2=2/\¬ ∀v∈l,-100000<=v/\v<=100000)
 |[],k=>.inl ⟨rfl,by simp⟩
 |a::l,k=>by
  simp only [qbs,qy8];by_cases h : -100000<=a/\a<=100000
  ·simp only [h,if_true,and_self];rcases qmo l (k+1)with ⟨h1,h2⟩|⟨r,h1,h2,h3⟩
   ·refine .inl ⟨h1,?_⟩;intro v hv;rcases qk.1 hv with rfl|hv
    ·exact h
    ·exact h2 v hv
   ·exact .inr ⟨r,h1,h2,λhh=>h3 λv hv=>hh v (List.mem_cons_of_mem _ hv)⟩
  ·refine .inr ⟨((k:Int),2),by simp [h],rfl,λhh=>h (hh a (List.mem_cons_self))⟩
theorem qA0(l:List Int)(hl:l.length<=big):qZ l=some ((qbs qy8 0 l).getD (0,0)):=by
 unfold qZ;unfold big at hl;rw [qdT l qy8]
 ·simp only [qa];cases qbs qy8 0 l<;>simp [qgW]
 ·intro i a hi;have hlt:i<l.length:=(qm.1 hi).1;have h1:(i:Int)<(l.length:Int):=by omega
  simp only [h1,decide_true,cond_true,qcC hi,qa,qhw (n:=(i:Int)+1) (by omega) (by omega),qpb];by_cases h : -100000<=a/\a<=100000<;>simp [h,stp,qy8]
 ·simp
theorem qrN(l:List Int)(hl:l.length<=big):qbU l=some (qtk l):=by
 unfold qbU qeS;simp only [qcL,qa];rw [qfa (by simp)];simp only [qa,qbq,qA0 l hl];unfold qtk;by_cases h0:l.length=0
 ·simp [h0]
 ·by_cases h1:60<l.length
  ·have a1:(l.length:Int) > 0:=by omega
   have a2:¬ (l.length:Int)<=60:=by omega
   simp [h0,h1,a1,a2]
  ·have a1:(l.length:Int) > 0:=by omega
   have a2:(l.length:Int)<=60:=by omega
   rcases qmo l 0 with ⟨h2,h3⟩|⟨r,h2,h3,h4⟩
   ·simp only [a1,a2,h0,h1,h2,decide_true,if_true,if_false,if_pos h3];simp
   ·simp only [a1,a2,h0,h1,h2,decide_true,if_true,if_false,if_neg h4];simp [h3]
theorem qqC(l:List Int):qdV l=some (qtk l):=by
 unfold qdV qfw qtk;by_cases h0:l.length=0
 ·simp [h0]
 ·by_cases h1:60<l.length
  ·have a1:¬ (l.length:Int)=0:=by omega
   have a2:(l.length:Int) > 60:=by omega
   simp only [a1,a2,h0,h1];simp
  ·have a1:¬ (l.length:Int)=0:=by omega
   have a2:¬ (l.length:Int) > 60:=by omega
   rw [qdT l qy8]
   ·rcases qmo l 0 with ⟨h2,h3⟩|⟨r,h2,h3,h4⟩
    ·simp only [a1,a2,h0,h1,h2,if_pos h3,qgW];simp
    ·simp only [a1,a2,h0,h1,h2,if_neg h4,qgW];simp [h3]
   ·intro i a hi;have hlt:i<l.length:=(qm.1 hi).1;have h1:(i:Int)<(l.length:Int):=by omega
    simp only [h1,decide_true,cond_true,qcC hi,qa,qhw (n:=(i:Int)+1) (by omega) (by omega),ql6];by_cases h : -100000<=a/\a<=100000<;>simp [h,stp,qy8]
   ·simp
theorem qvP(l:List Int):qei l=some (decide (l.length<=62)):=by
 unfold qei;congr 2
 exact propext (by omega)
theorem qmd(l:List (List Int))(hl:l.length<=big):qcD l=some (decide ((∀c∈l,c.length<=62)/\l.length<=9)):=by
 unfold qcD;unfold big at hl;rw [qdT l (λ_ c=>if c.length<=62 then none else some false)]
 ·rw [qf8];have key:l.findSome? (λc=>if c.length<=62 then none else some false)=if ∀c∈l,c.length<=62 then none else some false:=by
   clear hl;induction l with
   |nil=>simp
   |cons a l ih =>
    simp only [List.findSome?_cons];by_cases h:a.length<=62
    ·simp only [h,if_true,ih,qk,forall_eq_or_imp,true_and]
    ·simp [h]
  rw [key];by_cases h:∀c∈l,c.length<=62
  ·rw [if_pos h];simp only [qa,qgW,Sum.elim_inl,qb,decide_eq_decide];constructor
   ·intro h2;exact ⟨h,by omega⟩
   ·intro h2;have:=h2.2;omega
  ·rw [if_neg h];simp only [qa,qgW,Sum.elim_inr,qb];exact (decide_eq_false (λh2=>h h2.1)).symm
 ·intro i a hi;have hlt:i<l.length:=(qm.1 hi).1;have h1:(i:Int)<(l.length:Int):=by omega
  simp only [h1,decide_true,cond_true,qcC hi,qa,qhw (n:=(i:Int)+1) (by omega) (by omega),qvP];by_cases h:a.length<=62<;>simp [h,stp]
 ·simp
def eC(n:Int)(c:List Int):Int:=if qtk c=0 then (if (c.length:Int)=n then 0 else 13)else qtk c
def gC(n:Int)(i:Nat)(c:List Int):Option (Int×Int):=if eC n c=0 then none else some ((i:Int),eC n c)
theorem qt5(n:Int):∀(l:List (List Int)) (k:Nat),((qbs (gC n) k l).getD (0,0)).2=qbq (l.map (eC n))
 |[],k=>rfl
 |c::l,k=>by
  simp only [qbs,gC,qh,qbq];by_cases h:eC n c=0
  ·simp only [h,if_true];exact qt5 n l (k+1)
  ·simp [h]
theorem qnS(a0:List (List Int))(m n:Int)(hl:a0.length<=big)(hc:∀c∈a0,c.length<=big) :
  qb9 a0 m n=some (qbq [if 0<a0.length then 0 else 10,if (a0.length:Int)<=m then 0 else 8,qbq (a0.map (eC n))]):=by
 unfold qb9;rw [qdT a0 (gC n)]
 ·have h1:((Option.some (qgW (qbs (gC n) 0 a0))).bind (Sum.elim (λ(p7:Unit)=>some (0,0)) some))=some ((qbs (gC n) 0 a0).getD (0,0)):=by
   cases qbs (gC n) 0 a0<;>simp [qgW]
  rw [h1];simp only [qa,qcL,qt5];rw [qfa (by simp)];simp
 ·intro i a hi;have hlt:i<a0.length:=(qm.1 hi).1;have h1:(i:Int)<(a0.length:Int):=by omega
  have h2:=hc a (List.mem_of_getElem? hi);unfold big at hl;simp only [h1,decide_true,cond_true,qcC hi,qa,qhw (n:=(i:Int)+1) (by omega) (by omega),qrN a h2,qcL];rw [qfa (by simp)];simp only [qa,qbq,gC,eC];by_cases h3:qtk a=0
  ·by_cases h4:(a.length:Int)=n<;>simp [h3,h4,stp]
  ·simp [h3,stp]
 ·simp
def n0:List (List Int)->Nat
 |[]=>0
 |c::_=>c.length
theorem qrY(a0:List (List Int)):qcR a0=some (n0 a0:Int):=by
 unfold qcR;cases a0 with
 |nil=>simp [n0]
 |cons c l =>
  have:¬ (((c::l).length:Nat):Int)=0:=by simp<;>omega
  simp only [this,decide_false,cond_false,qzc];simp [n0]
theorem qmp:∀{l:List Int},qbq l=0->∀a∈l,a=0
 |[],_,a,h=>by cases h
 |b::l,h,a,ha=>by
  simp only [qbq]at h;split at h
  ·rename_i e;rcases qk.1 ha with rfl|ha
   ·exact e
   ·exact qmp h a ha
  ·rename_i e;exact absurd h e
theorem qni{l:List Int}(h:qtk l=0):0<l.length/\l.length<=60/\∀v∈l,-100000<=v/\v<=100000:=by
 unfold qtk at h;split at h
 ·cases h
 ·split at h
  ·cases h
  ·split at h
   ·rename_i h1 h2 h3;exact ⟨by omega,by omega,h3⟩
   ·cases h
abbrev Xp:=List Int×List Bool×Unit
theorem wid{n:Int}(h1 : -9223372036854775808<=n)(h2:n<=9223372036854775807):w64 n=n:=qhw h1 h2
theorem qiu{l:List Int}(h:l.length<=1000000000):qbG l=some l:=by
 unfold qbG;rw [qpi (by omega)];rfl
theorem qgX{a:List (List Int)}(h:a.length<=1000000000)(hr:∀r∈a,r.length<=1000000000):qb2 a=some a:=by
 unfold qb2;rw [qA6 a (λr=>r) (λi r out hi ho=>?_) (λout ho=>?_)]
 ·simp
 ·have hlt:=(qm.1 hi).1;have e0:decide ((i:Int)<(a.length:Int))=true:=by simp<;>omega
  simp only [e0,cond_true];rw [qcC hi];simp only [qa];rw [qiu (hr r (List.mem_of_getElem? hi))];simp only [qa];rw [qg1 (by omega)];simp only [qa];rw [wid (by omega) (by omega)]
 ·have e0:decide ((a.length:Int)<(a.length:Int))=false:=by simp
  simp only [e0,cond_false]
theorem qi9{x:Xp}(h1:x.1.length<=1000000000)(h2:x.2.1.length<=1000000000):qaN x=some x:=by
 unfold qaN;rw [qiu h1,qpi (by omega)];rfl
theorem qyM{l:List Int}(v:Int)(hl:l.length<=1000000000):∃r,qbm l v=some r/\(r>=0↔v∈l):=by
 unfold qbm;refine Ok.mono (P:=λr=>r>=0↔v∈l) ?_ λ_ h=>h;rw [qmZ];refine (qc8 l.length (λi (s:Int)=>s=(i:Int)/\∀j,j<i->l.getD j 0≠v) (λr=>(r=.inl ()/\∀j,j<l.length->l.getD j 0≠v)\/(∃i:Nat,r=.inr (i:Int)/\v∈l)) ⟨rfl,by simp⟩ ?_).mono ?_
 ·rintro i s hi ⟨rfl,hI⟩;by_cases hlt:i<l.length
  ·have e0:decide ((i:Int)<(l.length:Int))=true:=by simp<;>omega
   simp only [e0,cond_true];rw [qg8 (by omega) (by omega)];simp only [qa,Int.toNat_natCast];by_cases c:v=l.getD i 0
   ·have c':decide (v=l.getD i 0)=true:=by simpa using c
    rw [c',cond_true,qbp];exact .inr ⟨i,rfl,by rw [c];exact qb6 hlt⟩
   ·have c':decide (v=l.getD i 0)=false:=by simpa using c
    rw [c',cond_false,wid (by omega) (by omega),qa9];refine ⟨hlt,by simp,λj hj=>?_⟩;by_cases hji:j<i
    ·exact hI j hji
    ·have:j=i:=by omega
     subst this;exact λe=>c e.symm
  ·have:i=l.length:=by omega
   subst this;have e0:decide ((l.length:Int)<(l.length:Int))=false:=by simp
   simp only [e0,cond_false];rw [qbp];exact .inl ⟨rfl,hI⟩
 ·rintro r (⟨rfl,h⟩|⟨i,rfl,h⟩)
  ·simp only [qbP];constructor
   ·intro h0;omega
   ·intro hv;obtain ⟨j,hj⟩:=List.mem_iff_getElem?.1 hv;exact absurd (Go.Tx.qbK hj) (h j (qm.1 hj).1)
  ·simp only
   exact ⟨λ_=>h,λ_=>by omega⟩
theorem qso{l:List Int}(v:Int)(hl:l.length<=1000000000):qau l v=some (decide (v∈l)):=by
 unfold qau;obtain ⟨r,h1,h2⟩:=qyM v hl;rw [h1];simp only [qa];congr 1
 exact decide_eq_decide.2 h2
def sc(x:Xp)(i:Nat):Int:=x.1.getD i 0
def rv(x:Xp)(i:Nat):Bool:=x.2.1.getD i false
def qcl(x:Xp)(n:Int)(i:Nat):Int :=
 if -1<=sc x i/\sc x i<=n-1 then (if sc x i ≠ -1/\sc x i∈x.1.take i then 23 else if sc x i = -1/\rv x i=true then 3 else 0)else 6
def qk4(E:Nat->Int)(n:Nat)(e:Int):Prop:=(e=0/\∀j,j<n->E j=0)\/(∃i,i<n/\e=E i/\E i≠0/\∀j,j<i->E j=0)
theorem qk4.same{E:Nat->Int}{n:Nat}{e e':Int}(h:qk4 E n e)(h':qk4 E n e'):e=e':=by
 rcases h with ⟨rfl,h1⟩|⟨i,h1,rfl,h2,h3⟩
 ·rcases h' with ⟨rfl,_⟩|⟨j,h4,rfl,h5,_⟩
  ·rfl
  ·exact absurd (h1 j h4) h5
 ·rcases h' with ⟨rfl,h4⟩|⟨j,h4,rfl,h5,h6⟩
  ·exact absurd (h4 i h1) h2
  ·by_cases c:i<j
   ·exact absurd (h6 i c) h2
   ·by_cases c2:j<i
    ·exact absurd (h3 j c2) h5
    ·have:i=j:=by omega
     subst this;rfl
theorem qgm{l:List Int}{i:Nat}{v:Int}(hi:i<=l.length):v∈l.take i↔∃j,j<i/\l.getD j 0=v:=by
 constructor
 ·intro h;obtain ⟨j,hj⟩:=List.mem_iff_getElem?.1 h;rw [List.getElem?_take]at hj;split at hj
  ·rename_i hlt;exact ⟨j,hlt,Go.Tx.qbK hj⟩
  ·cases hj
 ·rintro ⟨j,hj,rfl⟩;refine List.mem_iff_getElem?.2 ⟨j,?_⟩;rw [List.getElem?_take,if_pos hj];exact qki 0 (by omega)
def qn6(x:Xp)(m:Nat):List (Int×Bool×Unit):=mkL m λj=>(sc x j,rv x j,())
theorem qy2{α β:Type}{o:Option (α×β)}{Q:α->β->Prop}(h:Ok o λp=>Q p.1 p.2):∃a b,o=some (a,b)/\Q a b:=by
 obtain ⟨⟨a,b⟩,h1,h2⟩:=h;exact ⟨a,b,h1,h2⟩
theorem qr9{x:Xp}{n:Nat}(h1:x.1.length=n)(h2:x.2.1.length=n)(hn:n<=1000000) :
  ∃o e,qbf x (n:Int)=some (o,e)/\qk4 (qcl x n) n e/\(e=0->o=qn6 x n):=by
 unfold qbf;have c1:decide ((x.1.length:Int)=(n:Int))=true:=by simp [h1]
 have c2:decide ((x.2.1.length:Int)=(n:Int))=true:=by simp [h2]
 simp only [c1,c2,Bool.not_true,cond_false,qa];refine qy2 (Q:=λo e=>qk4 (qcl x n) n e/\(e=0->o=qn6 x n)) ?_
 ·rw [qiO,qmZ];refine (qc8 n (λi (s:Int×List (Int×Bool×Unit))=>s=((i:Int),qn6 x i)/\∀j,j<i->qcl x n j=0)
   (λr=>(r=.inl (qn6 x n)/\∀j,j<n->qcl x n j=0)\/(∃i o,i<n/\qcl x n i≠0/\(∀j,j<i->qcl x n j=0)/\r=.inr ((i:Int),qcl x n i,o))) ⟨rfl,by simp⟩ ?_).mono ?_
  ·rintro i s hi ⟨rfl,hI⟩;by_cases hlt:i<n
   ·have e0:decide ((i:Int)<(x.1.length:Int))=true:=by simp<;>omega
    have hlen:(qn6 x i).length=i:=qs4 _ _;simp only [e0,cond_true];rw [qg8 (by omega) (by omega),qos false (by omega) (by omega)];simp only [qa,Int.toNat_natCast];show Rnd ((app (qn6 x i) [(sc x i,rv x i,())]).bind _) _ _;rw [qg1 (by omega)];simp only [qa];have hd:∀b:Bool,(bif b then (slc x.1 0 (i:Int)).bind λx7=>(qau x7 (sc x i)).bind λx8=>some x8 else some false:Option Bool)=some (b&&decide (sc x i∈x.1.take i)):=λb=>by
     cases b with
     |false=>rfl
     |true =>
      simp only [cond_true];rw [qAG (by omega)];simp only [qa,Int.toNat_natCast,Int.toNat_zero,List.drop_zero];rw [qso _ (by simp;omega)];simp
    have hd':=hd (!(decide (sc x i = -1)));unfold sc at hd';rw [hd'];simp only [qa,qnN,qcL];rw [wid (n:=(n:Int)-1) (by omega) (by omega)];have hlast:(bif !(decide (x.1.getD i 0=(-1)))then
        (qad ([if decide (-1<=x.1.getD i 0/\x.1.getD i 0<=(n:Int)-1)=true then 0 else 6,if (!(!(decide (x.1.getD i 0 = -1))&&decide (x.1.getD i 0∈x.1.take i)))=true then 0 else 23,if True then (0:Int)else 3])).bind λx14 =>
        some x14
       else
        (qad ([if decide (-1<=x.1.getD i 0/\x.1.getD i 0<=(n:Int)-1)=true then 0 else 6,if (!(!(decide (x.1.getD i 0 = -1))&&decide (x.1.getD i 0∈x.1.take i)))=true then 0 else 23,if (!(x.2.1.getD i false))=true then (0:Int)else 3])).bind λx17 =>
        some x17:Option Int)=some (qcl x n i):=by
     rw [qfa (by simp),qfa (by simp)];unfold qcl sc rv qbq qbq qbq qbq;generalize x.1.getD i 0=v;generalize x.2.1.getD i false=b;generalize hm:decide (v∈x.1.take i)=m;have hm':(v∈x.1.take i)↔m=true:=by rw [<- hm];simp
     simp only [hm'];by_cases a1 : -1<=v/\v<=(n:Int)-1
     ·by_cases a2:v = -1
      ·subst a2;cases b<;>simp [a1]
      ·cases m<;>simp [a1,a2]
     ·by_cases a2:v = -1
      ·exact absurd ⟨by omega,by omega⟩ a1
      ·cases m<;>simp [a1,a2]
    rw [hlast];simp only [qa];by_cases c:qcl x n i=0
    ·have c':decide (qcl x n i=0)=true:=by simp [c]
     simp only [c',Bool.not_true,cond_false];rw [wid (by omega) (by omega),qa9];refine ⟨hlt,?_,λj hj=>?_⟩
     ·unfold qn6;rw [qzr];rfl
     ·by_cases hji:j<i
      ·exact hI j hji
      ·have:j=i:=by omega
       subst this;exact c
    ·have c':decide (qcl x n i=0)=false:=by simp [c]
     simp only [c',Bool.not_false,cond_true];rw [qbp];exact .inr ⟨i,_,hlt,c,hI,rfl⟩
   ·have:i=n:=by omega
    subst this;have e0:decide ((i:Int)<(x.1.length:Int))=false:=by simp<;>omega
    simp only [e0,cond_false];rw [qbp];exact .inl ⟨rfl,hI⟩
  ·rintro r (⟨rfl,h⟩|⟨i,o,hi,hne,h,rfl⟩)
   ·show Ok (some _) _;rw [qbP,qbP];exact ⟨.inl ⟨rfl,h⟩,λ_=>rfl⟩
   ·show Ok (some _) _;rw [qbP];exact ⟨.inr ⟨i,hi,rfl,hne,h⟩,λe=>absurd e hne⟩
theorem qr8{x:Xp}{n:Nat}(h:¬ (x.1.length=n/\x.2.1.length=n)):qbf x (n:Int)=some ([],10):=by
 unfold qbf;by_cases c1:x.1.length=n
 ·have c2:¬ x.2.1.length=n:=λe=>h ⟨c1,e⟩;have d1:decide ((x.1.length:Int)=(n:Int))=true:=by simp [c1]
  have d2:decide ((x.2.1.length:Int)=(n:Int))=false:=by simp<;>omega
  simp only [d1,d2,Bool.not_true,Bool.not_false,cond_false,cond_true,qa]
 ·have d1:decide ((x.1.length:Int)=(n:Int))=false:=by simp<;>omega
  simp only [d1,Bool.not_false,cond_true,qa]
theorem qke{x:Xp}{n:Nat}(h:¬ (x.1.length=n/\x.2.1.length=n)):qam x (n:Int)=some 10:=by
 unfold qam;by_cases c1:x.1.length=n
 ·have c2:¬ x.2.1.length=n:=λe=>h ⟨c1,e⟩;have d1:decide ((x.1.length:Int)=(n:Int))=true:=by simp [c1]
  have d2:decide ((x.2.1.length:Int)=(n:Int))=false:=by simp<;>omega
  simp only [d1,d2,Bool.not_true,Bool.not_false,cond_false,cond_true,qa]
 ·have d1:decide ((x.1.length:Int)=(n:Int))=false:=by simp<;>omega
  simp only [d1,Bool.not_false,cond_true,qa]
theorem qkf{x:Xp}{n:Nat}(h1:x.1.length=n)(h2:x.2.1.length=n)(hn:n<=1000000) :
  ∃e,qam x (n:Int)=some e/\qk4 (qcl x n) n e:=by
 unfold qam;have c1:decide ((x.1.length:Int)=(n:Int))=true:=by simp [h1]
 have c2:decide ((x.2.1.length:Int)=(n:Int))=true:=by simp [h2]
 simp only [c1,c2,Bool.not_true,cond_false,qa];refine Ok.mono (P:=λe=>qk4 (qcl x n) n e) ?_ λ_ h=>h;rw [qmZ];refine (qc8 n (λi (s:Int)=>s=(i:Int)/\∀j,j<i->qcl x n j=0)
  (λr=>(r=.inl ()/\∀j,j<n->qcl x n j=0)\/(∃i,i<n/\qcl x n i≠0/\(∀j,j<i->qcl x n j=0)/\r=.inr (qcl x n i))) ⟨rfl,by simp⟩ ?_).mono ?_
 ·rintro i s hi ⟨rfl,hI⟩;by_cases hlt:i<n
  ·have e0:decide ((i:Int)<(n:Int))=true:=by simp<;>omega
   simp only [e0,cond_true];rw [qg8 (by omega) (by omega),qos false (by omega) (by omega),wid (n:=(n:Int)-1) (by omega) (by omega)];simp only [qa,Int.toNat_natCast,ql6];by_cases a1 : -1<=sc x i/\sc x i<=(n:Int)-1
   case neg =>
    have d1:decide (-1<=x.1.getD i 0/\x.1.getD i 0<=(n:Int)-1)=false:=by simpa [sc]using a1
    have hE:qcl x n i=6:=by unfold qcl;rw [if_neg a1]
    simp only [d1,Bool.not_false,cond_true];rw [qbp];exact .inr ⟨i,hlt,by omega,hI,by rw [hE]⟩
   have d1:decide (-1<=x.1.getD i 0/\x.1.getD i 0<=(n:Int)-1)=true:=by simpa [sc]using a1
   simp only [d1,Bool.not_true,cond_false];rw [qzM];refine (qc8 i (λk (s:Int)=>s=(k:Int)/\∀j,j<k->¬ (sc x i ≠ -1/\sc x j=sc x i)) (λr=>(r=.inl ()/\¬ (sc x i ≠ -1/\sc x i∈x.1.take i))\/(r=.inr (.inr (.inr 23))/\(sc x i ≠ -1/\sc x i∈x.1.take i))) ⟨rfl,by simp⟩ ?_).mono ?_
   ·rintro k s hk ⟨rfl,hK⟩;by_cases hlt2:k<i
    ·have e1:decide ((k:Int)<(i:Int))=true:=by simp<;>omega
     simp only [e1,cond_true];rw [qg8 (n:=(k:Int)) (by omega) (by omega)];simp only [qa,Int.toNat_natCast];by_cases a2:sc x i = -1
     ·have d2:decide (x.1.getD i 0 = -1)=true:=by simpa [sc]using a2
      simp only [d2,Bool.not_true,cond_false,qa];rw [wid (by omega) (by omega),qa9];exact ⟨hlt2,by simp,λj hj h=>h.1 a2⟩
     ·have d2:decide (x.1.getD i 0 = -1)=false:=by simpa [sc]using a2
      simp only [d2,Bool.not_false,cond_true,qa];by_cases a3:sc x k=sc x i
      ·have d3:decide (x.1.getD k 0=x.1.getD i 0)=true:=by simpa [sc]using a3
       simp only [d3,cond_true];rw [qbp];exact .inr ⟨rfl,a2,(qgm (by omega)).2 ⟨k,hlt2,a3⟩⟩
      ·have d3:decide (x.1.getD k 0=x.1.getD i 0)=false:=by simpa [sc]using a3
       simp only [d3,cond_false];rw [wid (by omega) (by omega),qa9];refine ⟨hlt2,by simp,λj hj h=>?_⟩;by_cases hjk:j<k
       ·exact hK j hjk h
       ·have:j=k:=by omega
        subst this;exact a3 h.2
    ·have:k=i:=by omega
     subst this;have e1:decide ((k:Int)<(k:Int))=false:=by simp
     simp only [e1,cond_false];rw [qbp];refine .inl ⟨rfl,λ⟨h3,h4⟩=>?_⟩;obtain ⟨j,hj,hjv⟩:=(qgm (by omega)).1 h4;exact hK j hj ⟨h3,hjv⟩
   ·rintro r (⟨rfl,h3⟩|⟨rfl,h3⟩)
    ·simp only
     by_cases a2:sc x i = -1
     ·have d2:decide (x.1.getD i 0 = -1)=true:=by simpa [sc]using a2
      simp only [d2,cond_true,qa];cases a4:rv x i with
      |true =>
       have d4:x.2.1.getD i false=true:=a4;have hE:qcl x n i=3:=by unfold qcl;rw [if_pos a1,if_neg h3,if_pos ⟨a2,a4⟩]
       simp only [d4,cond_true];rw [qbp];exact .inr ⟨i,hlt,by omega,hI,by rw [hE]⟩
      |false =>
       have d4:x.2.1.getD i false=false:=a4;have hE:qcl x n i=0:=by unfold qcl;rw [if_pos a1,if_neg h3,if_neg (by simp [a4])]
       simp only [d4,cond_false];rw [wid (by omega) (by omega),qa9];refine ⟨hlt,by simp,λj hj=>?_⟩;by_cases hji:j<i
       ·exact hI j hji
       ·have:j=i:=by omega
        subst this;exact hE
     ·have d2:decide (x.1.getD i 0 = -1)=false:=by simpa [sc]using a2
      have hE:qcl x n i=0:=by unfold qcl;rw [if_pos a1,if_neg h3,if_neg (λh=>a2 h.1)]
      simp only [d2,cond_false,qa];rw [wid (by omega) (by omega),qa9];refine ⟨hlt,by simp,λj hj=>?_⟩;by_cases hji:j<i
      ·exact hI j hji
      ·have:j=i:=by omega
       subst this;exact hE
    ·have hE:qcl x n i=23:=by unfold qcl;rw [if_pos a1,if_pos h3]
     simp only
     exact .inr ⟨i,hlt,by omega,hI,by rw [hE]⟩
  ·have:i=n:=by omega
   subst this;have e0:decide ((i:Int)<(i:Int))=false:=by simp
   simp only [e0,cond_false];rw [qbp];exact .inl ⟨rfl,hI⟩
 ·rintro r (⟨rfl,h⟩|⟨i,hi,hne,h,rfl⟩)
  ·simp only [qbP];exact .inl ⟨rfl,h⟩
  ·simp only
   exact .inr ⟨i,hi,rfl,hne,h⟩
abbrev Src:=Int×Bool×Unit
structure Vld (sig:List (List Int)) (off:Int) (meas:List (List Int)):Prop where
 n1:1<=sig.length
 n4:sig.length<=4
 len:meas.length=sig.length
 off0:0<=off
 off1:off<=100000
 w:n0 sig<=60
 ls:∀c,c<sig.length->(sig.getD c []).length=n0 sig
 lm:∀c,c<sig.length->(meas.getD c []).length=n0 sig
 vs:∀c,c<sig.length->∀k,k<n0 sig -> -100000<=(sig.getD c []).getD k 0/\(sig.getD c []).getD k 0<=100000
 vm:∀c,c<sig.length->∀k,k<n0 sig -> -100000<=(meas.getD c []).getD k 0/\(meas.getD c []).getD k 0<=100000
def qeV(sig:List (List Int))(s:Int)(r:Bool)(k:Nat):Int:=if s = -1 then 0 else if r=true then -((sig.getD s.toNat []).getD k 0)else (sig.getD s.toNat []).getD k 0
def qjv(off d:Int):Bool:=decide (-off<=d)&&decide (d<=off)
def qfp(sig:List (List Int))(off:Int)(row:List Int)(s:Int)(r:Bool):Bool:=(List.range row.length).all λk=>qjv off (row.getD k 0-qeV sig s r k)
theorem qt6{row:List Int}{p:Nat->Bool}{g:Nat->Int->Option Bool}(hg:∀i a,g i a=if p i=true then none else some false) :
  (match qbs g 0 row with
  |some r=>some r
  |none=>some true)=some ((List.range row.length).all p):=by
 cases h:qbs g 0 row with
 |none =>
  have h1:=qdr.1 h;have:(List.range row.length).all p=true:=List.all_eq_true.2 λk hk=>by
   have hk:=List.mem_range.1 hk;have:=h1 k _ (qki 0 hk);rw [hg]at this;split at this
   ·rename_i e;simpa using e
   ·cases this
  rw [this]
 |some r =>
  obtain ⟨i,a,h1,h2,_⟩:=qeq h;rw [hg]at h2;split at h2
  ·cases h2
  ·rename_i e;cases h2;have:(List.range row.length).all p=false:=by
    rw [List.all_eq_false];exact ⟨i,List.mem_range.2 (qfE h1),by simpa using e⟩
   rw [this]
theorem qtQ{sig:List (List Int)}{off:Int}{meas:List (List Int)}(v:Vld sig off meas){s:Int}{r:Bool}{k:Nat}(h0 : -1<=s)(h1:s<sig.length)(hk:k<n0 sig) : -100000<=qeV sig s r k/\qeV sig s r k<=100000:=by
 unfold qeV;split
 ·omega
 ·have:=v.vs s.toNat (by omega) k hk;split<;>omega
theorem sign_eq(x:Src):qbl x=some (if x.2.1=true then -1 else 1):=by
 unfold qbl;cases x.2.1<;>rfl
theorem qwT{sig:List (List Int)}{off:Int}{meas:List (List Int)}(v:Vld sig off meas){c:Nat}(hc:c<sig.length){s:Int}{r:Bool}(h0 : -1<=s)(h1:s<sig.length) :
  qX (sig,off,meas,()) (c:Int) (s,r,())=some (qfp sig off (meas.getD c []) s r):=by
 unfold qX;have hm:=v.len;rw [qsP (by omega) (by simp only;omega)];simp only [qa,Int.toNat_natCast];have hlen:=v.lm c hc;rw [qhF (meas.getD c []) _ (λi a=>if qjv off (a-qeV sig s r i)=true then none else some false) (λi a hi=>?_),qfB]
 ·refine (qt6 (row:=meas.getD c []) (p:=λk=>qjv off ((meas.getD c []).getD k 0-qeV sig s r k)) (g:=λi a=>if qjv off ((meas.getD c []).getD i 0-qeV sig s r i)=true then none else some false) λi a=>rfl)▸?_;have:∀(l:List Int) (g g':Nat->Int->Option Bool),(∀i a,l[i]?=some a->g i a=g' i a)->qbs g 0 l=qbs g' 0 l:=λl g g' h=>by
   have key:∀(l:List Int) (k:Nat),(∀i a,l[i]?=some a->g (k+i) a=g' (k+i) a)->qbs g k l=qbs g' k l:=by
    intro l;induction l with
    |nil=>intro k _;rfl
    |cons a l ih =>
     intro k h;simp only [qbs];have h0:=h 0 a rfl;rw [Nat.add_zero]at h0;rw [h0,ih (k+1) λi b hb=>by have:=h (i+1) b (by simpa using hb);rw [show k+1+i=k+(i+1) by omega];exact this]
   exact key l 0 λi a hi=>by simpa using h i a hi
  rw [this _ _ (λi a=>if qjv off ((meas.getD c []).getD i 0-qeV sig s r i)=true then none else some false) λi a hi=>by rw [Go.Tx.qbK hi]];cases qbs (λi (a:Int)=>if qjv off ((meas.getD c []).getD i 0-qeV sig s r i)=true then none else some false) 0 (meas.getD c [])<;>rfl
 ·have hi':=qfE hi;rw [hlen]at hi';have hv:=v.vm c hc i hi';rw [Go.Tx.qbK hi]at hv;have hw60:=v.w;have hw:=qtQ v (r:=r) h0 h1 hi';have hwant:(bif !(decide (s=(-1)))then
      (qbl (s,r,())).bind λx5 =>
      (idx sig s).bind λx6 =>
      (idx x6 (i:Int)).bind λx7 =>
      some (w64 (x5*x7))
     else
      some 0)=some (qeV sig s r i):=by
   rw [qef];unfold qeV;split
   ·rfl
   ·rename_i hs;have hl:=v.ls s.toNat (by omega);have hvs:=v.vs s.toNat (by omega) i hi';rw [sign_eq,qa,qsP (by omega) h1,qa,qg8 (by omega) (by rw [hl];omega),qa];simp only [Int.toNat_natCast];cases r
    ·simp only [qf,if_false];rw [wid (by omega) (by omega)];congr 1;omega
    ·simp only [if_true];rw [wid (by omega) (by omega)];congr 1;omega
  simp only [qcC hi,qa];rw [hwant];simp only [qa];rw [quH _ _ v.off0 (by have:=v.off1;omega),qa,wid (by omega) (by omega),wid (by omega) (by omega)];unfold qjv;rw [<- Bool.decide_and];by_cases hd : -off<=a-qeV sig s r i/\a-qeV sig s r i<=off
  ·simp [hd,stp]
  ·simp [hd,stp]
def qpp(s:Int)(r:Bool)(c:Int):Int:=if s = -1 then 1 else (if r=true then 1 else 0)+(if s=c then 0 else 1)
theorem qpq(s:Int)(r:Bool)(c:Int):0<=qpp s r c/\qpp s r c<=2:=by
 unfold qpp;split
 ·omega
 ·split<;>split<;>omega
theorem qwF(s:Int)(r:Bool)(c:Int):qL (s,r,()) c=some (qpp s r c):=by
 unfold qL qpp;simp only [qc3,qef];split
 ·rfl
 ·cases r
  ·simp only [cond_false,qa,qf,if_false];split
   ·rfl
   ·rfl
  ·simp only [cond_true,qa,if_true];split
   ·rfl
   ·rfl
def nth(n:Nat):List Src:=(-1,false,())::(List.range n).flatMap λ(i:Nat)=>[((i:Int),false,()),((i:Int),true,())]
def qfq(p:List Src)(s:Src):Bool:=!(!decide (s.1 = -1)&&p.any (λo=>decide (o.1=s.1)))
def kids(n:Nat)(p:List Src):List (List Src):=((nth n).filter (qfq p)).map λs=>p++[s]
def exts(n:Nat):Nat->List Src->List (List Src)
 |0,p=>[p]
 |k+1,p=>(kids n p).flatMap (exts n k)
def qdQ(F:Nat->Src->Bool):Nat->List Src->Bool
 |_,[]=>true
 |c,s::l=>F c s&&qdQ F (c+1) l
def qa4:Nat->List Src->Int
 |_,[]=>0
 |c,s::l=>qpp s.1 s.2.1 (c:Int)+qa4 (c+1) l
theorem qju(F:Nat->Src->Bool):∀(l m:List Src) (c:Nat),qdQ F c (l++m)=(qdQ F c l&&qdQ F (c+l.length) m)
 |[],m,c=>by simp [qdQ]
 |s::l,m,c=>by
  simp only [List.cons_append,qdQ,qju F l m (c+1),List.length_cons,Bool.and_assoc];rw [show c+1+l.length=c+(l.length+1) by omega]
theorem qji:∀(l m:List Src) (c:Nat),qa4 c (l++m)=qa4 c l+qa4 (c+l.length) m
 |[],m,c=>by simp [qa4]
 |s::l,m,c=>by
  simp only [List.cons_append,qa4,qji l m (c+1),List.length_cons];rw [show c+1+l.length=c+(l.length+1) by omega];omega
theorem qhB:∀(l:List Src) (c:Nat),0<=qa4 c l/\qa4 c l<=2*l.length
 |[],c=>by simp [qa4]
 |s::l,c=>by
  have h1:=qpq s.1 s.2.1 (c:Int);have h2:=qhB l (c+1);simp only [qa4,List.length_cons]<;>omega
abbrev Sta:=Option (List Src×Int)
def better(st:Sta)(c:Int):Bool:=match st with
 |none=>true
 |some b=>decide (c<b.2)
def pick(F:Nat->Src->Bool)(st:Sta)(p:List Src):Sta:=if qdQ F 0 p=true/\better st (qa4 0 p)=true then some (p,qa4 0 p)else st
theorem qm7{F:Nat->Src->Bool}:∀(L:List (List Src)) (st:Sta),(∀p∈L,qdQ F 0 p=false\/better st (qa4 0 p)=false)->L.foldl (pick F) st=st
 |[],st,_=>rfl
 |p::L,st,h=>by
  rw [List.foldl_cons];have:pick F st p=st:=by
   unfold pick;rw [if_neg];rintro ⟨h1,h2⟩;rcases h p (by simp)with h3|h3
   ·rw [h1]at h3;cases h3
   ·rw [h2]at h3;cases h3
  rw [this];exact qm7 L st λq hq=>h q (by simp [hq])
theorem qf7{n:Nat}:∀{k:Nat} {p q:List Src},q∈exts n k p->∃m,q=p++m/\m.length=k
 |0,p,q,h=>by
  simp only [exts,List.mem_singleton]at h;exact ⟨[],by simp [h],rfl⟩
 |k+1,p,q,h=>by
  simp only [exts,List.mem_flatMap,kids,List.mem_map]at h;obtain ⟨r,⟨s,_,rfl⟩,h⟩:=h;obtain ⟨m,rfl,hm⟩:=qf7 h;exact ⟨s::m,by simp,by simp [hm]⟩
def tr(F:Nat->Src->Bool)(n k:Nat)(l:List Src)(st:Sta)(s:Src):Sta:=if qfq l s=true/\F l.length s=true then (exts n k (l++[s])).foldl (pick F) st else st
theorem qA4(F:Nat->Src->Bool)(n k:Nat)(l:List Src)(st:Sta):(exts n (k+1) l).foldl (pick F) st=(nth n).foldl (tr F n k l) st:=by
 simp only [exts,kids];rw [List.foldl_flatMap,List.foldl_map];have:∀(L:List Src) (st:Sta),(L.filter (qfq l)).foldl (λx y=>(exts n k (l++[y])).foldl (pick F) x) st=L.foldl (tr F n k l) st:=by
  intro L;induction L with
  |nil=>intro st;rfl
  |cons s L ih =>
   intro st;rw [List.foldl_cons,List.filter_cons];unfold tr;by_cases hf:qfq l s=true
   ·rw [if_pos hf,List.foldl_cons,ih];by_cases hF:F l.length s=true
    ·rw [if_pos ⟨hf,hF⟩];rfl
    ·rw [if_neg (λh=>hF h.2),qm7]
     ·rfl
     ·intro p hp;obtain ⟨m,rfl,_⟩:=qf7 hp;left
      rw [qju,qju];simp [qdQ,hF]
   ·rw [if_neg hf,if_neg (λh=>hf h.1),ih];rfl
 exact this _ st
theorem qvD{F:Nat->Src->Bool}{n k:Nat}{l:List Src}{st:Sta}(h:better st (qa4 0 l)=false):(exts n k l).foldl (pick F) st=st:=by
 refine qm7 _ _ λp hp=>.inr ?_;obtain ⟨m,rfl,_⟩:=qf7 hp;rw [qji];have:=(qhB m (0+l.length)).1;unfold better at h ⊢;split at h
 ·cases h
 ·simp only [decide_eq_false_iff_not]at h ⊢;omega
def qv6(n:Nat)(st:Sta):Prop:=∀b,st=some b->b.1.length=n/\b.2=qa4 0 b.1
theorem qp5{F:Nat->Src->Bool}{n:Nat}:∀(L:List (List Src)) (st:Sta),qv6 n st->(∀p∈L,p.length=n)->qv6 n (L.foldl (pick F) st)
 |[],st,h,_=>h
 |p::L,st,h,hL=>by
  rw [List.foldl_cons];refine qp5 L _ (λb hb=>?_) λq hq=>hL q (by simp [hq]);unfold pick at hb;split at hb
  ·cases hb;exact ⟨hL p (by simp),rfl⟩
  ·exact h b hb
theorem qAc{F:Nat->Src->Bool}{n k:Nat}{l:List Src}{st:Sta}(hk:l.length+k+1=n)(h:qv6 n st)(s:Src):qv6 n (tr F n k l st s):=by
 unfold tr;split
 ·refine qp5 _ _ h λp hp=>?_;obtain ⟨m,rfl,hm⟩:=qf7 hp;simp<;>omega
 ·exact h
abbrev Bx:=List (List Int)×Int×List (List Int)×List (Int×Bool×Unit)×Int
def enc(sig:List (List Int))(off:Int)(meas:List (List Int))(st:Sta):Bx:=(sig,off,meas,(st.map (·.1)).getD [],(st.map (·.2)).getD 0)
theorem qB1(sig:List (List Int))(off:Int)(meas:List (List Int))(st:Sta):(enc sig off meas st).1=sig:=rfl
theorem qB2(sig:List (List Int))(off:Int)(meas:List (List Int))(st:Sta):(enc sig off meas st).2.1=off:=rfl
theorem qB3(sig:List (List Int))(off:Int)(meas:List (List Int))(st:Sta):(enc sig off meas st).2.2.1=meas:=rfl
theorem qCB(sig:List (List Int))(off:Int)(meas:List (List Int))(st:Sta):(sig,off,meas,(enc sig off meas st).2.2.2.1,(enc sig off meas st).2.2.2.2)=enc sig off meas st:=rfl
noncomputable def qyB(ih:((List (List Int))×Int×(List (List Int))×(List (Int×Bool×Unit))×Int)->(List (Int×Bool×Unit))->Int->Option ((List (List Int))×Int×(List (List Int))×(List (Int×Bool×Unit))×Int))(b0:((List (List Int))×Int×(List (List Int))×(List (Int×Bool×Unit))×Int))(a0:List (Int×Bool×Unit))(a1:Int):Option ((List (List Int))×Int×(List (List Int))×(List (Int×Bool×Unit))×Int) :=
 (bif !(List.isEmpty b0.2.2.2.1)then
   some (decide (a1>=b0.2.2.2.2))
  else
   some false).bind λ(p1:Bool) =>
 bif p1 then
  some (b0.1,b0.2.1,b0.2.2.1,b0.2.2.2.1,b0.2.2.2.2)
 else
  bif decide ((a0.length:Int)=(b0.2.2.1.length:Int))then
   (qC a0).bind λx2 =>
   ((((nel x2).bind λx6 =>
      some (x6,a1)).bind λx5 =>
     some (b0.2.2.1,x5)).bind λx4 =>
    some (b0.2.1,x4)).bind λx3 =>
   some (b0.1,x3)
  else
   (qX (b0.1,b0.2.1,b0.2.2.1,()) (a0.length:Int) ((-1),false,())).bind λx7 =>
   (bif x7 then
     (slc a0 0 (a0.length:Int)).bind λx8 =>
     bif decide ((a0.length:Int)=(a0.length:Int))then
      (app x8 ([((-1),false,())])).bind λx9 =>
      (qL ((-1),false,()) (a0.length:Int)).bind λx10 =>
      (ih (b0.1,b0.2.1,b0.2.2.1,b0.2.2.2.1,b0.2.2.2.2) x9 (w64 (a1+x10))).bind λx11 =>
      some (x11.1,x11.2.1,x11.2.2.1,x11.2.2.2.1,x11.2.2.2.2)
     else
      none
    else
     some (b0.1,b0.2.1,b0.2.2.1,b0.2.2.2.1,b0.2.2.2.2)).bind λ(p12:((List (List Int))×Int×(List (List Int))×(List (Int×Bool×Unit))×Int)) =>
   (qaD (λ(s14:(Int×(List (List Int))×Int×(List (List Int))×(List (Int×Bool×Unit))×Int)) =>
     bif decide (s14.1<(b0.1.length:Int))then
      (bif !(decide (s14.1=(-1)))then
        ((qaD (λ(s16:Int) =>
           bif decide (s16<(a0.length:Int))then
            (idx a0 s16).bind λx17 =>
            bif decide (x17.1=s14.1)then
             some (.inr (.inr s16))
            else
             some (.inl (w64 (s16+1)))
           else
            some (.inr (.inl ()))) 0).bind (Sum.elim (λ(p18:Unit) =>
         some (-1)) some)).bind λ(p19:Int) =>
        some (decide (p19>=0))
       else
        some false).bind λ(p20:Bool) =>
      (bif !p20 then
        (qX (s14.2.1,s14.2.2.1,s14.2.2.2.1,()) (a0.length:Int) (s14.1,false,())).bind λx21 =>
        some x21
       else
        some false).bind λ(p22:Bool) =>
      (bif p22 then
        (slc a0 0 (a0.length:Int)).bind λx23 =>
        bif decide ((a0.length:Int)=(a0.length:Int))then
         (app x23 ([(s14.1,false,())])).bind λx24 =>
         (qL (s14.1,false,()) (a0.length:Int)).bind λx25 =>
         (ih (s14.2.1,s14.2.2.1,s14.2.2.2.1,s14.2.2.2.2.1,s14.2.2.2.2.2) x24 (w64 (a1+x25))).bind λx26 =>
         some (x26.1,x26.2.1,x26.2.2.1,x26.2.2.2.1,x26.2.2.2.2)
        else
         none
       else
        some (s14.2.1,s14.2.2.1,s14.2.2.2.1,s14.2.2.2.2.1,s14.2.2.2.2.2)).bind λ(p27:((List (List Int))×Int×(List (List Int))×(List (Int×Bool×Unit))×Int)) =>
      (bif !(decide (s14.1=(-1)))then
        ((qaD (λ(s29:Int) =>
           bif decide (s29<(a0.length:Int))then
            (idx a0 s29).bind λx30 =>
            bif decide (x30.1=s14.1)then
             some (.inr (.inr s29))
            else
             some (.inl (w64 (s29+1)))
           else
            some (.inr (.inl ()))) 0).bind (Sum.elim (λ(p31:Unit) =>
         some (-1)) some)).bind λ(p32:Int) =>
        some (decide (p32>=0))
       else
        some false).bind λ(p33:Bool) =>
      (bif !p33 then
        (qX (p27.1,p27.2.1,p27.2.2.1,()) (a0.length:Int) (s14.1,true,())).bind λx34 =>
        some x34
       else
        some false).bind λ(p35:Bool) =>
      (bif p35 then
        (slc a0 0 (a0.length:Int)).bind λx36 =>
        bif decide ((a0.length:Int)=(a0.length:Int))then
         (app x36 ([(s14.1,true,())])).bind λx37 =>
         (qL (s14.1,true,()) (a0.length:Int)).bind λx38 =>
         (ih (p27.1,p27.2.1,p27.2.2.1,p27.2.2.2.1,p27.2.2.2.2) x37 (w64 (a1+x38))).bind λx39 =>
         some (x39.1,x39.2.1,x39.2.2.1,x39.2.2.2.1,x39.2.2.2.2)
        else
         none
       else
        some (p27.1,p27.2.1,p27.2.2.1,p27.2.2.2.1,p27.2.2.2.2)).bind λ(p40:((List (List Int))×Int×(List (List Int))×(List (Int×Bool×Unit))×Int)) =>
      some (.inl (w64 (s14.1+1),p40.1,p40.2.1,p40.2.2.1,p40.2.2.2.1,p40.2.2.2.2))
     else
      some (.inr (s14.2.1,s14.2.2.1,s14.2.2.2.1,s14.2.2.2.2.1,s14.2.2.2.2.2))) (0,p12.1,p12.2.1,p12.2.2.1,p12.2.2.2.1,p12.2.2.2.2)).bind λ(p41:((List (List Int))×Int×(List (List Int))×(List (Int×Bool×Unit))×Int)) =>
   some (p41.1,p41.2.1,p41.2.2.1,p41.2.2.2.1,p41.2.2.2.2)
theorem qAd(m:Nat):q5 (m+1)=qyB (q5 m):=rfl
theorem qyX{l:List Src}(h:l≠[])(hl:l.length<=1000):qC l=some l:=by
 unfold qC;cases l with
 |nil=>exact absurd rfl h
 |cons a l =>
  simp only [List.isEmpty_cons,cond_false];rw [qpi (by omega)];rfl
theorem qz5(l:List Src)(i:Int)(hi:i ≠ -1)(hl:l.length<=1000) :
  ((bif !(decide (i=(-1)))then
        ((qaD (λ(s16:Int) =>
           bif decide (s16<(l.length:Int))then
            (idx l s16).bind λx17 =>
            bif decide (x17.1=i)then
             some (.inr (.inr s16))
            else
             some (.inl (w64 (s16+1)))
           else
            some (.inr (.inl ()))) 0).bind (Sum.elim (λ(p18:Unit) =>
         some (-1)) some)).bind λ(p19:Int) =>
        some (decide (p19>=0))
       else
        some false):Option Bool)=some (!qfq l (i,false,())):=by
 have h1:decide (i = -1)=false:=by simpa using hi
 simp only [h1,Bool.not_false,cond_true];obtain ⟨r,hr,hq⟩:=qA5 l (λo=>decide (o.1=i)) (by omega);simp only [w64];rw [hr,qa,hq];simp [qfq,hi]
theorem qBj{sig:List (List Int)}{off:Int}{meas:List (List Int)}(v:Vld sig off meas){k m:Nat}{l:List Src}(hk:l.length+k+1=sig.length)
  (ih:∀(st:Sta) (s:Src),qv6 sig.length st -> -1<=s.1->s.1<sig.length->qfp sig off (meas.getD l.length []) s.1 s.2.1=true->q5 m (enc sig off meas st) (l++[s]) (qa4 0 (l++[s]))=some (enc sig off meas ((exts sig.length k (l++[s])).foldl (pick λc s=>qfp sig off (meas.getD c []) s.1 s.2.1) st)))
  {st:Sta} (hst:qv6 sig.length st) {s:Src} (h0 : -1<=s.1) (h1:s.1<sig.length) {b:Bool} (hb:b=(qfq l s&&qfp sig off (meas.getD l.length []) s.1 s.2.1)) :
  ((bif b then
        (slc l 0 (l.length:Int)).bind λx23 =>
         (app x23 ([s])).bind λx24 =>
         (qL s (l.length:Int)).bind λx25 =>
         (q5 m (enc sig off meas st) x24 (w64 (qa4 0 l+x25))).bind λx26 =>
         some (x26.1,x26.2.1,x26.2.2.1,x26.2.2.2.1,x26.2.2.2.2)
       else
        some (enc sig off meas st)):Option Bx)=some (enc sig off meas (tr (λc s=>qfp sig off (meas.getD c []) s.1 s.2.1) sig.length k l st s)):=by
 have hn:=v.n4;subst hb;unfold tr;by_cases hf:qfq l s=true/\qfp sig off (meas.getD l.length []) s.1 s.2.1=true
 ·rw [if_pos hf,hf.1,hf.2];simp only [Bool.and_self,cond_true];rw [qAG (by omega)];simp only [qa,Int.toNat_natCast,List.take_length,Int.toNat_zero,List.drop_zero,decide_true,cond_true];rw [qg1 (by omega),qa];obtain ⟨a,r,u⟩:=s;rw [qwF,qa];have hc:=qhB l 0;have hb:=qpq a r (l.length:Int);rw [wid (by omega) (by omega)];have e:qa4 0 (l++[(a,r,u)])=qa4 0 l+qpp a r (l.length:Int):=by rw [qji];simp [qa4]
  rw [<- e,ih st (a,r,u) hst h0 h1 hf.2];rfl
 ·rw [if_neg hf];have:(qfq l s&&qfp sig off (meas.getD l.length []) s.1 s.2.1)=false:=by
   cases h:(qfq l s&&qfp sig off (meas.getD l.length []) s.1 s.2.1)with
   |false=>rfl
   |true=>exact absurd (by simpa using h) hf
  rw [this];rfl
theorem qtZ(b c:Bool):((bif b then some c else some false):Option Bool)=some (b&&c):=by cases b<;>rfl
theorem qwY(a b:Int):decide (a>=b)=!decide (a<b):=by
 by_cases h:a<b
 ·rw [decide_eq_true h,decide_eq_false (by omega)];rfl
 ·rw [decide_eq_false h,decide_eq_true (by omega)];rfl
theorem qzt{β:Type}(g:β->Src->β)(b:β)(n:Nat):(nth n).foldl g b=(List.range n).foldl (λb (i:Nat)=>g (g b ((i:Int),false,())) ((i:Int),true,())) (g b (-1,false,())):=by
 simp only [nth,List.foldl_cons,List.foldl_flatMap,List.foldl_nil]
theorem qAJ{sig:List (List Int)}{off:Int}{meas:List (List Int)}(v:Vld sig off meas):∀(k fuel:Nat) (l:List Src) (st:Sta),l.length+k=sig.length->k<fuel->(∀s∈l,-1<=s.1/\s.1<sig.length)->qdQ (λc s=>qfp sig off (meas.getD c []) s.1 s.2.1) 0 l=true->qv6 sig.length st ->
  q5 fuel (enc sig off meas st) l (qa4 0 l)=some (enc sig off meas ((exts sig.length k l).foldl (pick λc s=>qfp sig off (meas.getD c []) s.1 s.2.1) st))
 |k,0,l,st,_,hf,_,_,_=>by omega
 |k,m+1,l,st,hk,hf,hl,hh,hst=>by
  have hn:=v.n4;have hn1:=v.n1;have hm:=v.len;rw [qAd];unfold qyB;have hcl:=qhB l 0;have hp1:((bif !(List.isEmpty (enc sig off meas st).2.2.2.1)then some (decide (qa4 0 l>=(enc sig off meas st).2.2.2.2))else some false):Option Bool)=some (!better st (qa4 0 l)):=by
   cases st with
   |none=>rfl
   |some b =>
    obtain ⟨h1,h2⟩:=hst b rfl;have:List.isEmpty b.1=false:=by
     cases hb:b.1 with
     |nil=>rw [hb]at h1;simp at h1;omega
     |cons=>rfl
    show ((bif !(List.isEmpty b.1)then some (decide (qa4 0 l>=b.2))else some false):Option Bool)=some (!decide (qa4 0 l<b.2));rw [this];exact congrArg some (qwY _ _)
  rw [hp1,qa];cases hbt:better st (qa4 0 l)with
  |false =>
   simp only [Bool.not_false,cond_true];rw [qvD hbt]
  |true =>
   simp only [Bool.not_true,cond_false];cases k with
   |zero =>
    have h1:decide ((l.length:Int)=((enc sig off meas st).2.2.1.length:Int))=true:=decide_eq_true (by show (l.length:Int)=(meas.length:Int);omega);rw [h1];have hne:l≠[]:=by rintro rfl;simp only [List.length_nil]at hk;omega
    simp only [cond_true];rw [qyX hne (by omega),qa];have:nel l=some l:=by
     cases l with
     |nil=>exact absurd rfl hne
     |cons a l=>rfl
    simp only [this,qa,exts,List.foldl_cons,List.foldl_nil];unfold pick;rw [if_pos ⟨hh,hbt⟩];rfl
   |succ k =>
    have h1:decide ((l.length:Int)=((enc sig off meas st).2.2.1.length:Int))=false:=decide_eq_false (by show ¬ ((l.length:Int)=(meas.length:Int));omega);rw [h1];simp only [cond_false];have ih:∀(st:Sta) (s:Src),qv6 sig.length st -> -1<=s.1->s.1<sig.length->qfp sig off (meas.getD l.length []) s.1 s.2.1=true->q5 m (enc sig off meas st) (l++[s]) (qa4 0 (l++[s]))=some (enc sig off meas ((exts sig.length k (l++[s])).foldl (pick λc s=>qfp sig off (meas.getD c []) s.1 s.2.1) st)):=λst s hst h0 h1 hf' =>
     qAJ v k m (l++[s]) st (by simp only [List.length_append,List.length_cons,List.length_nil];omega) (by omega) (λs' hs'=>by
      rcases qj.1 hs' with h|h
      ·exact hl s' h
      ·simp only [List.mem_singleton]at h;subst h;exact ⟨h0,h1⟩) (by rw [qju,hh];simp only [qdQ,Nat.zero_add,hf',Bool.and_self]) hst
    have hk':l.length+k+1=sig.length:=by omega
    have ff:=λ(s:Int) (r:Bool) (h0 : -1<=s) (h1:s<sig.length)=>qwT v (c:=l.length) (by omega) (r:=r) h0 h1;have hfree0:qfq l (-1,false,())=true:=by simp [qfq]
    have one:=λ(st:Sta) (hst:qv6 sig.length st) (s:Src) (h0 : -1<=s.1) (h1:s.1<sig.length) (b:Bool) (hb:b=(qfq l s&&qfp sig off (meas.getD l.length []) s.1 s.2.1))=>qBj v hk' ih hst h0 h1 hb;rw [qA4,qzt];simp only [qB1,qB2,qB3,qCB,decide_true,cond_true];rw [ff (-1) false (by omega) (by omega),qa];rw [one st hst (-1,false,()) (by simp) (by simp only;omega) (qfp sig off (meas.getD l.length []) (-1) false) (by simp only [hfree0,Bool.true_and]),qa];have hst1:=qAc (F:=λc s=>qfp sig off (meas.getD c []) s.1 s.2.1) hk' hst (-1,false,());generalize tr (λc s=>qfp sig off (meas.getD c []) s.1 s.2.1) sig.length k l st (-1,false,())=st1 at hst1 ⊢;simp only [qB1,qB2,qB3];have hstI:∀i,qv6 sig.length ((List.range i).foldl (λb (i:Nat)=>tr (λc s=>qfp sig off (meas.getD c []) s.1 s.2.1) sig.length k l (tr (λc s=>qfp sig off (meas.getD c []) s.1 s.2.1) sig.length k l b ((i:Int),false,())) ((i:Int),true,())) st1):=λi=>by
     induction i with
     |zero=>exact hst1
     |succ i ih2=>rw [List.range_succ,List.foldl_append];simp only [List.foldl_cons,List.foldl_nil];exact qAc hk' (qAc hk' ih2 _) _
    refine Ok.eq ?_;rw [qiO];refine (qc8 sig.length (λi (s:Int×Bx)=>s=((i:Int),enc sig off meas ((List.range i).foldl (λb (i:Nat)=>tr (λc s=>qfp sig off (meas.getD c []) s.1 s.2.1) sig.length k l (tr (λc s=>qfp sig off (meas.getD c []) s.1 s.2.1) sig.length k l b ((i:Int),false,())) ((i:Int),true,())) st1)))
     (λr=>r=enc sig off meas ((List.range sig.length).foldl (λb (i:Nat)=>tr (λc s=>qfp sig off (meas.getD c []) s.1 s.2.1) sig.length k l (tr (λc s=>qfp sig off (meas.getD c []) s.1 s.2.1) sig.length k l b ((i:Int),false,())) ((i:Int),true,())) st1)) rfl ?_).mono λr hr=>by rw [hr,qbP]
    rintro i s hi rfl;have hsi:=hstI i;by_cases hlt:i<sig.length
    ·have hfold:(List.range (i+1)).foldl (λb (i:Nat)=>tr (λc s=>qfp sig off (meas.getD c []) s.1 s.2.1) sig.length k l (tr (λc s=>qfp sig off (meas.getD c []) s.1 s.2.1) sig.length k l b ((i:Int),false,())) ((i:Int),true,())) st1
       = tr (λc s=>qfp sig off (meas.getD c []) s.1 s.2.1) sig.length k l (tr (λc s=>qfp sig off (meas.getD c []) s.1 s.2.1) sig.length k l ((List.range i).foldl (λb (i:Nat)=>tr (λc s=>qfp sig off (meas.getD c []) s.1 s.2.1) sig.length k l (tr (λc s=>qfp sig off (meas.getD c []) s.1 s.2.1) sig.length k l b ((i:Int),false,())) ((i:Int),true,())) st1) ((i:Int),false,())) ((i:Int),true,()):=by
      rw [List.range_succ,List.foldl_append];rfl
     rw [hfold];generalize (List.range i).foldl (λb (i:Nat)=>tr (λc s=>qfp sig off (meas.getD c []) s.1 s.2.1) sig.length k l (tr (λc s=>qfp sig off (meas.getD c []) s.1 s.2.1) sig.length k l b ((i:Int),false,())) ((i:Int),true,())) st1=si at hsi ⊢;refine qdc.2 ⟨λ_=>?_,λh=>absurd (show (i:Int)<(sig.length:Int) by omega) (of_decide_eq_false h)⟩;have hfe:qfq l ((i:Int),true,())=qfq l ((i:Int),false,()):=rfl;simp only [qB1,qB2,qB3,qCB];rw [qz5 l (i:Int) (by omega) (by omega)];simp only [qa,Bool.not_not];rw [ff (i:Int) false (by omega) (by omega)];simp only [qa,qtZ];rw [one si hsi ((i:Int),false,()) (by simp only;omega) (by simp only;omega) _ rfl];simp only [qa,qB1,qB2,qB3,qCB];rw [ff (i:Int) true (by omega) (by omega)];simp only [qa,qtZ];rw [one _ (qAc (F:=λc s=>qfp sig off (meas.getD c []) s.1 s.2.1) hk' hsi ((i:Int),false,())) ((i:Int),true,()) (by simp only;omega) (by simp only;omega) (qfq l ((i:Int),false,())&&qfp sig off (meas.getD l.length []) (i:Int) true) rfl];simp only [qa,qB1,qB2,qB3,qCB];rw [qa9,wid (by omega) (by omega)];exact ⟨hlt,rfl⟩
    ·have:i=sig.length:=by omega
     subst this;refine qdc.2 ⟨λh=>absurd (of_decide_eq_true h) (show ¬ ((sig.length:Int)<(sig.length:Int)) by omega),λ_=>?_⟩;rw [qbp]
def toX(p:List Src):Xp:=(p.map (·.1),p.map (·.2.1),())
abbrev qfT:Src:=(0,false,())
theorem qDg{p:List Src}{i:Nat}(h:i<p.length):idx (toX p).1 (i:Int)=some (p.getD i qfT).1:=by
 rw [qw6];simp [toX,h]
theorem qDh{p:List Src}{i:Nat}(h:i<p.length):idx (toX p).2.1 (i:Int)=some (p.getD i qfT).2.1:=by
 rw [qw6];simp [toX,h]
theorem qB6(l:List Int)(a:Int)(hl:l.length<=1000000):qhy l a=some (l.any λx=>decide (x=a)):=by
 unfold qhy;rw [qhF l _ (λi x=>if x=a then some true else none) (λi x hi=>by
  have:=qfE hi;rw [qcC hi];simp only [qa,qc3];split
  ·rfl
  ·simp only [stp];rw [wid (by omega) (by omega)]),qfB]
 cases hf:qbs (λ(i:Nat) (x:Int)=>if x=a then some true else none) 0 l with
 |none =>
  rw [qdr]at hf;have:(l.any λx=>decide (x=a))=false:=by
   rw [List.any_eq_false];intro x hx;obtain ⟨i,hi⟩:=List.mem_iff_getElem?.1 hx;have:=hf i x hi;simpa using this
  simp only [this]
 |some r =>
  obtain ⟨i,x,h1,h2,_⟩:=qeq hf;split at h2
  ·rename_i e;cases h2;have:(l.any λx=>decide (x=a))=true:=List.any_eq_true.2 ⟨x,List.mem_of_getElem? h1,by simpa using e⟩;simp only [this]
  ·cases h2
theorem qoe{p:List Src}{i:Nat}(h:i<p.length):qa4 0 (p.take (i+1))=qa4 0 (p.take i)+qpp (p.getD i qfT).1 (p.getD i qfT).2.1 (i:Int):=by
 rw [qsb qfT h,qji];simp only [qa4,Nat.zero_add,List.length_take,Nat.min_eq_left (Nat.le_of_lt h)];omega
theorem qpc{p:List Src}(hp:p.length<=1000):qbe (toX p)=some (qa4 0 p):=by
 unfold qbe;refine Ok.eq ?_;rw [qiO];have hl:(toX p).1.length=p.length:=by simp [toX]
 refine (qc8 p.length (λi (s:Int×Int)=>s=(qa4 0 (p.take i),(i:Int))) (λr=>r=qa4 0 p) rfl ?_).mono λr hr=>by rw [hr,qbP]
 rintro i s hi rfl;by_cases hlt:i<p.length
 ·refine qdc.2 ⟨λ_=>?_,λh=>absurd (show (i:Int)<((toX p).1.length:Int) by omega) (of_decide_eq_false h)⟩;have hc:=qoe hlt;have h1:=qhB (p.take i) 0;have h2:(p.take i).length<=1000:=by rw [List.length_take];omega
  simp only [qDg hlt,qDh hlt,qa,qc3,qef];generalize p.getD i qfT=s at hc ⊢;obtain ⟨a,r,u⟩:=s;simp only at hc ⊢;unfold qpp at hc;split
  ·rename_i ha;rw [if_pos ha]at hc;simp only [qa];rw [qa9,wid (by omega) (by omega),wid (by omega) (by omega),hc];exact ⟨hlt,rfl⟩
  ·rename_i ha;rw [if_neg ha]at hc;cases r
   ·simp only [cond_false,qa];split
    ·rename_i hb;simp only [qf,if_false,if_pos hb]at hc;simp only [qa];rw [qa9,wid (by omega) (by omega),hc];exact ⟨hlt,by simp⟩
    ·rename_i hb;simp only [qf,if_false,if_neg hb]at hc;simp only [qa];rw [qa9,wid (by omega) (by omega),wid (by omega) (by omega),hc];exact ⟨hlt,by simp⟩
   ·simp only [cond_true,qa];split
    ·rename_i hb;simp only [if_true,if_pos hb]at hc;simp only [qa];rw [qa9,wid (by omega) (by omega),wid (by omega) (by omega),hc];exact ⟨hlt,by simp⟩
    ·rename_i hb;simp only [if_true,if_neg hb]at hc;simp only [qa];rw [qa9,wid (n:=qa4 0 (p.take i)+1) (by omega) (by omega),wid (by omega) (by omega),wid (by omega) (by omega),hc];exact ⟨hlt,by simp;omega⟩
 ·have:i=p.length:=by omega
  subst this;refine qdc.2 ⟨λh=>absurd (of_decide_eq_true h) (show ¬ ((p.length:Int)<((toX p).1.length:Int)) by omega),λ_=>?_⟩;rw [qbp,List.take_length]
theorem qjt(F:Nat->Src->Bool):∀(p:List Src) (c:Nat),qdQ F c p=(List.range p.length).all λi=>F (c+i) (p.getD i qfT)
 |[],c=>rfl
 |s::p,c=>by
  simp only [qdQ,List.length_cons];rw [List.range_succ_eq_map,List.all_cons,List.all_map,qjt F p (c+1)];congr 1
  congr 1
  funext i
  simp only [Function.comp_apply,List.getD_cons_succ];rw [show c+1+i=c+(i+1) by omega]
theorem qBr{α:Type}{d off:Int}(h1 : -200000<=d)(h2:d<=200000){K1 K2:α}:(qjg d).bind (λx=>bif decide (x > off)then some K1 else some K2)=some (if qjv off d=true then K2 else K1):=by
 unfold qjg;rw [wid (by omega) (by omega),qa,qc3];by_cases h:max d (0-d) > off
 ·rw [if_pos h,if_neg];unfold qjv;rw [qe,decide_eq_true_eq,decide_eq_true_eq];omega
 ·rw [if_neg h,if_pos];unfold qjv;rw [qe,decide_eq_true_eq,decide_eq_true_eq];omega
theorem qtS{sig:List (List Int)}{off:Int}{meas:List (List Int)}(v:Vld sig off meas){p:List Src}(hp:p.length=sig.length)(hs:∀i,i<p.length -> -1<=(p.getD i qfT).1/\(p.getD i qfT).1<sig.length) :
  qcV (sig,off,()) meas (toX p)=some (qdQ (λc s=>qfp sig off (meas.getD c []) s.1 s.2.1) 0 p):=by
 unfold qcV;have hm:=v.len;have hw:=v.w;have hn4:=v.n4;rw [qhF meas _ (λi row=>if qfp sig off row (p.getD i qfT).1 (p.getD i qfT).2.1=true then none else some false) (λi row hi=>?_),qfB]
 ·rw [qjt];simp only [Nat.zero_add];cases hf:qbs (λi (row:List Int)=>if qfp sig off row (p.getD i qfT).1 (p.getD i qfT).2.1=true then none else some false) 0 meas with
  |none =>
   rw [qdr]at hf;have:((List.range p.length).all λi=>qfp sig off (meas.getD i []) (p.getD i qfT).1 (p.getD i qfT).2.1)=true:=List.all_eq_true.2 λi hi=>by
    have hi:=List.mem_range.1 hi;have:=hf i _ (qki [] (by omega));rw [Nat.zero_add]at this;split at this
    ·assumption
    ·cases this
   simp only [this]
  |some r =>
   obtain ⟨i,row,h1,h2,_⟩:=qeq hf;rw [Nat.zero_add]at h2;split at h2
   ·cases h2
   ·rename_i e;cases h2;have hi:=qfE h1;have:((List.range p.length).all λi=>qfp sig off (meas.getD i []) (p.getD i qfT).1 (p.getD i qfT).2.1)=false:=by
     rw [List.all_eq_false];exact ⟨i,List.mem_range.2 (by omega),by rw [Go.Tx.qbK h1];exact e⟩
    simp only [this]
 ·have hi':=qfE hi;have hlen:=v.lm i (by omega);rw [Go.Tx.qbK hi]at hlen;obtain ⟨h0,h1⟩:=hs i (by omega);simp only [qDg (p:=p) (i:=i) (by omega),qDh (p:=p) (i:=i) (by omega),qa];generalize (p.getD i qfT)=s at h0 h1 ⊢;obtain ⟨a,r,u⟩:=s;simp only at h0 h1 ⊢;rw [qdT row (λk x=>if qjv off (x-qeV sig a r k)=true then none else some (.inr (.inr false))) (λk x hk=>?_) ?_]
  ·simp only [qa];have:=qt6 (row:=row) (p:=λk=>qjv off (row.getD k 0-qeV sig a r k)) (g:=λk x=>if qjv off (row.getD k 0-qeV sig a r k)=true then none else some false) λk x=>rfl;cases hf:qbs (λk (x:Int)=>if qjv off (x-qeV sig a r k)=true then none else some (Sum.inr (Sum.inr false):Int⊕(Unit⊕Bool))) 0 row with
   |none =>
    rw [qdr]at hf;have hall:qfp sig off row a r=true:=List.all_eq_true.2 λk hk=>by
     have hk:=List.mem_range.1 hk;have:=hf k _ (qki 0 hk);rw [Nat.zero_add]at this;split at this
     ·assumption
     ·cases this
    simp only [qgW,Sum.elim_inl,hall,if_true,stp];rw [wid (by omega) (by omega)]
   |some q =>
    obtain ⟨k,x,g1,g2,_⟩:=qeq hf;rw [Nat.zero_add]at g2;split at g2
    ·cases g2
    ·rename_i e;cases g2;have hall:qfp sig off row a r=false:=by
      unfold qfp;rw [List.all_eq_false];exact ⟨k,List.mem_range.2 (qfE g1),by rw [Go.Tx.qbK g1];exact e⟩
     simp only [qgW,Sum.elim_inr,hall,qf,if_false,stp]
  ·simp only [qcC hi,qa];rw [qc3,if_neg (by omega)]
  ·have hk':=qfE hk;simp only [qcC hi,qa];rw [qc3,if_pos (by omega)];have hx:=v.vm i (by omega) k (by omega);rw [Go.Tx.qbK hi,Go.Tx.qbK hk]at hx;have hwd:=qtQ v (r:=r) h0 h1 (k:=k) (by omega);have e1:((bif decide (a>=0)then (idx sig a).bind λx8=>(idx x8 (k:Int)).bind λx9=>some x9 else some 0):Option Int)=some (qeV sig a false k):=by
    rw [qc3];unfold qeV;split
    ·rw [if_neg (by omega)];have hl:=v.ls a.toNat (by omega);rw [qsP (by omega) h1,qa,qg8 (by omega) (by rw [hl];omega)];simp
    ·rw [if_pos (by omega)]
   rw [e1,qa];have hwd0:=qtQ v (r:=false) h0 h1 (k:=k) (by omega);have e2:((bif r then some (w64 (0-qeV sig a false k))else some (qeV sig a false k)):Option Int)=some (qeV sig a r k):=by
    cases r
    ·rfl
    ·simp only [cond_true];rw [wid (by omega) (by omega)];unfold qeV;split
     ·rfl
     ·simp
   rw [e2];simp only [qa,qcC hk];rw [wid (by omega) (by omega),qBr (by omega) (by omega)];split
   ·simp only [stp];rw [wid (by omega) (by omega)]
   ·rfl
def quJ(t:Int):Src:=if t<0 then (-1,false,())else (t.tdiv 2,decide (t.tmod 2=1),())
theorem qyh(n:Nat):quJ ((2*n:Nat):Int)=((n:Int),false,()):=by
 unfold quJ;rw [if_neg (by omega),Int.tdiv_eq_ediv_of_nonneg (by omega),Int.tmod_eq_emod_of_nonneg (by omega),decide_eq_false (by omega)];rw [show ((2*n:Nat):Int) / 2=n by omega]
theorem qzY(n:Nat):quJ ((2*n+1:Nat):Int)=((n:Int),true,()):=by
 unfold quJ;rw [if_neg (by omega),Int.tdiv_eq_ediv_of_nonneg (by omega),Int.tmod_eq_emod_of_nonneg (by omega),decide_eq_true (by omega)];rw [show ((2*n+1:Nat):Int) / 2=n by omega]
theorem qrA:∀n:Nat,(List.range (2*n)).map (λt:Nat=>quJ (t:Int))=(List.range n).flatMap λ(i:Nat)=>[((i:Int),false,()),((i:Int),true,())]
 |0=>rfl
 |n+1=>by
  rw [show 2*(n+1)=2*n+1+1 by omega,List.range_succ,List.range_succ,List.range_succ (n:=n),List.map_append,List.map_append,qrA n,List.flatMap_append];simp only [qh,List.map_nil,List.flatMap_cons,List.flatMap_nil,List.append_nil,List.append_assoc,qyh,qzY,List.cons_append,List.nil_append]
theorem qxD(n:Nat):nth n=(List.range (2*n+1)).map λj:Nat=>quJ ((j:Int)-1):=by
 rw [List.range_succ_eq_map,qh,List.map_map];unfold nth;rw [<- qrA];congr 1
 refine List.map_congr_left λt _=>?_;simp only [Function.comp_apply];congr 1
 omega
theorem qs6(n:Nat):(nth n).length=2*n+1:=by rw [qxD];simp
theorem qCe{n j:Nat}(h:j<2*n+1):(nth n)[j]?=some (quJ ((j:Int)-1)):=by
 rw [qxD];simp [h]
theorem qBi{n:Nat}{s:Src}(h:s∈nth n) : -1<=s.1/\s.1<n\/s.1 = -1:=by
 unfold nth at h;rcases qk.1 h with rfl|h
 ·right;rfl
 ·obtain ⟨i,hi,h⟩:=List.mem_flatMap.1 h;have hi:=List.mem_range.1 hi;left
  simp only [qk,List.not_mem_nil,or_false]at h;rcases h with rfl|rfl<;>simp only<;>omega
theorem qxf{n:Nat}(hn:n<=4){p:List Src}(hp:p.length<n){out next0:List Xp}{k:Nat}(hk:out[k]?=some (toX p))(hb:next0.length<=1000000) :
  (qaD (λ(s6:((List ((List Int)×(List Bool)×Unit))×Int)) =>
         bif decide (s6.2<w64 (2*(n:Int)))then
          (idx out (k:Int)).bind λx7 =>
          (qbG x7.1).bind λx8 =>
          (app x8 ([(-1)])).bind λx9 =>
          (idx out (k:Int)).bind λx10 =>
          (app [] x10.2.1).bind λx11 =>
          (app x11 ([false])).bind λx12 =>
          (bif decide (s6.2>=0)then
            (idx x9 (p.length:Int)).bind λx13 =>
            (idx x9 (p.length:Int)).bind λx14 =>
            let l15:(List Int):=List.set x9 (p.length:Int).toNat (w64 (s6.2.tdiv 2))
            (idx x12 (p.length:Int)).bind λx16 =>
            (idx x12 (p.length:Int)).bind λx17 =>
            let l18:(List Bool):=List.set x12 (p.length:Int).toNat (decide (s6.2.tmod 2=1))
            some (l15,l18)
           else
            some (x9,x12)).bind λ(p19:((List Int)×(List Bool))) =>
          (bif decide (s6.2<0)then
            some true
           else
            (idx out (k:Int)).bind λx20 =>
            (qhy x20.1 (w64 (s6.2.tdiv 2))).bind λx21 =>
            some (!x21)).bind λ(p22:Bool) =>
          (bif p22 then
            (app s6.1 ([(p19.1,p19.2,())])).bind λx23 =>
            some x23
           else
            some s6.1).bind λ(p24:(List ((List Int)×(List Bool)×Unit))) =>
          some (.inl (p24,w64 (s6.2+1)))
         else
          some (.inr s6.1)) (next0,(-1)):Option (List Xp))=some (next0++(kids n p).map toX):=by
 have hw:w64 (2*(n:Int))=2*(n:Int):=wid (by omega) (by omega);rw [hw];refine Ok.eq (qc8 (2*n+1) (λj (s:List Xp×Int)=>s=(next0++(((nth n).take j).filter (qfq p)).map (λs=>toX (p++[s])),(j:Int)-1)) (λr=>r=next0++(kids n p).map toX) (by simp) ?_);rintro j s hj rfl;by_cases hlt:j<2*n+1
 ·refine qdc.2 ⟨λ_=>?_,λh=>absurd (show (j:Int)-1<2*(n:Int) by omega) (of_decide_eq_false h)⟩;have hx1:(toX p).1.length=p.length:=by simp [toX]
  have hx2:(toX p).2.1.length=p.length:=by simp [toX]
  have htake:(nth n).take (j+1)=(nth n).take j++[quJ ((j:Int)-1)]:=by
   rw [List.take_add_one,qCe hlt];rfl
  simp only [qcC hk,qa];rw [qiu (by omega),qa,qg1 (by omega),qa,qpi (by omega),qa,qg1 (by omega),qa];have hlenN:(((nth n).take j).filter (qfq p)).length<=9:=by
   refine Nat.le_trans (List.length_filter_le ..) ?_;rw [List.length_take,qs6];omega
  have hpair:((bif decide ((j:Int)-1>=0)then
            (idx ((toX p).1++[(-1)]) (p.length:Int)).bind λx13 =>
            (idx ((toX p).1++[(-1)]) (p.length:Int)).bind λx14 =>
            (idx ((toX p).2.1++[false]) (p.length:Int)).bind λx16 =>
            (idx ((toX p).2.1++[false]) (p.length:Int)).bind λx17 =>
            some (List.set ((toX p).1++[(-1)]) (p.length:Int).toNat (w64 (((j:Int)-1).tdiv 2)),List.set ((toX p).2.1++[false]) (p.length:Int).toNat (decide (((j:Int)-1).tmod 2=1)))
           else
            some ((toX p).1++[(-1)],(toX p).2.1++[false])):Option (List Int×List Bool))=some ((toX (p++[quJ ((j:Int)-1)])).1,(toX (p++[quJ ((j:Int)-1)])).2.1):=by
   rw [qc3];unfold quJ;split
   ·rename_i h0;rw [if_neg (by omega)];have g1:((toX p).1++[(-1)])[p.length]?=some (-1):=by rw [List.getElem?_append_right (by omega),hx1];simp
    have g2:((toX p).2.1++[false])[p.length]?=some false:=by rw [List.getElem?_append_right (by omega),hx2];simp
    rw [qcC g1,qcC g2];simp only [qa,Int.toNat_natCast];have ht:((j:Int)-1).tdiv 2=((j:Int)-1) / 2:=Int.tdiv_eq_ediv_of_nonneg h0;rw [wid (by omega) (by omega)];have s1:List.set ((toX p).1++[(-1)]) p.length (((j:Int)-1).tdiv 2)=(toX p).1++[((j:Int)-1).tdiv 2]:=by
     rw [List.set_append_right _ _ (by omega),hx1];simp
    have s2:List.set ((toX p).2.1++[false]) p.length (decide (((j:Int)-1).tmod 2=1))=(toX p).2.1++[decide (((j:Int)-1).tmod 2=1)]:=by
     rw [List.set_append_right _ _ (by omega),hx2];simp
    rw [s1,s2];simp [toX]
   ·rw [if_pos (by omega)];simp [toX]
  have hfree:((bif decide ((j:Int)-1<0)then
            some true
           else
            (qhy (toX p).1 (w64 (((j:Int)-1).tdiv 2))).bind λx21 =>
            some (!x21)):Option Bool)=some (qfq p (quJ ((j:Int)-1))):=by
   rw [qc3];unfold quJ qfq;split
   ·simp
   ·rename_i h0;have ht:((j:Int)-1).tdiv 2=((j:Int)-1) / 2:=Int.tdiv_eq_ediv_of_nonneg (by omega);rw [wid (by omega) (by omega),qB6 _ _ (by omega),qa];have h1:decide (((j:Int)-1).tdiv 2 = -1)=false:=decide_eq_false (by omega);simp only [h1,Bool.not_false,Bool.true_and];simp only [toX,List.any_map];rfl
  rw [hpair,qa,hfree,qa,htake,List.filter_append,List.map_append];have hj1:w64 ((j:Int)-1+1)=((j+1:Nat):Int)-1:=by rw [wid (by omega) (by omega)];omega
  rw [hj1];cases hf:qfq p (quJ ((j:Int)-1))with
  |true =>
   simp only [cond_true];rw [qg1 (by simp only [List.length_append,List.length_map];omega)];simp only [qa];rw [qa9];refine ⟨hlt,?_⟩;simp only [List.filter_cons,hf,if_true,List.filter_nil,qh,List.map_nil,List.append_assoc]
  |false =>
   simp only [cond_false,qa];rw [qa9];refine ⟨hlt,?_⟩;simp only [List.filter_cons,hf,qf,if_false,List.filter_nil,List.map_nil,List.append_nil]
 ·have:j=2*n+1:=by omega
  subst this;refine qdc.2 ⟨λh=>absurd (of_decide_eq_true h) (show ¬ (((2*n+1:Nat):Int)-1<2*(n:Int)) by omega),λ_=>?_⟩;rw [qbp];simp only [kids,List.map_map];rw [List.take_of_length_le (by rw [qs6];omega)];rfl
def lev(n:Nat):Nat->List (List Src)
 |0=>[[]]
 |i+1=>(lev n i).flatMap (kids n)
theorem quh(n:Nat):∀(i k:Nat),(lev n i).flatMap (exts n k)=exts n (i+k) []
 |0,k=>by simp [lev]
 |i+1,k=>by
  simp only [lev];rw [List.flatMap_assoc];have:=quh n i (k+1);rw [show i+1+k=i+(k+1) by omega,<- this];rfl
theorem qxi(n:Nat):lev n n=exts n n []:=by
 have:=quh n n 0;rw [Nat.add_zero]at this;rw [<- this];simp only [exts];exact (List.flatMap_singleton' _).symm
theorem qox{n:Nat}:∀{i:Nat} {p:List Src},p∈lev n i->p.length=i
 |0,p,h=>by simp only [lev,List.mem_singleton]at h;rw [h]<;>rfl
 |i+1,p,h=>by
  simp only [lev,List.mem_flatMap,kids,List.mem_map]at h;obtain ⟨q,hq,s,_,rfl⟩:=h;simp [qox hq]
theorem qzg(n:Nat)(p:List Src):(kids n p).length<=2*n+1:=by
 simp only [kids,List.length_map];exact Nat.le_trans (List.length_filter_le ..) (by rw [qs6];exact Nat.le_refl _)
theorem qpx{n:Nat}:∀(L:List (List Src)),(L.flatMap (kids n)).length<=L.length*(2*n+1)
 |[]=>by simp
 |p::L=>by
  rw [List.flatMap_cons,List.length_append,List.length_cons,Nat.succ_mul];have h1:=qzg n p;have h2:=qpx (n:=n) L;omega
theorem qxj{n:Nat}(hn:n<=4):∀i,(lev n i).length<=9 ^ i
 |0=>by simp [lev]
 |i+1=>by
  have h1:=qpx (n:=n) (lev n i);have h2:=qxj hn i;simp only [lev]
  calc _<=(lev n i).length*(2*n+1):=h1
   _<=9 ^ i*9:=Nat.mul_le_mul h2 (by omega)
   _=9 ^ (i+1):=rfl
theorem qrp{n i:Nat}(hn:n<=4)(hi:i<=4):(lev n i).length<=6561 :=
 Nat.le_trans (qxj hn i) (Nat.pow_le_pow_right (by omega) hi:9 ^ i<=9 ^ 4)
theorem qBL{n:Nat}(hn:n<=4):qjV (n:Int)=some ((exts n n []).map toX):=by
 unfold qjV;refine Ok.eq ?_;rw [qiO];refine (qc8 n (λi (s:List Xp×Int)=>s=((lev n i).map toX,(i:Int))) (λr=>r=(exts n n []).map toX) rfl ?_).mono λr hr=>by rw [hr,qbP]
 rintro i s hi rfl;by_cases hlt:i<n
 ·refine qdc.2 ⟨λ_=>?_,λh=>absurd (show (i:Int)<(n:Int) by omega) (of_decide_eq_false h)⟩;have hL:=qrp hn (i:=i) (by omega);have hmid:∀K:List Xp×Int->Option ((List Xp×Int)⊕List Xp),(∀(k:Nat) (p:List Src) (next0:List Xp),(lev n i)[k]?=some p->next0.length<=1000000->K (next0,(k:Int))=some (.inl (next0++(kids n p).map toX,(k:Int)+1))) ->
    (∀next0,K (next0,((lev n i).length:Int))=some (.inr next0))->qaD K ([],0)=some ((lev n (i+1)).map toX):=λK h1 h2=>by
   refine Ok.eq (qc8 (lev n i).length (λk (s:List Xp×Int)=>s=((((lev n i).take k).flatMap (kids n)).map toX,(k:Int))) (λr=>r=(lev n (i+1)).map toX) rfl ?_);rintro k s hk rfl;by_cases hk':k<(lev n i).length
   ·obtain ⟨p,hp⟩:∃p,(lev n i)[k]?=some p:=⟨_,List.getElem?_eq_getElem hk'⟩
    rw [h1 k p _ hp ?_,qa9]
    ·refine ⟨hk',?_⟩;rw [List.take_add_one,hp,List.flatMap_append,List.map_append];simp only [Option.toList_some,List.flatMap_cons,List.flatMap_nil,List.append_nil];rfl
    ·rw [List.length_map];have:=qpx (n:=n) ((lev n i).take k);have h3:((lev n i).take k).length*(2*n+1)<=6561*9:=Nat.mul_le_mul (by rw [List.length_take];omega) (by omega);omega
   ·have:k=(lev n i).length:=by omega
    subst this;rw [h2,qbp,List.take_length];rfl
  simp only
  rw [hmid _ (λk p next0 hp hb=>?_) (λnext0=>?_),qa,qa9,wid (by omega) (by omega)]
  ·exact ⟨hlt,rfl⟩
  ·have hk:=qfE hp;have hpl:=qox (List.mem_of_getElem? hp);subst hpl;have hout:((lev n p.length).map toX)[k]?=some (toX p):=by rw [List.getElem?_map,hp];rfl
   rw [qc3,if_pos (by rw [List.length_map];omega),qxf hn hlt hout hb,qa,wid (by omega) (by omega)]
  ·rw [qc3,if_neg (by rw [List.length_map];omega)]
 ·have:i=n:=by omega
  subst this;refine qdc.2 ⟨λh=>absurd (of_decide_eq_true h) (show ¬ ((i:Int)<(i:Int)) by omega),λ_=>?_⟩;rw [qbp,qxi]
def qv8(sig:List (List Int))(off:Int):Int×Int :=
 if sig.length=0 then (0,10)else if 4<sig.length then (0,8)else match qbs (gC (n0 sig)) 0 sig with
  |some r=>r
  |none=>(0,if 0<=off/\off<=100000 then 0 else 2)
def qxv(sig meas:List (List Int)):Int:=if meas.length=sig.length then qbq (meas.map (eC (n0 sig)))else 10
structure Small (l:List (List Int)):Prop where
 len:l.length<=9
 row:∀r∈l,r.length<=62
theorem qBg{l:List (List Int)}(h:0<l.length):idx l 0=some (l.getD 0 [])/\((l.getD 0 []).length:Int)=n0 l:=by
 cases l with
 |nil=>simp at h
 |cons c l=>exact ⟨by simp [idx],by simp [n0]⟩
theorem qCm{l:List (List Int)}(hl:Small l){i:Nat}{r:List Int}(h:l[i]?=some r):qbU r=some (qtk r) :=
 qrN r (by have:=hl.row r (List.mem_of_getElem? h);unfold big;omega)
theorem qwX{n:Int}:∀{l:List (List Int)} {k:Nat} {r:Int×Int},qbs (gC n) k l=some r->r.2≠0
 |[],k,r,h=>by simp [qbs]at h
 |c::l,k,r,h=>by
  simp only [qbs]at h;unfold gC at h;split at h
  ·rename_i r' hr;cases h;split at hr
   ·cases hr
   ·rename_i e;cases hr;exact e
  ·exact qwX h
theorem qwM{sig:List (List Int)}(hs:Small sig)(h1:0<sig.length) :
  (qaD (λ(s5:Int) =>
     bif decide (s5<(sig.length:Int))then
      (idx sig s5).bind λx6 =>
      (qbU x6).bind λx7 =>
      (idx sig 0).bind λx8 =>
      (qI (decide ((x6.length:Int)=(x8.length:Int))) (13:Int)).bind λx9 =>
      (qad ([x7,x9])).bind λx10 =>
      bif !(decide (x10=0))then
       some (.inr (.inr (s5,x10)))
      else
       some (.inl (w64 (s5+1)))
     else
      some (.inr (.inl ()))) 0)=some (qgW (qbs (gC (n0 sig)) 0 sig)):=by
 obtain ⟨e0,e1⟩:=qBg h1;refine qhF sig _ (gC (n0 sig)) λi r hi=>?_;have hlt:=qfE hi;have hl9:=hs.len;rw [qcC hi,qa,qCm hs hi,qa,e0,qa,e1,qcL,qa,qfa (by simp),qa];simp only [qbq,gC,eC,decide_eq_true_eq,wid (n:=(i:Int)+1) (by omega) (by omega)];by_cases h3:qtk r=0
 ·by_cases h4:(r.length:Int)=n0 sig<;>simp [h3,h4,stp]
 ·simp [h3,stp]
theorem qyI(off:Int):qbV off 0 100000=some (decide (0<=off/\off<=100000)):=qnN off 0 100000
theorem qfW{sig:List (List Int)}{off:Int}(hs:Small sig):qbB (sig,off,())=some (qv8 sig off):=by
 unfold qbB qv8;dsimp only;rw [qcL,qa,qcL,qa,qfa (by simp),qa];by_cases h1:0<sig.length
 ·have h1':¬ sig.length=0:=by omega
  have d1:decide ((sig.length:Int) > 0)=true:=decide_eq_true (by omega);by_cases h2:4<sig.length
  ·have d2:decide ((sig.length:Int)<=4)=false:=decide_eq_false (by omega);simp [qbq,d1,d2,h1',h2]
  ·have d2:decide ((sig.length:Int)<=4)=true:=decide_eq_true (by omega);have e:qbq [if decide ((sig.length:Int) > 0)=true then 0 else 10,if decide ((sig.length:Int)<=4)=true then 0 else 8]=0:=by rw [d1,d2];rfl
   rw [e,qwM hs h1,if_neg h1',if_neg h2];cases hf:qbs (gC (n0 sig)) 0 sig with
   |none =>
    simp only [qgW,qa,Sum.elim_inl,decide_true,Bool.not_true,cond_false];rw [qyI,qa,qcL];simp
   |some r =>
    have:=qwX hf;simp only [qgW,qa,Sum.elim_inr,decide_true,Bool.not_true,cond_false];rw [decide_eq_false this];rfl
 ·have h1':sig.length=0:=by omega
  have d1:decide ((sig.length:Int) > 0)=false:=decide_eq_false (by omega);simp [qbq,d1,h1']
theorem qd5{sig:List (List Int)}{off:Int}(hs:Small sig):qbZ (sig,off,())=some (qv8 sig off):=by
 unfold qbZ qv8;have hl9:=hs.len;dsimp only;simp only [qc3];by_cases h1:sig.length=0
 ·rw [if_pos (by omega),if_pos h1]
 ·rw [if_neg (by omega),if_neg h1];by_cases h2:4<sig.length
  ·rw [if_pos (by omega),if_pos h2]
  ·rw [if_neg (by omega),if_neg h2];obtain ⟨e0,e1⟩:=qBg (l:=sig) (by omega);rw [qdT sig (gC (n0 sig)) (λi r hi=>?_) (by rw [if_neg (by omega)])]
   ·cases hf:qbs (gC (n0 sig)) 0 sig with
    |none =>
     simp only [qgW,qa,Sum.elim_inl];rw [ql6,qa];by_cases h:0<=off/\off<=100000
     ·simp [h]
     ·simp [h]
    |some r=>rfl
   ·have hlt:=qfE hi;rw [if_pos (by omega),qcC hi,qa,qqC,qa];simp only [gC,eC];by_cases h3:qtk r=0
    ·simp only [h3,decide_true,Bool.not_true,cond_false,qa,e0,e1,qef,if_true];rw [wid (n:=(i:Int)+1) (by omega) (by omega)];by_cases h4:(r.length:Int)=n0 sig<;>simp [h4,stp]
    ·simp [h3,stp]
theorem qig{sig:List (List Int)}{off:Int}{meas:List (List Int)}(h1:0<sig.length)(hm:Small meas):qa2 (sig,off,()) meas=some (qxv sig meas):=by
 unfold qa2 qxv;have hl9:=hm.len;dsimp only;rw [qef];split
 ·rename_i h;rw [if_pos (by omega)];obtain ⟨e0,e1⟩:=qBg h1;rw [qhF meas _ (λi c=>if eC (n0 sig) c=0 then none else some (eC (n0 sig) c)) (λi r hi=>?_),qfB,qf8]
  ·have:∀l:List (List Int),(l.findSome? λc=>if eC (n0 sig) c=0 then none else some (eC (n0 sig) c)).getD 0=qbq (l.map (eC (n0 sig))):=by
    intro l;induction l with
    |nil=>rfl
    |cons c l ih =>
     rw [List.findSome?_cons];by_cases hc:eC (n0 sig) c=0
     ·simp only [hc,if_true,qh,qbq];exact ih
     ·simp [hc,qbq]
   rw [<- this meas];cases meas.findSome? λc=>if eC (n0 sig) c=0 then none else some (eC (n0 sig) c)<;>rfl
  ·have hlt:=qfE hi;rw [qcC hi,qa,qqC,qa];simp only [eC];by_cases h3:qtk r=0
   ·simp only [h3,decide_true,Bool.not_true,cond_false,qa,e0,e1,qef,if_true];rw [wid (n:=(i:Int)+1) (by omega) (by omega)];by_cases h4:(r.length:Int)=n0 sig<;>simp [h4,stp]
   ·simp [h3,stp]
 ·rw [if_neg (by omega)]
def dE(sig:List (List Int))(off:Int)(meas:List (List Int)):Int:=if (qv8 sig off).2=0 then qxv sig meas else (qv8 sig off).2
theorem qjh{sig:List (List Int)}{off:Int}(h:(qv8 sig off).2=0):0<sig.length/\sig.length<=4/\(0<=off/\off<=100000)/\∀c∈sig,qtk c=0/\c.length=n0 sig:=by
 unfold qv8 at h;split at h
 ·cases h
 ·split at h
  ·cases h
  ·split at h
   ·rename_i r hr;exact absurd h (qwX hr)
   ·rename_i hn;refine ⟨by omega,by omega,?_,λc hc=>?_⟩
    ·simp only at h;split at h
     ·assumption
     ·cases h
    ·obtain ⟨i,hi⟩:=List.mem_iff_getElem?.1 hc;have:=qdr.1 hn i c hi;unfold gC at this;split at this
     ·rename_i e;unfold eC at e;split at e
      ·rename_i e1;split at e
       ·rename_i e2;exact ⟨e1,by omega⟩
       ·cases e
      ·rename_i e1;exact absurd e e1
     ·cases this
theorem qlj{sig:List (List Int)}{off:Int}{meas:List (List Int)}(hs:Small sig)(hm:Small meas):qb0 (sig,off,()) meas=some ((sig,off,meas,()),dE sig off meas):=by
 unfold qb0;have hl9:=hm.len;rw [qfW hs,qa,qcL,qa,qrY,qa,qnS meas 4 (n0 sig) (by unfold big;omega) (λc hc=>by have:=hm.row c hc;unfold big;omega),qa,qfa (by simp),qa];congr 2
 unfold dE;by_cases h:(qv8 sig off).2=0
 ·obtain ⟨h1,h2,_,_⟩:=qjh h;rw [if_pos h];unfold qxv;by_cases hl:meas.length=sig.length
  ·have d1:decide ((meas.length:Int)=(sig.length:Int))=true:=decide_eq_true (by omega);have d3:(sig.length:Int)<=4:=by omega
   rw [d1];simp only [qbq,h,if_true,hl,h1,d3];generalize qbq (meas.map (eC (n0 sig)))=z;by_cases hz:z=0<;>simp [hz]
  ·have d1:decide ((meas.length:Int)=(sig.length:Int))=false:=decide_eq_false (by omega);simp [qbq,h,d1,hl]
 ·rw [if_neg h];simp [qbq,h]
theorem qyG{sig:List (List Int)}{off:Int}{meas:List (List Int)}(h:dE sig off meas=0):Vld sig off meas:=by
 unfold dE at h;split at h
 ·rename_i h0;obtain ⟨h1,h2,h3,h4⟩:=qjh h0;unfold qxv at h;split at h
  ·rename_i hl;have h5:∀c∈meas,qtk c=0/\c.length=n0 sig:=λc hc=>by
    have:=qmp h (eC (n0 sig) c) (List.mem_map_of_mem hc);unfold eC at this;split at this
    ·rename_i e1;split at this
     ·rename_i e2;exact ⟨e1,by omega⟩
     ·cases this
    ·rename_i e1;exact absurd this e1
   have hw:n0 sig<=60:=by
    have hm:sig.getD 0 []∈sig:=qb6 h1;have h6:=(qni (h4 _ hm).1).2.1;rw [(h4 _ hm).2]at h6;exact h6
   exact {
       n1:=by omega
       n4:=h2
       len:=hl
       off0:=h3.1
       off1:=h3.2
       w:=hw
       ls:=λc hc=>(h4 _ (qb6 hc)).2
       lm:=λc hc=>(h5 _ (qb6 (by omega))).2
       vs:=λc hc k hk=>(qni (h4 _ (qb6 hc)).1).2.2 _ (qb6 (by rw [(h4 _ (qb6 hc)).2];exact hk))
       vm:=λc hc k hk=>(qni (h5 _ (qb6 (by omega))).1).2.2 _ (qb6 (by rw [(h5 _ (qb6 (by omega))).2];exact hk))}
  ·cases h
 ·rename_i h0;exact absurd h h0
theorem qk3{sig:List (List Int)}{off:Int}(hs:Small sig):qbA (sig,off,())=some (sig,off,()):=by
 unfold qbA;simp only
 rw [qgX (by have:=hs.len;omega) (λr hr=>by have:=hs.row r hr;omega)];rfl
abbrev Ff(sig:List (List Int))(off:Int)(meas:List (List Int)):Nat->Src->Bool:=λc s=>qfp sig off (meas.getD c []) s.1 s.2.1
def qyK(sig:List (List Int))(off:Int)(meas:List (List Int)):Sta:=(exts sig.length sig.length []).foldl (pick (Ff sig off meas)) none
def qwN(st:Sta):Xp:=match st with
 |none=>([],[],())
 |some b=>toX b.1
theorem qq0{l:List Src}(hl:l.length<=1000):qcQ l=some (toX l):=by
 unfold qcQ;refine Ok.eq ?_;rw [qiO];refine (qc8 l.length (λi (s:Int×List Int×List Bool)=>s=((i:Int),(toX (l.take i)).1,(toX (l.take i)).2.1)) (λr=>r=((toX l).1,(toX l).2.1)) rfl ?_).mono λr hr=>by rw [hr,qbP]
 rintro i s hi rfl;by_cases hlt:i<l.length
 ·refine qdc.2 ⟨λ_=>?_,λh=>absurd (show (i:Int)<(l.length:Int) by omega) (of_decide_eq_false h)⟩;have hg:l[i]?=some (l.getD i qfT):=qki qfT hlt;have h1:(toX (l.take i)).1.length<=1000:=by simp [toX]<;>omega
  have h2:(toX (l.take i)).2.1.length<=1000:=by simp [toX]<;>omega
  simp only
  rw [qcC hg,qa,qg1 (by omega),qa,qg1 (by omega),qa,qa9,wid (by omega) (by omega),qsb qfT hlt];refine ⟨hlt,?_⟩;simp [toX]
 ·have:i=l.length:=by omega
  subst this;refine qdc.2 ⟨λh=>absurd (of_decide_eq_true h) (show ¬ ((l.length:Int)<(l.length:Int)) by omega),λ_=>?_⟩;rw [qbp,List.take_length]
theorem qwt{sig:List (List Int)}{off:Int}{meas:List (List Int)}:qv6 sig.length (qyK sig off meas) :=
 qp5 _ _ (λb h=>by cases h) λp hp=>by obtain ⟨m,rfl,hm⟩:=qf7 hp;simpa using hm
theorem qlq{sig:List (List Int)}{off:Int}{meas:List (List Int)}(hs:Small sig)(hm:Small meas):qbv (sig,off,()) meas=some (if dE sig off meas≠0 then (([],[],()),0,dE sig off meas)else match qyK sig off meas with
  |none=>(([],[],()),0,12)
  |some b=>(toX b.1,b.2,0)):=by
 unfold qbv;rw [qlj hs hm,qa];simp only
 rw [qef];by_cases h:dE sig off meas=0
 ·rw [if_pos h,if_neg (by simp [h])];have v:=qyG h;have ht:=qAJ v sig.length 12 [] none (by simp) (by have:=v.n4;omega) (by simp) rfl (λb h=>by cases h);have:qe3 (sig,off,meas,[],0) [] 0=some (enc sig off meas (qyK sig off meas)):=ht;rw [this,qa];have hb:=qwt (sig:=sig) (off:=off) (meas:=meas);cases hbest:qyK sig off meas with
  |none=>rfl
  |some b =>
   rw [hbest]at hb;obtain ⟨h1,h2⟩:=hb b rfl;have hn1:=v.n1;have hn4:=v.n4;have e1:(enc sig off meas (some b)).2.2.2.1=b.1:=rfl;have e2:(enc sig off meas (some b)).2.2.2.2=b.2:=rfl;rw [e1,e2];cases hbl:b.1 with
   |nil=>rw [hbl]at h1;simp at h1;omega
   |cons a l =>
    simp only [List.isEmpty_cons,cond_false,nel,qa];rw [qq0 (by rw [<- hbl];omega),hbl];rfl
 ·rw [if_neg h,if_pos h]
theorem qt4{n:Nat}:∀{k:Nat} {p q:List Src},q∈exts n k p->(∀s∈p,-1<=s.1/\s.1<(n:Int))->∀s∈q,-1<=s.1/\s.1<(n:Int)
 |0,p,q,h,hp=>by simp only [exts,List.mem_singleton]at h;subst h;exact hp
 |k+1,p,q,h,hp=>by
  simp only [exts,List.mem_flatMap,kids,List.mem_map]at h;obtain ⟨r,⟨s,hs,rfl⟩,h⟩:=h;refine qt4 h λs' hs'=>?_;rcases qj.1 hs' with h1|h1
  ·exact hp s' h1
  ·simp only [List.mem_singleton]at h1;subst h1;rcases qBi (List.mem_filter.1 hs).1 with h2|h2<;>omega
theorem qnQ{sig:List (List Int)}{off:Int}{meas:List (List Int)}(v:Vld sig off meas):qct (sig,off,()) meas=some (qwN (qyK sig off meas),(qyK sig off meas).isSome):=by
 unfold qct;have hn4:=v.n4;have hml:=v.len;have hA:=qBL (n:=sig.length) hn4;rw [hml,hA,qa];have hlen:((exts sig.length sig.length []).map toX).length=(exts sig.length sig.length []).length:=List.length_map ..;have hsz:(exts sig.length sig.length []).length<=6561:=by rw [<- qxi];exact qrp hn4 hn4
 refine Ok.eq ?_;rw [qiO];refine (qc8 (exts sig.length sig.length []).length (λi (s:Bool×Int×List Int×List Bool)=>s=((((exts sig.length sig.length []).take i).foldl (pick (Ff sig off meas)) none).isSome,(i:Int),(qwN (((exts sig.length sig.length []).take i).foldl (pick (Ff sig off meas)) none)).1,(qwN (((exts sig.length sig.length []).take i).foldl (pick (Ff sig off meas)) none)).2.1))
  (λr=>r=((qyK sig off meas).isSome,(qwN (qyK sig off meas)).1,(qwN (qyK sig off meas)).2.1)) rfl ?_).mono λr hr=>by rw [hr,qbP]
 rintro i s hi rfl;by_cases hlt:i<(exts sig.length sig.length []).length
 ·refine qdc.2 ⟨λ_=>?_,λh=>absurd (show (i:Int)<(((exts sig.length sig.length []).map toX).length:Int) by omega) (of_decide_eq_false h)⟩;obtain ⟨p,hp⟩:∃p,(exts sig.length sig.length [])[i]?=some p:=⟨_,List.getElem?_eq_getElem hlt⟩
  have hpm:=List.mem_of_getElem? hp;have hpl:p.length=sig.length:=by obtain ⟨m,rfl,hm⟩:=qf7 hpm;simpa using hm
  have hps:=qt4 hpm (by simp);have hx:idx ((exts sig.length sig.length []).map toX) (i:Int)=some (toX p):=qcC (by rw [List.getElem?_map,hp];rfl);have htk:(exts sig.length sig.length []).take (i+1)=(exts sig.length sig.length []).take i++[p]:=by rw [List.take_add_one,hp];rfl
  have hst:qv6 sig.length (((exts sig.length sig.length []).take i).foldl (pick (Ff sig off meas)) none):=qp5 _ _ (λb h=>by cases h) λq hq=>by
   obtain ⟨m,rfl,hm⟩:=qf7 (List.mem_of_mem_take hq);simpa using hm
  rw [htk,List.foldl_append,List.foldl_cons,List.foldl_nil];generalize ((exts sig.length sig.length []).take i).foldl (pick (Ff sig off meas)) none=st at hst ⊢;have hH:qcV (sig,off,()) meas (toX p)=some (qdQ (Ff sig off meas) 0 p):=qtS v hpl λj hj=>hps _ (qb6 hj);have hC:qbe (toX p)=some (qa4 0 p):=qpc (by omega);simp only [hx,qa,hH,hC];have key:((bif !st.isSome then some (qdQ (Ff sig off meas) 0 p)else (qbe ((qwN st).1,(qwN st).2.1,())).bind λx8=>bif decide (qa4 0 p<x8)then some (qdQ (Ff sig off meas) 0 p)else some false):Option Bool)=some (qdQ (Ff sig off meas) 0 p&&better st (qa4 0 p)):=by
   cases st with
   |none=>simp [better]
   |some b =>
    obtain ⟨h1,h2⟩:=hst b rfl;have hCb:qbe ((qwN (some b)).1,(qwN (some b)).2.1,())=some (qa4 0 b.1):=qpc (p:=b.1) (by omega);simp only [Option.isSome_some,Bool.not_true,cond_false,hCb,qa,better,h2];by_cases hc:qa4 0 p<qa4 0 b.1
    ·simp [hc]
    ·simp [hc]
  rw [key,qa];unfold pick;by_cases hh:qdQ (Ff sig off meas) 0 p=true/\better st (qa4 0 p)=true
  ·rw [if_pos hh,hh.1,hh.2];simp only [Bool.and_self,cond_true,qa];rw [qa9,wid (by omega) (by omega)];exact ⟨hlt,rfl⟩
  ·rw [if_neg hh];have:(qdQ (Ff sig off meas) 0 p&&better st (qa4 0 p))=false:=by
    cases h:(qdQ (Ff sig off meas) 0 p&&better st (qa4 0 p))with
    |false=>rfl
    |true=>exact absurd (by simpa using h) hh
   rw [this];simp only [cond_false,qa];rw [qa9,wid (by omega) (by omega)];exact ⟨hlt,rfl⟩
 ·have:i=(exts sig.length sig.length []).length:=by omega
  subst this;refine qdc.2 ⟨λh=>absurd (of_decide_eq_true h) (show ¬ (((exts sig.length sig.length []).length:Int)<(((exts sig.length sig.length []).map toX).length:Int)) by omega),λ_=>?_⟩;rw [qbp,List.take_length];rfl
theorem qAO{l m:List Int}(hl:l.length<=1000000000):qjf l m=some (decide (l=m)):=by
 unfold qjf;by_cases h:l.length=m.length
 ·have e:decide ((l.length:Int)=(m.length:Int))=true:=by simp [h]
  simp only [e,Bool.not_true,cond_false];refine qre 0 h hl (λa b=>decide (a=b)) (by simp) λi hi=>?_;rw [qg8 (by omega) (by omega),qg8 (by omega) (by omega)];simp only [qa,Int.toNat_natCast];by_cases c:l.getD i 0=m.getD i 0
  ·simp only [c,decide_true,Bool.not_true,cond_false,if_true];rw [wid (by omega) (by omega)]
  ·simp only [c,decide_false,Bool.not_false,cond_true,qf,if_false]
 ·have e:decide ((l.length:Int)=(m.length:Int))=false:=by simp<;>omega
  have:l≠m:=λe=>h (by rw [e]);simp [e,this]
theorem qsr{x y:Xp}(h1:x.1.length<=1000000000)(h2:x.2.1.length<=1000000000):qab x y=some (decide (x=y)):=by
 unfold qab;rw [qAO h1,qa];obtain ⟨a,b,u⟩:=x;obtain ⟨c,d,u'⟩:=y;simp only at h1 h2 ⊢;by_cases e1:a=c
 ·subst e1;by_cases h:b.length=d.length
  ·have e:decide ((b.length:Int)=(d.length:Int))=true:=by simp [h]
   simp only [decide_true,Bool.not_true,cond_false,qa,e];have hd:decide ((a,b,u)=(a,d,u'))=decide (b=d):=by
    by_cases hb:b=d
    ·subst hb;simp
    ·simp [hb]
   rw [hd];refine qre false h h2 (λa b=>a==b) (by simp) λi hi=>?_;rw [qos false (by omega) (by omega),qos false (by omega) (by omega)];simp only [qa,Int.toNat_natCast];cases hq:(b.getD i false==d.getD i false)
   ·simp only [Bool.not_false,cond_true,qf,if_false]
   ·simp only [Bool.not_true,cond_false,if_true];rw [wid (by omega) (by omega)]
  ·have e:decide ((b.length:Int)=(d.length:Int))=false:=by simp<;>omega
   have:b≠d:=λe=>h (by rw [e]);simp [e,this]
 ·simp [e1]
theorem quK(x:Xp)(m:Nat):(qn6 x m).length=m:=qs4 _ _
theorem qAb{x:Xp}{n:Nat}(h1:x.1.length=n)(h2:x.2.1.length=n):toX (qn6 x n)=x:=by
 obtain ⟨a,b,u⟩:=x;simp only at h1 h2;unfold toX qn6;rw [qxq,qxq];have e1:=qlT a 0;have e2:=qlT b false;rw [h1]at e1;rw [h2]at e2;show (mkL n (λj=>a.getD j 0),mkL n (λj=>b.getD j false),())=(a,b,u);rw [<- e1,<- e2]
theorem qmj{x:Xp}{n:Int}{i:Nat}(h:qcl x n i=0) : -1<=sc x i/\sc x i<n:=by
 unfold qcl at h;split at h
 ·omega
 ·cases h
theorem qwZ{x:Xp}{n i:Nat}(h:i<n):(qn6 x n).getD i qfT=(sc x i,rv x i,()):=qzq _ _ h
def qsp(y:Xp)(n:Nat)(e:Int):Prop:=(¬ (y.1.length=n/\y.2.1.length=n)/\e=10)\/((y.1.length=n/\y.2.1.length=n)/\qk4 (qcl y n) n e)
theorem qsp.zero{y:Xp}{n:Nat}(h:qsp y n 0):(y.1.length=n/\y.2.1.length=n)/\∀j,j<n->qcl y n j=0:=by
 rcases h with ⟨_,h⟩|⟨h1,h2|⟨i,_,h3,h4,_⟩⟩
 ·cases h
 ·exact ⟨h1,h2.2⟩
 ·exact absurd h3.symm h4
theorem qsp.same{y:Xp}{n:Nat}{e e':Int}(h:qsp y n e)(h':qsp y n e'):e=e':=by
 rcases h with ⟨h1,h2⟩|⟨h1,h2⟩<;>rcases h' with ⟨h3,h4⟩|⟨h3,h4⟩
 ·rw [h2,h4]
 ·exact absurd h3 h1
 ·exact absurd h1 h3
 ·exact h2.same h4
theorem quV{y:Xp}{n:Nat}(hn:n<=1000000):∃e,qam y (n:Int)=some e/\qsp y n e:=by
 by_cases h:y.1.length=n/\y.2.1.length=n
 ·obtain ⟨e,h1,h2⟩:=qkf h.1 h.2 hn;exact ⟨e,h1,.inr ⟨h,h2⟩⟩
 ·exact ⟨10,qke h,.inl ⟨h,rfl⟩⟩
theorem qz1{sig:List (List Int)}{off:Int}{meas:List (List Int)}(v:Vld sig off meas){p:List Src}(hp:p.length=sig.length)(hs:∀s∈p,-1<=s.1/\s.1<(sig.length:Int)) :
  ((qaD (λ(s4:(Int×Int)) =>
     bif decide (s4.2<(p.length:Int))then
      (idx p s4.2).bind λx5 =>
      (qX (sig,off,meas,()) s4.2 x5).bind λx6 =>
      bif !x6 then
       some (.inr (.inr (0,19)))
      else
       (qL x5 s4.2).bind λx7 =>
       some (.inl (w64 (s4.1+x7),w64 (s4.2+1)))
     else
      some (.inr (.inl s4.1))) (0,0)).bind (Sum.elim (λ(p8:Int) =>
   some (p8,0)) some):Option (Int×Int))=some (if qdQ (Ff sig off meas) 0 p=true then (qa4 0 p,0)else (0,19)):=by
 have hn4:=v.n4;refine Ok.eq (qmZ.2 ?_);refine (qc8 p.length (λi (s:Int×Int)=>s=(qa4 0 (p.take i),(i:Int))/\∀j,j<i->Ff sig off meas j (p.getD j qfT)=true)
  (λr=>(r=.inl (qa4 0 p)/\∀j,j<p.length->Ff sig off meas j (p.getD j qfT)=true)\/(r=.inr (0,19)/\∃j,j<p.length/\Ff sig off meas j (p.getD j qfT)=false)) ⟨rfl,λj hj=>by omega⟩ ?_).mono ?_
 ·rintro i s hi ⟨rfl,hI⟩;by_cases hlt:i<p.length
  ·refine qdc.2 ⟨λ_=>?_,λh=>absurd (show (i:Int)<(p.length:Int) by omega) (of_decide_eq_false h)⟩;have hg:p[i]?=some (p.getD i qfT):=qki qfT hlt;have hr:=hs _ (qb6 (d:=qfT) hlt);have hc:=qoe hlt;have hb1:=qhB (p.take i) 0;have hb2:(p.take i).length<=4:=by rw [List.length_take];omega
   have hb3:=qpq (p.getD i qfT).1 (p.getD i qfT).2.1 (i:Int);simp only
   rw [qcC hg,qa];have hf:=qwT v (c:=i) (by omega) (s:=(p.getD i qfT).1) (r:=(p.getD i qfT).2.1) hr.1 hr.2;have hco:=qwF (p.getD i qfT).1 (p.getD i qfT).2.1 (i:Int);have eta:((p.getD i qfT).1,(p.getD i qfT).2.1,())=p.getD i qfT:=rfl;rw [eta]at hf hco;rw [hf,qa];cases hF:qfp sig off (meas.getD i []) (p.getD i qfT).1 (p.getD i qfT).2.1 with
   |false =>
    simp only [Bool.not_false,cond_true];rw [qbp];exact .inr ⟨rfl,i,hlt,hF⟩
   |true =>
    simp only [Bool.not_true,cond_false];rw [hco,qa,qa9,wid (by omega) (by omega),wid (by omega) (by omega),<- hc];refine ⟨hlt,rfl,λj hj=>?_⟩;by_cases hji:j<i
    ·exact hI j hji
    ·have:j=i:=by omega
     subst this;exact hF
  ·have:i=p.length:=by omega
   subst this;refine qdc.2 ⟨λh=>absurd (of_decide_eq_true h) (show ¬ ((p.length:Int)<(p.length:Int)) by omega),λ_=>?_⟩;rw [qbp,List.take_length];exact .inl ⟨rfl,hI⟩
 ·rintro r (⟨rfl,h⟩|⟨rfl,j,hj,h⟩)
  ·simp only [qbP];rw [if_pos];rw [qjt];exact List.all_eq_true.2 λi hi=>by rw [Nat.zero_add];exact h i (List.mem_range.1 hi)
  ·simp only
   rw [if_neg];rw [qjt];intro hall;have:=List.all_eq_true.1 hall j (List.mem_range.2 hj);rw [Nat.zero_add,h]at this;cases this
theorem qit{sig:List (List Int)}{off:Int}{meas:List (List Int)}(hs:Small sig)(hm:Small meas)(y:Xp):∃q,qaX (sig,off,()) meas y=some q/\(dE sig off meas≠0->q=(0,dE sig off meas)) /\
  (dE sig off meas=0->∃e,qsp y sig.length e/\(e≠0->q=(0,e))/\(e=0->q=if qdQ (Ff sig off meas) 0 (qn6 y sig.length)=true then (qa4 0 (qn6 y sig.length),0)else (0,19))):=by
 unfold qaX;rw [qlj hs hm,qa];dsimp only;rw [qef];by_cases h:dE sig off meas=0
 ·rw [if_pos h];have v:=qyG h;have hn4:=v.n4;have hlen:=v.len;rw [hlen];by_cases hl:y.1.length=sig.length/\y.2.1.length=sig.length
  ·obtain ⟨o,e,h1,h2,h3⟩:=qr9 hl.1 hl.2 (by omega);rw [h1,qa];dsimp only;rw [qef];by_cases he:e=0
   ·rw [if_pos he,h3 he];subst he;have hz:∀j,j<sig.length->qcl y sig.length j=0:=by
     rcases h2 with h2|⟨i,_,h4,h5,_⟩
     ·exact h2.2
     ·exact absurd h4.symm h5
    rw [qz1 v (quK _ _) (λs hs'=>by
     obtain ⟨j,hj,rfl⟩:=qBf hs';exact qmj (hz j hj))]
    exact ⟨_,rfl,λh'=>absurd h h',λ_=>⟨0,.inr ⟨hl,h2⟩,λh'=>absurd rfl h',λ_=>rfl⟩⟩
   ·rw [if_neg he];exact ⟨_,rfl,λh'=>absurd h h',λ_=>⟨e,.inr ⟨hl,h2⟩,λ_=>rfl,λh'=>absurd h' he⟩⟩
  ·rw [qr8 hl,qa];exact ⟨_,rfl,λh'=>absurd h h',λ_=>⟨10,.inl ⟨hl,rfl⟩,λ_=>rfl,λh'=>by cases h'⟩⟩
 ·rw [if_neg h];exact ⟨_,rfl,λ_=>rfl,λh'=>absurd h' h⟩
theorem qyA{sig:List (List Int)}{off:Int}{meas:List (List Int)}(h1:sig.length<=big)(h2:meas.length<=big):∃b,qfd (sig,off,()) meas=some b/\(b=true->Small sig/\Small meas):=by
 unfold qfd;dsimp only;rw [qmd sig h1,qa];by_cases hs:(∀c∈sig,c.length<=62)/\sig.length<=9
 ·rw [decide_eq_true hs,cond_true,qmd meas h2,qa];by_cases hm:(∀c∈meas,c.length<=62)/\meas.length<=9
  ·rw [decide_eq_true hm,cond_true];have S1:Small sig:=⟨hs.2,hs.1⟩
   have S2:Small meas:=⟨hm.2,hm.1⟩
   have key:∀o:Option Bool,(∃b,o=some b)->∃b,(o.bind λp5=>some p5)=some b/\(b=true->Small sig/\Small meas):=λo ⟨b,hb⟩=>⟨b,by rw [hb];rfl,λ_=>⟨S1,S2⟩⟩
   apply key;simp only [qc3];split
   ·split
    ·exact ⟨_,rfl⟩
    ·unfold qfx;rw [qd5 S1,qa,qa];by_cases hz:(qv8 sig off).2=0
     ·rw [decide_eq_true hz];simp only [Bool.not_true,cond_false];rw [qig (qjh hz).1 S2];exact ⟨_,rfl⟩
     ·rw [decide_eq_false hz];exact ⟨_,rfl⟩
   ·exact ⟨_,rfl⟩
  ·rw [decide_eq_false hm];exact ⟨_,rfl,λh=>by cases h⟩
 ·rw [decide_eq_false hs];exact ⟨_,rfl,λh=>by cases h⟩
theorem ql5{y:Xp}(h1:y.1.length<=1000)(h2:y.2.1.length<=1000):qaN y=some y:=qi9 (by omega) (by omega)
theorem qg0(sig:List (List Int))(off:Int)(meas:List (List Int))(y:Xp)(h1:sig.length<=big)(h2:meas.length<=big):qbx (sig,off,()) meas y=some true:=by
 unfold qbx;have haw:qiK=some true:=rfl;rw [haw];simp only [qa,Bool.not_true,cond_false];obtain ⟨b,hb,hS⟩:=qyA (off:=off) h1 h2;rw [hb,qa];cases b with
 |false=>rfl
 |true =>
  obtain ⟨S1,S2⟩:=hS rfl;simp only [Bool.not_true,cond_false,qc3];by_cases y1:(y.1.length:Int) > 6
  ·rw [if_pos y1];rfl
  rw [if_neg y1,qa];by_cases y2:(y.2.1.length:Int) > 6
  ·rw [decide_eq_true y2];rfl
  rw [decide_eq_false y2];simp only [cond_false];obtain ⟨q,hq,hq1,hq2⟩:=qit (off:=off) S1 S2 y;have hE:=qlq (off:=off) S1 S2;have hd:((if (qv8 sig off).2=0 then (qa2 (sig,off,()) meas).bind λx15=>some x15 else some (qv8 sig off).2):Option Int)=some (dE sig off meas):=by
   unfold dE;split
   ·rename_i h;rw [qig (qjh h).1 S2];rfl
   ·rfl
  by_cases h0:dE sig off meas=0
  ·rw [if_neg (λh=>h h0)]at hE;have v:=qyG h0;have hn1:=v.n1;have hn4:=v.n4;obtain ⟨e,he1,he2,he3⟩:=hq2 h0;obtain ⟨e',hx1,hx2⟩:=quV (y:=y) (n:=sig.length) (by omega);have:=he1.same hx2;subst this;rw [qk3 S1,qa,qfW S1,qa,qa,qgX (by have:=S2.len;omega) (λr hr=>by have:=S2.row r hr;omega),qa,hE,qa,qa,qa,ql5 (by omega) (by omega),qa,hq,qa,qd5 S1,qa];simp only [decide_true,Bool.not_true,cond_false,qa];rw [hd,qa,h0];simp only [decide_true,Bool.not_true,cond_false];rw [qnQ v,qa,v.len,hx1];have hfirst:∀{o:Option Bool} {k:Bool->Option Bool},o=some false->k false=some true->o.bind k=some true:=λh h'=>by rw [h];exact h'
   refine hfirst ?_ ?_
   ·cases hbest:qyK sig off meas with
    |none =>
     simp only [Option.isSome_none,Bool.not_false,cond_true,decide_true,Bool.not_true,cond_false];rw [qsr (by simp) (by simp),qa];simp
    |some b =>
     have hb2:=(qwt (sig:=sig) (off:=off) (meas:=meas)) b hbest;have hc:qbe (qwN (some b))=some b.2:=by rw [hb2.2];exact qpc (by omega)
     simp only [Option.isSome_some,Bool.not_true,cond_false,decide_true,cond_true];rw [hc,qa];simp only [decide_true,Bool.not_true,cond_false];have l1:(toX b.1).1.length<=1000000000:=by simp [toX]<;>omega
     have l2:(toX b.1).2.1.length<=1000000000:=by simp [toX]<;>omega
     rw [qsr l1 l2,qa];simp [qwN]
   ·simp only [cond_false,qa];by_cases hez:e=0
    ·have hq3:=he3 hez;subst hez;obtain ⟨hl,hz⟩:=he1.zero;have hp:(qn6 y sig.length).length=sig.length:=quK _ _;have hrange:∀i,i<(qn6 y sig.length).length -> -1<=((qn6 y sig.length).getD i qfT).1/\((qn6 y sig.length).getD i qfT).1<sig.length:=λi hi=>by
      rw [qwZ (by omega)];exact qmj (hz i (by omega))
     have hH:=qtS v hp hrange;have hC:=qpc (p:=qn6 y sig.length) (by omega);rw [qAb hl.1 hl.2]at hH hC;simp only [if_true,hH,qa];have hF:(qdQ (λc s=>qfp sig off (meas.getD c []) s.1 s.2.1) 0 (qn6 y sig.length))=qdQ (Ff sig off meas) 0 (qn6 y sig.length):=rfl;rw [hF];cases hh:qdQ (Ff sig off meas) 0 (qn6 y sig.length)with
     |false =>
      rw [hh]at hq3;simp only [qf,if_false]at hq3;subst hq3;rfl
     |true =>
      rw [hh]at hq3;simp only [if_true]at hq3;subst hq3;simp only [Bool.not_true,cond_false,qa,decide_true,hC,cond_true,if_true]
    ·have hq3:=he2 hez;subst hq3;simp [hez]
  ·rw [if_pos h0]at hE;have hq3:=hq1 h0;subst hq3;rw [qk3 S1,qa,qfW S1,qa,qa,qgX (by have:=S2.len;omega) (λr hr=>by have:=S2.row r hr;omega),qa,hE,qa,qa,qa,ql5 (by omega) (by omega),qa,hq,qa,qd5 S1,qa];simp only [decide_true,Bool.not_true,cond_false,qa];rw [hd,qa,decide_eq_false h0];simp only [Bool.not_false,cond_true,decide_true];rw [qsr (by simp) (by simp)];simp
theorem qd4:∀x:denP ([Ty.pair (.sl (.sl I)) (.pair I .unit),.sl (.sl I),.pair (.sl I) (.pair (.sl .bool) .unit)].map .ty),qBN maxLen [.pair (.sl (.sl I)) (.pair I .unit),.sl (.sl I),.pair (.sl I) (.pair (.sl .bool) .unit)] x->qQ.F x=some true:=by
 rintro ⟨⟨sig,off,u⟩,meas,y⟩ ⟨⟨h0,_⟩,⟨h1,_⟩,_⟩;exact qg0 sig off meas y (Nat.le_trans h0.1 (by decide)) (Nat.le_trans h1 (by decide))
end Go.Proofs.Ytofjnhppalciiaa
end
section
namespace Go.Proofs.Ytofjnhppalciiaa.sensorExplanations
open Go Go.Ab Go.Tx Go.ChangeShapes Go.WideShapes Go.ChangeAt Go.RowKit
theorem hlib:∀g h args r,Lb g=some h->h args=some r->qaY Try.prog g args [] r []:=λg h args r hg hr=>by
 unfold Lb at hg;split at hg
 ·rename_i e;subst e;cases hg;cases args with
  |nil=>cases hr;exact qyP
  |cons a l=>cases hr
 ·cases hg
set_option maxRecDepth 100000 in
theorem contract(H:Type)(enc:TypeId×Value->H)(W:World)(base:Nat)(args:Array Value)(ds gs:List (DataW H))(before:List MemPlace)
  (hval:∀(j:Nat) t v,Try.f3.params[j]?=some t->args[j]?=some v->Value.okWide Try.prog W .any base t v)
  (hW:DataW.Whole enc Try.prog Try.f3.params.toList Rows.sensorExplanationsSpec.vars false W args.toList ds gs before) :
  Calls Try.prog 3 args W λe W'=>∃v,e=.returned v/\Rows.sensorExplanationsSpec.post enc Try.prog Try.f3 false true false false W args v W' :=
 qro (τs:=[(.pair (.sl (.sl I)) (.pair I .unit)),(.sl (.sl I)),(.pair (.sl I) (.pair (.sl .bool) .unit))]) (ts:=[24,22,28]) (tb:=4) (F:=qQ.F) follows qco hlib qzh Try.func3 (by kernel_rfl) (by kernel_rfl) (by kernel_rfl) (by kernel_rfl) (by kernel_rfl) (by kernel_rfl) Try.underlying4 qe0 qd4 rfl
  (λH ds h=>by
   match ds,h with
   |[d1,d2,d3],_=>rfl) H enc W base args ds gs before hval hW
set_option maxRecDepth 100000 in
theorem lifted(os:Os)(started:os.Started)(H:Type)(enc:TypeId×Value->H) :
  ReturnsInHanded {} Try.checked os 3 .any (Rows.sensorExplanationsSpec.pre6 enc Try.prog Try.f3 Rows.sensorExplanationsRow.domain false) (Rows.sensorExplanationsSpec.post enc Try.prog Try.f3 false true false false):=by
 refine returnsInHanded_of_change (C:=Try.checked) own started (by kernel_rfl) Try.func3
  (ChangeSpec.witness6 (enc:=enc) (C:=Try.checked) false ⟨#[],#[.agg #[.slice none 0 0,.int .i64 0],.slice none 0 0,.agg #[.slice none 0 0,.slice none 0 0]],[]⟩ 8 (by kernel_rfl) (by kernel_rfl) (by kernel_rfl) (by kernel_rfl)) ?_
 intro W base args ds gs before hval hW _ _;exact contract H enc W base args ds gs before hval hW
theorem proved:Rows.SensorExplanationsSaid :=
 OpenClaim.holds_of_wide 3 Try.f3 rfl rfl rfl rfl rfl rfl rfl ⟨rfl,rfl,rfl,rfl,rfl⟩ rfl rfl rfl rfl rfl (by kernel_rfl) Try.func3 (by kernel_rfl)
  (of_decide_eq_true (by kernel_rfl)) (by unfold Func.isWrapper;first|(rw [if_pos (by decide +kernel)];kernel_rfl)|(rw [if_neg (by decide +kernel)];exact ⟨rfl,rfl⟩))
  (λos started H enc _=>lifted os started H enc)
end Go.Proofs.Ytofjnhppalciiaa.sensorExplanations
end
