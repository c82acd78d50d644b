/-
  ONE LAW OF A CHAPTER: its program side is run by an interpreter that is proved sound; what it computes is shown to be what the law says. No conditions. Part 8 of 8.
-/
import Derived.Test.YtofjnhppalciiaaMfg
import Derived.Test.YtofjnhppalciiaaRows
import Derived.WalkKit
import Derived.Test.YtofjnhppalciiaaProg
import Derived.KernelRfl
set_option linter.unusedSimpArgs false
set_option linter.unusedVariables false
set_option linter.unnecessarySimpa false
section
namespace Go.Tx
open Go Go.Ab Go.RowKit Go.ChangeShapes Go.WideShapes Go.Deep
section
variable {H:Type} {enc:TypeId × Value->H} {P:Program}
theorem qpS{f:Func}{s:ChangeSpec}{apart fresh handsOn again:Bool}{W W':World}{args:Array Value}{v:Value}{ds gs:List (DataW H)}{before pa pv:List MemPlace}
  (hW:DataW.Whole enc P f.params.toList s.vars apart W args.toList ds gs before)
  (hres:∀(b:Nat) (sp:Nat->Bool) (hd:Bool),DataW.TrodAll enc P W' b sp hd f.resultTypes.toList (v.resultList f.resultTypes.size) (s.fn H (ds++gs)).results [])
  (hargs:∀sp:Nat->Bool,(∀p∈before,sp p.block=true)->DataW.TrodAll enc P W' 0 sp true f.params.toList args.toList (s.fn H (ds++gs)).args pa)
  (hvars:∀sp:Nat->Bool,(∀p∈before,sp p.block=true)->DataW.TrodVars enc P W' sp s.vars (s.fn H (ds++gs)).vars pv)
  (hps:before=pa++pv) (hb:Below W.heap.size W W')
  (hok:∀(j:Nat) (t:TypeId) (r:Value),f.resultTypes[j]?=some t->(v.resultList f.resultTypes.size)[j]?=some r->Value.okWide P W' .any 0 t r) :
  s.post enc P f apart fresh handsOn again W args v W':=by
 have hlt:∀p∈before,p.block<W.heap.size:=λp hp=>hW.lt p hp;have hold:∀p∈before,(λb=>decide (b<W.heap.size)) p.block=true:=λp hp=>by simpa using hlt p hp
 refine ⟨ds,gs,before,[],pa,pv,hW,hres _ _ _,hargs _ hold,hvars _ hold,World.keptBut_mono (λp hp=>⟨hp,?_⟩) (hb.frame (·∈before)),λ_=>?_⟩
 ·rw [hps,qj]at hp;exact Or.inr hp
 ·obtain ⟨_,_,_,_,_,hz,hn⟩:=hW;refine ⟨hok,_,_,([]++pa)++pv,⟨[]++pa,pv,trodAll_append (hargs _ (λ_ _=>rfl)) (hres _ _ _),hvars _ (λ_ _=>rfl),rfl,?_,?_⟩,?_⟩
  ·intro b off hp;have hin:MemPlace.cell b off∈before:=by rw [hps];simpa using hp
   rw [hb.frozen (hlt _ hin)];exact hz b off hin
  ·intro ha;have:=hn ha;rw [hps]at this;simpa using this
  ·intro p hp _;rw [hps];simpa using hp
theorem qnw:∀{ts:List TypeId} {vs:List Value} {ds:List (DataW H)} {ps:List MemPlace} {w:World} {b:Nat} {sp:Nat->Bool} {hd:Bool},DataW.TrodAll enc P w b sp hd ts vs ds ps->ds.length=ts.length
 |[],[],[],_,_,_,_,_,_=>rfl
 |[],[],d::ds,_,_,_,_,_,h=>h.elim
 |[],v::vs,_,_,_,_,_,_,h=>by cases h
 |t::ts,[],_,_,_,_,_,_,h=>by cases h
 |t::ts,v::vs,[],_,_,_,_,_,h=>by cases h
 |t::ts,v::vs,d::ds,ps,w,b,sp,hd,⟨p,q,h1,h2,e⟩=>by simp [qnw h2]
end
theorem qCD{H:Type}:Sm (H:=H) maxLen (λ_=>True) where
 slice:=λes sp _ h=>⟨h,λ_ _=>trivial⟩
 agg:=λ_ _ _ _=>trivial
 str:=λ_ _ h=>h
theorem qrc{P:Program}{H0:Hints}{lib:FuncId->Option (List V->Option V)}(hm:P.follows .mixedOrders=true)(qce:qi4 P H0)
  (hlib:∀g h args r,lib g=some h->h args=some r->qa4 P g args [] r []) (hl:laidOutB P=true) {k:FuncId} {fn:Func} (hfn:P.funcs[k]?=some fn) (hbody:fn.body.isSome=true)
  {ts:List TypeId} {τs:List Ty} (hps:fn.params.toList=ts) (hts:ts.mapM (qAN P)=some τs) (hok:ts.all (okT P 10)=true) (hrd:ts.all (λt=>P.readableRec t&&decide (t<P.types.size))=true)
  {tb:TypeId} (hres:fn.resultTypes=#[tb]) (htb:P.underlying tb=some .bool) {F:denP (τs.map .ty)->Option Bool}
  (he:qP P H0 lib ⟨k,τs.map .ty,[(.bool,0)],F⟩) (hF:∀x,qBW maxLen τs x->F x=some true)
  {s:ChangeSpec} (hv:s.vars=[]) (hs:∀(H:Type) (ds:List (DataW H)),ds.length=ts.length->s.fn H ds={results:=[.lit (.bool true)],args:=ds})
  (H:Type) (enc:TypeId×Value->H) (W:World) (base:Nat) (args:Array Value) (ds gs:List (DataW H)) (before:List MemPlace)
  (hval:∀(j:Nat) t v,fn.params[j]?=some t->args[j]?=some v->Value.okWide P W .any base t v)
  (hW:DataW.Whole enc P fn.params.toList s.vars false W args.toList ds gs before) :
  Calls P k args W λe W'=>∃v,e=.returned v/\s.post enc P fn false true false false W args v W':=by
 have hW':=hW;have hlt:∀p∈before,p.block<W.heap.size:=λp hp=>hW.lt p hp;obtain ⟨p,q,hA,hV,rfl,hfz,hnd⟩:=hW;rw [hv]at hV;obtain ⟨rfl,rfl⟩:=trodVars_none hV;rw [hps]at hA;have hlen:=qnw hA;have hval':∀(j:Nat) t v,ts[j]?=some t->args.toList[j]?=some v->Value.okWide P W .any base t v:=λj t v h1 h2 =>
  hval j t v (by rw [<- hps]at h1;simpa using h1) (by simpa using h2)
 refine (qxc hm qce hlib hl qCD hfn hbody hts hok he hF hval' hA (λ_ _=>trivial) (λx hx=>by simp [qCg]at hx)).mono λe W' ⟨h1,hb⟩=>?_;subst h1;have hfs:s.fn H (ds++[])={results:=[.lit (.bool true)],args:=ds}:=by rw [List.append_nil];exact hs H ds hlen
 refine ⟨_,rfl,qpS (pa:=p) (pv:=[]) hW' ?_ ?_ ?_ rfl hb ?_⟩
 ·intro b sp hd;rw [hfs,hres];exact trodAll_mk1 (shut_bool htb true)
 ·intro sp hsp;rw [hfs,hps];exact qjW hl hb hrd hA (λx hx=>hlt x (by simpa using hx)) sp (λx hx=>hsp x (by simpa using hx))
 ·intro sp _;rw [hfs,hv];rfl
 ·exact ok_one hres rfl (okWide_bool_mk htb true)
end Go.Tx
namespace Go.Proofs.Ytofjnhppalciiaa
open Go Go.Ab Go.Tx
theorem own:ownKnob Try.prog.godebug=none:=by kernel_rfl
theorem qzf:laidOutB Try.prog=true:=by kernel_rfl
end Go.Proofs.Ytofjnhppalciiaa
end
section
namespace Go.Proofs.Ytofjnhppalciiaa
open Go Go.Ab Go.Tx
section
set_option maxRecDepth 100000
noncomputable section
@[reducible] def I:Ty:=.int .i64
@[reducible] def w64 (n:Int):Int:=IntKind.wrap .i64 n
def qzh:List (List Tmp×FuncId×Kind×Join)->List Tmp->FuncId->Kind->Option Join
 |[],_,_,_=>none
 |(c,f,k,j)::l,c',f',k'=>if f=f' then (if k=k' then (if c=c' then some j else qzh l c' f' k')else qzh l c' f' k')else qzh l c' f' k'
def qsh:Nat:=6
def qfA(js:List (List Tmp×FuncId×Kind×Join))(inl:List (List Tmp×FuncId×Tmp)):TH where
 lib:=λg=>decide (g=qsh)
 join:=qzh js
 inl:=λc f d=>inl.any λ(c',f',d')=>decide (f=f')&&decide (d=d')&&decide (c=c')
def Lb:FuncId->Option (List V->Option V):=λg=>if g=qsh then some (λargs=>match args with
  |[]=>some (.val (.bool true))
  |_=>none)else none
theorem hJ{js:List (List Tmp×FuncId×Kind×Join)}{inl:List (List Tmp×FuncId×Tmp)}:∀g,(qfA js inl).lib g=false->Lb g=none:=λg h=>by
 simp only [qfA,decide_eq_false_iff_not]at h;simp [Lb,h]
def qxt(js:List (List Tmp×FuncId×Kind×Join))(inl:List (List Tmp×FuncId×Tmp))(io:IoT):TH:={qfA js inl with io:=io}
theorem qDt{js:List (List Tmp×FuncId×Kind×Join)}{inl:List (List Tmp×FuncId×Tmp)}{io:IoT}:∀g,(qxt js inl io).lib g=false->Lb g=none:=λg h=>hJ (js:=js) (inl:=inl) g h
def qiA:Option Bool:=some true
def qcV:Entry:=⟨6,[],[(.bool,0)],λ_=>qiA⟩
theorem qpG:qP Try.prog Hn.hints Lb qcV:=λx y h vs hv=>by
 obtain rfl:true=y:=Option.some.inj h;simp only [qcV,qaY,RVL]at hv;subst hv;refine ⟨.val (.bool true),⟨1,λm hm=>?_⟩,by simp [qpN,qcV,ofL,qcK,ofTy,RV,RTy]⟩;obtain ⟨m',rfl⟩:∃m',m=m'+1:=⟨m-1,by omega⟩
 simp [qnS,Lb,qsh,qcV]
def qdd(a0:Int)(a1:Int)(a2:Int):Option Bool :=
 (bif decide (a1<=a0)then
   some (decide (a0<=a2))
  else
   some false).bind λ(p1:Bool) =>
 some p1
def qbk:Entry:=⟨31,[.ty I,.ty I,.ty I],[(.bool,0)],λx=>qdd x.1 x.2.1 x.2.2⟩
def qpv:TH:=qfA [([],31,.region 1,{lv:=[⟨none,6,0⟩],ps:=[(.bool,0)],D:=⟨32704⟩})] []
theorem qpw(x:denP qbk.ps):fnT Try.prog Hn.hints qpv (qec []) 40 31 (qaY qbk.ps x) qbk.rs=qbk.F x:=by kernel_rfl
theorem qgg:qP Try.prog Hn.hints Lb qbk:=qG q4 hJ 40 _ _ _ _ qpw
def qfl(a0:(List Int)):Option (Int×Int) :=
 bif decide ((a0.length:Int)=0)then
  some (0,10)
 else
  bif decide ((a0.length:Int) > 60)then
   some (0,8)
  else
   (qaw (λ(s2:Int) =>
     bif decide (s2<(a0.length:Int))then
      (idx a0 s2).bind λx3 =>
      (qdd x3 (-100000:Int) (100000:Int)).bind λx4 =>
      bif !x4 then
       some (.inr (.inr (s2,2)))
      else
       some (.inl (w64 (s2+1)))
     else
      some (.inr (.inl ()))) 0).bind (Sum.elim (λ(p5:Unit) =>
   some (0,0)) some)
def qbf:Entry:=⟨28,[.ty (.sl I)],[(I,0),(I,0)],λx=>qfl x⟩
def qli:TH:=qfA [([],28,.block 0,{lv:=[],ps:=[],abn:=true,D:=⟨16775184⟩}),
 ([],28,.loop 0,{lv:=[⟨none,4,0⟩],ps:=[(I,0)],D:=⟨16775184⟩})] []
theorem qll(x:denP qbf.ps):fnT Try.prog Hn.hints qli (qec [qbk]) 40 28 (qaY qbf.ps x) qbf.rs=qbf.F x:=by kernel_rfl
theorem qlo:qP Try.prog Hn.hints Lb qbf:=qG (qq qgg q4) hJ 40 _ _ _ _ qll
def qe8(a0:(List Int)):Option Int :=
 (qfl a0).bind λx1 =>
 some x1.2
def qbV:Entry:=⟨69,[.ty (.sl I)],[(I,0)],λx=>qe8 x⟩
def qnL:TH:=qfA [] []
theorem qnO(x:denP qbV.ps):fnT Try.prog Hn.hints qnL (qec [qbf]) 40 69 (qaY qbV.ps x) qbV.rs=qbV.F x:=by kernel_rfl
theorem qnR:qP Try.prog Hn.hints Lb qbV:=qG (qq qlo q4) hJ 40 _ _ _ _ qnO
def qcF(a0:((List (List Int))×Int×Unit)):Option (Int×Int) :=
 bif decide ((a0.1.length:Int)=0)then
  some (0,10)
 else
  bif decide ((a0.1.length:Int) > 4)then
   some (0,8)
  else
   (qaw (λ(s2:Int) =>
     bif decide (s2<(a0.1.length:Int))then
      (idx a0.1 s2).bind λx3 =>
      (qe8 x3).bind λx4 =>
      bif !(decide (x4=0))then
       some (.inr (.inr (s2,x4)))
      else
       (idx a0.1 s2).bind λx5 =>
       (idx a0.1 0).bind λx6 =>
       bif !(decide ((x5.length:Int)=(x6.length:Int)))then
        some (.inr (.inr (s2,13)))
       else
        some (.inl (w64 (s2+1)))
     else
      some (.inr (.inl ()))) 0).bind (Sum.elim (λ(p7:Unit) =>
   (qdd a0.2.1 (0:Int) (100000:Int)).bind λx8 =>
   bif !x8 then
    some (0,2)
   else
    some (0,0)) some)
def qaR:Entry:=⟨14,[.ty (.pair (.sl (.sl I)) (.pair I .unit))],[(I,0),(I,0)],λx=>qcF x⟩
def qjo:TH:=qfA [([],14,.block 0,{lv:=[],ps:=[],abn:=true,D:=⟨17592186028080⟩,rs:=[⟨0,1⟩],Dn:=⟨17592185995312⟩}),
 ([],14,.loop 0,{lv:=[⟨none,4,0⟩],ps:=[(I,0)],D:=⟨17592186028080⟩,rs:=[⟨0,1⟩],Dn:=⟨17452597461040⟩})] []
theorem qjt(x:denP qaR.ps):fnT Try.prog Hn.hints qjo (qec [qbk,qbV]) 40 14 (qaY qaR.ps x) qaR.rs=qaR.F x:=by kernel_rfl
theorem qjE:qP Try.prog Hn.hints Lb qaR:=qG (qq qgg (qq qnR q4)) hJ 40 _ _ _ _ qjt
def qcv(a0:((List (List Int))×Int×Unit)):Option Int :=
 (qcF a0).bind λx1 =>
 some x1.2
def qbg:Entry:=⟨40,[.ty (.pair (.sl (.sl I)) (.pair I .unit))],[(I,0)],λx=>qcv x⟩
def qlj:TH:=qfA [] []
theorem qlm(x:denP qbg.ps):fnT Try.prog Hn.hints qlj (qec [qaR]) 40 40 (qaY qbg.ps x) qbg.rs=qbg.F x:=by kernel_rfl
theorem qlp:qP Try.prog Hn.hints Lb qbg:=qG (qq qjE q4) hJ 40 _ _ _ _ qlm
def qbC(a0:(List Int)):Option (List Int) :=
 (app [] a0).bind λx1 =>
 some x1
def qaN:Entry:=⟨23,[.ty (.sl I)],[((.sl I),1)],λx=>qbC x⟩
def qmr:TH:=qfA [] []
theorem qmw(x:denP qaN.ps):fnT Try.prog Hn.hints qmr (qec []) 40 23 (qaY qaN.ps x) qaN.rs=qaN.F x:=by kernel_rfl
theorem qeB:qP Try.prog Hn.hints Lb qaN:=qG q4 hJ 40 _ _ _ _ qmw
def q1(a0:(List (List Int))):Option (List (List Int)) :=
 (qaw (λ(s3:((List (List Int))×Int)) =>
   bif decide (s3.2<(a0.length:Int))then
    (idx a0 s3.2).bind λx4 =>
    (qbC x4).bind λx5 =>
    (app s3.1 ([x5])).bind λx6 =>
    some (.inl (x6,w64 (s3.2+1)))
   else
    some (.inr s3.1)) ([],0)).bind λ(p7:(List (List Int))) =>
 some p7
def qaU:Entry:=⟨11,[.ty (.sl (.sl I))],[((.sl (.sl I)),2)],λx=>q1 x⟩
def qlh:TH:=qfA [([],11,.block 0,{lv:=[⟨none,3,0⟩],ps:=[((.sl (.sl I)),2)],D:=⟨524280⟩}),
 ([],11,.loop 0,{lv:=[⟨none,3,0⟩,⟨none,4,0⟩],ps:=[((.sl (.sl I)),2),(I,0)],D:=⟨524280⟩})] []
theorem qlk(x:denP qaU.ps):fnT Try.prog Hn.hints qlh (qec [qaN]) 40 11 (qaY qaU.ps x) qaU.rs=qaU.F x:=by kernel_rfl
theorem qgA:qP Try.prog Hn.hints Lb qaU:=qG (qq qeB q4) hJ 40 _ _ _ _ qlk
def qae(a0:((List (List Int))×Int×Unit)):Option ((List (List Int))×Int×Unit) :=
 (q1 a0.1).bind λx1 =>
 some (x1,a0.2.1,())
def qa5:Entry:=⟨9,[.ty (.pair (.sl (.sl I)) (.pair I .unit))],[((.pair (.sl (.sl I)) (.pair I .unit)),2)],λx=>qae x⟩
def qkj:TH:=qfA [] []
theorem qkl(x:denP qa5.ps):fnT Try.prog Hn.hints qkj (qec [qaU]) 40 9 (qaY qa5.ps x) qa5.rs=qa5.F x:=by kernel_rfl
theorem qkr:qP Try.prog Hn.hints Lb qa5:=qG (qq qgA q4) hJ 40 _ _ _ _ qkl
def qH(a0:Bool)(a1:Int):Option Int :=
 bif a0 then
  some 0
 else
  some a1
def qac:Entry:=⟨58,[.ty .bool,.ty I],[(I,0)],λx=>qH x.1 x.2⟩
def qmu:TH:=qfA [] []
theorem qmz(x:denP qac.ps):fnT Try.prog Hn.hints qmu (qec []) 40 58 (qaY qac.ps x) qac.rs=qac.F x:=by kernel_rfl
theorem qbv:qP Try.prog Hn.hints Lb qac:=qG q4 hJ 40 _ _ _ _ qmz
def qag(a0:(List Int)):Option Int :=
 (qaw (λ(s2:Int) =>
   bif decide (s2<(a0.length:Int))then
    (idx a0 s2).bind λx3 =>
    bif !(decide (x3=0))then
     some (.inr (.inr x3))
    else
     some (.inl (w64 (s2+1)))
   else
    some (.inr (.inl ()))) 0).bind (Sum.elim (λ(p4:Unit) =>
 some 0) some)
def qaA:Entry:=⟨57,[.ty (.sl I)],[(I,0)],λx=>qag x⟩
def qnM:TH:=qfA [([],57,.block 0,{lv:=[],ps:=[],abn:=true,D:=⟨32656⟩}),
 ([],57,.loop 0,{lv:=[⟨none,7,0⟩],ps:=[(I,0)],D:=⟨32656⟩})] []
theorem qnP(x:denP qaA.ps):fnT Try.prog Hn.hints qnM (qec []) 40 57 (qaY qaA.ps x) qaA.rs=qaA.F x:=by kernel_rfl
theorem qct:qP Try.prog Hn.hints Lb qaA:=qG q4 hJ 40 _ _ _ _ qnP
def qbO(a0:Int)(a1:Int)(a2:Int):Option Bool :=
 (bif decide (a1<=a0)then
   some (decide (a0<=a2))
  else
   some false).bind λ(p1:Bool) =>
 some p1
def qaO:Entry:=⟨62,[.ty I,.ty I,.ty I],[(.bool,0)],λx=>qbO x.1 x.2.1 x.2.2⟩
def qmv:TH:=qfA [([],62,.region 1,{lv:=[⟨none,6,0⟩],ps:=[(.bool,0)],D:=⟨32704⟩})] []
theorem qmA(x:denP qaO.ps):fnT Try.prog Hn.hints qmv (qec []) 40 62 (qaY qaO.ps x) qaO.rs=qaO.F x:=by kernel_rfl
theorem qeD:qP Try.prog Hn.hints Lb qaO:=qG q4 hJ 40 _ _ _ _ qmA
def qdN(a0:Int)(a1:Int):Option Bool :=
 (qbO a0 (w64 (0-a1)) a1).bind λx1 =>
 some x1
def qbo:Entry:=⟨73,[.ty I,.ty I],[(.bool,0)],λx=>qdN x.1 x.2⟩
def qnN:TH:=qfA [] []
theorem qnQ(x:denP qbo.ps):fnT Try.prog Hn.hints qnN (qec [qaO]) 40 73 (qaY qbo.ps x) qbo.rs=qbo.F x:=by kernel_rfl
theorem qig:qP Try.prog Hn.hints Lb qbo:=qG (qq qeD q4) hJ 40 _ _ _ _ qnQ
def qck(a0:Int)(a1:Int):Option Int :=
 (qdN a1 (100000:Int)).bind λx1 =>
 (qH x1 (2:Int)).bind λx2 =>
 some x2
def qaH:Entry:=⟨72,[.ty I,.ty I],[(I,0)],λx=>qck x.1 x.2⟩
def qiu:TH:=qfA [] []
theorem qix(x:denP qaH.ps):fnT Try.prog Hn.hints qiu (qec [qbo,qac]) 40 72 (qaY qaH.ps x) qaH.rs=qaH.F x:=by kernel_rfl
theorem qiD:qP Try.prog Hn.hints Lb qaH:=qG (qq qig (qq qbv q4)) hJ 40 _ _ _ _ qix
def q3(a0:(List Int)):Option (Int×Int) :=
 (qaw (λ(s2:Int) =>
   bif decide (s2<(a0.length:Int))then
    (idx a0 s2).bind λx3 =>
    (qck s2 x3).bind λx4 =>
    bif !(decide (x4=0))then
     some (.inr (.inr (s2,x4)))
    else
     some (.inl (w64 (s2+1)))
   else
    some (.inr (.inl ()))) 0).bind (Sum.elim (λ(p5:Unit) =>
 some (0,0)) some)
def qy:Entry:=⟨71,[.ty (.sl I),.fn 72 []],[(I,0),(I,0)],λx=>q3 x.1⟩
def qcf:TH:=qfA [([],71,.block 0,{lv:=[],ps:=[],abn:=true,D:=⟨33552832⟩}),
 ([],71,.loop 0,{lv:=[⟨none,11,0⟩],ps:=[(I,0)],D:=⟨33552832⟩})] []
theorem qcg(x:denP qy.ps):fnT Try.prog Hn.hints qcf (qec [qaH]) 40 71 (qaY qy.ps x) qy.rs=qy.F x:=by kernel_rfl
theorem qci:qP Try.prog Hn.hints Lb qy:=qG (qq qiD q4) hJ 40 _ _ _ _ qcg
def qeI(a0:(List Int)):Option (Int×Int) :=
 (qH (decide ((a0.length:Int) > 0)) (10:Int)).bind λx1 =>
 (qH (decide ((a0.length:Int)<=60)) (8:Int)).bind λx2 =>
 (qag ([x1,x2])).bind λx3 =>
 bif !(decide (x3=0))then
  some (0,x3)
 else
  (q3 a0).bind λx4 =>
  some (x4.1,x4.2)
def qa6:Entry:=⟨22,[.ty (.sl I)],[(I,0),(I,0)],λx=>qeI x⟩
def qkk:TH:=qfA [] []
theorem qkm(x:denP qa6.ps):fnT Try.prog Hn.hints qkk (qec [qy,qaA,qac]) 40 22 (qaY qa6.ps x) qa6.rs=qa6.F x:=by kernel_rfl
theorem qks:qP Try.prog Hn.hints Lb qa6:=qG (qq qci (qq qct (qq qbv q4))) hJ 40 _ _ _ _ qkm
def qbN(a0:(List Int)):Option Int :=
 (qeI a0).bind λx1 =>
 some x1.2
def qa9:Entry:=⟨61,[.ty (.sl I)],[(I,0)],λx=>qbN x⟩
def qmt:TH:=qfA [] []
theorem qmy(x:denP qa9.ps):fnT Try.prog Hn.hints qmt (qec [qa6]) 40 61 (qaY qa9.ps x) qa9.rs=qa9.F x:=by kernel_rfl
theorem qg5:qP Try.prog Hn.hints Lb qa9:=qG (qq qks q4) hJ 40 _ _ _ _ qmy
def qcl(a0:((List (List Int))×Int×Unit)):Option (Int×Int) :=
 (qH (decide ((a0.1.length:Int) > 0)) (10:Int)).bind λx1 =>
 (qH (decide ((a0.1.length:Int)<=4)) (8:Int)).bind λx2 =>
 (qag ([x1,x2])).bind λx3 =>
 bif !(decide (x3=0))then
  some (0,x3)
 else
  ((qaw (λ(s5:Int) =>
     bif decide (s5<(a0.1.length:Int))then
      (idx a0.1 s5).bind λx6 =>
      (qbN x6).bind λx7 =>
      (idx a0.1 0).bind λx8 =>
      (qH (decide ((x6.length:Int)=(x8.length:Int))) (13:Int)).bind λx9 =>
      (qag ([x7,x9])).bind λx10 =>
      bif !(decide (x10=0))then
       some (.inr (.inr (s5,x10)))
      else
       some (.inl (w64 (s5+1)))
     else
      some (.inr (.inl ()))) 0).bind (Sum.elim (λ(p11:Unit) =>
   some (0,0)) some)).bind λ(p12:(Int×Int)) =>
  bif !(decide (p12.2=0))then
   some (p12.1,p12.2)
  else
   (qbO a0.2.1 (0:Int) (100000:Int)).bind λx13 =>
   (qH x13 (2:Int)).bind λx14 =>
   some (0,x14)
def qaI:Entry:=⟨8,[.ty (.pair (.sl (.sl I)) (.pair I .unit))],[(I,0),(I,0)],λx=>qcl x⟩
def qiv:TH:=qfA [([26],59,.inl 0,{lv:=[⟨none,4,0⟩,⟨none,5,0⟩],ps:=[(I,0),(I,0)],D:=⟨33554416⟩,rs:=[⟨0,1⟩],Dn:=⟨33488880⟩}),
 ([26],59,.block 0,{lv:=[],ps:=[],abn:=true,D:=⟨33552832⟩}),
 ([26],59,.loop 0,{lv:=[⟨none,11,0⟩],ps:=[(I,0)],D:=⟨33552832⟩,rs:=[⟨0,1⟩],Dn:=⟨33487296⟩})] []
theorem qiy(x:denP qaI.ps):fnT Try.prog Hn.hints qiv (qec [qaA,qa9,qac,qaO]) 40 8 (qaY qaI.ps x) qaI.rs=qaI.F x:=by kernel_rfl
theorem qiE:qP Try.prog Hn.hints Lb qaI:=qG (qq qct (qq qg5 (qq qbv (qq qeD q4)))) hJ 40 _ _ _ _ qiy
def qbT(a0:(List (List Int))):Option Int :=
 bif decide ((a0.length:Int)=0)then
  some 0
 else
  (idx a0 0).bind λx1 =>
  some (x1.length:Int)
def qaC:Entry:=⟨86,[.ty (.sl (.sl I))],[(I,0)],λx=>qbT x⟩
def qjr:TH:=qfA [] []
theorem qjw(x:denP qaC.ps):fnT Try.prog Hn.hints qjr (qec []) 40 86 (qaY qaC.ps x) qaC.rs=qaC.F x:=by kernel_rfl
theorem qe4:qP Try.prog Hn.hints Lb qaC:=qG q4 hJ 40 _ _ _ _ qjw
def qbm(a0:(List (List Int)))(a1:Int)(a2:Int):Option Int :=
 ((qaw (λ(s2:Int) =>
    bif decide (s2<(a0.length:Int))then
     (idx a0 s2).bind λx3 =>
     (qbN x3).bind λx4 =>
     (qH (decide ((x3.length:Int)=a2)) (13:Int)).bind λx5 =>
     (qag ([x4,x5])).bind λx6 =>
     bif !(decide (x6=0))then
      some (.inr (.inr (s2,x6)))
     else
      some (.inl (w64 (s2+1)))
    else
     some (.inr (.inl ()))) 0).bind (Sum.elim (λ(p7:Unit) =>
  some (0,0)) some)).bind λ(p8:(Int×Int)) =>
 (qH (decide ((a0.length:Int) > 0)) (10:Int)).bind λx9 =>
 (qH (decide ((a0.length:Int)<=a1)) (8:Int)).bind λx10 =>
 (qag ([x9,x10,p8.2])).bind λx11 =>
 some x11
def qao:Entry:=⟨85,[.ty (.sl (.sl I)),.ty I,.ty I],[(I,0)],λx=>qbm x.1 x.2.1 x.2.2⟩
def qhV:TH:=qfA [([12],59,.inl 0,{lv:=[⟨none,4,0⟩,⟨none,5,0⟩],ps:=[(I,0),(I,0)],D:=⟨33554416⟩,rs:=[⟨0,5⟩],Dn:=⟨33488880⟩}),
 ([12],59,.block 0,{lv:=[],ps:=[],abn:=true,D:=⟨33552832⟩}),
 ([12],59,.loop 0,{lv:=[⟨none,11,0⟩],ps:=[(I,0)],D:=⟨33552832⟩,rs:=[⟨0,5⟩],Dn:=⟨33487296⟩})] []
theorem qh0(x:denP qao.ps):fnT Try.prog Hn.hints qhV (qec [qaA,qa9,qac]) 40 85 (qaY qao.ps x) qao.rs=qao.F x:=by kernel_rfl
theorem qd0:qP Try.prog Hn.hints Lb qao:=qG (qq qct (qq qg5 (qq qbv q4))) hJ 40 _ _ _ _ qh0
def qbS(a0:((List (List Int))×Int×Unit))(a1:(List (List Int))):Option (((List (List Int))×Int×(List (List Int))×Unit)×Int) :=
 (qcl a0).bind λx1 =>
 (qH (decide ((a1.length:Int)=(a0.1.length:Int))) (10:Int)).bind λx2 =>
 (qbT a0.1).bind λx3 =>
 (qbm a1 (4:Int) x3).bind λx4 =>
 (qag ([x1.2,x2,x4])).bind λx5 =>
 some ((a0.1,a0.2.1,a1,()),x5)
def qaB:Entry:=⟨63,[.ty (.pair (.sl (.sl I)) (.pair I .unit)),.ty (.sl (.sl I))],[((.pair (.sl (.sl I)) (.pair I (.pair (.sl (.sl I)) .unit))),1000),(I,0)],λx=>qbS x.1 x.2⟩
def qjq:TH:=qfA [] []
theorem qjv(x:denP qaB.ps):fnT Try.prog Hn.hints qjq (qec [qaI,qao,qaA,qaC,qac]) 40 63 (qaY qaB.ps x) qaB.rs=qaB.F x:=by kernel_rfl
theorem qe3:qP Try.prog Hn.hints Lb qaB:=qG (qq qiE (qq qd0 (qq qct (qq qe4 (qq qbv q4))))) hJ 40 _ _ _ _ qjv
def qB(a0:(List (Int×Bool×Unit))):Option (List (Int×Bool×Unit)) :=
 bif List.isEmpty a0 then
  none
 else
  (app [] a0).bind λx1 =>
  some x1
def qw:Entry:=⟨97,[.ty (.sl (.pair I (.pair .bool .unit)))],[((.sl (.pair I (.pair .bool .unit))),1)],λx=>qB x⟩
def qbF:TH:=qfA [] []
theorem qbG(x:denP qw.ps):fnT Try.prog Hn.hints qbF (qec []) 40 97 (qaY qw.ps x) qw.rs=qw.F x:=by kernel_rfl
theorem qbI:qP Try.prog Hn.hints Lb qw:=qG q4 hJ 40 _ _ _ _ qbG
def qas(a0:(Int×Bool×Unit)):Option Int :=
 bif a0.2.1 then
  some (-1)
 else
  some 1
def qaq:Entry:=⟨87,[.ty (.pair I (.pair .bool .unit))],[(I,0)],λx=>qas x⟩
def qhX:TH:=qfA [] []
theorem qh2(x:denP qaq.ps):fnT Try.prog Hn.hints qhX (qec []) 40 87 (qaY qaq.ps x) qaq.rs=qaq.F x:=by kernel_rfl
theorem qd2:qP Try.prog Hn.hints Lb qaq:=qG q4 hJ 40 _ _ _ _ qh2
def qY(a0:((List (List Int))×Int×(List (List Int))×Unit))(a1:Int)(a2:(Int×Bool×Unit)):Option Bool :=
 (idx a0.2.2.1 a1).bind λx1 =>
 (qaw (λ(s3:Int) =>
   bif decide (s3<(x1.length:Int))then
    (idx x1 s3).bind λx4 =>
    (bif !(decide (a2.1=(-1)))then
      (qas a2).bind λx5 =>
      (idx a0.1 a2.1).bind λx6 =>
      (idx x6 s3).bind λx7 =>
      some (w64 (x5*x7))
     else
      some 0).bind λ(p8:Int) =>
    (qdN (w64 (x4-p8)) a0.2.1).bind λx9 =>
    bif !x9 then
     some (.inr (.inr false))
    else
     some (.inl (w64 (s3+1)))
   else
    some (.inr (.inl ()))) 0).bind (Sum.elim (λ(p10:Unit) =>
 some true) some)
def qax:Entry:=⟨67,[.ty (.pair (.sl (.sl I)) (.pair I (.pair (.sl (.sl I)) .unit))),.ty I,.ty (.pair I (.pair .bool .unit))],[(.bool,0)],λx=>qY x.1 x.2.1 x.2.2⟩
def qiw:TH:=qfA [([],67,.block 0,{lv:=[],ps:=[],abn:=true,D:=⟨70368744113024⟩}),
 ([],67,.loop 0,{lv:=[⟨none,16,0⟩],ps:=[(I,0)],D:=⟨70368744113024⟩,rs:=[⟨0,3⟩,⟨0,5⟩],Dn:=⟨67069468935040⟩}),
 ([],67,.cond 23,{lv:=[⟨none,9,0⟩],ps:=[(I,0)],D:=⟨137422176768⟩,rs:=[⟨0,3⟩,⟨0,5⟩],Dn:=⟨136683979264⟩})] []
theorem qiz(x:denP qax.ps):fnT Try.prog Hn.hints qiw (qec [qbo,qaq]) 40 67 (qaY qax.ps x) qax.rs=qax.F x:=by kernel_rfl
theorem qeC:qP Try.prog Hn.hints Lb qax:=qG (qq qig (qq qd2 q4)) hJ 40 _ _ _ _ qiz
def qL(a0:(Int×Bool×Unit))(a1:Int):Option Int :=
 bif decide (a0.1=(-1))then
  some 1
 else
  (bif a0.2.1 then
    some 1
   else
    some 0).bind λ(p1:Int) =>
  (bif !(decide (a0.1=a1))then
    some (w64 (p1+1))
   else
    some p1).bind λ(p2:Int) =>
  some p2
def qap:Entry:=⟨68,[.ty (.pair I (.pair .bool .unit)),.ty I],[(I,0)],λx=>qL x.1 x.2⟩
def qhW:TH:=qfA [([],68,.cond 10,{lv:=[⟨none,5,0⟩],ps:=[(I,0)],D:=⟨6176⟩}),
 ([],68,.cond 16,{lv:=[⟨none,5,0⟩],ps:=[(I,0)],D:=⟨393248⟩})] []
theorem qh1(x:denP qap.ps):fnT Try.prog Hn.hints qhW (qec []) 40 68 (qaY qap.ps x) qap.rs=qap.F x:=by kernel_rfl
theorem qd1:qP Try.prog Hn.hints Lb qap:=qG q4 hJ 40 _ _ _ _ qh1
def q8(n:Nat):((List (List Int))×Int×(List (List Int))×(List (Int×Bool×Unit))×Int)->(List (Int×Bool×Unit))->Int->Option ((List (List Int))×Int×(List (List Int))×(List (Int×Bool×Unit))×Int) :=
 Nat.rec (motive:=λ_=>((List (List Int))×Int×(List (List Int))×(List (Int×Bool×Unit))×Int)->(List (Int×Bool×Unit))->Int->Option ((List (List Int))×Int×(List (List Int))×(List (Int×Bool×Unit))×Int)) (λ_ _ _=>none) (λ_ ih b0 a0 a1 =>
 (bif !(List.isEmpty b0.2.2.2.1)then
   some (decide (a1>=b0.2.2.2.2))
  else
   some false).bind λ(p1:Bool) =>
 bif p1 then
  some (b0.1,b0.2.1,b0.2.2.1,b0.2.2.2.1,b0.2.2.2.2)
 else
  bif decide ((a0.length:Int)=(b0.2.2.1.length:Int))then
   (qB a0).bind λx2 =>
   ((((nel x2).bind λx6 =>
      some (x6,a1)).bind λx5 =>
     some (b0.2.2.1,x5)).bind λx4 =>
    some (b0.2.1,x4)).bind λx3 =>
   some (b0.1,x3)
  else
   (qY (b0.1,b0.2.1,b0.2.2.1,()) (a0.length:Int) ((-1),false,())).bind λx7 =>
   (bif x7 then
     (slc a0 0 (a0.length:Int)).bind λx8 =>
     bif decide ((a0.length:Int)=(a0.length:Int))then
      (app x8 ([((-1),false,())])).bind λx9 =>
      (qL ((-1),false,()) (a0.length:Int)).bind λx10 =>
      (ih (b0.1,b0.2.1,b0.2.2.1,b0.2.2.2.1,b0.2.2.2.2) x9 (w64 (a1+x10))).bind λx11 =>
      some (x11.1,x11.2.1,x11.2.2.1,x11.2.2.2.1,x11.2.2.2.2)
     else
      none
    else
     some (b0.1,b0.2.1,b0.2.2.1,b0.2.2.2.1,b0.2.2.2.2)).bind λ(p12:((List (List Int))×Int×(List (List Int))×(List (Int×Bool×Unit))×Int)) =>
   (qaw (λ(s14:(Int×(List (List Int))×Int×(List (List Int))×(List (Int×Bool×Unit))×Int)) =>
     bif decide (s14.1<(b0.1.length:Int))then
      (bif !(decide (s14.1=(-1)))then
        ((qaw (λ(s16:Int) =>
           bif decide (s16<(a0.length:Int))then
            (idx a0 s16).bind λx17 =>
            bif decide (x17.1=s14.1)then
             some (.inr (.inr s16))
            else
             some (.inl (w64 (s16+1)))
           else
            some (.inr (.inl ()))) 0).bind (Sum.elim (λ(p18:Unit) =>
         some (-1)) some)).bind λ(p19:Int) =>
        some (decide (p19>=0))
       else
        some false).bind λ(p20:Bool) =>
      (bif !p20 then
        (qY (s14.2.1,s14.2.2.1,s14.2.2.2.1,()) (a0.length:Int) (s14.1,false,())).bind λx21 =>
        some x21
       else
        some false).bind λ(p22:Bool) =>
      (bif p22 then
        (slc a0 0 (a0.length:Int)).bind λx23 =>
        bif decide ((a0.length:Int)=(a0.length:Int))then
         (app x23 ([(s14.1,false,())])).bind λx24 =>
         (qL (s14.1,false,()) (a0.length:Int)).bind λx25 =>
         (ih (s14.2.1,s14.2.2.1,s14.2.2.2.1,s14.2.2.2.2.1,s14.2.2.2.2.2) x24 (w64 (a1+x25))).bind λx26 =>
         some (x26.1,x26.2.1,x26.2.2.1,x26.2.2.2.1,x26.2.2.2.2)
        else
         none
       else
        some (s14.2.1,s14.2.2.1,s14.2.2.2.1,s14.2.2.2.2.1,s14.2.2.2.2.2)).bind λ(p27:((List (List Int))×Int×(List (List Int))×(List (Int×Bool×Unit))×Int)) =>
      (bif !(decide (s14.1=(-1)))then
        ((qaw (λ(s29:Int) =>
           bif decide (s29<(a0.length:Int))then
            (idx a0 s29).bind λx30 =>
            bif decide (x30.1=s14.1)then
             some (.inr (.inr s29))
            else
             some (.inl (w64 (s29+1)))
           else
            some (.inr (.inl ()))) 0).bind (Sum.elim (λ(p31:Unit) =>
         some (-1)) some)).bind λ(p32:Int) =>
        some (decide (p32>=0))
       else
        some false).bind λ(p33:Bool) =>
      (bif !p33 then
        (qY (p27.1,p27.2.1,p27.2.2.1,()) (a0.length:Int) (s14.1,true,())).bind λx34 =>
        some x34
       else
        some false).bind λ(p35:Bool) =>
      (bif p35 then
        (slc a0 0 (a0.length:Int)).bind λx36 =>
        bif decide ((a0.length:Int)=(a0.length:Int))then
         (app x36 ([(s14.1,true,())])).bind λx37 =>
         (qL (s14.1,true,()) (a0.length:Int)).bind λx38 =>
         (ih (p27.1,p27.2.1,p27.2.2.1,p27.2.2.2.1,p27.2.2.2.2) x37 (w64 (a1+x38))).bind λx39 =>
         some (x39.1,x39.2.1,x39.2.2.1,x39.2.2.2.1,x39.2.2.2.2)
        else
         none
       else
        some (p27.1,p27.2.1,p27.2.2.1,p27.2.2.2.1,p27.2.2.2.2)).bind λ(p40:((List (List Int))×Int×(List (List Int))×(List (Int×Bool×Unit))×Int)) =>
      some (.inl (w64 (s14.1+1),p40.1,p40.2.1,p40.2.2.1,p40.2.2.2.1,p40.2.2.2.2))
     else
      some (.inr (s14.2.1,s14.2.2.1,s14.2.2.2.1,s14.2.2.2.2.1,s14.2.2.2.2.2))) (0,p12.1,p12.2.1,p12.2.2.1,p12.2.2.2.1,p12.2.2.2.2)).bind λ(p41:((List (List Int))×Int×(List (List Int))×(List (Int×Bool×Unit))×Int)) =>
   some (p41.1,p41.2.1,p41.2.2.1,p41.2.2.2.1,p41.2.2.2.2)) n
def qeQ:((List (List Int))×Int×(List (List Int))×(List (Int×Bool×Unit))×Int)->(List (Int×Bool×Unit))->Int->Option ((List (List Int))×Int×(List (List Int))×(List (Int×Bool×Unit))×Int):=q8 12
def qO(n:Nat):IoEntry:=⟨64,[((.sl (.sl I)),1000),(I,0),((.sl (.sl I)),1000),((.nsl (.pair I (.pair .bool .unit))),1),(I,0)],[((.sl (.pair I (.pair .bool .unit))),0),(I,0)],λx y=>q8 n x y.1 y.2⟩
def qdY:IoEntry:=qO 12
def qhT(n:Nat):TH:=qxt [([],64,.region 1,{lv:=[⟨none,21,0⟩],ps:=[(.bool,0)],D:=⟨4193792⟩,rs:=[⟨0,0⟩],Dn:=⟨3731456⟩}),
 ([7,46],64,.cond 65,{lv:=[⟨some 0,0,0⟩,⟨some 0,0,1⟩,⟨some 0,0,2⟩,⟨some 0,0,3⟩,⟨some 0,0,4⟩],ps:=[((.sl (.sl I)),1000),(I,0),((.sl (.sl I)),1000),((.nsl (.pair I (.pair .bool .unit))),1),(I,0)],D:=⟨302157667927362455470080⟩,wr:=[⟨0,0⟩],rs:=[⟨0,0⟩],Dn:=⟨302083880951067617263616⟩}),
 ([46],98,.block 0,{lv:=[⟨some 0,0,0⟩,⟨some 0,0,1⟩,⟨some 0,0,2⟩,⟨some 0,0,3⟩,⟨some 0,0,4⟩],ps:=[((.sl (.sl I)),1000),(I,0),((.sl (.sl I)),1000),((.nsl (.pair I (.pair .bool .unit))),1),(I,0)],D:=⟨536862736⟩,wr:=[⟨0,0⟩]}),
 ([46],98,.loop 0,{lv:=[⟨none,13,0⟩,⟨some 0,0,0⟩,⟨some 0,0,1⟩,⟨some 0,0,2⟩,⟨some 0,0,3⟩,⟨some 0,0,4⟩],ps:=[(I,0),((.sl (.sl I)),1000),(I,0),((.sl (.sl I)),1000),((.nsl (.pair I (.pair .bool .unit))),1),(I,0)],D:=⟨536862736⟩,wr:=[⟨0,0⟩],rs:=[⟨1,46⟩],Dn:=⟨532602896⟩}),
 ([19,46],64,.region 7,{lv:=[⟨none,8,0⟩],ps:=[(.bool,0)],D:=⟨35888059530608896⟩,rs:=[⟨3,7⟩],Dn:=⟨31243722414883072⟩}),
 ([7,53,19,46],113,.inl 0,{lv:=[⟨none,4,0⟩],ps:=[(I,0)],D:=⟨524272⟩,rs:=[⟨3,7⟩],Dn:=⟨522224⟩}),
 ([7,53,19,46],113,.block 0,{lv:=[],ps:=[],abn:=true,D:=⟨524064⟩}),
 ([7,53,19,46],113,.loop 0,{lv:=[⟨none,8,0⟩],ps:=[(I,0)],D:=⟨524064⟩,rs:=[⟨3,7⟩],Dn:=⟨522016⟩}),
 ([19,46],64,.region 8,{lv:=[⟨none,65,0⟩],ps:=[(.bool,0)],D:=⟨73750947497819242496⟩,rs:=[⟨0,0⟩],Dn:=⟨71733334864757260288⟩}),
 ([19,46],64,.cond 65,{lv:=[⟨some 0,0,0⟩,⟨some 0,0,1⟩,⟨some 0,0,2⟩,⟨some 0,0,3⟩,⟨some 0,0,4⟩],ps:=[((.sl (.sl I)),1000),(I,0),((.sl (.sl I)),1000),((.nsl (.pair I (.pair .bool .unit))),1),(I,0)],D:=⟨302157667927362455470080⟩,wr:=[⟨0,0⟩],rs:=[⟨0,0⟩],Dn:=⟨302083880951067617263616⟩}),
 ([25,46],64,.region 7,{lv:=[⟨none,8,0⟩],ps:=[(.bool,0)],D:=⟨35888059530608896⟩,rs:=[⟨3,7⟩],Dn:=⟨31243722414883072⟩}),
 ([7,53,25,46],113,.inl 0,{lv:=[⟨none,4,0⟩],ps:=[(I,0)],D:=⟨524272⟩,rs:=[⟨3,7⟩],Dn:=⟨522224⟩}),
 ([7,53,25,46],113,.block 0,{lv:=[],ps:=[],abn:=true,D:=⟨524064⟩}),
 ([7,53,25,46],113,.loop 0,{lv:=[⟨none,8,0⟩],ps:=[(I,0)],D:=⟨524064⟩,rs:=[⟨3,7⟩],Dn:=⟨522016⟩}),
 ([25,46],64,.region 8,{lv:=[⟨none,65,0⟩],ps:=[(.bool,0)],D:=⟨73750947497819242496⟩,rs:=[⟨0,0⟩],Dn:=⟨71733334864757260288⟩}),
 ([25,46],64,.cond 65,{lv:=[⟨some 0,0,0⟩,⟨some 0,0,1⟩,⟨some 0,0,2⟩,⟨some 0,0,3⟩,⟨some 0,0,4⟩],ps:=[((.sl (.sl I)),1000),(I,0),((.sl (.sl I)),1000),((.nsl (.pair I (.pair .bool .unit))),1),(I,0)],D:=⟨302157667927362455470080⟩,wr:=[⟨0,0⟩],rs:=[⟨0,0⟩],Dn:=⟨302083880951067617263616⟩})] [([7,46],64,68),([19,46],64,68),([25,46],64,68)] (qvI [qO n])
theorem qhY(n:Nat)(x:denL ((qO (n+1)).bs.map (·.1)))(y:denL ((qO (n+1)).ps.map (·.1))):qC4 Try.prog Hn.hints (qhT n) (qec [qap,qax,qw]) 40 64 (ofL (qO (n+1)).bs x) (ofL (qO (n+1)).ps y) (qO (n+1)).bs=(qO (n+1)).F x y:=by kernel_rfl
theorem qda:∀n,qi3 Try.prog Hn.hints Lb (qO n)
 |0=>⟨rfl,λx y z h=>by cases (show none=some z from h)⟩
 |n+1=>qsA (qq qd1 (qq qeC (qq qbI q4))) qDt 40 _ _ _ _ (qhY n) (qp6 (by simp only [qk,List.mem_nil_iff,or_false];rintro e rfl;exact qda n)) rfl
theorem qh4:qi3 Try.prog Hn.hints Lb qdY:=qda 12
def qcG(a0:(List (Int×Bool×Unit))):Option ((List Int)×(List Bool)×Unit) :=
 (qaw (λ(s3:(Int×(List Int)×(List Bool))) =>
   bif decide (s3.1<(a0.length:Int))then
    (idx a0 s3.1).bind λx4 =>
    (app s3.2.1 ([x4.1])).bind λx5 =>
    (app s3.2.2 ([x4.2.1])).bind λx6 =>
    some (.inl (w64 (s3.1+1),x5,x6))
   else
    some (.inr (s3.2.1,s3.2.2))) (0,[],[])).bind λ(p7:((List Int)×(List Bool))) =>
 some (p7.1,p7.2,())
def qaS:Entry:=⟨65,[.ty (.sl (.pair I (.pair .bool .unit)))],[((.pair (.sl I) (.pair (.sl .bool) .unit)),0)],λx=>qcG x⟩
def qjp:TH:=qfA [([],65,.block 0,{lv:=[⟨some 0,3,0⟩,⟨some 0,3,1⟩],ps:=[((.sl I),1),((.sl .bool),1)],D:=⟨134217504⟩,wr:=[⟨0,3⟩,⟨0,5⟩]}),
 ([],65,.loop 0,{lv:=[⟨none,8,0⟩,⟨some 0,3,0⟩,⟨some 0,3,1⟩],ps:=[(I,0),((.sl I),1),((.sl .bool),1)],D:=⟨134217504⟩,wr:=[⟨0,3⟩,⟨0,5⟩],rs:=[⟨0,3⟩,⟨0,5⟩],Dn:=⟨82554624⟩})] []
theorem qju(x:denP qaS.ps):fnT Try.prog Hn.hints qjp (qec []) 40 65 (qaY qaS.ps x) qaS.rs=qaS.F x:=by kernel_rfl
theorem qjF:qP Try.prog Hn.hints Lb qaS:=qG q4 hJ 40 _ _ _ _ qju
def qar(a0:((List (List Int))×Int×Unit))(a1:(List (List Int))):Option (((List Int)×(List Bool)×Unit)×Int×Int) :=
 (qbS a0 a1).bind λx1 =>
 bif !(decide (x1.2=0))then
  some (([],[],()),0,x1.2)
 else
  (qeQ (x1.1.1,x1.1.2.1,x1.1.2.2.1,[],0) [] (0:Int)).bind λx2 =>
  bif List.isEmpty x2.2.2.2.1 then
   some (([],[],()),0,12)
  else
   (nel x2.2.2.2.1).bind λx3 =>
   (qcG x3).bind λx4 =>
   some (x4,x2.2.2.2.2,0)
def qav:Entry:=⟨10,[.ty (.pair (.sl (.sl I)) (.pair I .unit)),.ty (.sl (.sl I))],[((.pair (.sl I) (.pair (.sl .bool) .unit)),2000),(I,0),(I,0)],λx=>qar x.1 x.2⟩
def qgH:TH:=qxt [] [] (qvI [qdY])
theorem qgJ(x:denP qav.ps):fnT Try.prog Hn.hints qgH (qec [qaS,qaB]) 40 10 (qaY qav.ps x) qav.rs=qav.F x:=by kernel_rfl
theorem qgL:qP Try.prog Hn.hints Lb qav:=qG (qq qjF (qq qe3 q4)) qDt 40 _ _ _ _ qgJ (qp6 (by simp only [qk,List.mem_nil_iff,or_false];rintro e rfl;exact qh4))
def qI(a0:((List Int)×(List Bool)×Unit)):Option ((List Int)×(List Bool)×Unit) :=
 (qbC a0.1).bind λx1 =>
 (app [] a0.2.1).bind λx2 =>
 some (x1,x2,())
def qai:Entry:=⟨13,[.ty (.pair (.sl I) (.pair (.sl .bool) .unit))],[((.pair (.sl I) (.pair (.sl .bool) .unit)),1)],λx=>qI x⟩
def qf1:TH:=qfA [] []
theorem qf3(x:denP qai.ps):fnT Try.prog Hn.hints qf1 (qec [qaN]) 40 13 (qaY qai.ps x) qai.rs=qai.F x:=by kernel_rfl
theorem qgh:qP Try.prog Hn.hints Lb qai:=qG (qq qeB q4) hJ 40 _ _ _ _ qf3
def qbn(a0:(List Int))(a1:Int):Option Int :=
 (qaw (λ(s2:Int) =>
   bif decide (s2<(a0.length:Int))then
    (idx a0 s2).bind λx3 =>
    bif decide (a1=x3)then
     some (.inr (.inr s2))
    else
     some (.inl (w64 (s2+1)))
   else
    some (.inr (.inl ()))) 0).bind (Sum.elim (λ(p4:Unit) =>
 some (-1)) some)
def qaj:Entry:=⟨114,[.ty (.sl I),.ty I],[(I,0)],λx=>qbn x.1 x.2⟩
def qf2:TH:=qfA [([],114,.block 0,{lv:=[],ps:=[],abn:=true,D:=⟨524064⟩}),
 ([],114,.loop 0,{lv:=[⟨none,8,0⟩],ps:=[(I,0)],D:=⟨524064⟩})] []
theorem qf4(x:denP qaj.ps):fnT Try.prog Hn.hints qf2 (qec []) 40 114 (qaY qaj.ps x) qaj.rs=qaj.F x:=by kernel_rfl
theorem qgi:qP Try.prog Hn.hints Lb qaj:=qG q4 hJ 40 _ _ _ _ qf4
def qaz(a0:(List Int))(a1:Int):Option Bool :=
 (qbn a0 a1).bind λx1 =>
 some (decide (x1>=0))
def q5:Entry:=⟨103,[.ty (.sl I),.ty I],[(.bool,0)],λx=>qaz x.1 x.2⟩
def qeL:TH:=qfA [] []
theorem qeM(x:denP q5.ps):fnT Try.prog Hn.hints qeL (qec [qaj]) 40 103 (qaY q5.ps x) q5.rs=q5.F x:=by kernel_rfl
theorem qeN:qP Try.prog Hn.hints Lb q5:=qG (qq qgi q4) hJ 40 _ _ _ _ qeM
def qaW(a0:((List Int)×(List Bool)×Unit))(a1:Int):Option ((List (Int×Bool×Unit))×Int) :=
 (bif !(decide ((a0.1.length:Int)=a1))then
   some true
  else
   some (!(decide ((a0.2.1.length:Int)=a1)))).bind λ(p1:Bool) =>
 bif p1 then
  some ([],10)
 else
  ((qaw (λ(s3:(Int×(List (Int×Bool×Unit)))) =>
     bif decide (s3.1<(a0.1.length:Int))then
      (idx a0.1 s3.1).bind λx4 =>
      (idx a0.2.1 s3.1).bind λx5 =>
      (app s3.2 ([(x4,x5,())])).bind λx6 =>
      (bif !(decide (x4=(-1)))then
        (slc a0.1 0 s3.1).bind λx7 =>
        (qaz x7 x4).bind λx8 =>
        some x8
       else
        some false).bind λ(p9:Bool) =>
      ((qbO x4 (-1:Int) (w64 (a1-1))).bind λx10 =>
       (qH x10 (6:Int)).bind λx11 =>
       (qH (!p9) (23:Int)).bind λx12 =>
       bif !(decide (x4=(-1)))then
        (qH true (3:Int)).bind λx13 =>
        (qag ([x11,x12,x13])).bind λx14 =>
        some x14
       else
        (idx a0.2.1 s3.1).bind λx15 =>
        (qH (!x15) (3:Int)).bind λx16 =>
        (qag ([x11,x12,x16])).bind λx17 =>
        some x17).bind λ(p18:Int) =>
      bif !(decide (p18=0))then
       some (.inr (.inr (s3.1,p18,x6)))
      else
       some (.inl (w64 (s3.1+1),x6))
     else
      some (.inr (.inl s3.2))) (0,[])).bind (Sum.elim (λ(p19:(List (Int×Bool×Unit))) =>
   some (0,0,p19)) some)).bind λ(p20:(Int×Int×(List (Int×Bool×Unit)))) =>
  some (p20.2.2,p20.2.1)
def qaD:Entry:=⟨66,[.ty (.pair (.sl I) (.pair (.sl .bool) .unit)),.ty I],[((.sl (.pair I (.pair .bool .unit))),1),(I,0)],λx=>qaW x.1 x.2⟩
def qjs:TH:=qfA [([],66,.region 1,{lv:=[⟨none,20,0⟩],ps:=[(.bool,0)],D:=⟨2096640⟩,rs:=[⟨0,2⟩],Dn:=⟨2063360⟩}),
 ([25],71,.inl 0,{lv:=[⟨none,4,0⟩,⟨none,5,0⟩,⟨some 0,6,0⟩],ps:=[(I,0),(I,0),((.sl (.pair I (.pair .bool .unit))),1)],D:=⟨33554416⟩,wr:=[⟨0,6⟩],rs:=[⟨0,2⟩,⟨0,3⟩,⟨0,6⟩],Dn:=⟨33488880⟩}),
 ([25],71,.block 0,{lv:=[⟨some 0,6,0⟩],ps:=[((.sl (.pair I (.pair .bool .unit))),1)],abn:=true,D:=⟨33552832⟩,wr:=[⟨0,6⟩]}),
 ([25],71,.loop 0,{lv:=[⟨none,11,0⟩,⟨some 0,6,0⟩],ps:=[(I,0),((.sl (.pair I (.pair .bool .unit))),1)],D:=⟨33552832⟩,wr:=[⟨0,6⟩],rs:=[⟨0,2⟩,⟨0,3⟩,⟨0,6⟩],Dn:=⟨33487296⟩}),
 ([19,25],102,.region 2,{lv:=[⟨none,8,0⟩],ps:=[(.bool,0)],D:=⟨536346880⟩,rs:=[⟨0,2⟩],Dn:=⟨532152576⟩}),
 ([19,25],102,.region 3,{lv:=[⟨none,7,0⟩],ps:=[(I,0)],D:=⟨1125899369971840⟩,rs:=[⟨0,2⟩],Dn:=⟨1124799858344064⟩})] []
theorem qjx(x:denP qaD.ps):fnT Try.prog Hn.hints qjs (qec [qaA,qac,qaO,q5]) 40 66 (qaY qaD.ps x) qaD.rs=qaD.F x:=by kernel_rfl
theorem qe5:qP Try.prog Hn.hints Lb qaD:=qG (qq qct (qq qbv (qq qeD (qq qeN q4)))) hJ 40 _ _ _ _ qjx
def qS(a0:((List (List Int))×Int×Unit))(a1:(List (List Int)))(a2:((List Int)×(List Bool)×Unit)):Option (Int×Int) :=
 (qbS a0 a1).bind λx1 =>
 bif !(decide (x1.2=0))then
  some (0,x1.2)
 else
  (qaW a2 (a1.length:Int)).bind λx2 =>
  bif !(decide (x2.2=0))then
   some (0,x2.2)
  else
   (qaw (λ(s4:(Int×Int)) =>
     bif decide (s4.2<(x2.1.length:Int))then
      (idx x2.1 s4.2).bind λx5 =>
      (qY x1.1 s4.2 x5).bind λx6 =>
      bif !x6 then
       some (.inr (.inr (0,19)))
      else
       (qL x5 s4.2).bind λx7 =>
       some (.inl (w64 (s4.1+x7),w64 (s4.2+1)))
     else
      some (.inr (.inl s4.1))) (0,0)).bind (Sum.elim (λ(p8:Int) =>
   some (p8,0)) some)
def q7:Entry:=⟨12,[.ty (.pair (.sl (.sl I)) (.pair I .unit)),.ty (.sl (.sl I)),.ty (.pair (.sl I) (.pair (.sl .bool) .unit))],[(I,0),(I,0)],λx=>qS x.1 x.2.1 x.2.2⟩
def qff:TH:=qfA [([],12,.block 0,{lv:=[⟨none,11,0⟩],ps:=[(I,0)],abn:=true,D:=⟨2251765453962240⟩,wr:=[⟨0,13⟩]}),
 ([],12,.loop 0,{lv:=[⟨none,11,0⟩,⟨none,35,0⟩],ps:=[(I,0),(I,0)],D:=⟨2251765453962240⟩,wr:=[⟨0,13⟩],rs:=[⟨0,13⟩],Dn:=⟨2251765453954048⟩})] []
theorem qfg(x:denP q7.ps):fnT Try.prog Hn.hints qff (qec [qaB,qap,qaD,qax]) 40 12 (qaY q7.ps x) q7.rs=q7.F x:=by kernel_rfl
theorem qfi:qP Try.prog Hn.hints Lb q7:=qG (qq qe3 (qq qd1 (qq qe5 (qq qeC q4)))) hJ 40 _ _ _ _ qfg
def qfo(a0:(List Int))(a1:(List Int)):Option Bool :=
 bif !(decide ((a0.length:Int)=(a1.length:Int)))then
  some false
 else
  (qaw (λ(s2:Int) =>
    bif decide (s2<(a0.length:Int))then
     (idx a0 s2).bind λx3 =>
     (idx a1 s2).bind λx4 =>
     bif !(decide (x3=x4))then
      some (.inr (.inr false))
     else
      some (.inl (w64 (s2+1)))
    else
     some (.inr (.inl ()))) 0).bind (Sum.elim (λ(p5:Unit) =>
  some true) some)
def qdg:Entry:=⟨45,[.ty (.sl I),.ty (.sl I)],[(.bool,0)],λx=>qfo x.1 x.2⟩
def qsE:TH:=qfA [([],45,.block 0,{lv:=[],ps:=[],abn:=true,D:=⟨67106848⟩}),
 ([],45,.loop 0,{lv:=[⟨none,5,0⟩],ps:=[(I,0)],D:=⟨67106848⟩})] []
theorem qsG(x:denP qdg.ps):fnT Try.prog Hn.hints qsE (qec []) 40 45 (qaY qdg.ps x) qdg.rs=qdg.F x:=by kernel_rfl
theorem qsP:qP Try.prog Hn.hints Lb qdg:=qG q4 hJ 40 _ _ _ _ qsG
def qd6(a0:(List Int))(a1:Int):Option Bool :=
 (qaw (λ(s2:Int) =>
   bif decide (s2<(a0.length:Int))then
    (idx a0 s2).bind λx3 =>
    bif decide (x3=a1)then
     some (.inr (.inr true))
    else
     some (.inl (w64 (s2+1)))
   else
    some (.inr (.inl ()))) 0).bind (Sum.elim (λ(p4:Unit) =>
 some false) some)
def qdf:Entry:=⟨44,[.ty (.sl I),.ty I],[(.bool,0)],λx=>qd6 x.1 x.2⟩
def qu2:TH:=qfA [([],44,.block 0,{lv:=[],ps:=[],abn:=true,D:=⟨262112⟩}),
 ([],44,.loop 0,{lv:=[⟨none,5,0⟩],ps:=[(I,0)],D:=⟨262112⟩})] []
theorem qu5(x:denP qdf.ps):fnT Try.prog Hn.hints qu2 (qec []) 40 44 (qaY qdf.ps x) qdf.rs=qdf.F x:=by kernel_rfl
theorem qou:qP Try.prog Hn.hints Lb qdf:=qG q4 hJ 40 _ _ _ _ qu5
def qhc(a0:Int):Option (List ((List Int)×(List Bool)×Unit)) :=
 (qaw (λ(s2:((List ((List Int)×(List Bool)×Unit))×Int)) =>
   bif decide (s2.2<a0)then
    (qaw (λ(s4:((List ((List Int)×(List Bool)×Unit))×Int)) =>
      bif decide (s4.2<(s2.1.length:Int))then
       (qaw (λ(s6:((List ((List Int)×(List Bool)×Unit))×Int)) =>
         bif decide (s6.2<w64 (2*a0))then
          (idx s2.1 s4.2).bind λx7 =>
          (qbC x7.1).bind λx8 =>
          (app x8 ([(-1)])).bind λx9 =>
          (idx s2.1 s4.2).bind λx10 =>
          (app [] x10.2.1).bind λx11 =>
          (app x11 ([false])).bind λx12 =>
          (bif decide (s6.2>=0)then
            (idx x9 s2.2).bind λx13 =>
            (idx x9 s2.2).bind λx14 =>
            let l15:(List Int):=List.set x9 s2.2.toNat (w64 (s6.2.tdiv 2))
            (idx x12 s2.2).bind λx16 =>
            (idx x12 s2.2).bind λx17 =>
            let l18:(List Bool):=List.set x12 s2.2.toNat (decide (s6.2.tmod 2=1))
            some (l15,l18)
           else
            some (x9,x12)).bind λ(p19:((List Int)×(List Bool))) =>
          (bif decide (s6.2<0)then
            some true
           else
            (idx s2.1 s4.2).bind λx20 =>
            (qd6 x20.1 (w64 (s6.2.tdiv 2))).bind λx21 =>
            some (!x21)).bind λ(p22:Bool) =>
          (bif p22 then
            (app s6.1 ([(p19.1,p19.2,())])).bind λx23 =>
            some x23
           else
            some s6.1).bind λ(p24:(List ((List Int)×(List Bool)×Unit))) =>
          some (.inl (p24,w64 (s6.2+1)))
         else
          some (.inr s6.1)) (s4.1,(-1))).bind λ(p25:(List ((List Int)×(List Bool)×Unit))) =>
       some (.inl (p25,w64 (s4.2+1)))
      else
       some (.inr s4.1)) ([],0)).bind λ(p26:(List ((List Int)×(List Bool)×Unit))) =>
    some (.inl (p26,w64 (s2.2+1)))
   else
    some (.inr s2.1)) ([([],[],())],0)).bind λ(p27:(List ((List Int)×(List Bool)×Unit))) =>
 some p27
def qdh:Entry:=⟨42,[.ty I],[((.sl (.pair (.sl I) (.pair (.sl .bool) .unit))),2)],λx=>qhc x⟩
def qsF:TH:=qfA [([],42,.block 0,{lv:=[⟨none,3,0⟩],ps:=[((.sl (.pair (.sl I) (.pair (.sl .bool) .unit))),2)],D:=⟨604462909807314587352568⟩,wr:=[⟨0,8⟩]}),
 ([],42,.loop 0,{lv:=[⟨none,3,0⟩,⟨none,4,0⟩],ps:=[((.sl (.pair (.sl I) (.pair (.sl .bool) .unit))),2),(I,0)],D:=⟨604462909807314587352568⟩,wr:=[⟨0,8⟩]}),
 ([],42,.block 2,{lv:=[⟨none,5,0⟩],ps:=[((.sl (.pair (.sl I) (.pair (.sl .bool) .unit))),2)],D:=⟨302231454903657293611488⟩,wr:=[⟨0,8⟩]}),
 ([],42,.loop 2,{lv:=[⟨none,5,0⟩,⟨none,6,0⟩],ps:=[((.sl (.pair (.sl I) (.pair (.sl .bool) .unit))),2),(I,0)],D:=⟨302231454903657293611488⟩,wr:=[⟨0,8⟩]}),
 ([],42,.block 4,{lv:=[⟨none,5,0⟩],ps:=[((.sl (.pair (.sl I) (.pair (.sl .bool) .unit))),2)],D:=⟨302231454903657289613728⟩,wr:=[⟨0,8⟩]}),
 ([],42,.loop 4,{lv:=[⟨none,5,0⟩,⟨none,7,0⟩],ps:=[((.sl (.pair (.sl I) (.pair (.sl .bool) .unit))),2),(I,0)],D:=⟨302231454903657289613728⟩,wr:=[⟨0,8⟩],rs:=[⟨0,8⟩],Dn:=⟨302231452370382499217568⟩}),
 ([],42,.cond 47,{lv:=[⟨some 0,8,0⟩,⟨some 0,8,1⟩],ps:=[((.sl I),1),((.sl .bool),1)],D:=⟨2305631627297947648⟩,wr:=[⟨0,8⟩],rs:=[⟨0,8⟩],Dn:=⟨2303098352507551744⟩}),
 ([],42,.region 15,{lv:=[⟨none,73,0⟩],ps:=[(.bool,0)],D:=⟨18887160088469367160832⟩}),
 ([],42,.cond 73,{lv:=[⟨none,5,0⟩],ps:=[((.sl (.pair (.sl I) (.pair (.sl .bool) .unit))),2)],D:=⟨283341988972178712821792⟩,wr:=[⟨0,8⟩]})] []
theorem qsH(x:denP qdh.ps):fnT Try.prog Hn.hints qsF (qec [qaN,qdf]) 40 42 (qaY qdh.ps x) qdh.rs=qdh.F x:=by kernel_rfl
theorem qsQ:qP Try.prog Hn.hints Lb qdh:=qG (qq qeB (qq qou q4)) hJ 40 _ _ _ _ qsH
def qcQ(a0:((List Int)×(List Bool)×Unit)):Option Int :=
 (qaw (λ(s2:(Int×Int)) =>
   bif decide (s2.2<(a0.1.length:Int))then
    ((idx a0.1 s2.2).bind λx3 =>
     bif decide (x3=(-1))then
      some (w64 (s2.1+1))
     else
      (idx a0.2.1 s2.2).bind λx4 =>
      (bif x4 then
        some (w64 (s2.1+1))
       else
        some s2.1).bind λ(p5:Int) =>
      (idx a0.1 s2.2).bind λx6 =>
      (bif !(decide (x6=s2.2))then
        some (w64 (p5+1))
       else
        some p5).bind λ(p7:Int) =>
      some p7).bind λ(p8:Int) =>
    some (.inl (p8,w64 (s2.2+1)))
   else
    some (.inr s2.1)) (0,0)).bind λ(p9:Int) =>
 some p9
def qcN:Entry:=⟨18,[.ty (.pair (.sl I) (.pair (.sl .bool) .unit))],[(I,0)],λx=>qcQ x⟩
def qq9:TH:=qfA [([],18,.block 0,{lv:=[⟨none,3,0⟩],ps:=[(I,0)],D:=⟨68719476728⟩,rs:=[⟨0,1⟩],Dn:=⟨68719476664⟩}),
 ([],18,.loop 0,{lv:=[⟨none,3,0⟩,⟨none,4,0⟩],ps:=[(I,0),(I,0)],D:=⟨68719476728⟩,rs:=[⟨0,1⟩],Dn:=⟨68584206264⟩}),
 ([],18,.block 1,{lv:=[⟨none,3,0⟩],ps:=[(I,0)],D:=⟨68719472648⟩,rs:=[⟨0,1⟩],Dn:=⟨68584202248⟩}),
 ([],18,.cond 24,{lv:=[⟨none,3,0⟩],ps:=[(I,0)],D:=⟨100663304⟩}),
 ([],18,.cond 33,{lv:=[⟨none,3,0⟩],ps:=[(I,0)],D:=⟨51539607560⟩})] []
theorem qra(x:denP qcN.ps):fnT Try.prog Hn.hints qq9 (qec []) 40 18 (qaY qcN.ps x) qcN.rs=qcN.F x:=by kernel_rfl
theorem qrq:qP Try.prog Hn.hints Lb qcN:=qG q4 hJ 40 _ _ _ _ qra
def qQ(a0:((List Int)×(List Bool)×Unit))(a1:Int):Option Int :=
 (bif !(decide ((a0.1.length:Int)=a1))then
   some true
  else
   some (!(decide ((a0.2.1.length:Int)=a1)))).bind λ(p1:Bool) =>
 bif p1 then
  some 10
 else
  (qaw (λ(s3:Int) =>
    bif decide (s3<a1)then
     (idx a0.1 s3).bind λx4 =>
     (qdd x4 (-1:Int) (w64 (a1-1))).bind λx5 =>
     bif !x5 then
      some (.inr (.inr 6))
     else
      (qaw (λ(s7:Int) =>
        bif decide (s7<s3)then
         ((idx a0.1 s3).bind λx8 =>
          bif !(decide (x8=(-1)))then
           (idx a0.1 s7).bind λx9 =>
           (idx a0.1 s3).bind λx10 =>
           some (decide (x9=x10))
          else
           some false).bind λ(p11:Bool) =>
         bif p11 then
          some (.inr (.inr (.inr (.inr 23))))
         else
          some (.inl (w64 (s7+1)))
        else
         some (.inr (.inl ()))) 0).bind (Sum.elim (λ(p12:Unit) =>
      ((idx a0.1 s3).bind λx13 =>
       bif decide (x13=(-1))then
        (idx a0.2.1 s3).bind λx14 =>
        some x14
       else
        some false).bind λ(p15:Bool) =>
      bif p15 then
       some (.inr (.inr 3))
      else
       some (.inl (w64 (s3+1)))) some)
    else
     some (.inr (.inl ()))) 0).bind (Sum.elim (λ(p16:Unit) =>
  some 0) some)
def qau:Entry:=⟨19,[.ty (.pair (.sl I) (.pair (.sl .bool) .unit)),.ty I],[(I,0)],λx=>qQ x.1 x.2⟩
def qgG:TH:=qfA [([],19,.region 1,{lv:=[⟨none,18,0⟩],ps:=[(.bool,0)],D:=⟨524160⟩,rs:=[⟨0,2⟩],Dn:=⟨515840⟩}),
 ([],19,.block 0,{lv:=[],ps:=[],abn:=true,D:=⟨1180591620717410779232⟩}),
 ([],19,.loop 0,{lv:=[⟨none,5,0⟩],ps:=[(I,0)],D:=⟨1180591620717410779232⟩,rs:=[⟨0,2⟩],Dn:=⟨1162000761455608594528⟩}),
 ([],19,.block 2,{lv:=[],ps:=[],abn:=true,D:=⟨144115179485921344⟩}),
 ([],19,.loop 2,{lv:=[⟨none,6,0⟩],ps:=[(I,0)],D:=⟨144115179485921344⟩,rs:=[⟨0,2⟩],Dn:=⟨142953820329082944⟩}),
 ([],19,.region 11,{lv:=[⟨none,56,0⟩],ps:=[(.bool,0)],D:=⟨144114913197948928⟩,rs:=[⟨0,2⟩],Dn:=⟨142953554041110528⟩}),
 ([],19,.region 13,{lv:=[⟨none,69,0⟩],ps:=[(.bool,0)],D:=⟨1180447505529335447552⟩,rs:=[⟨0,2⟩],Dn:=⟨1161856646267550040064⟩})] []
theorem qgI(x:denP qau.ps):fnT Try.prog Hn.hints qgG (qec [qbk]) 40 19 (qaY qau.ps x) qau.rs=qau.F x:=by kernel_rfl
theorem qgK:qP Try.prog Hn.hints Lb qau:=qG (qq qgg q4) hJ 40 _ _ _ _ qgI
def qfP(a0:Int)(a1:Int):Option Int :=
 bif decide (a1=0)then
  none
 else
  (bif decide (a0.tmod a1<0)then
    some (w64 ((a0.tmod a1)+a1))
   else
    some (a0.tmod a1)).bind λ(p1:Int) =>
  some p1
def qeg:Entry:=⟨41,[.ty I,.ty I],[(I,0)],λx=>qfP x.1 x.2⟩
def qu3:TH:=qfA [([],41,.cond 9,{lv:=[⟨none,0,0⟩],ps:=[(I,0)],D:=⟨7169⟩})] []
theorem qu6(x:denP qeg.ps):fnT Try.prog Hn.hints qu3 (qec []) 40 41 (qaY qeg.ps x) qeg.rs=qeg.F x:=by kernel_rfl
theorem qvf:qP Try.prog Hn.hints Lb qeg:=qG q4 hJ 40 _ _ _ _ qu6
def qc4(a0:(List (List Int)))(a1:((List Int)×(List Bool)×Unit)):Option ((List (List Int))×Int) :=
 (qbT a0).bind λx1 =>
 (qbm a0 (4:Int) x1).bind λx2 =>
 bif !(decide (x2=0))then
  some ([],x2)
 else
  (qaW a1 (a0.length:Int)).bind λx3 =>
  bif !(decide (x3.2=0))then
   some ([],x3.2)
  else
   (mkS ([]:(List Int)) (a0.length:Int)).bind λx4 =>
   bif decide ((a0.length:Int)=(a0.length:Int))then
    (qaw (λ(s6:((List (List Int))×Int)) =>
      bif decide (s6.2<(x4.length:Int))then
       (idx a0 0).bind λx7 =>
       (mkS (0:Int) (x7.length:Int)).bind λx8 =>
       bif decide ((x7.length:Int)=(x7.length:Int))then
        (idx s6.1 s6.2).bind λx9 =>
        (idx s6.1 s6.2).bind λx10 =>
        let l11:(List (List Int)):=List.set s6.1 s6.2.toNat x8
        some (.inl (l11,w64 (s6.2+1)))
       else
        none
      else
       some (.inr s6.1)) (x4,0)).bind λ(p12:(List (List Int))) =>
    (qaw (λ(s14:((List (List Int))×Int)) =>
      bif decide (s14.2<(x3.1.length:Int))then
       ((idx x3.1 s14.2).bind λx15 =>
        bif decide (x15.1=(-1))then
         some s14.1
        else
         (idx a0 s14.2).bind λx16 =>
         (qaw (λ(s18:((List (List Int))×Int)) =>
           bif decide (s18.2<(x16.length:Int))then
            (idx x16 s18.2).bind λx19 =>
            (idx s18.1 x15.1).bind λx20 =>
            (qas x15).bind λx21 =>
            (idx x20 s18.2).bind λx22 =>
            (idx s18.1 x15.1).bind λx23 =>
            (idx x23 s18.2).bind λx24 =>
            let l25:(List Int):=List.set x23 s18.2.toNat (w64 (x21*x19))
            let l26:(List (List Int)):=List.set s18.1 x15.1.toNat l25
            some (.inl (l26,w64 (s18.2+1)))
           else
            some (.inr s18.1)) (s14.1,0)).bind λ(p27:(List (List Int))) =>
         some p27).bind λ(p28:(List (List Int))) =>
       some (.inl (p28,w64 (s14.2+1)))
      else
       some (.inr s14.1)) (p12,0)).bind λ(p29:(List (List Int))) =>
    some (p29,0)
   else
    none
def qbt:Entry:=⟨43,[.ty (.sl (.sl I)),.ty (.pair (.sl I) (.pair (.sl .bool) .unit))],[((.sl (.sl I)),2),(I,0)],λx=>qc4 x.1 x.2⟩
def qms:TH:=qfA [([],43,.block 0,{lv:=[⟨none,9,0⟩],ps:=[((.sl (.sl I)),2)],D:=⟨562864259597824⟩}),
 ([],43,.loop 0,{lv:=[⟨none,9,0⟩,⟨none,37,0⟩],ps:=[((.sl (.sl I)),2),(I,0)],D:=⟨562864259597824⟩}),
 ([],43,.block 2,{lv:=[⟨none,9,0⟩],ps:=[((.sl (.sl I)),2)],D:=⟨4835703276206716885170816⟩,wr:=[⟨0,12⟩]}),
 ([],43,.loop 2,{lv:=[⟨none,9,0⟩,⟨none,51,0⟩],ps:=[((.sl (.sl I)),2),(I,0)],D:=⟨4835703276206716885170816⟩,wr:=[⟨0,12⟩],rs:=[⟨0,12⟩],Dn:=⟨4835703204149122847238784⟩}),
 ([],43,.block 3,{lv:=[⟨none,9,0⟩],ps:=[((.sl (.sl I)),2)],D:=⟨2417851630222059094702720⟩,wr:=[⟨0,12⟩],rs:=[⟨0,12⟩],Dn:=⟨2417851558164465056770688⟩}),
 ([],43,.block 4,{lv:=[⟨none,9,0⟩],ps:=[((.sl (.sl I)),2)],D:=⟨2417833210499583149367936⟩}),
 ([],43,.loop 4,{lv:=[⟨none,9,0⟩,⟨none,64,0⟩],ps:=[((.sl (.sl I)),2),(I,0)],D:=⟨2417833210499583149367936⟩,rs:=[⟨0,12⟩],Dn:=⟨2416652618878865738064512⟩})] []
theorem qmx(x:denP qbt.ps):fnT Try.prog Hn.hints qms (qec [qao,qaC,qaq,qaD]) 40 43 (qaY qbt.ps x) qbt.rs=qbt.F x:=by kernel_rfl
theorem qmM:qP Try.prog Hn.hints Lb qbt:=qG (qq qd0 (qq qe4 (qq qd2 (qq qe5 q4)))) hJ 40 _ _ _ _ qmx
def qcY(a0:((List (List Int))×Int×Unit))(a1:((List Int)×(List Bool)×Unit))(a2:(List Int)):Option Bool :=
 (qiA).bind λx1 =>
 bif !x1 then
  some false
 else
  (bif decide ((a0.1.length:Int) > 3)then
    some true
   else
    (qcv a0).bind λx2 =>
    bif !(decide (x2=0))then
     some true
    else
     (idx a0.1 0).bind λx3 =>
     bif decide ((x3.length:Int) > 6)then
      some true
     else
      (qQ a1 (a0.1.length:Int)).bind λx4 =>
      bif !(decide (x4=0))then
       some true
      else
       bif decide ((a2.length:Int)=0)then
        some true
       else
        some (decide ((a2.length:Int) > 40))).bind λ(p5:Bool) =>
  bif p5 then
   some true
  else
   (qaw (λ(s8:((List (List Int))×(List (List Int))×Int)) =>
     bif decide (s8.2.2<(a0.1.length:Int))then
      (qaw (λ(s11:((List Int)×(List Int)×Int)) =>
        (idx a0.1 0).bind λx12 =>
        bif decide (s11.2.2<(x12.length:Int))then
         (idx a1.1 s8.2.2).bind λx13 =>
         (bif decide (x13>=0)then
           (idx a1.1 s8.2.2).bind λx14 =>
           (idx a0.1 x14).bind λx15 =>
           (idx x15 s11.2.2).bind λx16 =>
           some x16
          else
           some 0).bind λ(p17:Int) =>
         (idx a1.2.1 s8.2.2).bind λx18 =>
         (bif x18 then
           some (w64 (0-p17))
          else
           some p17).bind λ(p19:Int) =>
         bif decide ((a2.length:Int)=0)then
          none
         else
          (idx a2 ((w64 ((w64 (7*s8.2.2))+s11.2.2)).tmod (a2.length:Int))).bind λx20 =>
          (qfP x20 (w64 ((w64 (2*a0.2.1))+1))).bind λx21 =>
          (app s11.1 ([p19])).bind λx22 =>
          let v23:Int:=min (max (w64 (p19+(w64 (x21-a0.2.1)))) (-100000:Int)) (100000:Int)
          (app s11.2.1 ([v23])).bind λx24 =>
          some (.inl (x22,x24,w64 (s11.2.2+1)))
        else
         some (.inr (s11.1,s11.2.1))) ([],[],0)).bind λ(p25:((List Int)×(List Int))) =>
      (app s8.1 ([p25.1])).bind λx26 =>
      (app s8.2.1 ([p25.2])).bind λx27 =>
      some (.inl (x26,x27,w64 (s8.2.2+1)))
     else
      some (.inr (s8.1,s8.2.1))) ([],[],0)).bind λ(p28:((List (List Int))×(List (List Int)))) =>
   (qae a0).bind λx29 =>
   (q1 p28.2).bind λx30 =>
   (qar x29 x30).bind λx31 =>
   (bif !(decide (x31.2.2=0))then
     some true
    else
     (qcQ a1).bind λx32 =>
     bif decide (x31.2.1 > x32)then
      some true
     else
      (qQ x31.1 (p28.2.length:Int)).bind λx33 =>
      some (!(decide (x33=0)))).bind λ(p34:Bool) =>
   bif p34 then
    some false
   else
    (qae a0).bind λx35 =>
    (q1 p28.2).bind λx36 =>
    (qI x31.1).bind λx37 =>
    (qS x35 x36 x37).bind λx38 =>
    (bif !(decide (x38.2=0))then
      some true
     else
      some (!(decide (x38.1=x31.2.1)))).bind λ(p39:Bool) =>
    bif p39 then
     some false
    else
     (qhc (p28.2.length:Int)).bind λx40 =>
     (qaw (λ(s42:Int) =>
       bif decide (s42<(x40.length:Int))then
        (qae a0).bind λx43 =>
        (q1 p28.2).bind λx44 =>
        (idx x40 s42).bind λx45 =>
        (qI x45).bind λx46 =>
        (qS x43 x44 x46).bind λx47 =>
        (bif decide (x47.2=0)then
          (idx x40 s42).bind λx48 =>
          (qcQ x48).bind λx49 =>
          some (decide (x49<x31.2.1))
         else
          some false).bind λ(p50:Bool) =>
        bif p50 then
         some (.inr (.inr false))
        else
         some (.inl (w64 (s42+1)))
       else
        some (.inr (.inl ()))) 0).bind (Sum.elim (λ(p51:Unit) =>
     (qae a0).bind λx52 =>
     (q1 a0.1).bind λx53 =>
     (qar x52 x53).bind λx54 =>
     (bif !(decide (x54.2.2=0))then
       some true
      else
       some (!(decide (x54.2.1=0)))).bind λ(p55:Bool) =>
     bif p55 then
      some false
     else
      (q1 p28.1).bind λx56 =>
      (qI a1).bind λx57 =>
      (qc4 x56 x57).bind λx58 =>
      (bif !(decide (x58.2=0))then
        some true
       else
        some (!(decide ((x58.1.length:Int)=(a0.1.length:Int))))).bind λ(p59:Bool) =>
      bif p59 then
       some false
      else
       (qaw (λ(s61:Int) =>
         bif decide (s61<(x58.1.length:Int))then
          (idx a0.1 0).bind λx62 =>
          (mkS (0:Int) (x62.length:Int)).bind λx63 =>
          bif decide ((x62.length:Int)=(x62.length:Int))then
           (qd6 a1.1 s61).bind λx64 =>
           (bif x64 then
             (idx a0.1 s61).bind λx65 =>
             some x65
            else
             some x63).bind λ(p66:(List Int)) =>
           (idx x58.1 s61).bind λx67 =>
           (qfo x67 p66).bind λx68 =>
           bif !x68 then
            some (.inr (.inr false))
           else
            some (.inl (w64 (s61+1)))
          else
           none
         else
          some (.inr (.inl ()))) 0).bind (Sum.elim (λ(p69:Unit) =>
       some true) some)) some)
def qan:Entry:=⟨5,[.ty (.pair (.sl (.sl I)) (.pair I .unit)),.ty (.pair (.sl I) (.pair (.sl .bool) .unit)),.ty (.sl I)],[(.bool,0)],λx=>qcY x.1 x.2.1 x.2.2⟩
def qhU:TH:=qfA [([],5,.region 3,{lv:=[⟨none,67,0⟩],ps:=[(.bool,0)],D:=⟨295147905170762891264⟩,rs:=[⟨0,3⟩],Dn:=⟨295143392766452563968⟩}),
 ([],5,.block 0,{lv:=[⟨none,7,0⟩,⟨none,8,0⟩],ps:=[((.sl (.sl I)),2),((.sl (.sl I)),2)],D:=⟨178405961588244985132285451033281713768791936⟩,rs:=[⟨0,3⟩],Dn:=⟨178405961588244985132284860737471355063140224⟩}),
 ([],5,.loop 0,{lv:=[⟨none,7,0⟩,⟨none,8,0⟩,⟨none,9,0⟩],ps:=[((.sl (.sl I)),2),((.sl (.sl I)),2),(I,0)],D:=⟨178405961588244985132285451033281713768791936⟩,rs:=[⟨0,3⟩],Dn:=⟨178405961588244985132209302873745440739721088⟩}),
 ([],5,.block 2,{lv:=[⟨none,10,0⟩,⟨none,11,0⟩],ps:=[((.sl I),1),((.sl I),1)],D:=⟨696898287454081973135212264157305209125888⟩,rs:=[⟨0,3⟩],Dn:=⟨696898287454081973059654400431390885706752⟩}),
 ([],5,.loop 2,{lv:=[⟨none,10,0⟩,⟨none,11,0⟩,⟨none,12,0⟩],ps:=[((.sl I),1),((.sl I),1),(I,0)],D:=⟨696898287454081973135212264157305209125888⟩,rs:=[⟨0,3⟩,⟨0,4⟩],Dn:=⟨696876355187074710503829029273468156279808⟩}),
 ([],5,.cond 89,{lv:=[⟨none,13,0⟩],ps:=[(I,0)],D:=⟨5069364460873632225711913705472⟩,rs:=[⟨0,3⟩,⟨0,4⟩],Dn:=⟨5063174760677205324337418084352⟩}),
 ([],5,.cond 106,{lv:=[⟨none,13,0⟩],ps:=[(I,0)],D:=⟨486777830487640090174734030872576⟩}),
 ([],5,.region 22,{lv:=[⟨none,170,0⟩],ps:=[(.bool,0)],D:=⟨2993064009401355995048758807100902856566621352230912⟩}),
 ([],5,.region 25,{lv:=[⟨none,187,0⟩],ps:=[(.bool,0)],D:=⟨389253867379935770023020144896178532639159737034634952704⟩}),
 ([],5,.block 4,{lv:=[],ps:=[],abn:=true,D:=⟨3369993330255279106640036503959559122600809844766393837907022449664⟩}),
 ([],5,.loop 4,{lv:=[⟨none,21,0⟩],ps:=[(I,0)],D:=⟨3369993330255279106640036503959559122600809844766393837907022449664⟩}),
 ([],5,.region 32,{lv:=[⟨none,220,0⟩],ps:=[(.bool,0)],D:=⟨3368347828836508768291221916694896483699660316951937980274602672128⟩}),
 ([],5,.region 35,{lv:=[⟨none,236,0⟩],ps:=[(.bool,0)],D:=⟨217405009923902759304194809661726301752209932623367176487619513049677824⟩}),
 ([],5,.region 38,{lv:=[⟨none,254,0⟩],ps:=[(.bool,0)],D:=⟨57839505512585189413238826984320180534128512848120262213068900605515200987136⟩,rs:=[⟨0,3⟩],Dn:=⟨56030254118252123859745530343559431973921169337719628399952375855391558336512⟩}),
 ([],5,.block 6,{lv:=[],ps:=[],abn:=true,D:=⟨15541351079909787948697597542802658748795300785782123837194217258182442277686713781376⟩}),
 ([],5,.loop 6,{lv:=[⟨none,29,0⟩],ps:=[(I,0)],D:=⟨15541351079909787948697597542802658748795300785782123837194217258182442277686713781376⟩,rs:=[⟨0,3⟩,⟨0,4⟩],Dn:=⟨15537315957184045953919476941117075992582430033356495594818570240294934520945021291648⟩}),
 ([],5,.cond 270,{lv:=[⟨none,30,0⟩],ps:=[((.sl I),2000)],D:=⟨117622530583979689840826795139705246300614476583235010075793329495910220394357850112⟩,rs:=[⟨0,3⟩],Dn:=⟨113828255403851312749187221102940560936078525725711300073348383383138922962316427264⟩})] []
theorem qhZ(x:denP qan.ps):fnT Try.prog Hn.hints qhU (qec [qaU,qdf,qdg,qeg,qcV,qdh,qai,qa5,qcN,qau,qbg,q7,qav,qbt]) 40 5 (qaY qan.ps x) qan.rs=qan.F x:=by kernel_rfl
theorem qh5:qP Try.prog Hn.hints Lb qan:=qG (qq qgA (qq qou (qq qsP (qq qvf (qq qpG (qq qsQ (qq qgh (qq qkr (qq qrq (qq qgK (qq qlp (qq qfi (qq qgL (qq qmM q4)))))))))))))) hJ 40 _ _ _ _ qhZ
end
end
end Go.Proofs.Ytofjnhppalciiaa
end
section
namespace Go.Tx
open Go
section
theorem qiY{n:Int}(h1 : -9223372036854775808<=n)(h2:n<=9223372036854775807):IntKind.wrap .i64 n=n:=by
 rw [IntKind.wrap_i64];omega
theorem qw0{α:Type}(l:List α)(i:Nat):idx l (i:Int)=l[i]?:=by simp [idx]
theorem qza{α:Type}(l:List α):idx l 0=l[0]?:=by simp [idx]
theorem qcW{α:Type}{l:List α}{i:Nat}{a:α}(h:l[i]?=some a):idx l (i:Int)=some a:=by simp [idx,h]
theorem qAo{α:Type}{l l2:List α}(h:l.length+l2.length<=4294967296):app l l2=some (l++l2):=by simp [app,h]
section
variable {σ ρ:Type} {f:σ->Option (σ ⊕ ρ)}
theorem qkq:∀{n m:Nat} {s:σ} {r:ρ},qh3 f n s=some r->n<=m->qh3 f m s=some r
 |0,m,s,r,h,_=>by simp [qh3]at h
 |n+1,0,s,r,h,hm=>by omega
 |n+1,m+1,s,r,h,hm=>by
  simp only [qh3]at h ⊢;cases hf:f s with
  |none=>rw [hf]at h;cases h
  |some x =>
   rw [hf]at h;cases x with
   |inl s'=>exact qkq h (by omega)
   |inr r'=>exact h
theorem qpD{n:Nat}{s:σ}{r:ρ}(h:qh3 f n s=some r):qaw f s=some r:=by
 have hex:∃n r,qh3 f n s=some r:=⟨n,r,h⟩
 cases hl:qaw f s with
 |none=>exfalso;unfold qaw at hl;rw [dif_pos hex]at hl;cases hl
 |some r' =>
  obtain ⟨m,hm⟩:=qhB hl;have h1:=qkq h (Nat.le_max_left n m);have h2:=qkq hm (Nat.le_max_right n m);rw [<- h1,<- h2]
theorem qrg{s s':σ}(h:f s=some (.inl s')):qaw f s=qaw f s':=by
 cases hl:qaw f s' with
 |some r =>
  obtain ⟨n,hn⟩:=qhB hl;exact qpD (n:=n+1) (by simp [qh3,h,hn])
 |none =>
  cases hl2:qaw f s with
  |none=>rfl
  |some r =>
   obtain ⟨n,hn⟩:=qhB hl2;cases n with
   |zero=>simp [qh3]at hn
   |succ n =>
    simp only [qh3,h]at hn;rw [qpD hn]at hl;cases hl
theorem qjA{s:σ}{r:ρ}(h:f s=some (.inr r)):qaw f s=some r:=qpD (n:=1) (by simp [qh3,h])
theorem qzi(n:Nat)(I:Nat->σ->Prop)(Q:ρ->Prop)
  (hs:∀i s,i<=n->I i s->(∃s',f s=some (.inl s')/\i<n/\I (i+1) s')\/(∃r,f s=some (.inr r)/\Q r)) {s:σ} (h0:I 0 s):∃r,qaw f s=some r/\Q r:=by
 have h:∀k i s,n-i=k->i<=n->I i s->∃r,qaw f s=some r/\Q r:=by
  intro k;induction k with
  |zero =>
   intro i s hk hi hI;rcases hs i s hi hI with ⟨s',_,h,_⟩|⟨r,h,hq⟩
   ·omega
   ·exact ⟨r,qjA h,hq⟩
  |succ k ih =>
   intro i s hk hi hI;rcases hs i s hi hI with ⟨s',h,hlt,hI'⟩|⟨r,h,hq⟩
   ·obtain ⟨r,hr,hq⟩:=ih (i+1) s' (by omega) (by omega) hI';exact ⟨r,by rw [qrg h,hr],hq⟩
   ·exact ⟨r,qjA h,hq⟩
 exact h n 0 s (by omega) (by omega) h0
end
def qbq{α ρ:Type}(g:Nat->α->Option ρ):Nat->List α->Option ρ
 |_,[]=>none
 |k,a::l=>match g k a with
  |some r=>some r
  |none=>qbq g (k+1) l
theorem qma{α ρ:Type}(g:α->Option ρ):∀(l:List α) (k:Nat),qbq (λ_ a=>g a) k l=l.findSome? g
 |[],k=>rfl
 |a::l,k=>by simp only [qbq,List.findSome?_cons];cases g a<;>simp [qma g l]
def qjU{ρ:Type}:Option ρ->Unit⊕ρ
 |some r=>.inr r
 |none=>.inl ()
def stp{ρ:Type}(i:Nat):Option ρ->Int⊕(Unit⊕ρ)
 |some r=>.inr (.inr r)
 |none=>.inl ((i:Int)+1)
theorem qfy{α ρ:Type}(l:List α){f:Int->Option (Int⊕(Unit⊕ρ))}(g:Nat->α->Option ρ)
  (h:∀(i:Nat) (a:α),l[i]?=some a->f i=some (stp i (g i a)))
  (he:f l.length=some (.inr (.inl ()))):qaw f 0=some (qjU (qbq g 0 l)):=by
 have key:∀(l2 l1:List α),l1++l2=l->qaw f (l1.length:Nat)=some (qjU (qbq g l1.length l2)):=by
  intro l2;induction l2 with
  |nil =>
   intro l1 e;have:l1=l:=by simpa using e
   subst this;rw [qjA he];rfl
  |cons a l2 ih =>
   intro l1 e;have hi:l[l1.length]?=some a:=by rw [<- e];simp
   have hf:=h _ _ hi;simp only [qbq];cases hg:g l1.length a with
   |some r=>rw [hg]at hf;rw [qjA hf];rfl
   |none =>
    rw [hg]at hf;rw [qrg hf];have:=ih (l1++[a]) (by simp [e]);simpa using this
 simpa using key l [] rfl
end
section
def Ok{α:Type}(o:Option α)(Q:α->Prop):Prop:=∃a,o=some a/\Q a
section
variable {α β σ ρ τ:Type}
theorem qbw{a:α}{Q:α->Prop}:Ok (some a) Q↔Q a:=⟨λ⟨_,h,hq⟩=>by cases h;exact hq,λh=>⟨a,rfl,h⟩⟩
theorem ok_none{Q:α->Prop}:Ok (none:Option α) Q↔False:=⟨λ⟨_,h,_⟩=>(by cases h),λh=>h.elim⟩
theorem ok_eq{o:Option α}{a:α}:Ok o (λr=>r=a)↔o=some a:=⟨λ⟨_,h,hq⟩=>by rw [h,hq],λh=>⟨a,h,rfl⟩⟩
theorem Ok.eq{o:Option α}{a:α}(h:Ok o (λr=>r=a)):o=some a:=ok_eq.1 h
theorem Ok.mono{o:Option α}{P Q:α->Prop}(h:Ok o P)(hq:∀a,P a->Q a):Ok o Q:=by obtain ⟨a,h1,h2⟩:=h;exact ⟨a,h1,hq a h2⟩
theorem Ok.bind{o:Option α}{k:α->Option β}{P:α->Prop}{Q:β->Prop}(h:Ok o P)(hk:∀a,P a->Ok (k a) Q):Ok (o.bind k) Q:=by
 obtain ⟨a,h1,h2⟩:=h;rw [h1];exact hk a h2
theorem qfj{o:Option α}{k:α->Option β}{Q:β->Prop}:Ok (o.bind k) Q↔Ok o λa=>Ok (k a) Q:=by
 cases o with
 |none=>simp [ok_none]
 |some a=>simp [qbw]
theorem qCr{c:Bool}{a b:Option α}{Q:α->Prop}:Ok (bif c then a else b) Q↔(c=true->Ok a Q)/\(c=false->Ok b Q):=by cases c<;>simp
theorem qep{c:Prop}[Decidable c]{a b:α}:(bif decide c then a else b)=if c then a else b:=by by_cases h:c<;>simp [h]
theorem qfQ{c:Prop}[Decidable c]{a b:α}:(bif !(decide c)then a else b)=if c then b else a:=by by_cases h:c<;>simp [h]
theorem qog{l:List α}{n:Int}(d:α)(h0:0<=n)(h1:n<l.length):idx l n=some (l.getD n.toNat d):=by
 unfold idx;rw [if_pos h0];have:n.toNat<l.length:=by omega
 simp [this]
theorem qev{l:List Int}{n:Int}(h0:0<=n)(h1:n<l.length):idx l n=some (l.getD n.toNat 0):=qog 0 h0 h1
theorem qit{l:List (List α)}{n:Int}(h0:0<=n)(h1:n<l.length):idx l n=some (l.getD n.toNat []):=qog [] h0 h1
theorem qdR{l:List α}{a:α}(h:l.length<=4294967295):app l [a]=some (l++[a]):=qAo (by simp;omega)
theorem qo7{l2:List α}(h:l2.length<=4294967296):app [] l2=some l2:=by rw [qAo (by simpa using h)];rfl
theorem qAJ{l:List α}{a b:Int}(h:0<=a/\a<=b/\b<=l.length):slc l a b=some ((l.take b.toNat).drop a.toNat):=by unfold slc;rw [if_pos h]
theorem qxs{z:α}{n:Int}(h:0<=n/\n<=4294967296):mkS z n=some (List.replicate n.toNat z):=by unfold mkS;rw [if_pos h]
def Rnd(o:Option (σ⊕ρ))(I:σ->Prop)(Q:ρ->Prop):Prop:=Ok o λx=>match x with
 |.inl s=>I s
 |.inr r=>Q r
theorem qaP{s:σ}{I:σ->Prop}{Q:ρ->Prop}:Rnd (some (.inl s)) I Q↔I s:=qbw
theorem qaV{r:ρ}{I:σ->Prop}{Q:ρ->Prop}:Rnd (some (.inr r):Option (σ⊕ρ)) I Q↔Q r:=qbw
theorem qzJ{o:Option α}{k:α->Option (σ⊕ρ)}{I:σ->Prop}{Q:ρ->Prop}:Rnd (o.bind k) I Q↔Ok o λa=>Rnd (k a) I Q:=qfj
theorem qb9{c:Bool}{a b:Option (σ⊕ρ)}{I:σ->Prop}{Q:ρ->Prop}:Rnd (bif c then a else b) I Q↔(c=true->Rnd a I Q)/\(c=false->Rnd b I Q):=qCr
theorem qbW{f:σ->Option (σ⊕ρ)}(n:Nat)(I:Nat->σ->Prop)(Q:ρ->Prop){s:σ}(h0:I 0 s)
  (hs:∀i s,i<=n->I i s->Rnd (f s) (λs'=>i<n/\I (i+1) s') Q):Ok (qaw f s) Q:=by
 obtain ⟨r,h1,h2⟩:=qzi n I Q (λi s hi hI=>by
  obtain ⟨x,hx,h⟩:=hs i s hi hI;cases x with
  |inl s'=>exact .inl ⟨s',hx,h⟩
  |inr r=>exact .inr ⟨r,hx,h⟩) h0
 exact ⟨r,h1,h2⟩
theorem qmN{o:Option (α⊕β)}{k:α->Option β}{Q:β->Prop}:Ok (o.bind (Sum.elim k some)) Q↔Ok o λx=>match x with
  |.inl a=>Ok (k a) Q
  |.inr b=>Q b:=by
 rw [qfj];cases o with
 |none=>simp [ok_none]
 |some x=>cases x<;>simp [qbw]
end
theorem qzK{α σ ρ:Type}{o:Option (α⊕(σ⊕ρ))}{k:α->Option (σ⊕ρ)}{I:σ->Prop}{Q:ρ->Prop}:Rnd (o.bind (Sum.elim k some)) I Q↔Ok o λx=>match x with
  |.inl a=>Rnd (k a) I Q
  |.inr b=>match b with
   |.inl s=>I s
   |.inr r=>Q r:=by
 cases o with
 |none=>simp [Rnd,ok_none]
 |some x=>cases x with
  |inl a=>simp only [qa,Sum.elim_inl,qbw]
  |inr b=>simp only [qa,Sum.elim_inr,qbw];unfold Rnd;rw [qbw]
theorem qcI{α:Type}{l:List α}{i:Nat}{a d:α}(h:l[i]?=some a):l.getD i d=a:=by simp [h]
theorem qrY{α:Type}{l:List α}{i:Nat}(d:α)(h:i<l.length):l.take (i+1)=l.take i++[l.getD i d]:=by
 rw [List.take_add_one];simp [h]
end
section
section
variable {α β ρ τ:Type}
theorem qie{l:List α}{i:Nat}{a:α}(h:l[i]?=some a):i<l.length:=(qm.1 h).1
theorem qhv(l:List α)(K:Int->Option (Int⊕(Unit⊕ρ)))(g:Nat->α->Option ρ)(h:∀(i:Nat) (a:α),l[i]?=some a->K i=some (stp i (g i a))) :
  qaw (λs=>bif decide (s<(l.length:Int))then K s else some (.inr (.inl ()))) 0=some (qjU (qbq g 0 l)):=by
 refine qfy l g (λi a hi=>?_) ?_
 ·have:=qie hi;have e:decide ((i:Int)<(l.length:Int))=true:=by simp<;>omega
  simp only [e,cond_true];exact h i a hi
 ·simp
theorem qfq{o:Option ρ}{k:Unit->Option ρ}:(some (qjU o)).bind (Sum.elim k some)=(match o with
  |some r=>some r
  |none=>k ()):=by cases o<;>rfl
theorem qdi{g:Nat->α->Option ρ}:∀{l:List α} {k:Nat},qbq g k l=none↔∀i a,l[i]?=some a->g (k+i) a=none
 |[],k=>by simp [qbq]
 |a::l,k=>by
  simp only [qbq];cases hg:g k a with
  |some r =>
   simp only [reduceCtorEq,false_iff];intro h;have:=h 0 a rfl;simp [hg]at this
  |none =>
   simp only
   rw [qdi (l:=l) (k:=k+1)];constructor
   ·intro h i b hb;cases i with
    |zero=>simp at hb;subst hb;simpa using hg
    |succ i=>have:=h i b (by simpa using hb);rw [<- this];congr 1;omega
   ·intro h i b hb;have:=h (i+1) b (by simpa using hb);rw [<- this];congr 1;omega
theorem qhr{g:Nat->α->Option ρ}{r:ρ}:∀{l:List α} {k:Nat},qbq g k l=some r->∃i a,l[i]?=some a/\g (k+i) a=some r/\∀j b,j<i->l[j]?=some b->g (k+j) b=none
 |[],k,h=>by simp [qbq]at h
 |a::l,k,h=>by
  simp only [qbq]at h;cases hg:g k a with
  |some r' =>
   rw [hg]at h;simp only [qb]at h;subst h;exact ⟨0,a,rfl,by simpa using hg,λj b hj=>by omega⟩
  |none =>
   rw [hg]at h;obtain ⟨i,b,h1,h2,h3⟩:=qhr (l:=l) (k:=k+1) h;refine ⟨i+1,b,by simpa using h1,by rw [<- h2];congr 1;omega,λj c hj hc=>?_⟩;cases j with
   |zero=>simp at hc;subst hc;simpa using hg
   |succ j=>have:=h3 j c (by omega) (by simpa using hc);rw [<- this];congr 1;omega
theorem qA9(l:List α)(p:α->Bool)(hl:l.length<=1000000000) :
  Ok ((qaw (λ(s2:Int) =>
   bif decide (s2<(l.length:Int))then
    (idx l s2).bind λx3 =>
    bif p x3 then
     some (.inr (.inr s2))
    else
     some (.inl (IntKind.wrap .i64 (s2+1)))
   else
    some (.inr (.inl ()))) 0).bind (Sum.elim (λ(p5:Unit) =>
  some (-1)) some)) λr=>decide (r>=0)=l.any p:=by
 rw [qhv l _ (λi a=>if p a then some (i:Int)else none) (λi a hi=>by
  have:=qie hi;rw [qcW hi];simp only [qa];cases hp:p a
  ·simp only [cond_false,qf,if_false,stp];rw [qiY (by omega) (by omega)]
  ·simp [stp]),qfq]
 cases hf:qbq (λi a=>if p a then some (i:Int)else none) 0 l with
 |none =>
  rw [qdi]at hf;have:l.any p=false:=by
   rw [List.any_eq_false];intro x hx;obtain ⟨i,hi⟩:=List.mem_iff_getElem?.1 hx;have:=hf i x hi;simpa using this
  exact ⟨_,rfl,by rw [this];rfl⟩
 |some r =>
  obtain ⟨i,a,h1,h2,_⟩:=qhr hf;have hp:p a=true:=by
   cases hp:p a
   ·simp [hp]at h2
   ·rfl
  have:l.any p=true:=List.any_eq_true.2 ⟨a,List.mem_of_getElem? h1,hp⟩;simp only [hp,if_true,qb]at h2;exact ⟨_,rfl,by rw [this];simp;omega⟩
end
end

section
section
variable {α:Type}
end
end
section
section
variable {α β:Type}
def mkL(n:Nat)(f:Nat->α):List α:=(List.range n).map f
theorem qa2(n:Nat)(f:Nat->α):(mkL n f).length=n:=by simp [mkL]
theorem qiC{n:Nat}(f:Nat->α){k:Nat}(h:k<n):(mkL n f)[k]?=some (f k):=by simp [mkL,h]
theorem qgc{n:Nat}(f:Nat->α){k:Nat}(d:α)(h:k<n):(mkL n f).getD k d=f k:=qcI (qiC f h)
theorem qjC(n:Nat)(f:Nat->α):mkL (n+1) f=mkL n f++[f n]:=by simp [mkL,List.range_succ]
theorem qrk{n:Nat}{f g:Nat->α}(h:∀k,k<n->f k=g k):mkL n f=mkL n g:=List.map_congr_left λk hk=>h k (by simpa using hk)
theorem qmF{n:Nat}{f:Nat->α}{x:α}(h:x∈mkL n f):∃k,k<n/\x=f k:=by
 obtain ⟨k,hk,rfl⟩:=List.mem_map.1 h;exact ⟨k,by simpa using hk,rfl⟩
theorem qBl{n:Nat}{f:Nat->α}{k:Nat}(h:k<n):f k∈mkL n f:=List.mem_map.2 ⟨k,by simpa using h,rfl⟩
theorem qhy(l:List α)(d:α):l=mkL l.length λk=>l.getD k d:=by
 apply List.ext_getElem?;intro k;by_cases h:k<l.length
 ·rw [qiC _ h];simp [h]
 ·rw [List.getElem?_eq_none (by omega),List.getElem?_eq_none (by rw [qa2];omega)]
theorem qsM{n:Nat}(f:Nat->α)(g:α->β):(mkL n f).map g=mkL n λk=>g (f k):=by simp [mkL]
theorem qa1{l:List α}{i:Nat}{d:α}(h:i<l.length):l.getD i d∈l:=by
 have:l[i]?=some (l.getD i d):=by simp [h]
 exact List.mem_of_getElem? this
theorem qlV{l:List α}{i:Nat}(d:α)(h:i<l.length):l[i]?=some (l.getD i d):=by simp [h]
theorem qBa{K:List β×Int->Option ((List β×Int)⊕List β)}(l:List α)(f:α->β)
  (h:∀(i:Nat) a out,l[i]?=some a->out.length=i->K (out,(i:Int))=some (.inl (out++[f a],(i:Int)+1))) (he:∀out,out.length=l.length->K (out,(l.length:Int))=some (.inr out)):qaw K ([],0)=some (l.map f):=by
 refine Ok.eq (qbW l.length (λi (s:List β×Int)=>s=((l.take i).map f,(i:Int))) (λr=>r=l.map f) (by simp) ?_);rintro i s hi rfl;by_cases hlt:i<l.length
 ·have ha:l[i]?=some l[i]:=by simp [hlt]
  rw [h i _ _ ha (by simp;omega),qaP];refine ⟨hlt,?_⟩;have e:(l.take (i+1)).map f=(l.take i).map f++[f l[i]]:=by rw [List.take_add_one,ha];simp only [List.map_append,Option.toList_some,qh,List.map_nil]
  rw [e];rfl
 ·have:i=l.length:=by omega
  subst this;rw [he _ (by simp),qaV];simp
theorem qy7{l m:List α}(d:α):(l.length=m.length/\∀i,i<l.length->l.getD i d=m.getD i d)↔l=m:=by
 constructor
 ·rintro ⟨h1,h2⟩;rw [qhy l d,qhy m d,h1];exact qrk λk hk=>h2 k (by omega)
 ·rintro rfl;exact ⟨rfl,λ_ _=>rfl⟩
theorem qw3 [DecidableEq α]{l m:List α}(d:α)(hl:l.length=m.length)(hb:l.length<=1000000000)(e:α->α->Bool)(he:∀a b,a∈l->b∈m->(e a b=true↔a=b)){K:Int->Option (Int⊕(Unit⊕Bool))}
  (h:∀i,i<l.length->K (i:Int)=some (if e (l.getD i d) (m.getD i d)=true then .inl ((i:Int)+1)else .inr (.inr false))) :
  (qaw (λs=>bif decide (s<(l.length:Int))then K s else some (.inr (.inl ()))) 0).bind (Sum.elim (λ(p5:Unit)=>some true) some)=some (decide (l=m)):=by
 refine Ok.eq (qmN.2 ?_);refine (qbW l.length (λi (s:Int)=>s=(i:Int)/\∀j,j<i->l.getD j d=m.getD j d) (λr=>(r=.inl ()/\∀j,j<l.length->l.getD j d=m.getD j d)\/(r=.inr false/\∃j,j<l.length/\l.getD j d≠m.getD j d)) ⟨rfl,by simp⟩ ?_).mono ?_
 ·rintro i s hi ⟨rfl,hI⟩;by_cases hlt:i<l.length
  ·have e0:decide ((i:Int)<(l.length:Int))=true:=by simp<;>omega
   simp only [e0,cond_true];rw [h i hlt];have hm:=he (l.getD i d) (m.getD i d) (qa1 hlt) (qa1 (by omega));by_cases c:e (l.getD i d) (m.getD i d)=true
   ·rw [if_pos c,qaP];refine ⟨hlt,by simp,λj hj=>?_⟩;by_cases hji:j<i
    ·exact hI j hji
    ·have:j=i:=by omega
     subst this;exact hm.1 c
   ·rw [if_neg c,qaV];exact .inr ⟨rfl,i,hlt,λh=>c (hm.2 h)⟩
  ·have:i=l.length:=by omega
   subst this;have e0:decide ((l.length:Int)<(l.length:Int))=false:=by simp
   simp only [e0,cond_false];rw [qaV];exact .inl ⟨rfl,hI⟩
 ·rintro r (⟨rfl,h1⟩|⟨rfl,j,hj,hne⟩)
  ·simp only [qbw];rw [eq_comm,decide_eq_true_iff];exact (qy7 d).1 ⟨hl,h1⟩
  ·simp only;rw [eq_comm,decide_eq_false_iff_not]
   exact λh=>hne (by rw [h])
end
end
end Go.Tx
end
section
namespace Go.Proofs.Ytofjnhppalciiaa
open Go Go.Ab Go.Tx
def big:Nat:=9223372036854775807
theorem qnC(a b c:Int):qbO a b c=some (decide (b<=a/\a<=c)):=by
 unfold qbO;by_cases h:b<=a<;>simp [h]
theorem qlS(a b c:Int):qdd a b c=some (decide (b<=a/\a<=c)):=by
 unfold qdd;by_cases h:b<=a<;>simp [h]
theorem qcA(b:Bool)(v:Int):qH b v=some (if b then 0 else v):=by
 unfold qH;cases b<;>simp
def qba:List Int->Int
 |[]=>0
 |a::l=>if a=0 then qba l else a
theorem qy3(l:List Int)(hl:l.length<=big):qag l=some (qba l):=by
 unfold qag;unfold big at hl;rw [qfy l (λ_ a=>if a=0 then none else some a)]
 ·rw [qma];simp only [qa];clear hl;induction l with
  |nil=>rfl
  |cons a l ih =>
   simp only [List.findSome?_cons,qba];by_cases h:a=0
   ·simp only [h,if_true];exact ih
   ·simp [h,qjU]
 ·intro i a hi;have hlt:i<l.length:=(qm.1 hi).1;have h1:(i:Int)<(l.length:Int):=by omega
  simp only [h1,decide_true,cond_true,qcW hi,qa,qiY (n:=(i:Int)+1) (by omega) (by omega)];by_cases h:a=0<;>simp [h,stp]
 ·simp
theorem qeX{l:List Int}(hl:l.length<=100):qag l=some (qba l):=qy3 l (by unfold big;omega)
theorem qun(a b:Int)(h1:0<=b)(h2:b<=9223372036854775807):qdN a b=some (decide (-b<=a/\a<=b)):=by
 unfold qdN;rw [qnC];simp only [w64,qiY (n:=0-b) (by omega) (by omega),qa];congr 2
 simp
def qm7(l:List Int):Int:=if l.length=0 then 10 else if 60<l.length then 8 else if ∀v∈l,-100000<=v/\v<=100000 then 0 else 2
theorem qo0(i a:Int):qck i a=some (if -100000<=a/\a<=100000 then 0 else 2):=by
 unfold qck;rw [qun _ _ (by omega) (by omega)];simp [qcA]
def qy6(i:Nat)(a:Int):Option (Int×Int):=if -100000<=a/\a<=100000 then none else some ((i:Int),2)
theorem qmb:∀(l:List Int) (k:Nat),(qbq qy6 k l=none/\∀v∈l,-100000<=v/\v<=100000)\/(∃r,qbq qy6 k l=some r/\r.2=2/\¬ ∀v∈l,-100000<=v/\v<=100000)
 |[],k=>.inl ⟨rfl,by simp⟩
 |a::l,k=>by
  simp only [qbq,qy6];by_cases h : -100000<=a/\a<=100000
  ·simp only [h,if_true,and_self];rcases qmb l (k+1)with ⟨h1,h2⟩|⟨r,h1,h2,h3⟩
   ·refine .inl ⟨h1,?_⟩;intro v hv;rcases qk.1 hv with rfl|hv
    ·exact h
    ·exact h2 v hv
   ·exact .inr ⟨r,h1,h2,λhh=>h3 λv hv=>hh v (List.mem_cons_of_mem _ hv)⟩
  ·refine .inr ⟨((k:Int),2),by simp [h],rfl,λhh=>h (hh a (List.mem_cons_self))⟩
theorem qA3(l:List Int)(hl:l.length<=big):q3 l=some ((qbq qy6 0 l).getD (0,0)):=by
 unfold q3;unfold big at hl;rw [qfy l qy6]
 ·simp only [qa];cases qbq qy6 0 l<;>simp [qjU]
 ·intro i a hi;have hlt:i<l.length:=(qm.1 hi).1;have h1:(i:Int)<(l.length:Int):=by omega
  simp only [h1,decide_true,cond_true,qcW hi,qa,qiY (n:=(i:Int)+1) (by omega) (by omega),qo0];by_cases h : -100000<=a/\a<=100000<;>simp [h,stp,qy6]
 ·simp
theorem qrD(l:List Int)(hl:l.length<=big):qbN l=some (qm7 l):=by
 unfold qbN qeI;simp only [qcA,qa];rw [qeX (by simp)];simp only [qa,qba,qA3 l hl];unfold qm7;by_cases h0:l.length=0
 ·simp [h0]
 ·by_cases h1:60<l.length
  ·have a1:(l.length:Int) > 0:=by omega
   have a2:¬ (l.length:Int)<=60:=by omega
   simp [h0,h1,a1,a2]
  ·have a1:(l.length:Int) > 0:=by omega
   have a2:(l.length:Int)<=60:=by omega
   rcases qmb l 0 with ⟨h2,h3⟩|⟨r,h2,h3,h4⟩
   ·simp only [a1,a2,h0,h1,h2,decide_true,if_true,if_false,if_pos h3];simp
   ·simp only [a1,a2,h0,h1,h2,decide_true,if_true,if_false,if_neg h4];simp [h3]
theorem qv3(l:List Int):qe8 l=some (qm7 l):=by
 unfold qe8 qfl qm7;by_cases h0:l.length=0
 ·simp [h0]
 ·by_cases h1:60<l.length
  ·have a1:¬ (l.length:Int)=0:=by omega
   have a2:(l.length:Int) > 60:=by omega
   simp only [a1,a2,h0,h1];simp
  ·have a1:¬ (l.length:Int)=0:=by omega
   have a2:¬ (l.length:Int) > 60:=by omega
   rw [qfy l qy6]
   ·rcases qmb l 0 with ⟨h2,h3⟩|⟨r,h2,h3,h4⟩
    ·simp only [a1,a2,h0,h1,h2,if_pos h3,qjU];simp
    ·simp only [a1,a2,h0,h1,h2,if_neg h4,qjU];simp [h3]
   ·intro i a hi;have hlt:i<l.length:=(qm.1 hi).1;have h1:(i:Int)<(l.length:Int):=by omega
    simp only [h1,decide_true,cond_true,qcW hi,qa,qiY (n:=(i:Int)+1) (by omega) (by omega),qlS];by_cases h : -100000<=a/\a<=100000<;>simp [h,stp,qy6]
   ·simp
def eC(n:Int)(c:List Int):Int:=if qm7 c=0 then (if (c.length:Int)=n then 0 else 13)else qm7 c
def gC(n:Int)(i:Nat)(c:List Int):Option (Int×Int):=if eC n c=0 then none else some ((i:Int),eC n c)
theorem qtK(n:Int):∀(l:List (List Int)) (k:Nat),((qbq (gC n) k l).getD (0,0)).2=qba (l.map (eC n))
 |[],k=>rfl
 |c::l,k=>by
  simp only [qbq,gC,qh,qba];by_cases h:eC n c=0
  ·simp only [h,if_true];exact qtK n l (k+1)
  ·simp [h]
theorem qh8(a0:List (List Int))(m n:Int)(hl:a0.length<=big)(hc:∀c∈a0,c.length<=big) :
  qbm a0 m n=some (qba [if 0<a0.length then 0 else 10,if (a0.length:Int)<=m then 0 else 8,qba (a0.map (eC n))]):=by
 unfold qbm;rw [qfy a0 (gC n)]
 ·have h1:((Option.some (qjU (qbq (gC n) 0 a0))).bind (Sum.elim (λ(p7:Unit)=>some (0,0)) some))=some ((qbq (gC n) 0 a0).getD (0,0)):=by
   cases qbq (gC n) 0 a0<;>simp [qjU]
  rw [h1];simp only [qa,qcA,qtK];rw [qeX (by simp)];simp
 ·intro i a hi;have hlt:i<a0.length:=(qm.1 hi).1;have h1:(i:Int)<(a0.length:Int):=by omega
  have h2:=hc a (List.mem_of_getElem? hi);unfold big at hl;simp only [h1,decide_true,cond_true,qcW hi,qa,qiY (n:=(i:Int)+1) (by omega) (by omega),qrD a h2,qcA];rw [qeX (by simp)];simp only [qa,qba,gC,eC];by_cases h3:qm7 a=0
  ·by_cases h4:(a.length:Int)=n<;>simp [h3,h4,stp]
  ·simp [h3,stp]
 ·simp
def n0:List (List Int)->Nat
 |[]=>0
 |c::_=>c.length
theorem qk6(a0:List (List Int)):qbT a0=some (n0 a0:Int):=by
 unfold qbT;cases a0 with
 |nil=>simp [n0]
 |cons c l =>
  have:¬ (((c::l).length:Nat):Int)=0:=by simp<;>omega
  simp only [this,decide_false,cond_false,qza];simp [n0]
def qlf(a0:List (List Int))(m:Int):Int:=qba [if 0<a0.length then 0 else 10,if (a0.length:Int)<=m then 0 else 8,qba (a0.map (eC (n0 a0)))]
theorem qfZ:∀{l:List Int},qba l=0->∀a∈l,a=0
 |[],_,a,h=>by cases h
 |b::l,h,a,ha=>by
  simp only [qba]at h;split at h
  ·rename_i e;rcases qk.1 ha with rfl|ha
   ·exact e
   ·exact qfZ h a ha
  ·rename_i e;exact absurd h e
theorem qeF{l:List Int}(h:qm7 l=0):0<l.length/\l.length<=60/\∀v∈l,-100000<=v/\v<=100000:=by
 unfold qm7 at h;split at h
 ·cases h
 ·split at h
  ·cases h
  ·split at h
   ·rename_i h1 h2 h3;exact ⟨by omega,by omega,h3⟩
   ·cases h
theorem quL{a0:List (List Int)}{m:Int}(h:qlf a0 m=0):0<a0.length/\(a0.length:Int)<=m/\∀c∈a0,qm7 c=0/\c.length=n0 a0:=by
 unfold qlf at h;have h1:=qfZ h;simp only [qk,List.mem_nil_iff,or_false,forall_eq_or_imp,forall_eq]at h1;obtain ⟨h2,h3,h4⟩:=h1;refine ⟨?_,?_,λc hc=>?_⟩
 ·by_cases h:0<a0.length
  ·exact h
  ·rw [if_neg h]at h2;cases h2
 ·by_cases h:(a0.length:Int)<=m
  ·exact h
  ·rw [if_neg h]at h3;cases h3
 ·have:=qfZ h4 (eC (n0 a0) c) (List.mem_map_of_mem hc);unfold eC at this;split at this
  ·rename_i e;split at this
   ·rename_i e2;exact ⟨e,by omega⟩
   ·cases this
  ·rename_i e;exact absurd this e
abbrev Xp:=List Int×List Bool×Unit
theorem wid{n:Int}(h1 : -9223372036854775808<=n)(h2:n<=9223372036854775807):w64 n=n:=qiY h1 h2
theorem qin{l:List Int}(h:l.length<=1000000000):qbC l=some l:=by
 unfold qbC;rw [qo7 (by omega)];rfl
theorem qeP{a:List (List Int)}(h:a.length<=1000000000)(hr:∀r∈a,r.length<=1000000000):q1 a=some a:=by
 unfold q1;rw [qBa a (λr=>r) (λi r out hi ho=>?_) (λout ho=>?_)]
 ·simp
 ·have hlt:=(qm.1 hi).1;have e0:decide ((i:Int)<(a.length:Int))=true:=by simp<;>omega
  simp only [e0,cond_true];rw [qcW hi];simp only [qa];rw [qin (hr r (List.mem_of_getElem? hi))];simp only [qa];rw [qdR (by omega)];simp only [qa];rw [wid (by omega) (by omega)]
 ·have e0:decide ((a.length:Int)<(a.length:Int))=false:=by simp
  simp only [e0,cond_false]
theorem qi0{x:Xp}(h1:x.1.length<=1000000000)(h2:x.2.1.length<=1000000000):qI x=some x:=by
 unfold qI;rw [qin h1,qo7 (by omega)];rfl
theorem qyI{l:List Int}(v:Int)(hl:l.length<=1000000000):∃r,qbn l v=some r/\(r>=0↔v∈l):=by
 unfold qbn;refine Ok.mono (P:=λr=>r>=0↔v∈l) ?_ λ_ h=>h;rw [qmN];refine (qbW l.length (λi (s:Int)=>s=(i:Int)/\∀j,j<i->l.getD j 0≠v) (λr=>(r=.inl ()/\∀j,j<l.length->l.getD j 0≠v)\/(∃i:Nat,r=.inr (i:Int)/\v∈l)) ⟨rfl,by simp⟩ ?_).mono ?_
 ·rintro i s hi ⟨rfl,hI⟩;by_cases hlt:i<l.length
  ·have e0:decide ((i:Int)<(l.length:Int))=true:=by simp<;>omega
   simp only [e0,cond_true];rw [qev (by omega) (by omega)];simp only [qa,Int.toNat_natCast];by_cases c:v=l.getD i 0
   ·have c':decide (v=l.getD i 0)=true:=by simpa using c
    rw [c',cond_true,qaV];exact .inr ⟨i,rfl,by rw [c];exact qa1 hlt⟩
   ·have c':decide (v=l.getD i 0)=false:=by simpa using c
    rw [c',cond_false,wid (by omega) (by omega),qaP];refine ⟨hlt,by simp,λj hj=>?_⟩;by_cases hji:j<i
    ·exact hI j hji
    ·have:j=i:=by omega
     subst this;exact λe=>c e.symm
  ·have:i=l.length:=by omega
   subst this;have e0:decide ((l.length:Int)<(l.length:Int))=false:=by simp
   simp only [e0,cond_false];rw [qaV];exact .inl ⟨rfl,hI⟩
 ·rintro r (⟨rfl,h⟩|⟨i,rfl,h⟩)
  ·simp only [qbw];constructor
   ·intro h0;omega
   ·intro hv;obtain ⟨j,hj⟩:=List.mem_iff_getElem?.1 hv;exact absurd (Go.Tx.qcI hj) (h j (qm.1 hj).1)
  ·simp only
   exact ⟨λ_=>h,λ_=>by omega⟩
theorem qsb{l:List Int}(v:Int)(hl:l.length<=1000000000):qaz l v=some (decide (v∈l)):=by
 unfold qaz;obtain ⟨r,h1,h2⟩:=qyI v hl;rw [h1];simp only [qa];congr 1
 exact decide_eq_decide.2 h2
def sc(x:Xp)(i:Nat):Int:=x.1.getD i 0
def rv(x:Xp)(i:Nat):Bool:=x.2.1.getD i false
def qbx(x:Xp)(n:Int)(i:Nat):Int :=
 if -1<=sc x i/\sc x i<=n-1 then (if sc x i ≠ -1/\sc x i∈x.1.take i then 23 else if sc x i = -1/\rv x i=true then 3 else 0)else 6
def qi1(E:Nat->Int)(n:Nat)(e:Int):Prop:=(e=0/\∀j,j<n->E j=0)\/(∃i,i<n/\e=E i/\E i≠0/\∀j,j<i->E j=0)
theorem qi1.same{E:Nat->Int}{n:Nat}{e e':Int}(h:qi1 E n e)(h':qi1 E n e'):e=e':=by
 rcases h with ⟨rfl,h1⟩|⟨i,h1,rfl,h2,h3⟩
 ·rcases h' with ⟨rfl,_⟩|⟨j,h4,rfl,h5,_⟩
  ·rfl
  ·exact absurd (h1 j h4) h5
 ·rcases h' with ⟨rfl,h4⟩|⟨j,h4,rfl,h5,h6⟩
  ·exact absurd (h4 i h1) h2
  ·by_cases c:i<j
   ·exact absurd (h6 i c) h2
   ·by_cases c2:j<i
    ·exact absurd (h3 j c2) h5
    ·have:i=j:=by omega
     subst this;rfl
theorem qe1{l:List Int}{i:Nat}{v:Int}(hi:i<=l.length):v∈l.take i↔∃j,j<i/\l.getD j 0=v:=by
 constructor
 ·intro h;obtain ⟨j,hj⟩:=List.mem_iff_getElem?.1 h;rw [List.getElem?_take]at hj;split at hj
  ·rename_i hlt;exact ⟨j,hlt,Go.Tx.qcI hj⟩
  ·cases hj
 ·rintro ⟨j,hj,rfl⟩;refine List.mem_iff_getElem?.2 ⟨j,?_⟩;rw [List.getElem?_take,if_pos hj];exact qlV 0 (by omega)
def qhj(x:Xp)(m:Nat):List (Int×Bool×Unit):=mkL m λj=>(sc x j,rv x j,())
theorem qyZ{α β:Type}{o:Option (α×β)}{Q:α->β->Prop}(h:Ok o λp=>Q p.1 p.2):∃a b,o=some (a,b)/\Q a b:=by
 obtain ⟨⟨a,b⟩,h1,h2⟩:=h;exact ⟨a,b,h1,h2⟩
theorem qC3{α β:Type}{o:Option (α×β)}{a:α}{b:β}{Q:α->β->Prop}(h:Ok o λp=>p=(a,b))(hq:Q a b):∃a b,o=some (a,b)/\Q a b:=⟨a,b,h.eq,hq⟩
theorem qk9{x:Xp}{n:Nat}(h1:x.1.length=n)(h2:x.2.1.length=n)(hn:n<=1000000) :
  ∃o e,qaW x (n:Int)=some (o,e)/\qi1 (qbx x n) n e/\(e=0->o=qhj x n):=by
 unfold qaW;have c1:decide ((x.1.length:Int)=(n:Int))=true:=by simp [h1]
 have c2:decide ((x.2.1.length:Int)=(n:Int))=true:=by simp [h2]
 simp only [c1,c2,Bool.not_true,cond_false,qa];refine qyZ (Q:=λo e=>qi1 (qbx x n) n e/\(e=0->o=qhj x n)) ?_
 ·rw [qfj,qmN];refine (qbW n (λi (s:Int×List (Int×Bool×Unit))=>s=((i:Int),qhj x i)/\∀j,j<i->qbx x n j=0)
   (λr=>(r=.inl (qhj x n)/\∀j,j<n->qbx x n j=0)\/(∃i o,i<n/\qbx x n i≠0/\(∀j,j<i->qbx x n j=0)/\r=.inr ((i:Int),qbx x n i,o))) ⟨rfl,by simp⟩ ?_).mono ?_
  ·rintro i s hi ⟨rfl,hI⟩;by_cases hlt:i<n
   ·have e0:decide ((i:Int)<(x.1.length:Int))=true:=by simp<;>omega
    have hlen:(qhj x i).length=i:=qa2 _ _;simp only [e0,cond_true];rw [qev (by omega) (by omega),qog false (by omega) (by omega)];simp only [qa,Int.toNat_natCast];show Rnd ((app (qhj x i) [(sc x i,rv x i,())]).bind _) _ _;rw [qdR (by omega)];simp only [qa];have hd:∀b:Bool,(bif b then (slc x.1 0 (i:Int)).bind λx7=>(qaz x7 (sc x i)).bind λx8=>some x8 else some false:Option Bool)=some (b&&decide (sc x i∈x.1.take i)):=λb=>by
     cases b with
     |false=>rfl
     |true =>
      simp only [cond_true];rw [qAJ (by omega)];simp only [qa,Int.toNat_natCast,Int.toNat_zero,List.drop_zero];rw [qsb _ (by simp;omega)];simp
    have hd':=hd (!(decide (sc x i = -1)));unfold sc at hd';rw [hd'];simp only [qa,qnC,qcA];rw [wid (n:=(n:Int)-1) (by omega) (by omega)];have hlast:(bif !(decide (x.1.getD i 0=(-1)))then
        (qag ([if decide (-1<=x.1.getD i 0/\x.1.getD i 0<=(n:Int)-1)=true then 0 else 6,if (!(!(decide (x.1.getD i 0 = -1))&&decide (x.1.getD i 0∈x.1.take i)))=true then 0 else 23,if True then (0:Int)else 3])).bind λx14 =>
        some x14
       else
        (qag ([if decide (-1<=x.1.getD i 0/\x.1.getD i 0<=(n:Int)-1)=true then 0 else 6,if (!(!(decide (x.1.getD i 0 = -1))&&decide (x.1.getD i 0∈x.1.take i)))=true then 0 else 23,if (!(x.2.1.getD i false))=true then (0:Int)else 3])).bind λx17 =>
        some x17:Option Int)=some (qbx x n i):=by
     rw [qeX (by simp),qeX (by simp)];unfold qbx sc rv qba qba qba qba;generalize x.1.getD i 0=v;generalize x.2.1.getD i false=b;generalize hm:decide (v∈x.1.take i)=m;have hm':(v∈x.1.take i)↔m=true:=by rw [<- hm];simp
     simp only [hm'];by_cases a1 : -1<=v/\v<=(n:Int)-1
     ·by_cases a2:v = -1
      ·subst a2;cases b<;>simp [a1]
      ·cases m<;>simp [a1,a2]
     ·by_cases a2:v = -1
      ·exact absurd ⟨by omega,by omega⟩ a1
      ·cases m<;>simp [a1,a2]
    rw [hlast];simp only [qa];by_cases c:qbx x n i=0
    ·have c':decide (qbx x n i=0)=true:=by simp [c]
     simp only [c',Bool.not_true,cond_false];rw [wid (by omega) (by omega),qaP];refine ⟨hlt,?_,λj hj=>?_⟩
     ·unfold qhj;rw [qjC];rfl
     ·by_cases hji:j<i
      ·exact hI j hji
      ·have:j=i:=by omega
       subst this;exact c
    ·have c':decide (qbx x n i=0)=false:=by simp [c]
     simp only [c',Bool.not_false,cond_true];rw [qaV];exact .inr ⟨i,_,hlt,c,hI,rfl⟩
   ·have:i=n:=by omega
    subst this;have e0:decide ((i:Int)<(x.1.length:Int))=false:=by simp<;>omega
    simp only [e0,cond_false];rw [qaV];exact .inl ⟨rfl,hI⟩
  ·rintro r (⟨rfl,h⟩|⟨i,o,hi,hne,h,rfl⟩)
   ·show Ok (some _) _;rw [qbw,qbw];exact ⟨.inl ⟨rfl,h⟩,λ_=>rfl⟩
   ·show Ok (some _) _;rw [qbw];exact ⟨.inr ⟨i,hi,rfl,hne,h⟩,λe=>absurd e hne⟩
theorem qk8{x:Xp}{n:Nat}(h:¬ (x.1.length=n/\x.2.1.length=n)):qaW x (n:Int)=some ([],10):=by
 unfold qaW;by_cases c1:x.1.length=n
 ·have c2:¬ x.2.1.length=n:=λe=>h ⟨c1,e⟩;have d1:decide ((x.1.length:Int)=(n:Int))=true:=by simp [c1]
  have d2:decide ((x.2.1.length:Int)=(n:Int))=false:=by simp<;>omega
  simp only [d1,d2,Bool.not_true,Bool.not_false,cond_false,cond_true,qa]
 ·have d1:decide ((x.1.length:Int)=(n:Int))=false:=by simp<;>omega
  simp only [d1,Bool.not_false,cond_true,qa]
theorem qj1{x:Xp}{n:Nat}(h:¬ (x.1.length=n/\x.2.1.length=n)):qQ x (n:Int)=some 10:=by
 unfold qQ;by_cases c1:x.1.length=n
 ·have c2:¬ x.2.1.length=n:=λe=>h ⟨c1,e⟩;have d1:decide ((x.1.length:Int)=(n:Int))=true:=by simp [c1]
  have d2:decide ((x.2.1.length:Int)=(n:Int))=false:=by simp<;>omega
  simp only [d1,d2,Bool.not_true,Bool.not_false,cond_false,cond_true,qa]
 ·have d1:decide ((x.1.length:Int)=(n:Int))=false:=by simp<;>omega
  simp only [d1,Bool.not_false,cond_true,qa]
theorem qj2{x:Xp}{n:Nat}(h1:x.1.length=n)(h2:x.2.1.length=n)(hn:n<=1000000) :
  ∃e,qQ x (n:Int)=some e/\qi1 (qbx x n) n e:=by
 unfold qQ;have c1:decide ((x.1.length:Int)=(n:Int))=true:=by simp [h1]
 have c2:decide ((x.2.1.length:Int)=(n:Int))=true:=by simp [h2]
 simp only [c1,c2,Bool.not_true,cond_false,qa];refine Ok.mono (P:=λe=>qi1 (qbx x n) n e) ?_ λ_ h=>h;rw [qmN];refine (qbW n (λi (s:Int)=>s=(i:Int)/\∀j,j<i->qbx x n j=0)
  (λr=>(r=.inl ()/\∀j,j<n->qbx x n j=0)\/(∃i,i<n/\qbx x n i≠0/\(∀j,j<i->qbx x n j=0)/\r=.inr (qbx x n i))) ⟨rfl,by simp⟩ ?_).mono ?_
 ·rintro i s hi ⟨rfl,hI⟩;by_cases hlt:i<n
  ·have e0:decide ((i:Int)<(n:Int))=true:=by simp<;>omega
   simp only [e0,cond_true];rw [qev (by omega) (by omega),qog false (by omega) (by omega),wid (n:=(n:Int)-1) (by omega) (by omega)];simp only [qa,Int.toNat_natCast,qlS];by_cases a1 : -1<=sc x i/\sc x i<=(n:Int)-1
   case neg =>
    have d1:decide (-1<=x.1.getD i 0/\x.1.getD i 0<=(n:Int)-1)=false:=by simpa [sc]using a1
    have hE:qbx x n i=6:=by unfold qbx;rw [if_neg a1]
    simp only [d1,Bool.not_false,cond_true];rw [qaV];exact .inr ⟨i,hlt,by omega,hI,by rw [hE]⟩
   have d1:decide (-1<=x.1.getD i 0/\x.1.getD i 0<=(n:Int)-1)=true:=by simpa [sc]using a1
   simp only [d1,Bool.not_true,cond_false];rw [qzK];refine (qbW i (λk (s:Int)=>s=(k:Int)/\∀j,j<k->¬ (sc x i ≠ -1/\sc x j=sc x i)) (λr=>(r=.inl ()/\¬ (sc x i ≠ -1/\sc x i∈x.1.take i))\/(r=.inr (.inr (.inr 23))/\(sc x i ≠ -1/\sc x i∈x.1.take i))) ⟨rfl,by simp⟩ ?_).mono ?_
   ·rintro k s hk ⟨rfl,hK⟩;by_cases hlt2:k<i
    ·have e1:decide ((k:Int)<(i:Int))=true:=by simp<;>omega
     simp only [e1,cond_true];rw [qev (n:=(k:Int)) (by omega) (by omega)];simp only [qa,Int.toNat_natCast];by_cases a2:sc x i = -1
     ·have d2:decide (x.1.getD i 0 = -1)=true:=by simpa [sc]using a2
      simp only [d2,Bool.not_true,cond_false,qa];rw [wid (by omega) (by omega),qaP];exact ⟨hlt2,by simp,λj hj h=>h.1 a2⟩
     ·have d2:decide (x.1.getD i 0 = -1)=false:=by simpa [sc]using a2
      simp only [d2,Bool.not_false,cond_true,qa];by_cases a3:sc x k=sc x i
      ·have d3:decide (x.1.getD k 0=x.1.getD i 0)=true:=by simpa [sc]using a3
       simp only [d3,cond_true];rw [qaV];exact .inr ⟨rfl,a2,(qe1 (by omega)).2 ⟨k,hlt2,a3⟩⟩
      ·have d3:decide (x.1.getD k 0=x.1.getD i 0)=false:=by simpa [sc]using a3
       simp only [d3,cond_false];rw [wid (by omega) (by omega),qaP];refine ⟨hlt2,by simp,λj hj h=>?_⟩;by_cases hjk:j<k
       ·exact hK j hjk h
       ·have:j=k:=by omega
        subst this;exact a3 h.2
    ·have:k=i:=by omega
     subst this;have e1:decide ((k:Int)<(k:Int))=false:=by simp
     simp only [e1,cond_false];rw [qaV];refine .inl ⟨rfl,λ⟨h3,h4⟩=>?_⟩;obtain ⟨j,hj,hjv⟩:=(qe1 (by omega)).1 h4;exact hK j hj ⟨h3,hjv⟩
   ·rintro r (⟨rfl,h3⟩|⟨rfl,h3⟩)
    ·simp only
     by_cases a2:sc x i = -1
     ·have d2:decide (x.1.getD i 0 = -1)=true:=by simpa [sc]using a2
      simp only [d2,cond_true,qa];cases a4:rv x i with
      |true =>
       have d4:x.2.1.getD i false=true:=a4;have hE:qbx x n i=3:=by unfold qbx;rw [if_pos a1,if_neg h3,if_pos ⟨a2,a4⟩]
       simp only [d4,cond_true];rw [qaV];exact .inr ⟨i,hlt,by omega,hI,by rw [hE]⟩
      |false =>
       have d4:x.2.1.getD i false=false:=a4;have hE:qbx x n i=0:=by unfold qbx;rw [if_pos a1,if_neg h3,if_neg (by simp [a4])]
       simp only [d4,cond_false];rw [wid (by omega) (by omega),qaP];refine ⟨hlt,by simp,λj hj=>?_⟩;by_cases hji:j<i
       ·exact hI j hji
       ·have:j=i:=by omega
        subst this;exact hE
     ·have d2:decide (x.1.getD i 0 = -1)=false:=by simpa [sc]using a2
      have hE:qbx x n i=0:=by unfold qbx;rw [if_pos a1,if_neg h3,if_neg (λh=>a2 h.1)]
      simp only [d2,cond_false,qa];rw [wid (by omega) (by omega),qaP];refine ⟨hlt,by simp,λj hj=>?_⟩;by_cases hji:j<i
      ·exact hI j hji
      ·have:j=i:=by omega
       subst this;exact hE
    ·have hE:qbx x n i=23:=by unfold qbx;rw [if_pos a1,if_pos h3]
     simp only
     exact .inr ⟨i,hlt,by omega,hI,by rw [hE]⟩
  ·have:i=n:=by omega
   subst this;have e0:decide ((i:Int)<(i:Int))=false:=by simp
   simp only [e0,cond_false];rw [qaV];exact .inl ⟨rfl,hI⟩
 ·rintro r (⟨rfl,h⟩|⟨i,hi,hne,h,rfl⟩)
  ·simp only [qbw];exact .inl ⟨rfl,h⟩
  ·simp only
   exact .inr ⟨i,hi,rfl,hne,h⟩
abbrev Src:=Int×Bool×Unit
structure Vld (sig:List (List Int)) (off:Int) (meas:List (List Int)):Prop where
 n1:1<=sig.length
 n4:sig.length<=4
 len:meas.length=sig.length
 off0:0<=off
 off1:off<=100000
 w:n0 sig<=60
 ls:∀c,c<sig.length->(sig.getD c []).length=n0 sig
 lm:∀c,c<sig.length->(meas.getD c []).length=n0 sig
 vs:∀c,c<sig.length->∀k,k<n0 sig -> -100000<=(sig.getD c []).getD k 0/\(sig.getD c []).getD k 0<=100000
 vm:∀c,c<sig.length->∀k,k<n0 sig -> -100000<=(meas.getD c []).getD k 0/\(meas.getD c []).getD k 0<=100000
def qdV(sig:List (List Int))(s:Int)(r:Bool)(k:Nat):Int:=if s = -1 then 0 else if r=true then -((sig.getD s.toNat []).getD k 0)else (sig.getD s.toNat []).getD k 0
def qpp(off d:Int):Bool:=decide (-off<=d)&&decide (d<=off)
def qgN(sig:List (List Int))(off:Int)(row:List Int)(s:Int)(r:Bool):Bool:=(List.range row.length).all λk=>qpp off (row.getD k 0-qdV sig s r k)
theorem qy4{row:List Int}{p:Nat->Bool}{g:Nat->Int->Option Bool}(hg:∀i a,g i a=if p i=true then none else some false) :
  (match qbq g 0 row with
  |some r=>some r
  |none=>some true)=some ((List.range row.length).all p):=by
 cases h:qbq g 0 row with
 |none =>
  have h1:=qdi.1 h;have:(List.range row.length).all p=true:=List.all_eq_true.2 λk hk=>by
   have hk:=List.mem_range.1 hk;have:=h1 k _ (qlV 0 hk);rw [hg]at this;split at this
   ·rename_i e;simpa using e
   ·cases this
  rw [this]
 |some r =>
  obtain ⟨i,a,h1,h2,_⟩:=qhr h;rw [hg]at h2;split at h2
  ·cases h2
  ·rename_i e;cases h2;have:(List.range row.length).all p=false:=by
    rw [List.all_eq_false];exact ⟨i,List.mem_range.2 (qie h1),by simpa using e⟩
   rw [this]
theorem qBM{sig:List (List Int)}{off:Int}{meas:List (List Int)}(v:Vld sig off meas){s:Int}{r:Bool}{k:Nat}(h0 : -1<=s)(h1:s<sig.length)(hk:k<n0 sig) : -100000<=qdV sig s r k/\qdV sig s r k<=100000:=by
 unfold qdV;split
 ·omega
 ·have:=v.vs s.toNat (by omega) k hk;split<;>omega
theorem sign_eq(x:Src):qas x=some (if x.2.1=true then -1 else 1):=by
 unfold qas;cases x.2.1<;>rfl
theorem qwL{sig:List (List Int)}{off:Int}{meas:List (List Int)}(v:Vld sig off meas){c:Nat}(hc:c<sig.length){s:Int}{r:Bool}(h0 : -1<=s)(h1:s<sig.length) :
  qY (sig,off,meas,()) (c:Int) (s,r,())=some (qgN sig off (meas.getD c []) s r):=by
 unfold qY;have hm:=v.len;rw [qit (by omega) (by simp only;omega)];simp only [qa,Int.toNat_natCast];have hlen:=v.lm c hc;rw [qhv (meas.getD c []) _ (λi a=>if qpp off (a-qdV sig s r i)=true then none else some false) (λi a hi=>?_),qfq]
 ·refine (qy4 (row:=meas.getD c []) (p:=λk=>qpp off ((meas.getD c []).getD k 0-qdV sig s r k)) (g:=λi a=>if qpp off ((meas.getD c []).getD i 0-qdV sig s r i)=true then none else some false) λi a=>rfl)▸?_;have:∀(l:List Int) (g g':Nat->Int->Option Bool),(∀i a,l[i]?=some a->g i a=g' i a)->qbq g 0 l=qbq g' 0 l:=λl g g' h=>by
   have key:∀(l:List Int) (k:Nat),(∀i a,l[i]?=some a->g (k+i) a=g' (k+i) a)->qbq g k l=qbq g' k l:=by
    intro l;induction l with
    |nil=>intro k _;rfl
    |cons a l ih =>
     intro k h;simp only [qbq];have h0:=h 0 a rfl;rw [Nat.add_zero]at h0;rw [h0,ih (k+1) λi b hb=>by have:=h (i+1) b (by simpa using hb);rw [show k+1+i=k+(i+1) by omega];exact this]
   exact key l 0 λi a hi=>by simpa using h i a hi
  rw [this _ _ (λi a=>if qpp off ((meas.getD c []).getD i 0-qdV sig s r i)=true then none else some false) λi a hi=>by rw [Go.Tx.qcI hi]];cases qbq (λi (a:Int)=>if qpp off ((meas.getD c []).getD i 0-qdV sig s r i)=true then none else some false) 0 (meas.getD c [])<;>rfl
 ·have hi':=qie hi;rw [hlen]at hi';have hv:=v.vm c hc i hi';rw [Go.Tx.qcI hi]at hv;have hw60:=v.w;have hw:=qBM v (r:=r) h0 h1 hi';have hwant:(bif !(decide (s=(-1)))then
      (qas (s,r,())).bind λx5 =>
      (idx sig s).bind λx6 =>
      (idx x6 (i:Int)).bind λx7 =>
      some (w64 (x5*x7))
     else
      some 0)=some (qdV sig s r i):=by
   rw [qfQ];unfold qdV;split
   ·rfl
   ·rename_i hs;have hl:=v.ls s.toNat (by omega);have hvs:=v.vs s.toNat (by omega) i hi';rw [sign_eq,qa,qit (by omega) h1,qa,qev (by omega) (by rw [hl];omega),qa];simp only [Int.toNat_natCast];cases r
    ·simp only [qf,if_false];rw [wid (by omega) (by omega)];congr 1;omega
    ·simp only [if_true];rw [wid (by omega) (by omega)];congr 1;omega
  simp only [qcW hi,qa];rw [hwant];simp only [qa];rw [qun _ _ v.off0 (by have:=v.off1;omega),qa,wid (by omega) (by omega),wid (by omega) (by omega)];unfold qpp;rw [<- Bool.decide_and];by_cases hd : -off<=a-qdV sig s r i/\a-qdV sig s r i<=off
  ·simp [hd,stp]
  ·simp [hd,stp]
def qnH(s:Int)(r:Bool)(c:Int):Int:=if s = -1 then 1 else (if r=true then 1 else 0)+(if s=c then 0 else 1)
theorem qpe(s:Int)(r:Bool)(c:Int):0<=qnH s r c/\qnH s r c<=2:=by
 unfold qnH;split
 ·omega
 ·split<;>split<;>omega
theorem qwu(s:Int)(r:Bool)(c:Int):qL (s,r,()) c=some (qnH s r c):=by
 unfold qL qnH;simp only [qep,qfQ];split
 ·rfl
 ·cases r
  ·simp only [cond_false,qa,qf,if_false];split
   ·rfl
   ·rfl
  ·simp only [cond_true,qa,if_true];split
   ·rfl
   ·rfl
def nth(n:Nat):List Src:=(-1,false,())::(List.range n).flatMap λ(i:Nat)=>[((i:Int),false,()),((i:Int),true,())]
def qdG(p:List Src)(s:Src):Bool:=!(!decide (s.1 = -1)&&p.any (λo=>decide (o.1=s.1)))
def kids(n:Nat)(p:List Src):List (List Src):=((nth n).filter (qdG p)).map λs=>p++[s]
def exts(n:Nat):Nat->List Src->List (List Src)
 |0,p=>[p]
 |k+1,p=>(kids n p).flatMap (exts n k)
def qfe(F:Nat->Src->Bool):Nat->List Src->Bool
 |_,[]=>true
 |c,s::l=>F c s&&qfe F (c+1) l
def qaZ:Nat->List Src->Int
 |_,[]=>0
 |c,s::l=>qnH s.1 s.2.1 (c:Int)+qaZ (c+1) l
theorem qji(F:Nat->Src->Bool):∀(l m:List Src) (c:Nat),qfe F c (l++m)=(qfe F c l&&qfe F (c+l.length) m)
 |[],m,c=>by simp [qfe]
 |s::l,m,c=>by
  simp only [List.cons_append,qfe,qji F l m (c+1),List.length_cons,Bool.and_assoc];rw [show c+1+l.length=c+(l.length+1) by omega]
theorem qi7:∀(l m:List Src) (c:Nat),qaZ c (l++m)=qaZ c l+qaZ (c+l.length) m
 |[],m,c=>by simp [qaZ]
 |s::l,m,c=>by
  simp only [List.cons_append,qaZ,qi7 l m (c+1),List.length_cons];rw [show c+1+l.length=c+(l.length+1) by omega];omega
theorem qfV:∀(l:List Src) (c:Nat),0<=qaZ c l/\qaZ c l<=2*l.length
 |[],c=>by simp [qaZ]
 |s::l,c=>by
  have h1:=qpe s.1 s.2.1 (c:Int);have h2:=qfV l (c+1);simp only [qaZ,List.length_cons]<;>omega
abbrev Sta:=Option (List Src×Int)
def better(st:Sta)(c:Int):Bool:=match st with
 |none=>true
 |some b=>decide (c<b.2)
def pick(F:Nat->Src->Bool)(st:Sta)(p:List Src):Sta:=if qfe F 0 p=true/\better st (qaZ 0 p)=true then some (p,qaZ 0 p)else st
theorem qmW{F:Nat->Src->Bool}:∀(L:List (List Src)) (st:Sta),(∀p∈L,qfe F 0 p=false\/better st (qaZ 0 p)=false)->L.foldl (pick F) st=st
 |[],st,_=>rfl
 |p::L,st,h=>by
  rw [List.foldl_cons];have:pick F st p=st:=by
   unfold pick;rw [if_neg];rintro ⟨h1,h2⟩;rcases h p (by simp)with h3|h3
   ·rw [h1]at h3;cases h3
   ·rw [h2]at h3;cases h3
  rw [this];exact qmW L st λq hq=>h q (by simp [hq])
theorem qfY{n:Nat}:∀{k:Nat} {p q:List Src},q∈exts n k p->∃m,q=p++m/\m.length=k
 |0,p,q,h=>by
  simp only [exts,List.mem_singleton]at h;exact ⟨[],by simp [h],rfl⟩
 |k+1,p,q,h=>by
  simp only [exts,List.mem_flatMap,kids,List.mem_map]at h;obtain ⟨r,⟨s,_,rfl⟩,h⟩:=h;obtain ⟨m,rfl,hm⟩:=qfY h;exact ⟨s::m,by simp,by simp [hm]⟩
def tr(F:Nat->Src->Bool)(n k:Nat)(l:List Src)(st:Sta)(s:Src):Sta:=if qdG l s=true/\F l.length s=true then (exts n k (l++[s])).foldl (pick F) st else st
theorem qA8(F:Nat->Src->Bool)(n k:Nat)(l:List Src)(st:Sta):(exts n (k+1) l).foldl (pick F) st=(nth n).foldl (tr F n k l) st:=by
 simp only [exts,kids];rw [List.foldl_flatMap,List.foldl_map];have:∀(L:List Src) (st:Sta),(L.filter (qdG l)).foldl (λx y=>(exts n k (l++[y])).foldl (pick F) x) st=L.foldl (tr F n k l) st:=by
  intro L;induction L with
  |nil=>intro st;rfl
  |cons s L ih =>
   intro st;rw [List.foldl_cons,List.filter_cons];unfold tr;by_cases hf:qdG l s=true
   ·rw [if_pos hf,List.foldl_cons,ih];by_cases hF:F l.length s=true
    ·rw [if_pos ⟨hf,hF⟩];rfl
    ·rw [if_neg (λh=>hF h.2),qmW]
     ·rfl
     ·intro p hp;obtain ⟨m,rfl,_⟩:=qfY hp;left
      rw [qji,qji];simp [qfe,hF]
   ·rw [if_neg hf,if_neg (λh=>hf h.1),ih];rfl
 exact this _ st
theorem qvo{F:Nat->Src->Bool}{n k:Nat}{l:List Src}{st:Sta}(h:better st (qaZ 0 l)=false):(exts n k l).foldl (pick F) st=st:=by
 refine qmW _ _ λp hp=>.inr ?_;obtain ⟨m,rfl,_⟩:=qfY hp;rw [qi7];have:=(qfV m (0+l.length)).1;unfold better at h ⊢;split at h
 ·cases h
 ·simp only [decide_eq_false_iff_not]at h ⊢;omega
def qv5(n:Nat)(st:Sta):Prop:=∀b,st=some b->b.1.length=n/\b.2=qaZ 0 b.1
theorem qsY{F:Nat->Src->Bool}{n:Nat}:∀(L:List (List Src)) (st:Sta),qv5 n st->(∀p∈L,p.length=n)->qv5 n (L.foldl (pick F) st)
 |[],st,h,_=>h
 |p::L,st,h,hL=>by
  rw [List.foldl_cons];refine qsY L _ (λb hb=>?_) λq hq=>hL q (by simp [hq]);unfold pick at hb;split at hb
  ·cases hb;exact ⟨hL p (by simp),rfl⟩
  ·exact h b hb
theorem qAc{F:Nat->Src->Bool}{n k:Nat}{l:List Src}{st:Sta}(hk:l.length+k+1=n)(h:qv5 n st)(s:Src):qv5 n (tr F n k l st s):=by
 unfold tr;split
 ·refine qsY _ _ h λp hp=>?_;obtain ⟨m,rfl,hm⟩:=qfY hp;simp<;>omega
 ·exact h
abbrev Bx:=List (List Int)×Int×List (List Int)×List (Int×Bool×Unit)×Int
def enc(sig:List (List Int))(off:Int)(meas:List (List Int))(st:Sta):Bx:=(sig,off,meas,(st.map (·.1)).getD [],(st.map (·.2)).getD 0)
theorem qCc(sig:List (List Int))(off:Int)(meas:List (List Int))(st:Sta):(enc sig off meas st).1=sig:=rfl
theorem qCd(sig:List (List Int))(off:Int)(meas:List (List Int))(st:Sta):(enc sig off meas st).2.1=off:=rfl
theorem qCe(sig:List (List Int))(off:Int)(meas:List (List Int))(st:Sta):(enc sig off meas st).2.2.1=meas:=rfl
theorem qCO(sig:List (List Int))(off:Int)(meas:List (List Int))(st:Sta):(sig,off,meas,(enc sig off meas st).2.2.2.1,(enc sig off meas st).2.2.2.2)=enc sig off meas st:=rfl
noncomputable def qyy(ih:((List (List Int))×Int×(List (List Int))×(List (Int×Bool×Unit))×Int)->(List (Int×Bool×Unit))->Int->Option ((List (List Int))×Int×(List (List Int))×(List (Int×Bool×Unit))×Int))(b0:((List (List Int))×Int×(List (List Int))×(List (Int×Bool×Unit))×Int))(a0:List (Int×Bool×Unit))(a1:Int):Option ((List (List Int))×Int×(List (List Int))×(List (Int×Bool×Unit))×Int) :=
 (bif !(List.isEmpty b0.2.2.2.1)then
   some (decide (a1>=b0.2.2.2.2))
  else
   some false).bind λ(p1:Bool) =>
 bif p1 then
  some (b0.1,b0.2.1,b0.2.2.1,b0.2.2.2.1,b0.2.2.2.2)
 else
  bif decide ((a0.length:Int)=(b0.2.2.1.length:Int))then
   (qB a0).bind λx2 =>
   ((((nel x2).bind λx6 =>
      some (x6,a1)).bind λx5 =>
     some (b0.2.2.1,x5)).bind λx4 =>
    some (b0.2.1,x4)).bind λx3 =>
   some (b0.1,x3)
  else
   (qY (b0.1,b0.2.1,b0.2.2.1,()) (a0.length:Int) ((-1),false,())).bind λx7 =>
   (bif x7 then
     (slc a0 0 (a0.length:Int)).bind λx8 =>
     bif decide ((a0.length:Int)=(a0.length:Int))then
      (app x8 ([((-1),false,())])).bind λx9 =>
      (qL ((-1),false,()) (a0.length:Int)).bind λx10 =>
      (ih (b0.1,b0.2.1,b0.2.2.1,b0.2.2.2.1,b0.2.2.2.2) x9 (w64 (a1+x10))).bind λx11 =>
      some (x11.1,x11.2.1,x11.2.2.1,x11.2.2.2.1,x11.2.2.2.2)
     else
      none
    else
     some (b0.1,b0.2.1,b0.2.2.1,b0.2.2.2.1,b0.2.2.2.2)).bind λ(p12:((List (List Int))×Int×(List (List Int))×(List (Int×Bool×Unit))×Int)) =>
   (qaw (λ(s14:(Int×(List (List Int))×Int×(List (List Int))×(List (Int×Bool×Unit))×Int)) =>
     bif decide (s14.1<(b0.1.length:Int))then
      (bif !(decide (s14.1=(-1)))then
        ((qaw (λ(s16:Int) =>
           bif decide (s16<(a0.length:Int))then
            (idx a0 s16).bind λx17 =>
            bif decide (x17.1=s14.1)then
             some (.inr (.inr s16))
            else
             some (.inl (w64 (s16+1)))
           else
            some (.inr (.inl ()))) 0).bind (Sum.elim (λ(p18:Unit) =>
         some (-1)) some)).bind λ(p19:Int) =>
        some (decide (p19>=0))
       else
        some false).bind λ(p20:Bool) =>
      (bif !p20 then
        (qY (s14.2.1,s14.2.2.1,s14.2.2.2.1,()) (a0.length:Int) (s14.1,false,())).bind λx21 =>
        some x21
       else
        some false).bind λ(p22:Bool) =>
      (bif p22 then
        (slc a0 0 (a0.length:Int)).bind λx23 =>
        bif decide ((a0.length:Int)=(a0.length:Int))then
         (app x23 ([(s14.1,false,())])).bind λx24 =>
         (qL (s14.1,false,()) (a0.length:Int)).bind λx25 =>
         (ih (s14.2.1,s14.2.2.1,s14.2.2.2.1,s14.2.2.2.2.1,s14.2.2.2.2.2) x24 (w64 (a1+x25))).bind λx26 =>
         some (x26.1,x26.2.1,x26.2.2.1,x26.2.2.2.1,x26.2.2.2.2)
        else
         none
       else
        some (s14.2.1,s14.2.2.1,s14.2.2.2.1,s14.2.2.2.2.1,s14.2.2.2.2.2)).bind λ(p27:((List (List Int))×Int×(List (List Int))×(List (Int×Bool×Unit))×Int)) =>
      (bif !(decide (s14.1=(-1)))then
        ((qaw (λ(s29:Int) =>
           bif decide (s29<(a0.length:Int))then
            (idx a0 s29).bind λx30 =>
            bif decide (x30.1=s14.1)then
             some (.inr (.inr s29))
            else
             some (.inl (w64 (s29+1)))
           else
            some (.inr (.inl ()))) 0).bind (Sum.elim (λ(p31:Unit) =>
         some (-1)) some)).bind λ(p32:Int) =>
        some (decide (p32>=0))
       else
        some false).bind λ(p33:Bool) =>
      (bif !p33 then
        (qY (p27.1,p27.2.1,p27.2.2.1,()) (a0.length:Int) (s14.1,true,())).bind λx34 =>
        some x34
       else
        some false).bind λ(p35:Bool) =>
      (bif p35 then
        (slc a0 0 (a0.length:Int)).bind λx36 =>
        bif decide ((a0.length:Int)=(a0.length:Int))then
         (app x36 ([(s14.1,true,())])).bind λx37 =>
         (qL (s14.1,true,()) (a0.length:Int)).bind λx38 =>
         (ih (p27.1,p27.2.1,p27.2.2.1,p27.2.2.2.1,p27.2.2.2.2) x37 (w64 (a1+x38))).bind λx39 =>
         some (x39.1,x39.2.1,x39.2.2.1,x39.2.2.2.1,x39.2.2.2.2)
        else
         none
       else
        some (p27.1,p27.2.1,p27.2.2.1,p27.2.2.2.1,p27.2.2.2.2)).bind λ(p40:((List (List Int))×Int×(List (List Int))×(List (Int×Bool×Unit))×Int)) =>
      some (.inl (w64 (s14.1+1),p40.1,p40.2.1,p40.2.2.1,p40.2.2.2.1,p40.2.2.2.2))
     else
      some (.inr (s14.2.1,s14.2.2.1,s14.2.2.2.1,s14.2.2.2.2.1,s14.2.2.2.2.2))) (0,p12.1,p12.2.1,p12.2.2.1,p12.2.2.2.1,p12.2.2.2.2)).bind λ(p41:((List (List Int))×Int×(List (List Int))×(List (Int×Bool×Unit))×Int)) =>
   some (p41.1,p41.2.1,p41.2.2.1,p41.2.2.2.1,p41.2.2.2.2)
theorem qAd(m:Nat):q8 (m+1)=qyy (q8 m):=rfl
theorem qyU{l:List Src}(h:l≠[])(hl:l.length<=1000):qB l=some l:=by
 unfold qB;cases l with
 |nil=>exact absurd rfl h
 |cons a l =>
  simp only [List.isEmpty_cons,cond_false];rw [qo7 (by omega)];rfl
theorem qz5(l:List Src)(i:Int)(hi:i ≠ -1)(hl:l.length<=1000) :
  ((bif !(decide (i=(-1)))then
        ((qaw (λ(s16:Int) =>
           bif decide (s16<(l.length:Int))then
            (idx l s16).bind λx17 =>
            bif decide (x17.1=i)then
             some (.inr (.inr s16))
            else
             some (.inl (w64 (s16+1)))
           else
            some (.inr (.inl ()))) 0).bind (Sum.elim (λ(p18:Unit) =>
         some (-1)) some)).bind λ(p19:Int) =>
        some (decide (p19>=0))
       else
        some false):Option Bool)=some (!qdG l (i,false,())):=by
 have h1:decide (i = -1)=false:=by simpa using hi
 simp only [h1,Bool.not_false,cond_true];obtain ⟨r,hr,hq⟩:=qA9 l (λo=>decide (o.1=i)) (by omega);simp only [w64];rw [hr,qa,hq];simp [qdG,hi]
theorem qBo{sig:List (List Int)}{off:Int}{meas:List (List Int)}(v:Vld sig off meas){k m:Nat}{l:List Src}(hk:l.length+k+1=sig.length)
  (ih:∀(st:Sta) (s:Src),qv5 sig.length st -> -1<=s.1->s.1<sig.length->qgN sig off (meas.getD l.length []) s.1 s.2.1=true->q8 m (enc sig off meas st) (l++[s]) (qaZ 0 (l++[s]))=some (enc sig off meas ((exts sig.length k (l++[s])).foldl (pick λc s=>qgN sig off (meas.getD c []) s.1 s.2.1) st)))
  {st:Sta} (hst:qv5 sig.length st) {s:Src} (h0 : -1<=s.1) (h1:s.1<sig.length) {b:Bool} (hb:b=(qdG l s&&qgN sig off (meas.getD l.length []) s.1 s.2.1)) :
  ((bif b then
        (slc l 0 (l.length:Int)).bind λx23 =>
         (app x23 ([s])).bind λx24 =>
         (qL s (l.length:Int)).bind λx25 =>
         (q8 m (enc sig off meas st) x24 (w64 (qaZ 0 l+x25))).bind λx26 =>
         some (x26.1,x26.2.1,x26.2.2.1,x26.2.2.2.1,x26.2.2.2.2)
       else
        some (enc sig off meas st)):Option Bx)=some (enc sig off meas (tr (λc s=>qgN sig off (meas.getD c []) s.1 s.2.1) sig.length k l st s)):=by
 have hn:=v.n4;subst hb;unfold tr;by_cases hf:qdG l s=true/\qgN sig off (meas.getD l.length []) s.1 s.2.1=true
 ·rw [if_pos hf,hf.1,hf.2];simp only [Bool.and_self,cond_true];rw [qAJ (by omega)];simp only [qa,Int.toNat_natCast,List.take_length,Int.toNat_zero,List.drop_zero,decide_true,cond_true];rw [qdR (by omega),qa];obtain ⟨a,r,u⟩:=s;rw [qwu,qa];have hc:=qfV l 0;have hb:=qpe a r (l.length:Int);rw [wid (by omega) (by omega)];have e:qaZ 0 (l++[(a,r,u)])=qaZ 0 l+qnH a r (l.length:Int):=by rw [qi7];simp [qaZ]
  rw [<- e,ih st (a,r,u) hst h0 h1 hf.2];rfl
 ·rw [if_neg hf];have:(qdG l s&&qgN sig off (meas.getD l.length []) s.1 s.2.1)=false:=by
   cases h:(qdG l s&&qgN sig off (meas.getD l.length []) s.1 s.2.1)with
   |false=>rfl
   |true=>exact absurd (by simpa using h) hf
  rw [this];rfl
theorem qtE(b c:Bool):((bif b then some c else some false):Option Bool)=some (b&&c):=by cases b<;>rfl
theorem qwQ(a b:Int):decide (a>=b)=!decide (a<b):=by
 by_cases h:a<b
 ·rw [decide_eq_true h,decide_eq_false (by omega)];rfl
 ·rw [decide_eq_false h,decide_eq_true (by omega)];rfl
theorem qzq{β:Type}(g:β->Src->β)(b:β)(n:Nat):(nth n).foldl g b=(List.range n).foldl (λb (i:Nat)=>g (g b ((i:Int),false,())) ((i:Int),true,())) (g b (-1,false,())):=by
 simp only [nth,List.foldl_cons,List.foldl_flatMap,List.foldl_nil]
theorem qAM{sig:List (List Int)}{off:Int}{meas:List (List Int)}(v:Vld sig off meas):∀(k fuel:Nat) (l:List Src) (st:Sta),l.length+k=sig.length->k<fuel->(∀s∈l,-1<=s.1/\s.1<sig.length)->qfe (λc s=>qgN sig off (meas.getD c []) s.1 s.2.1) 0 l=true->qv5 sig.length st ->
  q8 fuel (enc sig off meas st) l (qaZ 0 l)=some (enc sig off meas ((exts sig.length k l).foldl (pick λc s=>qgN sig off (meas.getD c []) s.1 s.2.1) st))
 |k,0,l,st,_,hf,_,_,_=>by omega
 |k,m+1,l,st,hk,hf,hl,hh,hst=>by
  have hn:=v.n4;have hn1:=v.n1;have hm:=v.len;rw [qAd];unfold qyy;have hcl:=qfV l 0;have hp1:((bif !(List.isEmpty (enc sig off meas st).2.2.2.1)then some (decide (qaZ 0 l>=(enc sig off meas st).2.2.2.2))else some false):Option Bool)=some (!better st (qaZ 0 l)):=by
   cases st with
   |none=>rfl
   |some b =>
    obtain ⟨h1,h2⟩:=hst b rfl;have:List.isEmpty b.1=false:=by
     cases hb:b.1 with
     |nil=>rw [hb]at h1;simp at h1;omega
     |cons=>rfl
    show ((bif !(List.isEmpty b.1)then some (decide (qaZ 0 l>=b.2))else some false):Option Bool)=some (!decide (qaZ 0 l<b.2));rw [this];exact congrArg some (qwQ _ _)
  rw [hp1,qa];cases hbt:better st (qaZ 0 l)with
  |false =>
   simp only [Bool.not_false,cond_true];rw [qvo hbt]
  |true =>
   simp only [Bool.not_true,cond_false];cases k with
   |zero =>
    have h1:decide ((l.length:Int)=((enc sig off meas st).2.2.1.length:Int))=true:=decide_eq_true (by show (l.length:Int)=(meas.length:Int);omega);rw [h1];have hne:l≠[]:=by rintro rfl;simp only [List.length_nil]at hk;omega
    simp only [cond_true];rw [qyU hne (by omega),qa];have:nel l=some l:=by
     cases l with
     |nil=>exact absurd rfl hne
     |cons a l=>rfl
    simp only [this,qa,exts,List.foldl_cons,List.foldl_nil];unfold pick;rw [if_pos ⟨hh,hbt⟩];rfl
   |succ k =>
    have h1:decide ((l.length:Int)=((enc sig off meas st).2.2.1.length:Int))=false:=decide_eq_false (by show ¬ ((l.length:Int)=(meas.length:Int));omega);rw [h1];simp only [cond_false];have ih:∀(st:Sta) (s:Src),qv5 sig.length st -> -1<=s.1->s.1<sig.length->qgN sig off (meas.getD l.length []) s.1 s.2.1=true->q8 m (enc sig off meas st) (l++[s]) (qaZ 0 (l++[s]))=some (enc sig off meas ((exts sig.length k (l++[s])).foldl (pick λc s=>qgN sig off (meas.getD c []) s.1 s.2.1) st)):=λst s hst h0 h1 hf' =>
     qAM v k m (l++[s]) st (by simp only [List.length_append,List.length_cons,List.length_nil];omega) (by omega) (λs' hs'=>by
      rcases qj.1 hs' with h|h
      ·exact hl s' h
      ·simp only [List.mem_singleton]at h;subst h;exact ⟨h0,h1⟩) (by rw [qji,hh];simp only [qfe,Nat.zero_add,hf',Bool.and_self]) hst
    have hk':l.length+k+1=sig.length:=by omega
    have ff:=λ(s:Int) (r:Bool) (h0 : -1<=s) (h1:s<sig.length)=>qwL v (c:=l.length) (by omega) (r:=r) h0 h1;have hfree0:qdG l (-1,false,())=true:=by simp [qdG]
    have one:=λ(st:Sta) (hst:qv5 sig.length st) (s:Src) (h0 : -1<=s.1) (h1:s.1<sig.length) (b:Bool) (hb:b=(qdG l s&&qgN sig off (meas.getD l.length []) s.1 s.2.1))=>qBo v hk' ih hst h0 h1 hb;rw [qA8,qzq];simp only [qCc,qCd,qCe,qCO,decide_true,cond_true];rw [ff (-1) false (by omega) (by omega),qa];rw [one st hst (-1,false,()) (by simp) (by simp only;omega) (qgN sig off (meas.getD l.length []) (-1) false) (by simp only [hfree0,Bool.true_and]),qa];have hst1:=qAc (F:=λc s=>qgN sig off (meas.getD c []) s.1 s.2.1) hk' hst (-1,false,());generalize tr (λc s=>qgN sig off (meas.getD c []) s.1 s.2.1) sig.length k l st (-1,false,())=st1 at hst1 ⊢;simp only [qCc,qCd,qCe];have hstI:∀i,qv5 sig.length ((List.range i).foldl (λb (i:Nat)=>tr (λc s=>qgN sig off (meas.getD c []) s.1 s.2.1) sig.length k l (tr (λc s=>qgN sig off (meas.getD c []) s.1 s.2.1) sig.length k l b ((i:Int),false,())) ((i:Int),true,())) st1):=λi=>by
     induction i with
     |zero=>exact hst1
     |succ i ih2=>rw [List.range_succ,List.foldl_append];simp only [List.foldl_cons,List.foldl_nil];exact qAc hk' (qAc hk' ih2 _) _
    refine Ok.eq ?_;rw [qfj];refine (qbW sig.length (λi (s:Int×Bx)=>s=((i:Int),enc sig off meas ((List.range i).foldl (λb (i:Nat)=>tr (λc s=>qgN sig off (meas.getD c []) s.1 s.2.1) sig.length k l (tr (λc s=>qgN sig off (meas.getD c []) s.1 s.2.1) sig.length k l b ((i:Int),false,())) ((i:Int),true,())) st1)))
     (λr=>r=enc sig off meas ((List.range sig.length).foldl (λb (i:Nat)=>tr (λc s=>qgN sig off (meas.getD c []) s.1 s.2.1) sig.length k l (tr (λc s=>qgN sig off (meas.getD c []) s.1 s.2.1) sig.length k l b ((i:Int),false,())) ((i:Int),true,())) st1)) rfl ?_).mono λr hr=>by rw [hr,qbw]
    rintro i s hi rfl;have hsi:=hstI i;by_cases hlt:i<sig.length
    ·have hfold:(List.range (i+1)).foldl (λb (i:Nat)=>tr (λc s=>qgN sig off (meas.getD c []) s.1 s.2.1) sig.length k l (tr (λc s=>qgN sig off (meas.getD c []) s.1 s.2.1) sig.length k l b ((i:Int),false,())) ((i:Int),true,())) st1
       = tr (λc s=>qgN sig off (meas.getD c []) s.1 s.2.1) sig.length k l (tr (λc s=>qgN sig off (meas.getD c []) s.1 s.2.1) sig.length k l ((List.range i).foldl (λb (i:Nat)=>tr (λc s=>qgN sig off (meas.getD c []) s.1 s.2.1) sig.length k l (tr (λc s=>qgN sig off (meas.getD c []) s.1 s.2.1) sig.length k l b ((i:Int),false,())) ((i:Int),true,())) st1) ((i:Int),false,())) ((i:Int),true,()):=by
      rw [List.range_succ,List.foldl_append];rfl
     rw [hfold];generalize (List.range i).foldl (λb (i:Nat)=>tr (λc s=>qgN sig off (meas.getD c []) s.1 s.2.1) sig.length k l (tr (λc s=>qgN sig off (meas.getD c []) s.1 s.2.1) sig.length k l b ((i:Int),false,())) ((i:Int),true,())) st1=si at hsi ⊢;refine qb9.2 ⟨λ_=>?_,λh=>absurd (show (i:Int)<(sig.length:Int) by omega) (of_decide_eq_false h)⟩;have hfe:qdG l ((i:Int),true,())=qdG l ((i:Int),false,()):=rfl;simp only [qCc,qCd,qCe,qCO];rw [qz5 l (i:Int) (by omega) (by omega)];simp only [qa,Bool.not_not];rw [ff (i:Int) false (by omega) (by omega)];simp only [qa,qtE];rw [one si hsi ((i:Int),false,()) (by simp only;omega) (by simp only;omega) _ rfl];simp only [qa,qCc,qCd,qCe,qCO];rw [ff (i:Int) true (by omega) (by omega)];simp only [qa,qtE];rw [one _ (qAc (F:=λc s=>qgN sig off (meas.getD c []) s.1 s.2.1) hk' hsi ((i:Int),false,())) ((i:Int),true,()) (by simp only;omega) (by simp only;omega) (qdG l ((i:Int),false,())&&qgN sig off (meas.getD l.length []) (i:Int) true) rfl];simp only [qa,qCc,qCd,qCe,qCO];rw [qaP,wid (by omega) (by omega)];exact ⟨hlt,rfl⟩
    ·have:i=sig.length:=by omega
     subst this;refine qb9.2 ⟨λh=>absurd (of_decide_eq_true h) (show ¬ ((sig.length:Int)<(sig.length:Int)) by omega),λ_=>?_⟩;rw [qaV]
def toX(p:List Src):Xp:=(p.map (·.1),p.map (·.2.1),())
abbrev qgO:Src:=(0,false,())
theorem qDz{p:List Src}{i:Nat}(h:i<p.length):idx (toX p).1 (i:Int)=some (p.getD i qgO).1:=by
 rw [qw0];simp [toX,h]
theorem qDA{p:List Src}{i:Nat}(h:i<p.length):idx (toX p).2.1 (i:Int)=some (p.getD i qgO).2.1:=by
 rw [qw0];simp [toX,h]
theorem qAu(l:List Int)(a:Int)(hl:l.length<=1000000):qd6 l a=some (l.any λx=>decide (x=a)):=by
 unfold qd6;rw [qhv l _ (λi x=>if x=a then some true else none) (λi x hi=>by
  have:=qie hi;rw [qcW hi];simp only [qa,qep];split
  ·rfl
  ·simp only [stp];rw [wid (by omega) (by omega)]),qfq]
 cases hf:qbq (λ(i:Nat) (x:Int)=>if x=a then some true else none) 0 l with
 |none =>
  rw [qdi]at hf;have:(l.any λx=>decide (x=a))=false:=by
   rw [List.any_eq_false];intro x hx;obtain ⟨i,hi⟩:=List.mem_iff_getElem?.1 hx;have:=hf i x hi;simpa using this
  simp only [this]
 |some r =>
  obtain ⟨i,x,h1,h2,_⟩:=qhr hf;split at h2
  ·rename_i e;cases h2;have:(l.any λx=>decide (x=a))=true:=List.any_eq_true.2 ⟨x,List.mem_of_getElem? h1,by simpa using e⟩;simp only [this]
  ·cases h2
theorem qn1{p:List Src}{i:Nat}(h:i<p.length):qaZ 0 (p.take (i+1))=qaZ 0 (p.take i)+qnH (p.getD i qgO).1 (p.getD i qgO).2.1 (i:Int):=by
 rw [qrY qgO h,qi7];simp only [qaZ,Nat.zero_add,List.length_take,Nat.min_eq_left (Nat.le_of_lt h)];omega
theorem qvY{p:List Src}(hp:p.length<=1000):qcQ (toX p)=some (qaZ 0 p):=by
 unfold qcQ;refine Ok.eq ?_;rw [qfj];have hl:(toX p).1.length=p.length:=by simp [toX]
 refine (qbW p.length (λi (s:Int×Int)=>s=(qaZ 0 (p.take i),(i:Int))) (λr=>r=qaZ 0 p) rfl ?_).mono λr hr=>by rw [hr,qbw]
 rintro i s hi rfl;by_cases hlt:i<p.length
 ·refine qb9.2 ⟨λ_=>?_,λh=>absurd (show (i:Int)<((toX p).1.length:Int) by omega) (of_decide_eq_false h)⟩;have hc:=qn1 hlt;have h1:=qfV (p.take i) 0;have h2:(p.take i).length<=1000:=by rw [List.length_take];omega
  simp only [qDz hlt,qDA hlt,qa,qep,qfQ];generalize p.getD i qgO=s at hc ⊢;obtain ⟨a,r,u⟩:=s;simp only at hc ⊢;unfold qnH at hc;split
  ·rename_i ha;rw [if_pos ha]at hc;simp only [qa];rw [qaP,wid (by omega) (by omega),wid (by omega) (by omega),hc];exact ⟨hlt,rfl⟩
  ·rename_i ha;rw [if_neg ha]at hc;cases r
   ·simp only [cond_false,qa];split
    ·rename_i hb;simp only [qf,if_false,if_pos hb]at hc;simp only [qa];rw [qaP,wid (by omega) (by omega),hc];exact ⟨hlt,by simp⟩
    ·rename_i hb;simp only [qf,if_false,if_neg hb]at hc;simp only [qa];rw [qaP,wid (by omega) (by omega),wid (by omega) (by omega),hc];exact ⟨hlt,by simp⟩
   ·simp only [cond_true,qa];split
    ·rename_i hb;simp only [if_true,if_pos hb]at hc;simp only [qa];rw [qaP,wid (by omega) (by omega),wid (by omega) (by omega),hc];exact ⟨hlt,by simp⟩
    ·rename_i hb;simp only [if_true,if_neg hb]at hc;simp only [qa];rw [qaP,wid (n:=qaZ 0 (p.take i)+1) (by omega) (by omega),wid (by omega) (by omega),wid (by omega) (by omega),hc];exact ⟨hlt,by simp;omega⟩
 ·have:i=p.length:=by omega
  subst this;refine qb9.2 ⟨λh=>absurd (of_decide_eq_true h) (show ¬ ((p.length:Int)<((toX p).1.length:Int)) by omega),λ_=>?_⟩;rw [qaV,List.take_length]
theorem qgX(F:Nat->Src->Bool):∀(p:List Src) (c:Nat),qfe F c p=(List.range p.length).all λi=>F (c+i) (p.getD i qgO)
 |[],c=>rfl
 |s::p,c=>by
  simp only [qfe,List.length_cons];rw [List.range_succ_eq_map,List.all_cons,List.all_map,qgX F p (c+1)];congr 1
  congr 1
  funext i
  simp only [Function.comp_apply,List.getD_cons_succ];rw [show c+1+i=c+(i+1) by omega]
def quq(t:Int):Src:=if t<0 then (-1,false,())else (t.tdiv 2,decide (t.tmod 2=1),())
theorem qye(n:Nat):quq ((2*n:Nat):Int)=((n:Int),false,()):=by
 unfold quq;rw [if_neg (by omega),Int.tdiv_eq_ediv_of_nonneg (by omega),Int.tmod_eq_emod_of_nonneg (by omega),decide_eq_false (by omega)];rw [show ((2*n:Nat):Int) / 2=n by omega]
theorem qzX(n:Nat):quq ((2*n+1:Nat):Int)=((n:Int),true,()):=by
 unfold quq;rw [if_neg (by omega),Int.tdiv_eq_ediv_of_nonneg (by omega),Int.tmod_eq_emod_of_nonneg (by omega),decide_eq_true (by omega)];rw [show ((2*n+1:Nat):Int) / 2=n by omega]
theorem qrp:∀n:Nat,(List.range (2*n)).map (λt:Nat=>quq (t:Int))=(List.range n).flatMap λ(i:Nat)=>[((i:Int),false,()),((i:Int),true,())]
 |0=>rfl
 |n+1=>by
  rw [show 2*(n+1)=2*n+1+1 by omega,List.range_succ,List.range_succ,List.range_succ (n:=n),List.map_append,List.map_append,qrp n,List.flatMap_append];simp only [qh,List.map_nil,List.flatMap_cons,List.flatMap_nil,List.append_nil,List.append_assoc,qye,qzX,List.cons_append,List.nil_append]
theorem qxx(n:Nat):nth n=(List.range (2*n+1)).map λj:Nat=>quq ((j:Int)-1):=by
 rw [List.range_succ_eq_map,qh,List.map_map];unfold nth;rw [<- qrp];congr 1
 refine List.map_congr_left λt _=>?_;simp only [Function.comp_apply];congr 1
 omega
theorem qsO(n:Nat):(nth n).length=2*n+1:=by rw [qxx];simp
theorem qCo{n j:Nat}(h:j<2*n+1):(nth n)[j]?=some (quq ((j:Int)-1)):=by
 rw [qxx];simp [h]
theorem qxa{n:Nat}(hn:n<=4){p:List Src}(hp:p.length<n){out next0:List Xp}{k:Nat}(hk:out[k]?=some (toX p))(hb:next0.length<=1000000) :
  (qaw (λ(s6:((List ((List Int)×(List Bool)×Unit))×Int)) =>
         bif decide (s6.2<w64 (2*(n:Int)))then
          (idx out (k:Int)).bind λx7 =>
          (qbC x7.1).bind λx8 =>
          (app x8 ([(-1)])).bind λx9 =>
          (idx out (k:Int)).bind λx10 =>
          (app [] x10.2.1).bind λx11 =>
          (app x11 ([false])).bind λx12 =>
          (bif decide (s6.2>=0)then
            (idx x9 (p.length:Int)).bind λx13 =>
            (idx x9 (p.length:Int)).bind λx14 =>
            let l15:(List Int):=List.set x9 (p.length:Int).toNat (w64 (s6.2.tdiv 2))
            (idx x12 (p.length:Int)).bind λx16 =>
            (idx x12 (p.length:Int)).bind λx17 =>
            let l18:(List Bool):=List.set x12 (p.length:Int).toNat (decide (s6.2.tmod 2=1))
            some (l15,l18)
           else
            some (x9,x12)).bind λ(p19:((List Int)×(List Bool))) =>
          (bif decide (s6.2<0)then
            some true
           else
            (idx out (k:Int)).bind λx20 =>
            (qd6 x20.1 (w64 (s6.2.tdiv 2))).bind λx21 =>
            some (!x21)).bind λ(p22:Bool) =>
          (bif p22 then
            (app s6.1 ([(p19.1,p19.2,())])).bind λx23 =>
            some x23
           else
            some s6.1).bind λ(p24:(List ((List Int)×(List Bool)×Unit))) =>
          some (.inl (p24,w64 (s6.2+1)))
         else
          some (.inr s6.1)) (next0,(-1)):Option (List Xp))=some (next0++(kids n p).map toX):=by
 have hw:w64 (2*(n:Int))=2*(n:Int):=wid (by omega) (by omega);rw [hw];refine Ok.eq (qbW (2*n+1) (λj (s:List Xp×Int)=>s=(next0++(((nth n).take j).filter (qdG p)).map (λs=>toX (p++[s])),(j:Int)-1)) (λr=>r=next0++(kids n p).map toX) (by simp) ?_);rintro j s hj rfl;by_cases hlt:j<2*n+1
 ·refine qb9.2 ⟨λ_=>?_,λh=>absurd (show (j:Int)-1<2*(n:Int) by omega) (of_decide_eq_false h)⟩;have hx1:(toX p).1.length=p.length:=by simp [toX]
  have hx2:(toX p).2.1.length=p.length:=by simp [toX]
  have htake:(nth n).take (j+1)=(nth n).take j++[quq ((j:Int)-1)]:=by
   rw [List.take_add_one,qCo hlt];rfl
  simp only [qcW hk,qa];rw [qin (by omega),qa,qdR (by omega),qa,qo7 (by omega),qa,qdR (by omega),qa];have hlenN:(((nth n).take j).filter (qdG p)).length<=9:=by
   refine Nat.le_trans (List.length_filter_le ..) ?_;rw [List.length_take,qsO];omega
  have hpair:((bif decide ((j:Int)-1>=0)then
            (idx ((toX p).1++[(-1)]) (p.length:Int)).bind λx13 =>
            (idx ((toX p).1++[(-1)]) (p.length:Int)).bind λx14 =>
            (idx ((toX p).2.1++[false]) (p.length:Int)).bind λx16 =>
            (idx ((toX p).2.1++[false]) (p.length:Int)).bind λx17 =>
            some (List.set ((toX p).1++[(-1)]) (p.length:Int).toNat (w64 (((j:Int)-1).tdiv 2)),List.set ((toX p).2.1++[false]) (p.length:Int).toNat (decide (((j:Int)-1).tmod 2=1)))
           else
            some ((toX p).1++[(-1)],(toX p).2.1++[false])):Option (List Int×List Bool))=some ((toX (p++[quq ((j:Int)-1)])).1,(toX (p++[quq ((j:Int)-1)])).2.1):=by
   rw [qep];unfold quq;split
   ·rename_i h0;rw [if_neg (by omega)];have g1:((toX p).1++[(-1)])[p.length]?=some (-1):=by rw [List.getElem?_append_right (by omega),hx1];simp
    have g2:((toX p).2.1++[false])[p.length]?=some false:=by rw [List.getElem?_append_right (by omega),hx2];simp
    rw [qcW g1,qcW g2];simp only [qa,Int.toNat_natCast];have ht:((j:Int)-1).tdiv 2=((j:Int)-1) / 2:=Int.tdiv_eq_ediv_of_nonneg h0;rw [wid (by omega) (by omega)];have s1:List.set ((toX p).1++[(-1)]) p.length (((j:Int)-1).tdiv 2)=(toX p).1++[((j:Int)-1).tdiv 2]:=by
     rw [List.set_append_right _ _ (by omega),hx1];simp
    have s2:List.set ((toX p).2.1++[false]) p.length (decide (((j:Int)-1).tmod 2=1))=(toX p).2.1++[decide (((j:Int)-1).tmod 2=1)]:=by
     rw [List.set_append_right _ _ (by omega),hx2];simp
    rw [s1,s2];simp [toX]
   ·rw [if_pos (by omega)];simp [toX]
  have hfree:((bif decide ((j:Int)-1<0)then
            some true
           else
            (qd6 (toX p).1 (w64 (((j:Int)-1).tdiv 2))).bind λx21 =>
            some (!x21)):Option Bool)=some (qdG p (quq ((j:Int)-1))):=by
   rw [qep];unfold quq qdG;split
   ·simp
   ·rename_i h0;have ht:((j:Int)-1).tdiv 2=((j:Int)-1) / 2:=Int.tdiv_eq_ediv_of_nonneg (by omega);rw [wid (by omega) (by omega),qAu _ _ (by omega),qa];have h1:decide (((j:Int)-1).tdiv 2 = -1)=false:=decide_eq_false (by omega);simp only [h1,Bool.not_false,Bool.true_and];simp only [toX,List.any_map];rfl
  rw [hpair,qa,hfree,qa,htake,List.filter_append,List.map_append];have hj1:w64 ((j:Int)-1+1)=((j+1:Nat):Int)-1:=by rw [wid (by omega) (by omega)];omega
  rw [hj1];cases hf:qdG p (quq ((j:Int)-1))with
  |true =>
   simp only [cond_true];rw [qdR (by simp only [List.length_append,List.length_map];omega)];simp only [qa];rw [qaP];refine ⟨hlt,?_⟩;simp only [List.filter_cons,hf,if_true,List.filter_nil,qh,List.map_nil,List.append_assoc]
  |false =>
   simp only [cond_false,qa];rw [qaP];refine ⟨hlt,?_⟩;simp only [List.filter_cons,hf,qf,if_false,List.filter_nil,List.map_nil,List.append_nil]
 ·have:j=2*n+1:=by omega
  subst this;refine qb9.2 ⟨λh=>absurd (of_decide_eq_true h) (show ¬ (((2*n+1:Nat):Int)-1<2*(n:Int)) by omega),λ_=>?_⟩;rw [qaV];simp only [kids,List.map_map];rw [List.take_of_length_le (by rw [qsO];omega)];rfl
def lev(n:Nat):Nat->List (List Src)
 |0=>[[]]
 |i+1=>(lev n i).flatMap (kids n)
theorem qtX(n:Nat):∀(i k:Nat),(lev n i).flatMap (exts n k)=exts n (i+k) []
 |0,k=>by simp [lev]
 |i+1,k=>by
  simp only [lev];rw [List.flatMap_assoc];have:=qtX n i (k+1);rw [show i+1+k=i+(k+1) by omega,<- this];rfl
theorem qxd(n:Nat):lev n n=exts n n []:=by
 have:=qtX n n 0;rw [Nat.add_zero]at this;rw [<- this];simp only [exts];exact (List.flatMap_singleton' _).symm
theorem qol{n:Nat}:∀{i:Nat} {p:List Src},p∈lev n i->p.length=i
 |0,p,h=>by simp only [lev,List.mem_singleton]at h;rw [h]<;>rfl
 |i+1,p,h=>by
  simp only [lev,List.mem_flatMap,kids,List.mem_map]at h;obtain ⟨q,hq,s,_,rfl⟩:=h;simp [qol hq]
theorem qze(n:Nat)(p:List Src):(kids n p).length<=2*n+1:=by
 simp only [kids,List.length_map];exact Nat.le_trans (List.length_filter_le ..) (by rw [qsO];exact Nat.le_refl _)
theorem qpl{n:Nat}:∀(L:List (List Src)),(L.flatMap (kids n)).length<=L.length*(2*n+1)
 |[]=>by simp
 |p::L=>by
  rw [List.flatMap_cons,List.length_append,List.length_cons,Nat.succ_mul];have h1:=qze n p;have h2:=qpl (n:=n) L;omega
theorem qxe{n:Nat}(hn:n<=4):∀i,(lev n i).length<=9 ^ i
 |0=>by simp [lev]
 |i+1=>by
  have h1:=qpl (n:=n) (lev n i);have h2:=qxe hn i;simp only [lev]
  calc _<=(lev n i).length*(2*n+1):=h1
   _<=9 ^ i*9:=Nat.mul_le_mul h2 (by omega)
   _=9 ^ (i+1):=rfl
theorem qrd{n i:Nat}(hn:n<=4)(hi:i<=4):(lev n i).length<=6561 :=
 Nat.le_trans (qxe hn i) (Nat.pow_le_pow_right (by omega) hi:9 ^ i<=9 ^ 4)
theorem qBT{n:Nat}(hn:n<=4):qhc (n:Int)=some ((exts n n []).map toX):=by
 unfold qhc;refine Ok.eq ?_;rw [qfj];refine (qbW n (λi (s:List Xp×Int)=>s=((lev n i).map toX,(i:Int))) (λr=>r=(exts n n []).map toX) rfl ?_).mono λr hr=>by rw [hr,qbw]
 rintro i s hi rfl;by_cases hlt:i<n
 ·refine qb9.2 ⟨λ_=>?_,λh=>absurd (show (i:Int)<(n:Int) by omega) (of_decide_eq_false h)⟩;have hL:=qrd hn (i:=i) (by omega);have hmid:∀K:List Xp×Int->Option ((List Xp×Int)⊕List Xp),(∀(k:Nat) (p:List Src) (next0:List Xp),(lev n i)[k]?=some p->next0.length<=1000000->K (next0,(k:Int))=some (.inl (next0++(kids n p).map toX,(k:Int)+1))) ->
    (∀next0,K (next0,((lev n i).length:Int))=some (.inr next0))->qaw K ([],0)=some ((lev n (i+1)).map toX):=λK h1 h2=>by
   refine Ok.eq (qbW (lev n i).length (λk (s:List Xp×Int)=>s=((((lev n i).take k).flatMap (kids n)).map toX,(k:Int))) (λr=>r=(lev n (i+1)).map toX) rfl ?_);rintro k s hk rfl;by_cases hk':k<(lev n i).length
   ·obtain ⟨p,hp⟩:∃p,(lev n i)[k]?=some p:=⟨_,List.getElem?_eq_getElem hk'⟩
    rw [h1 k p _ hp ?_,qaP]
    ·refine ⟨hk',?_⟩;rw [List.take_add_one,hp,List.flatMap_append,List.map_append];simp only [Option.toList_some,List.flatMap_cons,List.flatMap_nil,List.append_nil];rfl
    ·rw [List.length_map];have:=qpl (n:=n) ((lev n i).take k);have h3:((lev n i).take k).length*(2*n+1)<=6561*9:=Nat.mul_le_mul (by rw [List.length_take];omega) (by omega);omega
   ·have:k=(lev n i).length:=by omega
    subst this;rw [h2,qaV,List.take_length];rfl
  simp only
  rw [hmid _ (λk p next0 hp hb=>?_) (λnext0=>?_),qa,qaP,wid (by omega) (by omega)]
  ·exact ⟨hlt,rfl⟩
  ·have hk:=qie hp;have hpl:=qol (List.mem_of_getElem? hp);subst hpl;have hout:((lev n p.length).map toX)[k]?=some (toX p):=by rw [List.getElem?_map,hp];rfl
   rw [qep,if_pos (by rw [List.length_map];omega),qxa hn hlt hout hb,qa,wid (by omega) (by omega)]
  ·rw [qep,if_neg (by rw [List.length_map];omega)]
 ·have:i=n:=by omega
  subst this;refine qb9.2 ⟨λh=>absurd (of_decide_eq_true h) (show ¬ ((i:Int)<(i:Int)) by omega),λ_=>?_⟩;rw [qaV,qxd]
def qvS(sig:List (List Int))(off:Int):Int×Int :=
 if sig.length=0 then (0,10)else if 4<sig.length then (0,8)else match qbq (gC (n0 sig)) 0 sig with
  |some r=>r
  |none=>(0,if 0<=off/\off<=100000 then 0 else 2)
def qzn(sig meas:List (List Int)):Int:=if meas.length=sig.length then qba (meas.map (eC (n0 sig)))else 10
structure Small (l:List (List Int)):Prop where
 len:l.length<=9
 row:∀r∈l,r.length<=62
theorem qvc{l:List (List Int)}(h:0<l.length):idx l 0=some (l.getD 0 [])/\((l.getD 0 []).length:Int)=n0 l:=by
 cases l with
 |nil=>simp at h
 |cons c l=>exact ⟨by simp [idx],by simp [n0]⟩
theorem qCy{l:List (List Int)}(hl:Small l){i:Nat}{r:List Int}(h:l[i]?=some r):qbN r=some (qm7 r) :=
 qrD r (by have:=hl.row r (List.mem_of_getElem? h);unfold big;omega)
theorem qwP{n:Int}:∀{l:List (List Int)} {k:Nat} {r:Int×Int},qbq (gC n) k l=some r->r.2≠0
 |[],k,r,h=>by simp [qbq]at h
 |c::l,k,r,h=>by
  simp only [qbq]at h;unfold gC at h;split at h
  ·rename_i r' hr;cases h;split at hr
   ·cases hr
   ·rename_i e;cases hr;exact e
  ·exact qwP h
theorem qwD{sig:List (List Int)}(hs:Small sig)(h1:0<sig.length) :
  (qaw (λ(s5:Int) =>
     bif decide (s5<(sig.length:Int))then
      (idx sig s5).bind λx6 =>
      (qbN x6).bind λx7 =>
      (idx sig 0).bind λx8 =>
      (qH (decide ((x6.length:Int)=(x8.length:Int))) (13:Int)).bind λx9 =>
      (qag ([x7,x9])).bind λx10 =>
      bif !(decide (x10=0))then
       some (.inr (.inr (s5,x10)))
      else
       some (.inl (w64 (s5+1)))
     else
      some (.inr (.inl ()))) 0)=some (qjU (qbq (gC (n0 sig)) 0 sig)):=by
 obtain ⟨e0,e1⟩:=qvc h1;refine qhv sig _ (gC (n0 sig)) λi r hi=>?_;have hlt:=qie hi;have hl9:=hs.len;rw [qcW hi,qa,qCy hs hi,qa,e0,qa,e1,qcA,qa,qeX (by simp),qa];simp only [qba,gC,eC,decide_eq_true_eq,wid (n:=(i:Int)+1) (by omega) (by omega)];by_cases h3:qm7 r=0
 ·by_cases h4:(r.length:Int)=n0 sig<;>simp [h3,h4,stp]
 ·simp [h3,stp]
theorem qyF(off:Int):qbO off 0 100000=some (decide (0<=off/\off<=100000)):=qnC off 0 100000
theorem qo1{sig:List (List Int)}{off:Int}(hs:Small sig):qcl (sig,off,())=some (qvS sig off):=by
 unfold qcl qvS;dsimp only;rw [qcA,qa,qcA,qa,qeX (by simp),qa];by_cases h1:0<sig.length
 ·have h1':¬ sig.length=0:=by omega
  have d1:decide ((sig.length:Int) > 0)=true:=decide_eq_true (by omega);by_cases h2:4<sig.length
  ·have d2:decide ((sig.length:Int)<=4)=false:=decide_eq_false (by omega);simp [qba,d1,d2,h1',h2]
  ·have d2:decide ((sig.length:Int)<=4)=true:=decide_eq_true (by omega);have e:qba [if decide ((sig.length:Int) > 0)=true then 0 else 10,if decide ((sig.length:Int)<=4)=true then 0 else 8]=0:=by rw [d1,d2];rfl
   rw [e,qwD hs h1,if_neg h1',if_neg h2];cases hf:qbq (gC (n0 sig)) 0 sig with
   |none =>
    simp only [qjU,qa,Sum.elim_inl,decide_true,Bool.not_true,cond_false];rw [qyF,qa,qcA];simp
   |some r =>
    have:=qwP hf;simp only [qjU,qa,Sum.elim_inr,decide_true,Bool.not_true,cond_false];rw [decide_eq_false this];rfl
 ·have h1':sig.length=0:=by omega
  have d1:decide ((sig.length:Int) > 0)=false:=decide_eq_false (by omega);simp [qba,d1,h1']
theorem qkx{sig:List (List Int)}{off:Int}(hl9:sig.length<=9):qcF (sig,off,())=some (qvS sig off):=by
 unfold qcF qvS;dsimp only;simp only [qep];by_cases h1:sig.length=0
 ·rw [if_pos (by omega),if_pos h1]
 ·rw [if_neg (by omega),if_neg h1];by_cases h2:4<sig.length
  ·rw [if_pos (by omega),if_pos h2]
  ·rw [if_neg (by omega),if_neg h2];obtain ⟨e0,e1⟩:=qvc (l:=sig) (by omega);rw [qfy sig (gC (n0 sig)) (λi r hi=>?_) (by rw [if_neg (by omega)])]
   ·cases hf:qbq (gC (n0 sig)) 0 sig with
    |none =>
     simp only [qjU,qa,Sum.elim_inl];rw [qlS,qa];by_cases h:0<=off/\off<=100000
     ·simp [h]
     ·simp [h]
    |some r=>rfl
   ·have hlt:=qie hi;rw [if_pos (by omega),qcW hi,qa,qv3,qa];simp only [gC,eC];by_cases h3:qm7 r=0
    ·simp only [h3,decide_true,Bool.not_true,cond_false,qa,e0,e1,qfQ,if_true];rw [wid (n:=(i:Int)+1) (by omega) (by omega)];by_cases h4:(r.length:Int)=n0 sig<;>simp [h4,stp]
    ·simp [h3,stp]
def dE(sig:List (List Int))(off:Int)(meas:List (List Int)):Int:=if (qvS sig off).2=0 then qzn sig meas else (qvS sig off).2
theorem qdE{sig:List (List Int)}{off:Int}(h:(qvS sig off).2=0):0<sig.length/\sig.length<=4/\(0<=off/\off<=100000)/\∀c∈sig,qm7 c=0/\c.length=n0 sig:=by
 unfold qvS at h;split at h
 ·cases h
 ·split at h
  ·cases h
  ·split at h
   ·rename_i r hr;exact absurd h (qwP hr)
   ·rename_i hn;refine ⟨by omega,by omega,?_,λc hc=>?_⟩
    ·simp only at h;split at h
     ·assumption
     ·cases h
    ·obtain ⟨i,hi⟩:=List.mem_iff_getElem?.1 hc;have:=qdi.1 hn i c hi;unfold gC at this;split at this
     ·rename_i e;unfold eC at e;split at e
      ·rename_i e1;split at e
       ·rename_i e2;exact ⟨e1,by omega⟩
       ·cases e
      ·rename_i e1;exact absurd e e1
     ·cases this
theorem qk4{sig:List (List Int)}{off:Int}{meas:List (List Int)}(hs:Small sig)(hm:Small meas):qbS (sig,off,()) meas=some ((sig,off,meas,()),dE sig off meas):=by
 unfold qbS;have hl9:=hm.len;rw [qo1 hs,qa,qcA,qa,qk6,qa,qh8 meas 4 (n0 sig) (by unfold big;omega) (λc hc=>by have:=hm.row c hc;unfold big;omega),qa,qeX (by simp),qa];congr 2
 unfold dE;by_cases h:(qvS sig off).2=0
 ·obtain ⟨h1,h2,_,_⟩:=qdE h;rw [if_pos h];unfold qzn;by_cases hl:meas.length=sig.length
  ·have d1:decide ((meas.length:Int)=(sig.length:Int))=true:=decide_eq_true (by omega);have d3:(sig.length:Int)<=4:=by omega
   rw [d1];simp only [qba,h,if_true,hl,h1,d3];generalize qba (meas.map (eC (n0 sig)))=z;by_cases hz:z=0<;>simp [hz]
  ·have d1:decide ((meas.length:Int)=(sig.length:Int))=false:=decide_eq_false (by omega);simp [qba,h,d1,hl]
 ·rw [if_neg h];simp [qba,h]
theorem qyD{sig:List (List Int)}{off:Int}{meas:List (List Int)}(h:dE sig off meas=0):Vld sig off meas:=by
 unfold dE at h;split at h
 ·rename_i h0;obtain ⟨h1,h2,h3,h4⟩:=qdE h0;unfold qzn at h;split at h
  ·rename_i hl;have h5:∀c∈meas,qm7 c=0/\c.length=n0 sig:=λc hc=>by
    have:=qfZ h (eC (n0 sig) c) (List.mem_map_of_mem hc);unfold eC at this;split at this
    ·rename_i e1;split at this
     ·rename_i e2;exact ⟨e1,by omega⟩
     ·cases this
    ·rename_i e1;exact absurd this e1
   have hw:n0 sig<=60:=by
    have hm:sig.getD 0 []∈sig:=qa1 h1;have h6:=(qeF (h4 _ hm).1).2.1;rw [(h4 _ hm).2]at h6;exact h6
   exact {
       n1:=by omega
       n4:=h2
       len:=hl
       off0:=h3.1
       off1:=h3.2
       w:=hw
       ls:=λc hc=>(h4 _ (qa1 hc)).2
       lm:=λc hc=>(h5 _ (qa1 (by omega))).2
       vs:=λc hc k hk=>(qeF (h4 _ (qa1 hc)).1).2.2 _ (qa1 (by rw [(h4 _ (qa1 hc)).2];exact hk))
       vm:=λc hc k hk=>(qeF (h5 _ (qa1 (by omega))).1).2.2 _ (qa1 (by rw [(h5 _ (qa1 (by omega))).2];exact hk))}
  ·cases h
 ·rename_i h0;exact absurd h h0
theorem qqo{sig:List (List Int)}{off:Int}(hs:Small sig):qae (sig,off,())=some (sig,off,()):=by
 unfold qae;simp only
 rw [qeP (by have:=hs.len;omega) (λr hr=>by have:=hs.row r hr;omega)];rfl
abbrev Ff(sig:List (List Int))(off:Int)(meas:List (List Int)):Nat->Src->Bool:=λc s=>qgN sig off (meas.getD c []) s.1 s.2.1
def qBP(sig:List (List Int))(off:Int)(meas:List (List Int)):Sta:=(exts sig.length sig.length []).foldl (pick (Ff sig off meas)) none
theorem qqP{l:List Src}(hl:l.length<=1000):qcG l=some (toX l):=by
 unfold qcG;refine Ok.eq ?_;rw [qfj];refine (qbW l.length (λi (s:Int×List Int×List Bool)=>s=((i:Int),(toX (l.take i)).1,(toX (l.take i)).2.1)) (λr=>r=((toX l).1,(toX l).2.1)) rfl ?_).mono λr hr=>by rw [hr,qbw]
 rintro i s hi rfl;by_cases hlt:i<l.length
 ·refine qb9.2 ⟨λ_=>?_,λh=>absurd (show (i:Int)<(l.length:Int) by omega) (of_decide_eq_false h)⟩;have hg:l[i]?=some (l.getD i qgO):=qlV qgO hlt;have h1:(toX (l.take i)).1.length<=1000:=by simp [toX]<;>omega
  have h2:(toX (l.take i)).2.1.length<=1000:=by simp [toX]<;>omega
  simp only
  rw [qcW hg,qa,qdR (by omega),qa,qdR (by omega),qa,qaP,wid (by omega) (by omega),qrY qgO hlt];refine ⟨hlt,?_⟩;simp [toX]
 ·have:i=l.length:=by omega
  subst this;refine qb9.2 ⟨λh=>absurd (of_decide_eq_true h) (show ¬ ((l.length:Int)<(l.length:Int)) by omega),λ_=>?_⟩;rw [qaV,List.take_length]
theorem qAX{sig:List (List Int)}{off:Int}{meas:List (List Int)}:qv5 sig.length (qBP sig off meas) :=
 qsY _ _ (λb h=>by cases h) λp hp=>by obtain ⟨m,rfl,hm⟩:=qfY hp;simpa using hm
theorem qgw{sig:List (List Int)}{off:Int}{meas:List (List Int)}(hs:Small sig)(hm:Small meas):qar (sig,off,()) meas=some (if dE sig off meas≠0 then (([],[],()),0,dE sig off meas)else match qBP sig off meas with
  |none=>(([],[],()),0,12)
  |some b=>(toX b.1,b.2,0)):=by
 unfold qar;rw [qk4 hs hm,qa];simp only
 rw [qfQ];by_cases h:dE sig off meas=0
 ·rw [if_pos h,if_neg (by simp [h])];have v:=qyD h;have ht:=qAM v sig.length 12 [] none (by simp) (by have:=v.n4;omega) (by simp) rfl (λb h=>by cases h);have:qeQ (sig,off,meas,[],0) [] 0=some (enc sig off meas (qBP sig off meas)):=ht;rw [this,qa];have hb:=qAX (sig:=sig) (off:=off) (meas:=meas);cases hbest:qBP sig off meas with
  |none=>rfl
  |some b =>
   rw [hbest]at hb;obtain ⟨h1,h2⟩:=hb b rfl;have hn1:=v.n1;have hn4:=v.n4;have e1:(enc sig off meas (some b)).2.2.2.1=b.1:=rfl;have e2:(enc sig off meas (some b)).2.2.2.2=b.2:=rfl;rw [e1,e2];cases hbl:b.1 with
   |nil=>rw [hbl]at h1;simp at h1;omega
   |cons a l =>
    simp only [List.isEmpty_cons,cond_false,nel,qa];rw [qqP (by rw [<- hbl];omega),hbl];rfl
 ·rw [if_neg h,if_pos h]
theorem qv0{l m:List Int}(hl:l.length<=1000000000):qfo l m=some (decide (l=m)):=by
 unfold qfo;by_cases h:l.length=m.length
 ·have e:decide ((l.length:Int)=(m.length:Int))=true:=by simp [h]
  simp only [e,Bool.not_true,cond_false];refine qw3 0 h hl (λa b=>decide (a=b)) (by simp) λi hi=>?_;rw [qev (by omega) (by omega),qev (by omega) (by omega)];simp only [qa,Int.toNat_natCast];by_cases c:l.getD i 0=m.getD i 0
  ·simp only [c,decide_true,Bool.not_true,cond_false,if_true];rw [wid (by omega) (by omega)]
  ·simp only [c,decide_false,Bool.not_false,cond_true,qf,if_false]
 ·have e:decide ((l.length:Int)=(m.length:Int))=false:=by simp<;>omega
  have:l≠m:=λe=>h (by rw [e]);simp [e,this]
theorem qgr(x:Xp)(m:Nat):(qhj x m).length=m:=qa2 _ _
theorem qAb{x:Xp}{n:Nat}(h1:x.1.length=n)(h2:x.2.1.length=n):toX (qhj x n)=x:=by
 obtain ⟨a,b,u⟩:=x;simp only at h1 h2;unfold toX qhj;rw [qsM,qsM];have e1:=qhy a 0;have e2:=qhy b false;rw [h1]at e1;rw [h2]at e2;show (mkL n (λj=>a.getD j 0),mkL n (λj=>b.getD j false),())=(a,b,u);rw [<- e1,<- e2]
theorem ql5{x:Xp}{n:Int}{i:Nat}(h:qbx x n i=0) : -1<=sc x i/\sc x i<n:=by
 unfold qbx at h;split at h
 ·omega
 ·cases h
theorem qmi{x:Xp}{n i:Nat}(h:i<n):(qhj x n).getD i qgO=(sc x i,rv x i,()):=qgc _ _ h
def qnF(y:Xp)(n:Nat)(e:Int):Prop:=(¬ (y.1.length=n/\y.2.1.length=n)/\e=10)\/((y.1.length=n/\y.2.1.length=n)/\qi1 (qbx y n) n e)
theorem qnF.zero{y:Xp}{n:Nat}(h:qnF y n 0):(y.1.length=n/\y.2.1.length=n)/\∀j,j<n->qbx y n j=0:=by
 rcases h with ⟨_,h⟩|⟨h1,h2|⟨i,_,h3,h4,_⟩⟩
 ·cases h
 ·exact ⟨h1,h2.2⟩
 ·exact absurd h3.symm h4
theorem qnF.same{y:Xp}{n:Nat}{e e':Int}(h:qnF y n e)(h':qnF y n e'):e=e':=by
 rcases h with ⟨h1,h2⟩|⟨h1,h2⟩<;>rcases h' with ⟨h3,h4⟩|⟨h3,h4⟩
 ·rw [h2,h4]
 ·exact absurd h3 h1
 ·exact absurd h1 h3
 ·exact h2.same h4
theorem qnW{y:Xp}{n:Nat}(hn:n<=1000000):∃e,qQ y (n:Int)=some e/\qnF y n e:=by
 by_cases h:y.1.length=n/\y.2.1.length=n
 ·obtain ⟨e,h1,h2⟩:=qj2 h.1 h.2 hn;exact ⟨e,h1,.inr ⟨h,h2⟩⟩
 ·exact ⟨10,qj1 h,.inl ⟨h,rfl⟩⟩
theorem qz1{sig:List (List Int)}{off:Int}{meas:List (List Int)}(v:Vld sig off meas){p:List Src}(hp:p.length=sig.length)(hs:∀s∈p,-1<=s.1/\s.1<(sig.length:Int)) :
  ((qaw (λ(s4:(Int×Int)) =>
     bif decide (s4.2<(p.length:Int))then
      (idx p s4.2).bind λx5 =>
      (qY (sig,off,meas,()) s4.2 x5).bind λx6 =>
      bif !x6 then
       some (.inr (.inr (0,19)))
      else
       (qL x5 s4.2).bind λx7 =>
       some (.inl (w64 (s4.1+x7),w64 (s4.2+1)))
     else
      some (.inr (.inl s4.1))) (0,0)).bind (Sum.elim (λ(p8:Int) =>
   some (p8,0)) some):Option (Int×Int))=some (if qfe (Ff sig off meas) 0 p=true then (qaZ 0 p,0)else (0,19)):=by
 have hn4:=v.n4;refine Ok.eq (qmN.2 ?_);refine (qbW p.length (λi (s:Int×Int)=>s=(qaZ 0 (p.take i),(i:Int))/\∀j,j<i->Ff sig off meas j (p.getD j qgO)=true)
  (λr=>(r=.inl (qaZ 0 p)/\∀j,j<p.length->Ff sig off meas j (p.getD j qgO)=true)\/(r=.inr (0,19)/\∃j,j<p.length/\Ff sig off meas j (p.getD j qgO)=false)) ⟨rfl,λj hj=>by omega⟩ ?_).mono ?_
 ·rintro i s hi ⟨rfl,hI⟩;by_cases hlt:i<p.length
  ·refine qb9.2 ⟨λ_=>?_,λh=>absurd (show (i:Int)<(p.length:Int) by omega) (of_decide_eq_false h)⟩;have hg:p[i]?=some (p.getD i qgO):=qlV qgO hlt;have hr:=hs _ (qa1 (d:=qgO) hlt);have hc:=qn1 hlt;have hb1:=qfV (p.take i) 0;have hb2:(p.take i).length<=4:=by rw [List.length_take];omega
   have hb3:=qpe (p.getD i qgO).1 (p.getD i qgO).2.1 (i:Int);simp only
   rw [qcW hg,qa];have hf:=qwL v (c:=i) (by omega) (s:=(p.getD i qgO).1) (r:=(p.getD i qgO).2.1) hr.1 hr.2;have hco:=qwu (p.getD i qgO).1 (p.getD i qgO).2.1 (i:Int);have eta:((p.getD i qgO).1,(p.getD i qgO).2.1,())=p.getD i qgO:=rfl;rw [eta]at hf hco;rw [hf,qa];cases hF:qgN sig off (meas.getD i []) (p.getD i qgO).1 (p.getD i qgO).2.1 with
   |false =>
    simp only [Bool.not_false,cond_true];rw [qaV];exact .inr ⟨rfl,i,hlt,hF⟩
   |true =>
    simp only [Bool.not_true,cond_false];rw [hco,qa,qaP,wid (by omega) (by omega),wid (by omega) (by omega),<- hc];refine ⟨hlt,rfl,λj hj=>?_⟩;by_cases hji:j<i
    ·exact hI j hji
    ·have:j=i:=by omega
     subst this;exact hF
  ·have:i=p.length:=by omega
   subst this;refine qb9.2 ⟨λh=>absurd (of_decide_eq_true h) (show ¬ ((p.length:Int)<(p.length:Int)) by omega),λ_=>?_⟩;rw [qaV,List.take_length];exact .inl ⟨rfl,hI⟩
 ·rintro r (⟨rfl,h⟩|⟨rfl,j,hj,h⟩)
  ·simp only [qbw];rw [if_pos];rw [qgX];exact List.all_eq_true.2 λi hi=>by rw [Nat.zero_add];exact h i (List.mem_range.1 hi)
  ·simp only
   rw [if_neg];rw [qgX];intro hall;have:=List.all_eq_true.1 hall j (List.mem_range.2 hj);rw [Nat.zero_add,h]at this;cases this
theorem qil{sig:List (List Int)}{off:Int}{meas:List (List Int)}(hs:Small sig)(hm:Small meas)(y:Xp):∃q,qS (sig,off,()) meas y=some q/\(dE sig off meas≠0->q=(0,dE sig off meas)) /\
  (dE sig off meas=0->∃e,qnF y sig.length e/\(e≠0->q=(0,e))/\(e=0->q=if qfe (Ff sig off meas) 0 (qhj y sig.length)=true then (qaZ 0 (qhj y sig.length),0)else (0,19))):=by
 unfold qS;rw [qk4 hs hm,qa];dsimp only;rw [qfQ];by_cases h:dE sig off meas=0
 ·rw [if_pos h];have v:=qyD h;have hn4:=v.n4;have hlen:=v.len;rw [hlen];by_cases hl:y.1.length=sig.length/\y.2.1.length=sig.length
  ·obtain ⟨o,e,h1,h2,h3⟩:=qk9 hl.1 hl.2 (by omega);rw [h1,qa];dsimp only;rw [qfQ];by_cases he:e=0
   ·rw [if_pos he,h3 he];subst he;have hz:∀j,j<sig.length->qbx y sig.length j=0:=by
     rcases h2 with h2|⟨i,_,h4,h5,_⟩
     ·exact h2.2
     ·exact absurd h4.symm h5
    rw [qz1 v (qgr _ _) (λs hs'=>by
     obtain ⟨j,hj,rfl⟩:=qmF hs';exact ql5 (hz j hj))]
    exact ⟨_,rfl,λh'=>absurd h h',λ_=>⟨0,.inr ⟨hl,h2⟩,λh'=>absurd rfl h',λ_=>rfl⟩⟩
   ·rw [if_neg he];exact ⟨_,rfl,λh'=>absurd h h',λ_=>⟨e,.inr ⟨hl,h2⟩,λ_=>rfl,λh'=>absurd h' he⟩⟩
  ·rw [qk8 hl,qa];exact ⟨_,rfl,λh'=>absurd h h',λ_=>⟨10,.inl ⟨hl,rfl⟩,λ_=>rfl,λh'=>by cases h'⟩⟩
 ·rw [if_neg h];exact ⟨_,rfl,λ_=>rfl,λh'=>absurd h' h⟩
theorem and_false{a b:Bool}(h:a=b):((bif !a then some true else some (!b)):Option Bool)=some (!(a&&b)):=by cases a<;>cases b<;>rfl
theorem qim{y:Xp}(h1:y.1.length<=1000)(h2:y.2.1.length<=1000):qI y=some y:=qi0 (by omega) (by omega)
theorem qmV(F:Nat->Src->Bool):∀(L:List (List Src)) (st:Sta),(∀b0,st=some b0->∃b,L.foldl (pick F) st=some b/\b.2<=b0.2)/\(∀q∈L,qfe F 0 q=true->∃b,L.foldl (pick F) st=some b/\b.2<=qaZ 0 q) /\
  (∀b,L.foldl (pick F) st=some b->st=some b\/(b.1∈L/\qfe F 0 b.1=true/\b.2=qaZ 0 b.1))
 |[],st=>⟨λb0 h=>⟨b0,h,Int.le_refl _⟩,λq hq=>(by cases hq),λb h=>.inl h⟩
 |p::L,st=>by
  obtain ⟨h1,h2,h3⟩:=qmV F L (pick F st p);simp only [List.foldl_cons];have hp:∀b0,st=some b0->∃b,pick F st p=some b/\b.2<=b0.2:=λb0 h=>by
   unfold pick;split
   ·rename_i hc;refine ⟨_,rfl,?_⟩;have:=hc.2;rw [h]at this;simp only [better,decide_eq_true_eq]at this;simp only<;>omega
   ·exact ⟨b0,h,Int.le_refl _⟩
  refine ⟨λb0 h=>?_,λq hq hh=>?_,λb h=>?_⟩
  ·obtain ⟨b,hb,hle⟩:=hp b0 h;obtain ⟨b',hb',hle'⟩:=h1 b hb;exact ⟨b',hb',by omega⟩
  ·rcases qk.1 hq with rfl|hq
   ·have:∃b,pick F st q=some b/\b.2<=qaZ 0 q:=by
     unfold pick;split
     ·exact ⟨_,rfl,Int.le_refl _⟩
     ·rename_i hc;cases st with
      |none=>exact absurd ⟨hh,rfl⟩ hc
      |some b =>
       refine ⟨b,rfl,?_⟩;have:¬ better (some b) (qaZ 0 q)=true:=λh=>hc ⟨hh,h⟩;simp only [better,decide_eq_true_eq]at this;omega
    obtain ⟨b,hb,hle⟩:=this;obtain ⟨b',hb',hle'⟩:=h1 b hb;exact ⟨b',hb',by omega⟩
   ·exact h2 q hq hh
  ·rcases h3 b h with h4|⟨h4,h5,h6⟩
   ·unfold pick at h4;split at h4
    ·rename_i hc;cases h4;exact .inr ⟨by simp,hc.1,rfl⟩
    ·exact .inl h4
   ·exact .inr ⟨by simp [h4],h5,h6⟩
def qld(n:Nat)(q:List Src):Prop:=∀j,j<q.length->q.getD j qgO∈nth n/\qdG (q.take j) (q.getD j qgO)=true
theorem qvP{n:Nat}{p:List Src}{s:Src}(h:qld n p)(h1:s∈nth n)(h2:qdG p s=true):qld n (p++[s]):=λj hj=>by
 simp only [List.length_append,List.length_cons,List.length_nil]at hj;by_cases hlt:j<p.length
 ·have:=h j hlt;have e1:(p++[s]).getD j qgO=p.getD j qgO:=by simp [hlt,qg]
  have e2:(p++[s]).take j=p.take j:=by rw [List.take_append_of_le_length (by omega)]
  rw [e1,e2];exact this
 ·have:j=p.length:=by omega
  subst this;have e1:(p++[s]).getD p.length qgO=s:=by simp
  have e2:(p++[s]).take p.length=p:=by simp
  rw [e1,e2];exact ⟨h1,h2⟩
theorem qn6{n:Nat}:∀{k:Nat} {p q:List Src},q∈exts n k p->qld n p->qld n q
 |0,p,q,h,hp=>by simp only [exts,List.mem_singleton]at h;subst h;exact hp
 |k+1,p,q,h,hp=>by
  simp only [exts,List.mem_flatMap,kids,List.mem_map]at h;obtain ⟨r,⟨s,hs,rfl⟩,h⟩:=h;obtain ⟨h1,h2⟩:=List.mem_filter.1 hs;exact qn6 h (qvP hp h1 h2)
theorem qkN{n:Nat}:∀(m:List Src) (p:List Src),qld n (p++m)->p++m∈exts n m.length p
 |[],p,h=>by simp [exts]
 |s::m,p,h=>by
  have e:p++s::m=(p++[s])++m:=by simp
  rw [e]at h ⊢;simp only [List.length_cons,exts,List.mem_flatMap,kids,List.mem_map];refine ⟨p++[s],⟨s,List.mem_filter.2 ?_,rfl⟩,qkN m (p++[s]) h⟩;have:=h p.length (by simp);have e1:(p++[s]++m).getD p.length qgO=s:=by simp
  have e2:(p++[s]++m).take p.length=p:=by simp
  rw [e1,e2]at this;exact this
theorem qxw{n:Nat}{s:Src}:s∈nth n↔(s.1 = -1/\s.2.1=false)\/(0<=s.1/\s.1<n):=by
 obtain ⟨a,r,u⟩:=s;unfold nth;simp only [qk,List.mem_flatMap,List.mem_range,List.not_mem_nil,or_false,Prod.mk.injEq,and_true];constructor
 ·rintro (⟨rfl,rfl⟩|⟨i,hi,⟨rfl,rfl⟩|⟨rfl,rfl⟩⟩)
  ·left;exact ⟨rfl,rfl⟩
  ·right;omega
  ·right;omega
 ·rintro (⟨h1,h2⟩|⟨h1,h2⟩)
  ·left;exact ⟨h1,h2⟩
  ·right
   refine ⟨a.toNat,by omega,?_⟩;cases r
   ·left;exact ⟨by omega,rfl⟩
   ·right;exact ⟨by omega,rfl⟩
theorem qqL{y:Xp}{n j:Nat}(h1:y.1.length=n)(hj:j<n):qbx y n j=0↔((sc y j,rv y j,())∈nth n/\qdG ((qhj y n).take j) (sc y j,rv y j,())=true):=by
 have htk:(qhj y n).take j=qhj y j:=by
  apply List.ext_getElem?;intro i;rw [List.getElem?_take];by_cases hi:i<j
  ·rw [if_pos hi];unfold qhj;rw [qiC _ (by omega),qiC _ hi]
  ·rw [if_neg hi,List.getElem?_eq_none (by rw [qgr];omega)]
 have hany:(qhj y j).any (λo=>decide (o.1=sc y j))=true↔sc y j∈y.1.take j:=by
  rw [qe1 (by omega),List.any_eq_true];constructor
  ·rintro ⟨o,ho,h⟩;obtain ⟨i,hi,rfl⟩:=qmF ho;exact ⟨i,hi,by simpa [sc]using h⟩
  ·rintro ⟨i,hi,h⟩;exact ⟨_,qBl (f:=λj=>((sc y j,rv y j,()):Src)) hi,by simpa [sc]using h⟩
 rw [htk,qxw];unfold qbx qdG;simp only
 by_cases h:sc y j = -1
 ·simp only [h];rw [if_pos (by omega),if_neg (by simp)];cases hr:rv y j<;>simp
 ·have hd:decide (sc y j = -1)=false:=decide_eq_false h;simp only [hd,Bool.not_false,Bool.true_and];by_cases hr : -1<=sc y j/\sc y j<=(n:Int)-1
  ·rw [if_pos hr];by_cases hm:sc y j∈y.1.take j
   ·rw [if_pos ⟨h,hm⟩,hany.2 hm];simp
   ·rw [if_neg (λhh=>hm hh.2),if_neg (λhh=>h hh.1)];have:(qhj y j).any (λo=>decide (o.1=sc y j))=false:=by
     cases ha:(qhj y j).any (λo=>decide (o.1=sc y j))with
     |false=>rfl
     |true=>exact absurd (hany.1 ha) hm
    rw [this];simp only [Bool.not_false,and_true,true_iff];right;omega
  ·rw [if_neg hr];simp only [Int.reduceEq,false_iff];rintro ⟨h3|h3,_⟩
   ·exact h h3.1
   ·omega
theorem qtI{y:Xp}{n:Nat}(h1:y.1.length=n):(∀j,j<n->qbx y n j=0)↔qld n (qhj y n):=by
 unfold qld;rw [qgr];constructor
 ·intro h j hj;rw [qmi hj];exact (qqL h1 hj).1 (h j hj)
 ·intro h j hj;have:=h j hj;rw [qmi hj]at this;exact (qqL h1 hj).2 this
theorem qur(q:List Src):qhj (toX q) q.length=q:=by
 apply List.ext_getElem?;intro i;by_cases hi:i<q.length
 ·unfold qhj;rw [qiC _ hi];simp only [sc,rv,toX];rw [List.getElem?_eq_getElem hi];simp [hi]
 ·rw [List.getElem?_eq_none (by rw [qgr];omega),List.getElem?_eq_none (by omega)]
theorem qjV(q:List Src):(toX q).1.length=q.length/\(toX q).2.1.length=q.length:=by simp [toX]
theorem qyw{n:Nat}{q:List Src}(hq:q∈exts n n []){e:Int}(he:qnF (toX q) n e):q.length=n/\e=0:=by
 have hl:q.length=n:=by obtain ⟨m,rfl,hm⟩:=qfY hq;simpa using hm
 have hv:=qn6 hq (λj hj=>by simp at hj);refine ⟨hl,he.same (.inr ⟨by rw [(qjV q).1,(qjV q).2];exact ⟨hl,hl⟩,.inl ⟨rfl,?_⟩⟩)⟩;have e1:qhj (toX q) n=q:=by rw [<- hl];exact qur q
 exact (qtI (by rw [(qjV q).1,hl])).2 (by rw [e1];exact hv)
theorem qzY{n:Nat}{y:Xp}(h:qnF y n 0):qhj y n∈exts n n []:=by
 obtain ⟨hl,hz⟩:=h.zero;have:=qkN (qhj y n) [] (by rw [List.nil_append];exact (qtI hl.1).1 hz);rw [List.nil_append,qgr]at this;exact this
theorem qul{α:Type}(f:α->α):∀(l:List α) (i:Nat) (a:α),l[i]?=some a->((l.take i).map f++l.drop i).set i (f a)=(l.take (i+1)).map f++l.drop (i+1)
 |[],i,a,h=>by simp at h
 |b::l,0,a,h=>by simp at h;subst h;simp
 |b::l,i+1,a,h=>by
  have h':l[i]?=some a:=by simpa using h
  have:=qul f l i a h';simp only [List.take_succ_cons,qh,List.drop_succ_cons,List.cons_append,List.set_cons_succ];rw [this]
theorem qtO{α:Type}(f:α->α):∀(l:List α) (i:Nat) (a:α),l[i]?=some a->((l.take i).map f++l.drop i)[i]?=some a
 |[],i,a,h=>by simp at h
 |b::l,0,a,h=>by simpa using h
 |b::l,i+1,a,h=>by
  have h':l[i]?=some a:=by simpa using h
  have:=qtO f l i a h';simp only [List.take_succ_cons,qh,List.drop_succ_cons,List.cons_append,List.getElem?_cons_succ];exact this
def pr(g:Int->Int)(l old:List Int)(k:Nat):List Int:=(l.take k).map g++old.drop k
theorem qxG(g:Int->Int):∀(l old:List Int) (k:Nat),old.length=l.length->k<l.length->(pr g l old k).set k (g (l.getD k 0))=pr g l old (k+1)
 |[],_,k,_,h=>by simp at h
 |b::l,[],k,h,_=>by simp at h
 |b::l,o::old,0,h,_=>by simp [pr]
 |b::l,o::old,k+1,h,hk=>by
  have:=qxG g l old k (by simpa using h) (by simpa using hk);unfold pr at *;simp only [List.take_succ_cons,qh,List.drop_succ_cons,List.cons_append,List.set_cons_succ,List.getD_cons_succ];rw [this]
theorem qCx{g:Int->Int}{l old:List Int}{k:Nat}(h:old.length=l.length)(hk:k<=l.length):(pr g l old k).length=l.length:=by
 unfold pr;simp<;>omega
theorem qCw{g:Int->Int}{l old:List Int}(h:old.length=l.length):pr g l old l.length=l.map g:=by
 unfold pr;rw [List.take_length,<- h,List.drop_length,List.append_nil]
theorem qBc{D:List (List Int)}{s:Int}(A:List Int)(h0:0<=s)(h1:s<D.length):idx (D.set s.toNat A) s=some A:=by
 rw [qit h0 (by simpa using h1)];have:s.toNat<D.length:=by omega
 simp [this]
theorem qlP{D:List (List Int)}{s:Nat}(h:s<D.length):D.set s (D.getD s [])=D:=by
 apply List.ext_getElem?;intro j;by_cases hj:j=s
 ·subst hj;rw [List.getElem?_set_self h];exact (qlV [] h).symm
 ·rw [List.getElem?_set_ne (λe=>hj e.symm)]
structure Chs (a:List (List Int)):Prop where
 n1:1<=a.length
 n2:a.length<=4
 w1:1<=n0 a
 w2:n0 a<=60
 len:∀c,c<a.length->(a.getD c []).length=n0 a
 val:∀c,c<a.length->∀k,k<n0 a -> -100000<=(a.getD c []).getD k 0/\(a.getD c []).getD k 0<=100000
theorem qAq{a:List (List Int)}(h:qlf a 4=0):Chs a:=by
 obtain ⟨h1,h2,h3⟩:=quL h;have h4:=λc (hc:c<a.length)=>h3 _ (qa1 (d:=[]) hc);have h0:=h4 0 h1;obtain ⟨r1,r2,_⟩:=qeF h0.1;refine ⟨h1,by omega,by omega,by omega,λc hc=>(h4 c hc).2,λc hc k hk=>?_⟩;obtain ⟨_,_,r3⟩:=qeF (h4 c hc).1;exact r3 _ (qa1 (by rw [(h4 c hc).2];exact hk))
def sg(x:Xp)(c:Nat)(v:Int):Int:=if rv x c=true then -v else v
def qBs(a:List (List Int))(x:Xp)(c:Nat):List Int:=(a.getD c []).map (sg x c)
def DU(a:List (List Int))(x:Xp):Nat->List (List Int)
 |0=>List.replicate a.length (List.replicate (n0 a) 0)
 |c+1=>if sc x c = -1 then DU a x c else (DU a x c).set (sc x c).toNat (qBs a x c)
theorem qqp(a:List (List Int))(x:Xp):∀c,(DU a x c).length=a.length
 |0=>by simp [DU]
 |c+1=>by
  unfold DU;split
  ·exact qqp a x c
  ·rw [List.length_set];exact qqp a x c
theorem qvZ{a:List (List Int)}(h:Chs a)(x:Xp):∀c,c<=a.length->∀r∈DU a x c,r.length=n0 a
 |0,_,r,hr=>by
  unfold DU at hr;rw [List.eq_of_mem_replicate hr];simp
 |c+1,hc,r,hr=>by
  unfold DU at hr;split at hr
  ·exact qvZ h x c (by omega) r hr
  ·rcases List.mem_or_eq_of_mem_set hr with h1|rfl
   ·exact qvZ h x c (by omega) r h1
   ·unfold qBs;rw [List.length_map];exact h.len c (by omega)
structure Xok (a:List (List Int)) (x:Xp):Prop where
 l1:x.1.length=a.length
 l2:x.2.1.length=a.length
 rng:∀c,c<a.length -> -1<=sc x c/\sc x c<=(a.length:Int)-1
theorem qCM{a:List (List Int)}{x:Xp}(h1:x.1.length=a.length)(h2:x.2.1.length=a.length)(h:∀j,j<a.length->qbx x a.length j=0):Xok a x:=by
 refine ⟨h1,h2,λc hc=>?_⟩;have:=h c hc;unfold qbx at this;split at this
 ·assumption
 ·cases this
theorem qv6{a:List (List Int)}{x:Xp}(ha:a.length<=big)(hc:∀c∈a,c.length<=big) :
  ∃o e,qc4 a x=some (o,e)/\(qlf a 4≠0->e=qlf a 4/\o=[]) /\
   (qlf a 4=0->(¬ (x.1.length=a.length/\x.2.1.length=a.length)->e=10/\o=[]) /\
    ((x.1.length=a.length/\x.2.1.length=a.length)->qi1 (qbx x a.length) a.length e/\(e≠0->o=[])/\(e=0->o=DU a x a.length))):=by
 unfold qc4;rw [qk6];simp only [qa];rw [qh8 a _ _ ha hc];simp only [qa];have hE:qba [if 0<a.length then 0 else 10,if (a.length:Int)<=4 then 0 else 8,qba (a.map (eC (n0 a)))]=qlf a 4:=rfl;rw [hE];by_cases h0:qlf a 4=0
 case neg =>
  have d0:decide (qlf a 4=0)=false:=by simp [h0]
  simp only [d0,Bool.not_false,cond_true];exact ⟨_,_,rfl,λ_=>⟨rfl,rfl⟩,λh=>absurd h h0⟩
 have ch:=qAq h0;obtain ⟨n1,n2,w1,w2,hlen,hval⟩:=ch;have ch:=qAq h0;have d0:decide (qlf a 4=0)=true:=by simp [h0]
 simp only [d0,Bool.not_true,cond_false];by_cases hl:x.1.length=a.length/\x.2.1.length=a.length
 case neg =>
  rw [qk8 hl];simp only [qa];exact ⟨_,_,rfl,λh=>absurd h0 h,λ_=>⟨λ_=>⟨rfl,rfl⟩,λh=>absurd h hl⟩⟩
 obtain ⟨o,e,hs,hF,ho⟩:=qk9 hl.1 hl.2 (by omega);rw [hs];simp only [qa];by_cases he:e=0
 case neg =>
  have d1:decide (e=0)=false:=by simp [he]
  simp only [d1,Bool.not_false,cond_true];exact ⟨_,_,rfl,λh=>absurd h0 h,λ_=>⟨λh=>absurd hl h,λ_=>⟨hF,λ_=>rfl,λh=>absurd h he⟩⟩⟩
 have xok:Xok a x:=by
  rcases hF with ⟨_,h⟩|⟨i,h1,h2,h3,_⟩
  ·exact qCM hl.1 hl.2 h
  ·exact absurd (by rw [<- h2];exact he) h3
 have d1:decide (e=0)=true:=by simp [he]
 have ho':=ho he;subst ho';simp only [d1,Bool.not_true,cond_false,decide_true,cond_true];rw [qxs (by omega)];simp only [qa,Int.toNat_natCast];refine qC3 (a:=DU a x a.length) (b:=(0:Int)) ?_ ⟨λh=>absurd h0 h,λ_=>⟨λh=>absurd hl h,λ_=>⟨by rw [<- he];exact hF,λh=>absurd rfl h,λ_=>rfl⟩⟩⟩
 ·rw [qfj];refine (qbW a.length (λi (s:List (List Int)×Int)=>s=(((List.replicate a.length ([]:List Int)).take i).map (λ_=>List.replicate (n0 a) 0)++(List.replicate a.length ([]:List Int)).drop i,(i:Int))) (λr=>r=DU a x 0) (by simp) ?_).mono ?_
  ·rintro i s hi rfl;by_cases hlt:i<a.length
   ·have e0:decide ((i:Int)<((List.replicate a.length ([]:List Int)).length:Int))=true:=by simp<;>omega
    have hr:(List.replicate a.length ([]:List Int))[i]?=some []:=by simp [hlt]
    simp only [e0,cond_true];rw [qit (l:=a) (by omega) (by omega)];simp only [qa,Int.toNat_zero];rw [hlen 0 (by omega),qxs (by omega)];simp only [qa,Int.toNat_natCast,decide_true,cond_true];rw [qcW (qtO (λ_=>List.replicate (n0 a) 0) _ i _ hr)];simp only [qa,Int.toNat_natCast];rw [wid (by omega) (by omega),qaP];refine ⟨hlt,?_⟩;have:=qul (λ_=>List.replicate (n0 a) (0:Int)) _ i _ hr;rw [this];rfl
   ·have:i=a.length:=by omega
    subst this;have e0:decide ((a.length:Int)<((List.replicate a.length ([]:List Int)).length:Int))=false:=by simp
    simp only [e0,cond_false];rw [qaV];have hl':a.length=(List.replicate a.length ([]:List Int)).length:=by simp
    rw [List.take_of_length_le (by simp),List.drop_of_length_le (by simp),List.append_nil];unfold DU;simp
  rintro _ rfl;rw [qfj];refine (qbW a.length (λi (s:List (List Int)×Int)=>s=(DU a x i,(i:Int))) (λr=>r=DU a x a.length) rfl ?_).mono ?_
  ·rintro c s hci rfl;have hsl:(qhj x a.length).length=a.length:=qa2 _ _;by_cases hlt:c<a.length
   ·have e0:decide ((c:Int)<((qhj x a.length).length:Int))=true:=by simp<;>omega
    simp only [e0,cond_true];have hidx:idx (qhj x a.length) (c:Int)=some (sc x c,rv x c,()):=qcW (qiC _ hlt);rw [hidx];simp only [qa];obtain ⟨g1,g2⟩:=xok.rng c hlt;by_cases a2:sc x c = -1
    ·have d2:decide (sc x c = -1)=true:=by simp [a2]
     simp only [d2,cond_true,qa];rw [wid (by omega) (by omega),qaP];refine ⟨hlt,?_⟩;rw [show DU a x (c+1)=DU a x c by rw [DU,if_pos a2]];rfl
    ·have d2:decide (sc x c = -1)=false:=by simp [a2]
     have s0:0<=sc x c:=by omega
     have hD:=qqp a x c;have s1:sc x c<(DU a x c).length:=by omega
     have hold:((DU a x c).getD (sc x c).toNat []).length=(a.getD c []).length:=by
      rw [hlen c hlt];exact qvZ ch x c (by omega) _ (qa1 (by omega))
     have hw:=hlen c hlt;have hv:=hval c hlt;simp only [d2,cond_false];rw [qit (l:=a) (by omega) (by omega)];simp only [qa,Int.toNat_natCast];generalize hlr:a.getD c []=l at *;generalize hold':(DU a x c).getD (sc x c).toNat []=old at *;have hnext:DU a x (c+1)=(DU a x c).set (sc x c).toNat (l.map (sg x c)):=by
      rw [DU,if_neg a2];unfold qBs;rw [hlr]
     rw [qzJ,qfj]
     ·refine (qbW l.length (λk (s:List (List Int)×Int)=>s=((DU a x c).set (sc x c).toNat (pr (sg x c) l old k),(k:Int))) (λr=>r=(DU a x c).set (sc x c).toNat (l.map (sg x c))) ?_ ?_).mono ?_
      ·have:pr (sg x c) l old 0=old:=by simp [pr]
       rw [this,<- hold',qlP (by omega)];rfl
      ·rintro k s hk rfl;by_cases hlk:k<l.length
       ·have e2:decide ((k:Int)<(l.length:Int))=true:=by simp<;>omega
        have hpl:=qCx (g:=sg x c) (k:=k) hold (by omega);simp only [e2,cond_true];rw [qev (l:=l) (by omega) (by omega),qBc _ s0 s1];simp only [qa,Int.toNat_natCast];rw [qev (l:=pr (sg x c) l old k) (by omega) (by omega)];have hsgn:qas (sc x c,rv x c,())=some (if rv x c=true then -1 else 1):=by
         unfold qas;cases rv x c<;>rfl
        rw [hsgn];simp only [qa];have hvk:=hv k (by omega);have hw64:w64 ((if rv x c=true then (-1:Int)else 1)*l.getD k 0)=sg x c (l.getD k 0):=by
         unfold sg;split
         ·rw [wid (by omega) (by omega)];omega
         ·rw [wid (by omega) (by omega)];omega
        rw [hw64,qxG _ _ _ _ hold hlk,List.set_set,wid (by omega) (by omega),qaP];exact ⟨hlk,rfl⟩
       ·have:k=l.length:=by omega
        subst this;have e2:decide ((l.length:Int)<(l.length:Int))=false:=by simp
        simp only [e2,cond_false];rw [qaV,qCw hold]
      ·rintro _ rfl;rw [qbw];rw [wid (by omega) (by omega),qaP,hnext];exact ⟨hlt,rfl⟩
   ·have:c=a.length:=by omega
    subst this;have e0:decide ((a.length:Int)<((qhj x a.length).length:Int))=false:=by simp<;>omega
    simp only [e0,cond_false];rw [qaV]
  rintro _ rfl;rw [qbw]
section
def qAz(x m:Int):Int:=if x.tmod m<0 then x.tmod m+m else x.tmod m
theorem qxu(x:Int){m:Int}(hm:0<m):0<=qAz x m/\qAz x m<m:=by
 have h1:=Int.tmod_lt_of_pos x hm;have h2:=Int.lt_tmod_of_pos x hm;unfold qAz;split<;>omega
theorem qBU(x:Int){m:Int}(hm:0<m)(hb:m<=1000000):qfP x m=some (qAz x m):=by
 have h1:=Int.tmod_lt_of_pos x hm;have h2:=Int.lt_tmod_of_pos x hm;unfold qfP qAz;rw [qep,if_neg (by omega),qep];split
 ·rw [wid (by omega) (by omega)];rfl
 ·rfl
structure Flt (sig:List (List Int)) (off:Int) (y:Xp) (noise:List Int):Prop where
 chk:(qvS sig off).2=0
 n3:sig.length<=3
 w6:n0 sig<=6
 err:qnF y sig.length 0
 z0:0<noise.length
 z1:noise.length<=40
section
variable {sig:List (List Int)} {off:Int} {y:Xp} {noise:List Int}
theorem Flt.row(h:Flt sig off y noise){c:Nat}(hc:c<sig.length):(sig.getD c []).length=n0 sig/\∀k,k<n0 sig -> -100000<=(sig.getD c []).getD k 0/\(sig.getD c []).getD k 0<=100000:=by
 obtain ⟨_,_,_,h4⟩:=qdE h.chk;have h5:=h4 _ (qa1 (d:=[]) hc);exact ⟨h5.2,λk hk=>(qeF h5.1).2.2 _ (qa1 (by rw [h5.2];exact hk))⟩
theorem Flt.n1(h:Flt sig off y noise):0<sig.length:=(qdE h.chk).1
theorem Flt.w1(h:Flt sig off y noise):0<n0 sig:=by
 obtain ⟨h1,_,_,h4⟩:=qdE h.chk;have h5:=h4 _ (qa1 (d:=[]) h1);have:=(qeF h5.1).1;rw [h5.2]at this;exact this
theorem Flt.qCT(h:Flt sig off y noise):0<=off/\off<=100000:=(qdE h.chk).2.2.1
theorem Flt.len(h:Flt sig off y noise):y.1.length=sig.length/\y.2.1.length=sig.length:=h.err.zero.1
theorem Flt.rng(h:Flt sig off y noise){j:Nat}(hj:j<sig.length) : -1<=sc y j/\sc y j<sig.length:=ql5 (h.err.zero.2 j hj)
def exV(sig:List (List Int))(y:Xp)(i k:Nat):Int:=qdV sig (sc y i) (rv y i) k
def byV(off:Int)(noise:List Int)(i k:Nat):Int:=qAz (noise.getD ((7*i+k) % noise.length) 0) (2*off+1)-off
def qBn(sig:List (List Int))(off:Int)(y:Xp)(noise:List Int)(i k:Nat):Int:=min (max (exV sig y i k+byV off noise i k) (-100000)) 100000
theorem Flt.qA5(h:Flt sig off y noise){i k:Nat}(hi:i<sig.length)(hk:k<n0 sig) : -100000<=exV sig y i k/\exV sig y i k<=100000:=by
 have hr:=h.rng hi;unfold exV qdV;split
 ·omega
 ·have:=(h.row (c:=(sc y i).toNat) (by omega)).2 k hk;split<;>omega
theorem Flt.qB8(h:Flt sig off y noise)(i k:Nat) : -off<=byV off noise i k/\byV off noise i k<=off:=by
 have:=h.qCT;have:=qxu (noise.getD ((7*i+k) % noise.length) 0) (m:=2*off+1) (by omega);unfold byV;omega
def exL(sig:List (List Int))(y:Xp):List (List Int):=mkL sig.length λi=>mkL (n0 sig) λk=>exV sig y i k
def qvg(sig:List (List Int))(off:Int)(y:Xp)(noise:List Int):List (List Int):=mkL sig.length λi=>mkL (n0 sig) λk=>qBn sig off y noise i k
theorem qzM(h:Flt sig off y noise){i:Nat}(hi:i<sig.length) :
  (qaw (λ(s11:((List Int)×(List Int)×Int)) =>
        (idx sig 0).bind λx12 =>
        bif decide (s11.2.2<(x12.length:Int))then
         (idx y.1 (i:Int)).bind λx13 =>
         (bif decide (x13>=0)then
           (idx y.1 (i:Int)).bind λx14 =>
           (idx sig x14).bind λx15 =>
           (idx x15 s11.2.2).bind λx16 =>
           some x16
          else
           some 0).bind λ(p17:Int) =>
         (idx y.2.1 (i:Int)).bind λx18 =>
         (bif x18 then
           some (w64 (0-p17))
          else
           some p17).bind λ(p19:Int) =>
         bif decide ((noise.length:Int)=0)then
          none
         else
          (idx noise ((w64 ((w64 (7*(i:Int)))+s11.2.2)).tmod (noise.length:Int))).bind λx20 =>
          (qfP x20 (w64 ((w64 (2*off))+1))).bind λx21 =>
          (app s11.1 ([p19])).bind λx22 =>
          let v23:Int:=min (max (w64 (p19+(w64 (x21-off)))) (-100000:Int)) (100000:Int)
          (app s11.2.1 ([v23])).bind λx24 =>
          some (.inl (x22,x24,w64 (s11.2.2+1)))
        else
         some (.inr (s11.1,s11.2.1))) ([],[],0):Option (List Int×List Int))=some (mkL (n0 sig) λk=>exV sig y i k,mkL (n0 sig) λk=>qBn sig off y noise i k):=by
 have hw:=h.w6;have ho:=h.qCT;have hn3:=h.n3;have hz0:=h.z0;have hz1:=h.z1;obtain ⟨e0,e1⟩:=qvc h.n1;have hl:=h.len;have hr:=h.rng hi;have i1:idx y.1 (i:Int)=some (sc y i):=by rw [qog 0 (by omega) (by omega)];rfl
 have i2:idx y.2.1 (i:Int)=some (rv y i):=by rw [qog false (by omega) (by omega)];rfl
 refine Ok.eq (qbW (n0 sig) (λk (s:List Int×List Int×Int)=>s=(mkL k λk=>exV sig y i k,mkL k λk=>qBn sig off y noise i k,(k:Int))) (λr=>r=(mkL (n0 sig) λk=>exV sig y i k,mkL (n0 sig) λk=>qBn sig off y noise i k)) rfl ?_);rintro k s hk rfl;dsimp only;rw [e0,qa];by_cases hlt:k<n0 sig
 ·refine qb9.2 ⟨λ_=>?_,λh=>absurd (show (k:Int)<((sig.getD 0 []).length:Int) by omega) (of_decide_eq_false h)⟩;have hx:=h.qA5 hi hlt;have hb:=h.qB8 i k;have ha:((bif decide (sc y i>=0)then (some (sc y i)).bind λx14=>(idx sig x14).bind λx15=>(idx x15 (k:Int)).bind λx16=>some x16 else some 0):Option Int)=some (qdV sig (sc y i) false k):=by
   rw [qep];unfold qdV;split
   ·rw [if_neg (by omega),qa,qit (by omega) hr.2,qa,qev (by omega) (by rw [(h.row (c:=(sc y i).toNat) (by omega)).1];omega)];simp
   ·rw [if_pos (by omega)]
  have hbd : -100000<=qdV sig (sc y i) false k/\qdV sig (sc y i) false k<=100000:=by
   unfold qdV;split
   ·omega
   ·simpa using (h.row (c:=(sc y i).toNat) (by omega)).2 k hlt
  have hc:((bif rv y i then some (w64 (0-qdV sig (sc y i) false k))else some (qdV sig (sc y i) false k)):Option Int)=some (exV sig y i k):=by
   unfold exV;cases rv y i
   ·rfl
   ·simp only [cond_true];rw [wid (by omega) (by omega)];unfold qdV;split
    ·rfl
    ·simp
  have hm:idx noise ((w64 ((w64 (7*(i:Int)))+(k:Int))).tmod (noise.length:Int))=some (noise.getD ((7*i+k) % noise.length) 0):=by
   rw [wid (n:=7*(i:Int)) (by omega) (by omega),wid (by omega) (by omega),Int.tmod_eq_emod_of_nonneg (by omega)];have e:(7*(i:Int)+(k:Int)) % (noise.length:Int)=(((7*i+k) % noise.length:Nat):Int):=by
    rw [show 7*(i:Int)+(k:Int)=((7*i+k:Nat):Int) by omega];rfl
   have hlt':=Nat.mod_lt (7*i+k) hz0;rw [e,qev (by omega) (by omega),Int.toNat_natCast]
  rw [i1,qa,ha,qa,i2,qa,hc,qa];refine qb9.2 ⟨λh=>absurd (of_decide_eq_true h) (show ¬ ((noise.length:Int)=0) by omega),λ_=>?_⟩;rw [hm,qa,wid (n:=2*off) (by omega) (by omega),wid (n:=2*off+1) (by omega) (by omega),qBU _ (by omega) (by omega),qa];have hmb:=qxu (noise.getD ((7*i+k) % noise.length) 0) (m:=2*off+1) (by omega);have hby:qAz (noise.getD ((7*i+k) % noise.length) 0) (2*off+1)-off=byV off noise i k:=rfl;rw [qdR (by rw [qa2];omega),qa,wid (n:=qAz (noise.getD ((7*i+k) % noise.length) 0) (2*off+1)-off) (by omega) (by omega),hby,wid (n:=exV sig y i k+byV off noise i k) (by omega) (by omega),qdR (by rw [qa2];omega),qa,qaP,wid (by omega) (by omega),qjC,qjC];exact ⟨hlt,rfl⟩
 ·have:k=n0 sig:=by omega
  subst this;refine qb9.2 ⟨λh=>absurd (of_decide_eq_true h) (show ¬ ((n0 sig:Int)<((sig.getD 0 []).length:Int)) by omega),λ_=>?_⟩;rw [qaV]
end
end
section
section
variable {sig:List (List Int)} {off:Int} {y:Xp} {noise:List Int}
theorem qBt(h:Flt sig off y noise) :
  (qaw (λ(s8:((List (List Int))×(List (List Int))×Int)) =>
     bif decide (s8.2.2<(sig.length:Int))then
      (qaw (λ(s11:((List Int)×(List Int)×Int)) =>
        (idx sig 0).bind λx12 =>
        bif decide (s11.2.2<(x12.length:Int))then
         (idx y.1 s8.2.2).bind λx13 =>
         (bif decide (x13>=0)then
           (idx y.1 s8.2.2).bind λx14 =>
           (idx sig x14).bind λx15 =>
           (idx x15 s11.2.2).bind λx16 =>
           some x16
          else
           some 0).bind λ(p17:Int) =>
         (idx y.2.1 s8.2.2).bind λx18 =>
         (bif x18 then
           some (w64 (0-p17))
          else
           some p17).bind λ(p19:Int) =>
         bif decide ((noise.length:Int)=0)then
          none
         else
          (idx noise ((w64 ((w64 (7*s8.2.2))+s11.2.2)).tmod (noise.length:Int))).bind λx20 =>
          (qfP x20 (w64 ((w64 (2*off))+1))).bind λx21 =>
          (app s11.1 ([p19])).bind λx22 =>
          let v23:Int:=min (max (w64 (p19+(w64 (x21-off)))) (-100000:Int)) (100000:Int)
          (app s11.2.1 ([v23])).bind λx24 =>
          some (.inl (x22,x24,w64 (s11.2.2+1)))
        else
         some (.inr (s11.1,s11.2.1))) ([],[],0)).bind λ(p25:((List Int)×(List Int))) =>
      (app s8.1 ([p25.1])).bind λx26 =>
      (app s8.2.1 ([p25.2])).bind λx27 =>
      some (.inl (x26,x27,w64 (s8.2.2+1)))
     else
      some (.inr (s8.1,s8.2.1))) ([],[],0):Option (List (List Int)×List (List Int)))=some (exL sig y,qvg sig off y noise):=by
 have hn3:=h.n3;refine Ok.eq (qbW sig.length (λi (s:List (List Int)×List (List Int)×Int)=>s=(mkL i λi=>mkL (n0 sig) λk=>exV sig y i k,mkL i λi=>mkL (n0 sig) λk=>qBn sig off y noise i k,(i:Int))) (λr=>r=(exL sig y,qvg sig off y noise)) rfl ?_);rintro i s hi rfl;by_cases hlt:i<sig.length
 ·refine qb9.2 ⟨λ_=>?_,λh=>absurd (show (i:Int)<(sig.length:Int) by omega) (of_decide_eq_false h)⟩;have hrow:=qzM h hlt;dsimp only;dsimp only at hrow;rw [hrow,qa,qdR (by rw [qa2];omega),qa,qdR (by rw [qa2];omega),qa,qaP,wid (by omega) (by omega),qjC,qjC];exact ⟨hlt,rfl⟩
 ·have:i=sig.length:=by omega
  subst this;refine qb9.2 ⟨λh=>absurd (of_decide_eq_true h) (show ¬ ((sig.length:Int)<(sig.length:Int)) by omega),λ_=>?_⟩;rw [qaV];rfl
theorem qhs:∀{l:List Int},(∀a∈l,a=0)->qba l=0
 |[],_=>rfl
 |a::l,h=>by
  simp only [qba];rw [if_pos (h a (by simp))];exact qhs λb hb=>h b (by simp [hb])
theorem qwC{n:Int}{c:List Int}(h1:qm7 c=0)(h2:(c.length:Int)=n):eC n c=0:=by
 unfold eC;rw [if_pos h1,if_pos h2]
theorem qwy(h:Flt sig off y noise){meas:List (List Int)}(hl:meas.length=sig.length)(hr:∀c∈meas,qm7 c=0/\c.length=n0 sig):dE sig off meas=0:=by
 unfold dE qzn;rw [if_pos h.chk,if_pos hl];refine qhs λa ha=>?_;obtain ⟨c,hc,rfl⟩:=List.mem_map.1 ha;exact qwC (hr c hc).1 (by rw [(hr c hc).2])
theorem qxM{w:Nat}{f:Nat->Int}(h1:0<w)(h2:w<=60)(h:∀k,k<w -> -100000<=f k/\f k<=100000):qm7 (mkL w f)=0:=by
 unfold qm7;rw [qa2,if_neg (by omega),if_neg (by omega),if_pos];intro v hv;obtain ⟨k,hk,rfl⟩:=qmF hv;exact h k hk
theorem Flt.qwF(h:Flt sig off y noise):∀c∈exL sig y,qm7 c=0/\c.length=n0 sig:=λc hc=>by
 obtain ⟨i,hi,rfl⟩:=qmF hc;exact ⟨qxM h.w1 (by have:=h.w6;omega) λk hk=>h.qA5 hi hk,qa2 _ _⟩
theorem Flt.qxz(h:Flt sig off y noise):∀c∈qvg sig off y noise,qm7 c=0/\c.length=n0 sig:=λc hc=>by
 obtain ⟨i,hi,rfl⟩:=qmF hc;exact ⟨qxM h.w1 (by have:=h.w6;omega) λk hk=>by unfold qBn;omega,qa2 _ _⟩
theorem qp4{l:List (List Int)}{w n:Nat}(hl:l.length=n)(hn:n<=9)(hw:w<=62)(h:∀c∈l,qm7 c=0/\c.length=w):Small l:=⟨by omega,λr hr=>by rw [(h r hr).2];exact hw⟩
theorem Flt.qum(h:Flt sig off y noise):∀c∈sig,qm7 c=0/\c.length=n0 sig:=(qdE h.chk).2.2.2
theorem Flt.S(h:Flt sig off y noise):Small sig:=qp4 rfl (by have:=h.n3;omega) (by have:=h.w6;omega) h.qum
theorem Flt.Sx(h:Flt sig off y noise):Small (exL sig y):=qp4 (qa2 _ _) (by have:=h.n3;omega) (by have:=h.w6;omega) h.qwF
theorem Flt.So(h:Flt sig off y noise):Small (qvg sig off y noise):=qp4 (qa2 _ _) (by have:=h.n3;omega) (by have:=h.w6;omega) h.qxz
theorem Flt.holds(h:Flt sig off y noise):qfe (Ff sig off (qvg sig off y noise)) 0 (qhj y sig.length)=true:=by
 rw [qgX,qgr];refine List.all_eq_true.2 λi hi=>?_;have hi:=List.mem_range.1 hi;rw [Nat.zero_add,qmi hi];simp only [Ff];unfold qvg;rw [qgc _ _ hi];unfold qgN;rw [qa2];refine List.all_eq_true.2 λk hk=>?_;have hk:=List.mem_range.1 hk;rw [qgc _ _ hk];have h1:=h.qA5 hi hk;have h2:=h.qB8 i k;have h3:=h.qCT;unfold exV at h1;unfold qpp qBn exV;rw [qe,decide_eq_true_eq,decide_eq_true_eq];omega
def idS(n:Nat):List Src:=mkL n λi=>((i:Int),false,())
theorem qwW(n:Nat):qld n (idS n):=λj hj=>by
 have hj':j<n:=by simpa [idS,qa2]using hj
 have e:(idS n).getD j qgO=((j:Int),false,()):=qgc _ _ hj';rw [e];refine ⟨qxw.2 (.inr ⟨by simp only;omega,by simp only;omega⟩),?_⟩;unfold qdG;have:((idS n).take j).any (λo=>decide (o.1=(j:Int)))=false:=by
  rw [List.any_eq_false];intro o ho;obtain ⟨i,hi⟩:=List.mem_iff_getElem?.1 ho;rw [List.getElem?_take]at hi;split at hi
  ·rename_i hlt;unfold idS at hi;rw [qiC _ (by omega)]at hi;cases hi;simp only [decide_eq_true_eq]<;>omega
  ·cases hi
 simp only [this,Bool.and_false,Bool.not_false]
theorem qBb(n:Nat):idS n∈exts n n []:=by
 have:=qkN (idS n) [] (by rw [List.nil_append];exact qwW n);rw [List.nil_append]at this;have hl:(idS n).length=n:=qa2 _ _;rw [hl]at this;exact this
theorem qwV(h:Flt sig off y noise):qfe (Ff sig off sig) 0 (idS sig.length)=true:=by
 have hl:(idS sig.length).length=sig.length:=qa2 _ _;rw [qgX,hl];refine List.all_eq_true.2 λi hi=>?_;have hi:=List.mem_range.1 hi;have e:(idS sig.length).getD i qgO=((i:Int),false,()):=qgc _ _ hi;rw [Nat.zero_add,e];simp only [Ff];unfold qgN;refine List.all_eq_true.2 λk hk=>?_;have h3:=h.qCT;unfold qpp qdV;rw [if_neg (by omega)];simp only [qf,if_false,Int.toNat_natCast,Int.sub_self];rw [qe,decide_eq_true_eq,decide_eq_true_eq];omega
theorem qtR:∀(n c:Nat),qaZ c (mkL n λi=>(((c+i:Nat):Int),false,()))=0
 |0,c=>rfl
 |n+1,c=>by
  have:(mkL (n+1) λi=>(((c+i:Nat):Int),false,()):List Src)=((c:Int),false,())::mkL n λi=>(((c+1+i:Nat):Int),false,()):=by
   unfold mkL;rw [List.range_succ_eq_map,qh,List.map_map];congr 1
   refine List.map_congr_left λi _=>?_;simp only [Function.comp_apply];rw [show c+1+i=c+(i+1) by omega]
  rw [this];simp only [qaZ];rw [qtR n (c+1)];unfold qnH;rw [if_neg (by omega)];simp
theorem qwU(n:Nat):qaZ 0 (idS n)=0:=by
 have:=qtR n 0;simp only [Nat.zero_add]at this;exact this
theorem Flt.qDv(h:Flt sig off y noise):n0 (exL sig y)=n0 sig:=by
 obtain ⟨_,e⟩:=qvc (l:=exL sig y) (by unfold exL;rw [qa2];exact h.n1);have:((exL sig y).getD 0 []).length=n0 sig:=by
  unfold exL;rw [qgc _ _ h.n1,qa2]
 omega
theorem Flt.chan(h:Flt sig off y noise):qlf (exL sig y) 4=0:=by
 have hl:(exL sig y).length=sig.length:=qa2 _ _;have hn1:=h.n1;have hn3:=h.n3;unfold qlf;refine qhs λa ha=>?_;simp only [qk,List.not_mem_nil,or_false]at ha;rcases ha with rfl|rfl|rfl
 ·rw [if_pos (by omega)]
 ·rw [if_pos (by omega)]
 ·refine qhs λa ha=>?_;obtain ⟨c,hc,rfl⟩:=List.mem_map.1 ha;have:=h.qwF c hc;exact qwC this.1 (by rw [this.2,h.qDv])
theorem Flt.qBs(h:Flt sig off y noise){c:Nat}(hc:c<sig.length)(hs:sc y c ≠ -1):qBs (exL sig y) y c=sig.getD (sc y c).toNat []:=by
 have hr:=h.rng hc;have hrow:=h.row (c:=(sc y c).toNat) (by omega);unfold Go.Proofs.Ytofjnhppalciiaa.qBs exL;rw [qgc _ _ hc,qsM];have e:=qhy (sig.getD (sc y c).toNat []) 0;rw [hrow.1]at e;rw [e];refine qrk λk hk=>?_;unfold exV qdV sg;rw [if_neg hs];cases rv y c<;>simp
theorem Flt.DU(h:Flt sig off y noise):∀c,c<=sig.length->∀i,i<sig.length->(DU (exL sig y) y c).getD i []=if (List.range c).any (λj=>decide (sc y j=(i:Int)))=true then sig.getD i []else List.replicate (n0 sig) 0
 |0,_,i,hi=>by
  have hl:(exL sig y).length=sig.length:=qa2 _ _;simp only [Go.Proofs.Ytofjnhppalciiaa.DU,List.range_zero,List.any_nil,qf,if_false];rw [hl,h.qDv];simp [hi]
 |c+1,hc,i,hi=>by
  have ih:=Flt.DU h c (by omega) i hi;have hl:(Go.Proofs.Ytofjnhppalciiaa.DU (exL sig y) y c).length=sig.length:=by rw [qqp];exact qa2 _ _
  have hr:=h.rng (j:=c) (by omega);simp only [Go.Proofs.Ytofjnhppalciiaa.DU];rw [List.range_succ,List.any_append];simp only [List.any_cons,List.any_nil,Bool.or_false];by_cases hs:sc y c = -1
  ·rw [if_pos hs,ih,decide_eq_false (show ¬ sc y c=(i:Int) by omega),Bool.or_false]
  ·rw [if_neg hs];by_cases hi2:sc y c=(i:Int)
   ·rw [decide_eq_true hi2,Bool.or_true,if_pos rfl,h.qBs (by omega) hs];have:(sc y c).toNat=i:=by omega
    rw [this,List.getD_eq_getElem?_getD,List.getElem?_set_self (by omega)];rfl
   ·rw [decide_eq_false hi2,Bool.or_false,<- ih];rw [List.getD_eq_getElem?_getD,List.getElem?_set_ne (by omega),<- List.getD_eq_getElem?_getD]
theorem qB2{l:List Int}{n:Nat}(hl:l.length=n)(a:Int):l.any (λx=>decide (x=a))=(List.range n).any λj=>decide (l.getD j 0=a):=by
 subst hl;have:l=mkL l.length λk=>l.getD k 0:=qhy l 0;conv=>lhs;rw [this]
 unfold mkL;rw [List.any_map];rfl
end
end
section
section
variable {sig:List (List Int)} {off:Int} {y:Xp} {noise:List Int}
theorem qwH(h:Flt sig off y noise) :
  ((qaw (λ(s8:((List (List Int))×(List (List Int))×Int)) =>
     bif decide (s8.2.2<(sig.length:Int))then
      (qaw (λ(s11:((List Int)×(List Int)×Int)) =>
        (idx sig 0).bind λx12 =>
        bif decide (s11.2.2<(x12.length:Int))then
         (idx y.1 s8.2.2).bind λx13 =>
         (bif decide (x13>=0)then
           (idx y.1 s8.2.2).bind λx14 =>
           (idx sig x14).bind λx15 =>
           (idx x15 s11.2.2).bind λx16 =>
           some x16
          else
           some 0).bind λ(p17:Int) =>
         (idx y.2.1 s8.2.2).bind λx18 =>
         (bif x18 then
           some (w64 (0-p17))
          else
           some p17).bind λ(p19:Int) =>
         bif decide ((noise.length:Int)=0)then
          none
         else
          (idx noise ((w64 ((w64 (7*s8.2.2))+s11.2.2)).tmod (noise.length:Int))).bind λx20 =>
          (qfP x20 (w64 ((w64 (2*off))+1))).bind λx21 =>
          (app s11.1 ([p19])).bind λx22 =>
          let v23:Int:=min (max (w64 (p19+(w64 (x21-off)))) (-100000:Int)) (100000:Int)
          (app s11.2.1 ([v23])).bind λx24 =>
          some (.inl (x22,x24,w64 (s11.2.2+1)))
        else
         some (.inr (s11.1,s11.2.1))) ([],[],0)).bind λ(p25:((List Int)×(List Int))) =>
      (app s8.1 ([p25.1])).bind λx26 =>
      (app s8.2.1 ([p25.2])).bind λx27 =>
      some (.inl (x26,x27,w64 (s8.2.2+1)))
     else
      some (.inr (s8.1,s8.2.1))) ([],[],0)).bind λ(p28:((List (List Int))×(List (List Int)))) =>
   (qae (sig,off,())).bind λx29 =>
   (q1 p28.2).bind λx30 =>
   (qar x29 x30).bind λx31 =>
   (bif !(decide (x31.2.2=0))then
     some true
    else
     (qcQ y).bind λx32 =>
     bif decide (x31.2.1 > x32)then
      some true
     else
      (qQ x31.1 (p28.2.length:Int)).bind λx33 =>
      some (!(decide (x33=0)))).bind λ(p34:Bool) =>
   bif p34 then
    some false
   else
    (qae (sig,off,())).bind λx35 =>
    (q1 p28.2).bind λx36 =>
    (qI x31.1).bind λx37 =>
    (qS x35 x36 x37).bind λx38 =>
    (bif !(decide (x38.2=0))then
      some true
     else
      some (!(decide (x38.1=x31.2.1)))).bind λ(p39:Bool) =>
    bif p39 then
     some false
    else
     (qhc (p28.2.length:Int)).bind λx40 =>
     (qaw (λ(s42:Int) =>
       bif decide (s42<(x40.length:Int))then
        (qae (sig,off,())).bind λx43 =>
        (q1 p28.2).bind λx44 =>
        (idx x40 s42).bind λx45 =>
        (qI x45).bind λx46 =>
        (qS x43 x44 x46).bind λx47 =>
        (bif decide (x47.2=0)then
          (idx x40 s42).bind λx48 =>
          (qcQ x48).bind λx49 =>
          some (decide (x49<x31.2.1))
         else
          some false).bind λ(p50:Bool) =>
        bif p50 then
         some (.inr (.inr false))
        else
         some (.inl (w64 (s42+1)))
       else
        some (.inr (.inl ()))) 0).bind (Sum.elim (λ(p51:Unit) =>
     (qae (sig,off,())).bind λx52 =>
     (q1 sig).bind λx53 =>
     (qar x52 x53).bind λx54 =>
     (bif !(decide (x54.2.2=0))then
       some true
      else
       some (!(decide (x54.2.1=0)))).bind λ(p55:Bool) =>
     bif p55 then
      some false
     else
      (q1 p28.1).bind λx56 =>
      (qI y).bind λx57 =>
      (qc4 x56 x57).bind λx58 =>
      (bif !(decide (x58.2=0))then
        some true
       else
        some (!(decide ((x58.1.length:Int)=(sig.length:Int))))).bind λ(p59:Bool) =>
      bif p59 then
       some false
      else
       (qaw (λ(s61:Int) =>
         bif decide (s61<(x58.1.length:Int))then
          (idx sig 0).bind λx62 =>
          (mkS (0:Int) (x62.length:Int)).bind λx63 =>
          bif decide ((x62.length:Int)=(x62.length:Int))then
           (qd6 y.1 s61).bind λx64 =>
           (bif x64 then
             (idx sig s61).bind λx65 =>
             some x65
            else
             some x63).bind λ(p66:(List Int)) =>
           (idx x58.1 s61).bind λx67 =>
           (qfo x67 p66).bind λx68 =>
           bif !x68 then
            some (.inr (.inr false))
           else
            some (.inl (w64 (s61+1)))
          else
           none
         else
          some (.inr (.inl ()))) 0).bind (Sum.elim (λ(p69:Unit) =>
       some true) some)) some):Option Bool)=some true:=by
 have hn1:=h.n1;have hn3:=h.n3;have hw6:=h.w6;have hlen:=h.len;have S:=h.S;have So:=h.So;have Sx:=h.Sx;rw [qBt h,qa];dsimp only;have hoL:(qvg sig off y noise).length=sig.length:=qa2 _ _;have hd:=qwy h hoL h.qxz;have v:=qyD hd;have hE:=qgw (off:=off) S So;rw [if_neg (λhh=>hh hd)]at hE;obtain ⟨_,hb2,hb3⟩:=qmV (Ff sig off (qvg sig off y noise)) (exts sig.length sig.length []) none;have hmem:=qzY h.err;obtain ⟨b,hb,hle⟩:=hb2 _ hmem h.holds;have hbest:qBP sig off (qvg sig off y noise)=some b:=hb;rcases hb3 b hb with hb4|⟨hbm,hbh,hbc⟩
 ·cases hb4
 rw [hbest]at hE;simp only at hE;have hCy:qcQ y=some (qaZ 0 (qhj y sig.length)):=by
  have:=qvY (p:=qhj y sig.length) (by rw [qgr];omega)
  rwa [qAb hlen.1 hlen.2]at this
 obtain ⟨eb,hx1,hx2⟩:=qnW (y:=toX b.1) (n:=sig.length) (by omega);obtain ⟨hbl,heb⟩:=qyw hbm hx2;subst heb;have cl1:=qeP (a:=qvg sig off y noise) (by omega) (λr hr=>by have:=So.row r hr;omega);have tx:=qjV b.1;rw [qqo S,qa,cl1,qa,hE,qa];dsimp only;rw [hCy,hoL,hx1];simp only [decide_true,Bool.not_true,cond_false,qa];rw [decide_eq_false (show ¬ b.2 > qaZ 0 (qhj y sig.length) by omega)];simp only [cond_false,qa];have chk:∀q,q∈exts sig.length sig.length []->qS (sig,off,()) (qvg sig off y noise) (toX q)=some (if qfe (Ff sig off (qvg sig off y noise)) 0 q=true then (qaZ 0 q,0)else (0,19)):=λq hq=>by
  obtain ⟨r,hr,_,hr2⟩:=qil (off:=off) S So (toX q);obtain ⟨e,he1,_,he3⟩:=hr2 hd;obtain ⟨hql,rfl⟩:=qyw hq he1;have:=he3 rfl;have e1:qhj (toX q) sig.length=q:=by rw [<- hql];exact qur q
  rw [e1]at this;rw [hr,this]
 rw [qim (by omega) (by omega),qa,chk _ hbm,if_pos hbh,qa];simp only [decide_true,Bool.not_true,cond_false,qa];rw [decide_eq_true hbc.symm];simp only [Bool.not_true,cond_false];rw [qBT (by omega),qa];rw [qhv ((exts sig.length sig.length []).map toX) _ (λ_ _=>(none:Option Bool)) (λi x hi=>?_),qfq]
 ·have hfn:qbq (λ_ _=>(none:Option Bool)) 0 ((exts sig.length sig.length []).map toX)=none:=qdi.2 λ_ _ _=>rfl;rw [hfn];dsimp only
  have hds:=qwy h (meas:=sig) rfl h.qum;have hE2:=qgw (off:=off) S S;rw [if_neg (λhh=>hh hds)]at hE2;obtain ⟨_,hc2,hc3⟩:=qmV (Ff sig off sig) (exts sig.length sig.length []) none;obtain ⟨c,hc,hcl⟩:=hc2 _ (qBb sig.length) (qwV h);have hbest2:qBP sig off sig=some c:=hc;rw [hbest2]at hE2;simp only at hE2;have hc0:c.2=0:=by
   rw [qwU]at hcl;rcases hc3 c hc with hc4|⟨_,_,hcc⟩
   ·cases hc4
   ·have:=qfV c.1 0;omega
  rw [qeP (a:=sig) (by omega) (λr hr=>by have:=S.row r hr;omega),qa,hE2,qa,hc0];simp only [decide_true,Bool.not_true,cond_false,qa]
  have hxl:(exL sig y).length=sig.length:=qa2 _ _;obtain ⟨o,e,hU,_,hU2⟩:=qv6 (a:=exL sig y) (x:=y) (by unfold big;omega) (λc hc=>by have:=Sx.row c hc;unfold big;omega);obtain ⟨_,hU3⟩:=hU2 h.chan;obtain ⟨hU4,_,hU5⟩:=hU3 (by rw [hxl];exact hlen);rw [hxl]at hU4 hU5;have he0:e=0:=hU4.same (.inl ⟨rfl,h.err.zero.2⟩);subst he0;have hoD:=hU5 rfl;subst hoD;rw [qeP (a:=exL sig y) (by omega) (λr hr=>by have:=Sx.row r hr;omega),qa,qim (by omega) (by omega),qa,hU,qa];have hDl:(DU (exL sig y) y sig.length).length=sig.length:=by rw [qqp];exact hxl
  dsimp only;rw [hDl];simp only [decide_true,Bool.not_true,cond_false,qa,cond_true];obtain ⟨e0,e1⟩:=qvc h.n1;have hlast:=qhv (DU (exL sig y) y sig.length) (ρ:=Bool) (λ(s61:Int)=>(idx sig 0).bind λx62 =>
          (mkS (0:Int) (x62.length:Int)).bind λx63 =>
           (qd6 y.1 s61).bind λx64 =>
           (bif x64 then
             (idx sig s61).bind λx65 =>
             some x65
            else
             some x63).bind λ(p66:(List Int)) =>
           (idx (DU (exL sig y) y sig.length) s61).bind λx67 =>
           (qfo x67 p66).bind λx68 =>
           bif !x68 then
            some (.inr (.inr false))
           else
            some (.inl (w64 (s61+1)))) (λ_ _=>none) (λi r hi=>by
   have hlt:=qie hi;rw [hDl]at hlt;have hr:=h.DU sig.length (Nat.le_refl _) i hlt;rw [Go.Tx.qcI hi]at hr;rw [e0,qa,e1,qxs (by omega),qa,qAu _ _ (by omega),qa,qcW hi,qB2 hlen.1];have hsc:∀j,y.1.getD j 0=sc y j:=λ_=>rfl;simp only [hsc];cases ha:(List.range sig.length).any λj=>decide (sc y j=(i:Int))with
   |true =>
    rw [ha,if_pos rfl]at hr;simp only [cond_true];rw [qit (by omega) (by omega),qa,qa,qa,Int.toNat_natCast,hr,qv0 (by rw [(h.row hlt).1];omega),qa,decide_eq_true rfl];simp only [Bool.not_true,cond_false,stp];rw [wid (by omega) (by omega)]
   |false =>
    rw [ha]at hr;simp only [qf,if_false]at hr;simp only [cond_false,qa,Int.toNat_natCast];rw [hr,qv0 (by simp;omega),qa,decide_eq_true rfl];simp only [Bool.not_true,cond_false,stp];rw [wid (by omega) (by omega)])
  rw [hDl]at hlast;rw [hlast,qfq];have hfn2:qbq (λ_ _=>(none:Option Bool)) 0 (DU (exL sig y) y sig.length)=none:=qdi.2 λ_ _ _=>rfl;rw [hfn2]
 ·obtain ⟨q,hq,rfl⟩:=List.mem_map.1 (List.mem_of_getElem? hi);have hql:q.length=sig.length:=by obtain ⟨m,rfl,hm⟩:=qfY hq;simpa using hm
  have tq:=qjV q;have hi':=qie hi;have hsz:((exts sig.length sig.length []).map toX).length<=6561:=by rw [List.length_map,<- qxd];exact qrd (by omega) (by omega)
  rw [qcW hi,qa,qim (by omega) (by omega),qa,chk q hq,qa];by_cases hh:qfe (Ff sig off (qvg sig off y noise)) 0 q=true
  ·rw [if_pos hh];obtain ⟨b',hb',hle'⟩:=hb2 q hq hh;rw [hb]at hb';cases hb'
   simp only [decide_true,cond_true,qa];rw [qvY (by omega),qa,qa,decide_eq_false (show ¬ qaZ 0 q<b.2 by omega)];simp only [cond_false,stp];rw [wid (by omega) (by omega)]
  ·rw [if_neg hh];have h19:decide ((19:Int)=0)=false:=by decide
   simp only [h19,cond_false,qa,stp];rw [wid (by omega) (by omega)]
end
end
theorem qyL(sig:List (List Int))(off:Int)(y:Xp)(noise:List Int):∃b,((bif decide ((sig.length:Int) > 3)then
    some true
   else
    (qcv (sig,off,())).bind λx2 =>
    bif !(decide (x2=0))then
     some true
    else
     (idx sig 0).bind λx3 =>
     bif decide ((x3.length:Int) > 6)then
      some true
     else
      (qQ y (sig.length:Int)).bind λx4 =>
      bif !(decide (x4=0))then
       some true
      else
       bif decide ((noise.length:Int)=0)then
        some true
       else
        some (decide ((noise.length:Int) > 40))):Option Bool)=some b/\(b=false->Flt sig off y noise):=by
 by_cases c1:(sig.length:Int) > 3
 ·rw [decide_eq_true c1];exact ⟨true,rfl,λh=>by cases h⟩
 rw [decide_eq_false c1,cond_false];have ht:qcv (sig,off,())=some (qvS sig off).2:=by
  unfold qcv;rw [qkx (by omega)];rfl
 rw [ht,qa];by_cases c2:(qvS sig off).2=0
 ·rw [decide_eq_true c2,Bool.not_true,cond_false];obtain ⟨e0,e1⟩:=qvc (qdE c2).1;rw [e0,qa,e1];by_cases c3:(n0 sig:Int) > 6
  ·rw [decide_eq_true c3];exact ⟨true,rfl,λh=>by cases h⟩
  rw [decide_eq_false c3,cond_false];obtain ⟨e,he,hE⟩:=qnW (y:=y) (n:=sig.length) (by omega);rw [he,qa];by_cases c4:e=0
  ·subst c4;rw [decide_eq_true rfl,Bool.not_true,cond_false];by_cases c5:(noise.length:Int)=0
   ·rw [decide_eq_true c5];exact ⟨true,rfl,λh=>by cases h⟩
   rw [decide_eq_false c5,cond_false];refine ⟨_,rfl,λh=>?_⟩;have c6:=of_decide_eq_false h;exact ⟨c2,by omega,by omega,hE,by omega,by omega⟩
  ·rw [decide_eq_false c4];exact ⟨true,rfl,λh=>by cases h⟩
 ·rw [decide_eq_false c2];exact ⟨true,rfl,λh=>by cases h⟩
theorem qlR(sig:List (List Int))(off:Int)(y:Xp)(noise:List Int):qcY (sig,off,()) y noise=some true:=by
 unfold qcY;have haw:qiA=some true:=rfl;rw [haw,qa,Bool.not_true,cond_false];obtain ⟨b,hb,hF⟩:=qyL sig off y noise;dsimp only;rw [hb,qa];cases b with
 |true=>rfl
 |false=>exact qwH (hF rfl)
theorem qf7:∀x:denP ([Ty.pair (.sl (.sl I)) (.pair I .unit),.pair (.sl I) (.pair (.sl .bool) .unit),.sl I].map .ty),qBW maxLen [.pair (.sl (.sl I)) (.pair I .unit),.pair (.sl I) (.pair (.sl .bool) .unit),.sl I] x->qan.F x=some true:=by
 rintro ⟨⟨sig,off,u⟩,y,noise⟩ _;exact qlR sig off y noise
end Go.Proofs.Ytofjnhppalciiaa
end
section
namespace Go.Proofs.Ytofjnhppalciiaa.sensorFaults
open Go Go.Ab Go.Tx Go.ChangeShapes Go.WideShapes Go.ChangeAt Go.RowKit
theorem hlib:∀g h args r,Lb g=some h->h args=some r->qa4 Try.prog g args [] r []:=λg h args r hg hr=>by
 unfold Lb at hg;split at hg
 ·rename_i e;subst e;cases hg;cases args with
  |nil=>cases hr;exact qyM
  |cons a l=>cases hr
 ·cases hg
set_option maxRecDepth 100000 in
theorem contract(H:Type)(enc:TypeId×Value->H)(W:World)(base:Nat)(args:Array Value)(ds gs:List (DataW H))(before:List MemPlace)
  (hval:∀(j:Nat) t v,Try.f5.params[j]?=some t->args[j]?=some v->Value.okWide Try.prog W .any base t v)
  (hW:DataW.Whole enc Try.prog Try.f5.params.toList Rows.sensorFaultsSpec.vars false W args.toList ds gs before) :
  Calls Try.prog 5 args W λe W'=>∃v,e=.returned v/\Rows.sensorFaultsSpec.post enc Try.prog Try.f5 false true false false W args v W' :=
 qrc (τs:=[(.pair (.sl (.sl I)) (.pair I .unit)),(.pair (.sl I) (.pair (.sl .bool) .unit)),(.sl I)]) (ts:=[24,28,25]) (tb:=4) (F:=qan.F) follows qce hlib qzf Try.func5 (by kernel_rfl) (by kernel_rfl) (by kernel_rfl) (by kernel_rfl) (by kernel_rfl) (by kernel_rfl) Try.underlying4 qh5 qf7 rfl
  (λH ds h=>by
   match ds,h with
   |[d1,d2,d3],_=>rfl) H enc W base args ds gs before hval hW
set_option maxRecDepth 100000 in
theorem lifted(os:Os)(started:os.Started)(H:Type)(enc:TypeId×Value->H) :
  ReturnsInHanded {} Try.checked os 5 .any (Rows.sensorFaultsSpec.pre6 enc Try.prog Try.f5 Rows.sensorFaultsRow.domain false) (Rows.sensorFaultsSpec.post enc Try.prog Try.f5 false true false false):=by
 refine returnsInHanded_of_change (C:=Try.checked) own started (by kernel_rfl) Try.func5
  (ChangeSpec.witness6 (enc:=enc) (C:=Try.checked) false ⟨#[],#[.agg #[.slice none 0 0,.int .i64 0],.agg #[.slice none 0 0,.slice none 0 0],.slice none 0 0],[]⟩ 8 (by kernel_rfl) (by kernel_rfl) (by kernel_rfl) (by kernel_rfl)) ?_
 intro W base args ds gs before hval hW _ _;exact contract H enc W base args ds gs before hval hW
theorem proved:Rows.SensorFaultsSaid :=
 OpenClaim.holds_of_wide 5 Try.f5 rfl rfl rfl rfl rfl rfl rfl ⟨rfl,rfl,rfl,rfl,rfl⟩ rfl rfl rfl rfl rfl (by kernel_rfl) Try.func5 (by kernel_rfl)
  (of_decide_eq_true (by kernel_rfl)) (by unfold Func.isWrapper;first|(rw [if_pos (by decide +kernel)];kernel_rfl)|(rw [if_neg (by decide +kernel)];exact ⟨rfl,rfl⟩))
  (λos started H enc _=>lifted os started H enc)
end Go.Proofs.Ytofjnhppalciiaa.sensorFaults
end
