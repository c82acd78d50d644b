/-
  ONE LAW OF A CHAPTER: its program side is run by an interpreter that is proved sound; what it computes is shown to be what the law says. No conditions. Part 7 of 8.
-/
import Derived.Test.YteiciemjanhdcaaGreatDoorMsdf
import Derived.Test.YteiciemjanhdcaaGreatDoorRows
import Derived.WalkKit
import Derived.Test.YteiciemjanhdcaaGreatDoorProg
import Derived.KernelRfl
import Derived.ProofKit
import Derived.LaidMore
import Derived.OpenShut
import Derived.Stop.Joined
import Derived.Stop.LaidErr
import Derived.Lib.LaidTab
import Derived.Shelf.Vars
import Derived.ChangeArms
import Derived.HandedShaped
import Derived.Lib.AtoiAll
import Derived.Lib.ItoaNum
import Derived.Lib.Strings
import Derived.Lib.Join
import Derived.Lib.IndexMore
set_option linter.unusedSimpArgs false
set_option linter.unusedVariables false
set_option linter.unnecessarySimpa false
section
namespace Go.Tx
open Go Go.Ab Go.RowKit Go.ChangeShapes Go.WideShapes Go.Deep
section
variable {H:Type} {enc:TypeId × Value->H} {P:Program}
theorem qrH{f:Func}{s:ChangeSpec}{apart fresh handsOn again:Bool}{W W':World}{args:Array Value}{v:Value}{ds gs:List (DataW H)}{before pa pv:List MemPlace}
  (hW:DataW.Whole enc P f.params.toList s.vars apart W args.toList ds gs before)
  (hres:∀(b:Nat) (sp:Nat->Bool) (hd:Bool),DataW.TrodAll enc P W' b sp hd f.resultTypes.toList (v.resultList f.resultTypes.size) (s.fn H (ds++gs)).results [])
  (hargs:∀sp:Nat->Bool,(∀p∈before,sp p.block=true)->DataW.TrodAll enc P W' 0 sp true f.params.toList args.toList (s.fn H (ds++gs)).args pa)
  (hvars:∀sp:Nat->Bool,(∀p∈before,sp p.block=true)->DataW.TrodVars enc P W' sp s.vars (s.fn H (ds++gs)).vars pv)
  (hps:before=pa++pv) (hb:Below W.heap.size W W')
  (hok:∀(j:Nat) (t:TypeId) (r:Value),f.resultTypes[j]?=some t->(v.resultList f.resultTypes.size)[j]?=some r->Value.okWide P W' .any 0 t r) :
  s.post enc P f apart fresh handsOn again W args v W':=by
 have hlt:∀p∈before,p.block<W.heap.size:=λp hp=>hW.lt p hp;have hold:∀p∈before,(λb=>decide (b<W.heap.size)) p.block=true:=λp hp=>by simpa using hlt p hp
 refine ⟨ds,gs,before,[],pa,pv,hW,hres _ _ _,hargs _ hold,hvars _ hold,World.keptBut_mono (λp hp=>⟨hp,?_⟩) (hb.frame (·∈before)),λ_=>?_⟩
 ·rw [hps,qo]at hp;exact Or.inr hp
 ·obtain ⟨_,_,_,_,_,hz,hn⟩:=hW;refine ⟨hok,_,_,([]++pa)++pv,⟨[]++pa,pv,trodAll_append (hargs _ (λ_ _=>rfl)) (hres _ _ _),hvars _ (λ_ _=>rfl),rfl,?_,?_⟩,?_⟩
  ·intro b off hp;have hin:MemPlace.cell b off∈before:=by rw [hps];simpa using hp
   rw [hb.frozen (hlt _ hin)];exact hz b off hin
  ·intro ha;have:=hn ha;rw [hps]at this;simpa using this
  ·intro p hp _;rw [hps];simpa using hp
theorem qo8:∀{ts:List TypeId} {vs:List Value} {ds:List (DataW H)} {ps:List MemPlace} {w:World} {b:Nat} {sp:Nat->Bool} {hd:Bool},DataW.TrodAll enc P w b sp hd ts vs ds ps->ds.length=ts.length
 |[],[],[],_,_,_,_,_,_=>rfl
 |[],[],d::ds,_,_,_,_,_,h=>h.elim
 |[],v::vs,_,_,_,_,_,_,h=>by cases h
 |t::ts,[],_,_,_,_,_,_,h=>by cases h
 |t::ts,v::vs,[],_,_,_,_,_,h=>by cases h
 |t::ts,v::vs,d::ds,ps,w,b,sp,hd,⟨p,q,h1,h2,e⟩=>by simp [qo8 h2]
end
theorem qFi{H:Type}:Sm (H:=H) maxLen (λ_=>True) where
 slice:=λes sp _ h=>⟨h,λ_ _=>trivial⟩
 agg:=λ_ _ _ _=>trivial
 str:=λ_ _ h=>h
theorem qtg{P:Program}{H0:Hints}{lib:FuncId->Option (List V->Option V)}(hm:P.follows .mixedOrders=true)(qdJ:qj7 P H0)
  (qxi:∀g h args r,lib g=some h->h args=some r->qa9 P g args [] r []) (hl:laidOutB P=true) {k:FuncId} {fn:Func} (hfn:P.funcs[k]?=some fn) (hbody:fn.body.isSome=true)
  {ts:List TypeId} {τs:List Ty} (hps:fn.params.toList=ts) (hts:ts.mapM (qC8 P)=some τs) (hok:ts.all (okT P 10)=true) (hrd:ts.all (λt=>P.readableRec t&&decide (t<P.types.size))=true)
  {tb:TypeId} (hres:fn.resultTypes=#[tb]) (htb:P.underlying tb=some .bool) {F:denP (τs.map .ty)->Option Bool}
  (he:qby P H0 lib ⟨k,τs.map .ty,[(.bool,0)],F⟩) (hF:∀x,qEy maxLen τs x->F x=some true)
  {s:ChangeSpec} (hv:s.vars=[]) (hs:∀(H:Type) (ds:List (DataW H)),ds.length=ts.length->s.fn H ds={results:=[.lit (.bool true)],args:=ds})
  (H:Type) (enc:TypeId×Value->H) (W:World) (base:Nat) (args:Array Value) (ds gs:List (DataW H)) (before:List MemPlace)
  (hval:∀(j:Nat) t v,fn.params[j]?=some t->args[j]?=some v->Value.okWide P W .any base t v)
  (hW:DataW.Whole enc P fn.params.toList s.vars false W args.toList ds gs before) (hgl:qhG W (cx0 W)) :
  Calls P k args W λe W'=>∃v,e=.returned v/\s.post enc P fn false true false false W args v W':=by
 have hW':=hW;have hlt:∀p∈before,p.block<W.heap.size:=λp hp=>hW.lt p hp;obtain ⟨p,q,hA,hV,rfl,hfz,hnd⟩:=hW;rw [hv]at hV;obtain ⟨rfl,rfl⟩:=trodVars_none hV;rw [hps]at hA;have hlen:=qo8 hA;have hval':∀(j:Nat) t v,ts[j]?=some t->args.toList[j]?=some v->Value.okWide P W .any base t v:=λj t v h1 h2 =>
  hval j t v (by rw [<- hps]at h1;simpa using h1) (by simpa using h2)
 refine (qzt hm qdJ qxi hl qFi hfn hbody hts hok he hF hval' hA (λ_ _=>trivial) hgl).mono λe W' ⟨h1,hb⟩=>?_;subst h1;have hfs:s.fn H (ds++[])={results:=[.lit (.bool true)],args:=ds}:=by rw [List.append_nil];exact hs H ds hlen
 refine ⟨_,rfl,qrH (pa:=p) (pv:=[]) hW' ?_ ?_ ?_ rfl hb ?_⟩
 ·intro b sp hd;rw [hfs,hres];exact trodAll_mk1 (shut_bool htb true)
 ·intro sp hsp;rw [hfs,hps];exact qlc hl hb hrd hA (λx hx=>hlt x (by simpa using hx)) sp (λx hx=>hsp x (by simpa using hx))
 ·intro sp _;rw [hfs,hv];rfl
 ·exact ok_one hres rfl (okWide_bool_mk htb true)
end Go.Tx
namespace Go.Proofs.YteiciemjanhdcaaGreatDoor
open Go Go.Ab Go.Tx
theorem own:ownKnob Tryz.prog.godebug=none:=by kernel_rfl
theorem qBA:laidOutB Tryz.prog=true:=by kernel_rfl
end Go.Proofs.YteiciemjanhdcaaGreatDoor
end
section
namespace Go.Proofs.YteiciemjanhdcaaGreatDoor
open Go Go.Ab Go.Tx
section
set_option maxRecDepth 100000
noncomputable section
@[reducible] def I:Ty:=.int .i64
@[reducible] def w64 (n:Int):Int:=IntKind.wrap .i64 n
def qBC:List (List Tmp×FuncId×Kind×Join)->List Tmp->FuncId->Kind->Option Join
 |[],_,_,_=>none
 |(c,f,k,j)::l,c',f',k'=>if f=f' then (if k=k' then (if c=c' then some j else qBC l c' f' k')else qBC l c' f' k')else qBC l c' f' k'
def strconv_Itoa(n:Int):Option (List UInt8):=if -9223372036854775808<=n/\n<=9223372036854775807 then some (Lib.itoa n)else none
def qDm(s:List UInt8):Int×Bool:=match Lib.atoiAll s with
 |.ok v=>(v,true)
 |.range=>(Lib.atoiSat s,false)
 |_=>(0,false)
def strconv_Atoi(s:List UInt8):Option (Int×Bool):=if s.length<=281474976710656 then some (qDm s)else none
def strings_Join(l:List (List UInt8))(sep:List UInt8):Option (List UInt8):=if l.length<=140737488355328/\(Lib.join l sep).length<=140737488355328 then some (Lib.join l sep)else none
def strings_TrimPrefix(s p:List UInt8):Option (List UInt8):=some (Lib.trimPrefix s p)
def strings_Index(s p:List UInt8):Option Int:=if s.length<4294967281 then some (Lib.index s p)else none
def strings_Cut(s p:List UInt8):Option (List UInt8×List UInt8×Bool):=if s.length<4294967281 then some (Lib.cut s p)else none
def qza:List V->Option V
 |[.val (.int .i64 n)]=>(strconv_Itoa n).map λs=>.val (.string ⟨s.toArray⟩)
 |_=>none
def qy8:List V->Option V
 |[.val (.string s)]=>if s.size<=281474976710656 then some (qyE 323 s.data.toList)else none
 |_=>none
def qzb:List V->Option V
 |[.sl _ _ l,.val (.string sep)]=>(qgL l).bind λxs=>(strings_Join xs sep.data.toList).map λs=>.val (.string ⟨s.toArray⟩)
 |_=>none
def qBq:List V->Option V
 |[.val (.string s),.val (.string p)]=>some (.val (.string ⟨(Lib.trimPrefix s.data.toList p.data.toList).toArray⟩))
 |_=>none
def qsV:List V->Option V
 |[.val (.string s),.val (.string p)]=>if s.size<4294967281 then some (.val (.int .i64 (Lib.index s.data.toList p.data.toList)))else none
 |_=>none
def qEU:List V->Option V
 |[.val (.string s),.val (.string p)]=>if s.size<4294967281 then some (.tuple [.val (.string ⟨(Lib.cut s.data.toList p.data.toList).1.toArray⟩),.val (.string ⟨(Lib.cut s.data.toList p.data.toList).2.1.toArray⟩),.val (.bool (Lib.cut s.data.toList p.data.toList).2.2)])else none
 |_=>none
def qCU:List V->Option V
 |[]=>some (.val (.bool true))
 |_=>none
def qGd:List (FuncId×(List V->Option V)):=[(8,qCU),(75,qza),(168,qy8),(76,qzb),(169,qBq),(239,qsV),(151,qEU)]
def qBD:List (FuncId×(List V->Option V))->FuncId->Option (List V->Option V)
 |[],_=>none
 |(k,h)::l,g=>if g=k then some h else qBD l g
def Lb:FuncId->Option (List V->Option V):=qBD qGd
def qcR(js:List (List Tmp×FuncId×Kind×Join))(inl:List (List Tmp×FuncId×Tmp)):TH where
 lib:=λg=>(Lb g).isSome
 join:=qBC js
 inl:=λc f d=>inl.any λ(c',f',d')=>decide (f=f')&&decide (d=d')&&decide (c=c')
theorem hJ{js:List (List Tmp×FuncId×Kind×Join)}{inl:List (List Tmp×FuncId×Tmp)}:∀g,(qcR js inl).lib g=false->Lb g=none:=λg h=>by
 simpa [qcR]using h
theorem qfE{e:Entry}{h:List V->Option V}(hl:Lb e.g=some h)(hx:∀x y,e.F x=some y->∀vs,RVL (qfP e.ps x) vs->∃v,h vs=some v/\RV (qi3 e.rs y) v):qby Tryz.prog Hn.hints Lb e:=λx y hy vs hv=>by
 obtain ⟨v,h1,h2⟩:=hx x y hy vs hv;refine ⟨v,⟨1,λm hm=>?_⟩,h2⟩;obtain ⟨m',rfl⟩:∃m',m=m'+1:=⟨m-1,by omega⟩
 simp [qsj,hl,h1]
def qc5:Entry:=⟨75,[.ty I],[(.str,0)],λx=>strconv_Itoa x⟩
theorem qjg:qby Tryz.prog Hn.hints Lb qc5:=qfE (h:=qza) rfl λx y hy vs hv=>by
 simp only [qc5]at hy hv x y;simp only [qfP,qA0,ofTy,RVL,RV,RTy]at hv;obtain ⟨v,l,rfl,rfl,rfl⟩:=hv;exact ⟨.val (.string ⟨y.toArray⟩),by simp [qza,hy],by simp [qi3,qc5,ofL,qbC,ofTy,RV,RTy]⟩
def qet:Entry:=⟨168,[.ty .str],[(I,0),(.err,0)],λx=>strconv_Atoi x⟩
theorem qpw:qby Tryz.prog Hn.hints Lb qet:=qfE (h:=qy8) rfl λx y hy vs hv=>by
 simp only [qet]at hy hv x y;simp only [qfP,qA0,ofTy,RVL,RV,RTy]at hv;obtain ⟨v,l,rfl,rfl,rfl⟩:=hv;unfold strconv_Atoi at hy;split at hy
 ·rename_i hl;cases hy;refine ⟨qyE 323 x,?_,?_⟩
  ·have:(⟨x.toArray⟩:ByteArray).size<=281474976710656:=by simpa [ByteArray.size]using hl
   simp only [qy8];rw [if_pos this]
  ·unfold qyE qDm;cases Lib.atoiAll x<;>simp [qi3,qet,ofL,qbC,ofTy,RV,RTy,RVL]
   all_goals exact ⟨_,_,⟨rfl,rfl⟩,rfl,_,rfl,_,rfl⟩
 ·cases hy
theorem qAB{τ:Nat}:∀{l:List (List UInt8)} {l':List V},All2 (RTy .str τ) l l'->qgL l'=some l:=by
 intro l l' h;induction h with
 |nil=>rfl
 |cons h1 _ ih=>simp only [RTy]at h1;subst h1;simp [qgL,ih]
def qeu:Entry:=⟨76,[.ty (.sl .str),.ty .str],[(.str,0)],λx=>strings_Join x.1 x.2⟩
theorem qpx:qby Tryz.prog Hn.hints Lb qeu:=qfE (h:=qzb) rfl λx y hy vs hv=>by
 simp only [qeu]at hy hv x y;simp only [qfP,qA0,ofTy,RVL,RV,RTy]at hv;obtain ⟨v,l,rfl,⟨f,c,l',rfl,_,hall⟩,v2,l2,rfl,rfl,rfl⟩:=hv;have hs:qgL l'=some x.1:=qAB (τ:=0) (hall.mono λa b h=>by simpa only [RTy]using h);exact ⟨.val (.string ⟨y.toArray⟩),by simp [qzb,hs,hy],by simp [qi3,qeu,ofL,qbC,ofTy,RV,RTy]⟩
def qbI:Entry:=⟨169,[.ty .str,.ty .str],[(.str,0)],λx=>strings_TrimPrefix x.1 x.2⟩
theorem qi2:qby Tryz.prog Hn.hints Lb qbI:=qfE (h:=qBq) rfl λx y hy vs hv=>by
 simp only [qbI]at hy hv x y;simp only [qfP,qA0,ofTy,RVL,RV,RTy]at hv;obtain ⟨v,l,rfl,rfl,v2,l2,rfl,rfl,rfl⟩:=hv;obtain rfl:Lib.trimPrefix x.1 x.2=y:=Option.some.inj hy;exact ⟨.val (.string ⟨(Lib.trimPrefix x.1 x.2).toArray⟩),rfl,by simp [qi3,qbI,ofL,qbC,ofTy,RV,RTy]⟩
def qdI:Entry:=⟨239,[.ty .str,.ty .str],[(I,0)],λx=>strings_Index x.1 x.2⟩
theorem qoz:qby Tryz.prog Hn.hints Lb qdI:=qfE (h:=qsV) rfl λx y hy vs hv=>by
 simp only [qdI]at hy hv x y;simp only [qfP,qA0,ofTy,RVL,RV,RTy]at hv;obtain ⟨v,l,rfl,rfl,v2,l2,rfl,rfl,rfl⟩:=hv;unfold strings_Index at hy;split at hy
 ·rename_i hl;cases hy;refine ⟨.val (.int .i64 (Lib.index x.1 x.2)),?_,by simp [qi3,qdI,ofL,qbC,ofTy,RV,RTy]⟩;have:(⟨x.1.toArray⟩:ByteArray).size<4294967281:=by simpa [ByteArray.size]using hl
  simp only [qsV];rw [if_pos this]
 ·cases hy
def qe8:Entry:=⟨151,[.ty .str,.ty .str],[(.str,0),(.str,0),(.bool,0)],λx=>strings_Cut x.1 x.2⟩
theorem qry:qby Tryz.prog Hn.hints Lb qe8:=qfE (h:=qEU) rfl λx y hy vs hv=>by
 simp only [qe8]at hy hv x y;simp only [qfP,qA0,ofTy,RVL,RV,RTy]at hv;obtain ⟨v,l,rfl,rfl,v2,l2,rfl,rfl,rfl⟩:=hv;unfold strings_Cut at hy;split at hy
 ·rename_i hl;cases hy;refine ⟨.tuple [.val (.string ⟨(Lib.cut x.1 x.2).1.toArray⟩),.val (.string ⟨(Lib.cut x.1 x.2).2.1.toArray⟩),.val (.bool (Lib.cut x.1 x.2).2.2)],?_,by simp [qi3,qe8,ofL,qbC,ofTy,RV,RTy,RVL]⟩;have:(⟨x.1.toArray⟩:ByteArray).size<4294967281:=by simpa [ByteArray.size]using hl
  simp only [qEU];rw [if_pos this]
 ·cases hy
def qgk:Option Bool:=some true
def qdd:Entry:=⟨8,[],[(.bool,0)],λ_=>qgk⟩
theorem qmZ:qby Tryz.prog Hn.hints Lb qdd:=qfE (h:=qCU) rfl λx y hy vs hv=>by
 obtain rfl:true=y:=Option.some.inj hy;simp only [qdd,qfP,RVL]at hv;subst hv;exact ⟨.val (.bool true),rfl,by simp [qi3,qdd,ofL,qbC,ofTy,RV,RTy]⟩
end
end
end Go.Proofs.YteiciemjanhdcaaGreatDoor
end
section
namespace Go.Proofs.YteiciemjanhdcaaGreatDoor
open Go Go.Ab Go.RowKit Go.Shelf
def qzr:Go.Shelf.Ren:=⟨λ| 171=>75|243=>155|246=>209|283=>245|284=>246|285=>247|286=>248|129=>271|317=>270|318=>272|319=>273|320=>274|337=>280|338=>281|n=>n,λ| 3=>3|9=>9|2=>2|4=>4|171=>308|0=>0|53=>309|37=>235|5=>5|173=>312|212=>333|51=>334|20=>20|213=>335|46=>331|232=>354|233=>355|n=>n,λ| 17=>1|18=>6|19=>7|n=>n⟩
theorem qFK:LaysM.n171 Tryz.prog qzr where
 mixed:=by kernel_rfl
 f129:=Tryz.func271.trans (congrArg some (by kernel_rfl))
 f171:=Tryz.func75.trans (congrArg some (by kernel_rfl))
 f243:=Tryz.func155.trans (congrArg some (by kernel_rfl))
 f246:=Tryz.func209.trans (congrArg some (by kernel_rfl))
 f283:=Tryz.func245.trans (congrArg some (by kernel_rfl))
 f284:=Tryz.func246.trans (congrArg some (by kernel_rfl))
 f285:=Tryz.func247.trans (congrArg some (by kernel_rfl))
 f286:=Tryz.func248.trans (congrArg some (by kernel_rfl))
 f317:=Tryz.func270.trans (congrArg some (by kernel_rfl))
 f318:=Tryz.func272.trans (congrArg some (by kernel_rfl))
 f319:=Tryz.func273.trans (congrArg some (by kernel_rfl))
 f320:=Tryz.func274.trans (congrArg some (by kernel_rfl))
 f337:=Tryz.func280.trans (congrArg some (by kernel_rfl))
 f338:=Tryz.func281.trans (congrArg some (by kernel_rfl))
 t0:=Tryz.underlying0
 a0:=Tryz.isAgg0
 z0:=Tryz.sizeOf0
 v0:=Tryz.zeroValue0
 t2:=Tryz.underlying2
 a2:=Tryz.isAgg2
 z2:=Tryz.sizeOf2
 v2:=Tryz.zeroValue2
 t3:=Tryz.underlying3
 a3:=Tryz.isAgg3
 z3:=Tryz.sizeOf3
 v3:=Tryz.zeroValue3
 t4:=Tryz.underlying4
 a4:=Tryz.isAgg4
 z4:=Tryz.sizeOf4
 v4:=Tryz.zeroValue4
 t5:=Tryz.underlying5
 a5:=Tryz.isAgg5
 z5:=Tryz.sizeOf5
 v5:=Tryz.zeroValue5
 t9:=Tryz.underlying9
 a9:=Tryz.isAgg9
 z9:=Tryz.sizeOf9
 v9:=Tryz.zeroValue9
 t20:=Tryz.underlying20
 a20:=Tryz.isAgg20
 z20:=Tryz.sizeOf20
 v20:=Tryz.zeroValue20
 t37:=Tryz.underlying235
 a37:=Tryz.isAgg235
 z37:=Tryz.sizeOf235
 v37:=Tryz.zeroValue235
 t46:=Tryz.underlying331
 a46:=Tryz.isAgg331
 z46:=Tryz.sizeOf331
 v46:=Tryz.zeroValue331
 t51:=Tryz.underlying334
 a51:=Tryz.isAgg334
 z51:=Tryz.sizeOf334
 v51:=Tryz.zeroValue334
 t53:=Tryz.underlying309
 a53:=Tryz.isAgg309
 z53:=Tryz.sizeOf309
 v53:=Tryz.zeroValue309
 t171:=Tryz.underlying308
 a171:=Tryz.isAgg308
 z171:=Tryz.sizeOf308
 v171:=Tryz.zeroValue308
 t173:=Tryz.underlying312
 a173:=Tryz.isAgg312
 z173:=Tryz.sizeOf312
 v173:=Tryz.zeroValue312
 t212:=Tryz.underlying333
 a212:=Tryz.isAgg333
 z212:=Tryz.sizeOf333
 v212:=Tryz.zeroValue333
 t213:=Tryz.underlying335
 a213:=Tryz.isAgg335
 z213:=Tryz.sizeOf335
 t232:=Tryz.underlying354
 a232:=Tryz.isAgg354
 z232:=Tryz.sizeOf354
 v232:=Tryz.zeroValue354
 t233:=Tryz.underlying355
 a233:=Tryz.isAgg355
 z233:=Tryz.sizeOf355
 v233:=Tryz.zeroValue355
 g17:=by kernel_rfl
 g18:=by kernel_rfl
 g19:=by kernel_rfl
 i0:=by kernel_rfl
 i2:=by kernel_rfl
 i3:=by kernel_rfl
 i4:=by kernel_rfl
 i5:=by kernel_rfl
 i9:=by kernel_rfl
 i20:=by kernel_rfl
 i37:=by kernel_rfl
 i46:=by kernel_rfl
 i51:=by kernel_rfl
 i53:=by kernel_rfl
 i171:=by kernel_rfl
 i173:=by kernel_rfl
 i212:=by kernel_rfl
 i232:=by kernel_rfl
 i233:=by kernel_rfl
 m17:=by kernel_rfl
 m18:=by kernel_rfl
 m19:=by kernel_rfl
def qoh:Go.Shelf.Ren:=⟨λ| 172=>168|244=>223|245=>224|247=>256|279=>257|280=>258|281=>259|282=>260|287=>275|316=>276|171=>75|205=>277|321=>282|322=>283|243=>155|246=>209|283=>245|284=>246|285=>247|286=>248|129=>271|317=>270|318=>272|319=>273|320=>274|337=>280|338=>281|n=>n,λ| 9=>9|3=>3|75=>240|76=>241|4=>4|5=>5|167=>320|37=>235|0=>0|85=>321|2=>2|168=>323|53=>309|175=>337|46=>331|210=>341|127=>283|145=>353|143=>351|21=>21|171=>308|173=>312|212=>333|51=>334|20=>20|213=>335|232=>354|233=>355|80=>243|n=>n,λ| 15=>2|16=>3|17=>1|18=>6|19=>7|n=>n⟩
theorem qFJ:LaysC.n172 Tryz.prog qoh where
 mixed:=by kernel_rfl
 f129:=Tryz.func271.trans (congrArg some (by kernel_rfl))
 f171:=Tryz.func75.trans (congrArg some (by kernel_rfl))
 f172:=Tryz.func168.trans (congrArg some (by kernel_rfl))
 f205:=Tryz.func277.trans (congrArg some (by kernel_rfl))
 f243:=Tryz.func155.trans (congrArg some (by kernel_rfl))
 f244:=Tryz.func223.trans (congrArg some (by kernel_rfl))
 f245:=Tryz.func224.trans (congrArg some (by kernel_rfl))
 f246:=Tryz.func209.trans (congrArg some (by kernel_rfl))
 f247:=Tryz.func256.trans (congrArg some (by kernel_rfl))
 f279:=Tryz.func257.trans (congrArg some (by kernel_rfl))
 f280:=Tryz.func258.trans (congrArg some (by kernel_rfl))
 f281:=Tryz.func259.trans (congrArg some (by kernel_rfl))
 f282:=Tryz.func260.trans (congrArg some (by kernel_rfl))
 f283:=Tryz.func245.trans (congrArg some (by kernel_rfl))
 f284:=Tryz.func246.trans (congrArg some (by kernel_rfl))
 f285:=Tryz.func247.trans (congrArg some (by kernel_rfl))
 f286:=Tryz.func248.trans (congrArg some (by kernel_rfl))
 f287:=Tryz.func275.trans (congrArg some (by kernel_rfl))
 f316:=Tryz.func276.trans (congrArg some (by kernel_rfl))
 f317:=Tryz.func270.trans (congrArg some (by kernel_rfl))
 f318:=Tryz.func272.trans (congrArg some (by kernel_rfl))
 f319:=Tryz.func273.trans (congrArg some (by kernel_rfl))
 f320:=Tryz.func274.trans (congrArg some (by kernel_rfl))
 f321:=Tryz.func282.trans (congrArg some (by kernel_rfl))
 f322:=Tryz.func283.trans (congrArg some (by kernel_rfl))
 f337:=Tryz.func280.trans (congrArg some (by kernel_rfl))
 f338:=Tryz.func281.trans (congrArg some (by kernel_rfl))
 t0:=Tryz.underlying0
 a0:=Tryz.isAgg0
 z0:=Tryz.sizeOf0
 v0:=Tryz.zeroValue0
 t2:=Tryz.underlying2
 a2:=Tryz.isAgg2
 z2:=Tryz.sizeOf2
 v2:=Tryz.zeroValue2
 t3:=Tryz.underlying3
 a3:=Tryz.isAgg3
 z3:=Tryz.sizeOf3
 v3:=Tryz.zeroValue3
 t4:=Tryz.underlying4
 a4:=Tryz.isAgg4
 z4:=Tryz.sizeOf4
 v4:=Tryz.zeroValue4
 t5:=Tryz.underlying5
 a5:=Tryz.isAgg5
 z5:=Tryz.sizeOf5
 v5:=Tryz.zeroValue5
 t9:=Tryz.underlying9
 a9:=Tryz.isAgg9
 z9:=Tryz.sizeOf9
 v9:=Tryz.zeroValue9
 t20:=Tryz.underlying20
 a20:=Tryz.isAgg20
 z20:=Tryz.sizeOf20
 v20:=Tryz.zeroValue20
 t21:=Tryz.underlying21
 a21:=Tryz.isAgg21
 z21:=Tryz.sizeOf21
 v21:=Tryz.zeroValue21
 t37:=Tryz.underlying235
 a37:=Tryz.isAgg235
 z37:=Tryz.sizeOf235
 v37:=Tryz.zeroValue235
 t46:=Tryz.underlying331
 a46:=Tryz.isAgg331
 z46:=Tryz.sizeOf331
 v46:=Tryz.zeroValue331
 t51:=Tryz.underlying334
 a51:=Tryz.isAgg334
 z51:=Tryz.sizeOf334
 v51:=Tryz.zeroValue334
 t53:=Tryz.underlying309
 a53:=Tryz.isAgg309
 z53:=Tryz.sizeOf309
 v53:=Tryz.zeroValue309
 t75:=Tryz.underlying240
 a75:=Tryz.isAgg240
 z75:=Tryz.sizeOf240
 v75:=Tryz.zeroValue240
 t76:=Tryz.underlying241
 a76:=Tryz.isAgg241
 z76:=Tryz.sizeOf241
 v76:=Tryz.zeroValue241
 t85:=Tryz.underlying321
 a85:=Tryz.isAgg321
 z85:=Tryz.sizeOf321
 v85:=Tryz.zeroValue321
 t127:=Tryz.underlying283
 a127:=Tryz.isAgg283
 z127:=Tryz.sizeOf283
 v127:=Tryz.zeroValue283
 t143:=Tryz.underlying351
 a143:=Tryz.isAgg351
 z143:=Tryz.sizeOf351
 v143:=Tryz.zeroValue351
 t145:=Tryz.underlying353
 a145:=Tryz.isAgg353
 z145:=Tryz.sizeOf353
 v145:=Tryz.zeroValue353
 t167:=Tryz.underlying320
 a167:=Tryz.isAgg320
 z167:=Tryz.sizeOf320
 v167:=Tryz.zeroValue320
 t168:=Tryz.underlying323
 a168:=Tryz.isAgg323
 z168:=Tryz.sizeOf323
 v168:=Tryz.zeroValue323
 t171:=Tryz.underlying308
 a171:=Tryz.isAgg308
 z171:=Tryz.sizeOf308
 v171:=Tryz.zeroValue308
 t173:=Tryz.underlying312
 a173:=Tryz.isAgg312
 z173:=Tryz.sizeOf312
 v173:=Tryz.zeroValue312
 t175:=Tryz.underlying337
 a175:=Tryz.isAgg337
 z175:=Tryz.sizeOf337
 v175:=Tryz.zeroValue337
 t210:=Tryz.underlying341
 a210:=Tryz.isAgg341
 z210:=Tryz.sizeOf341
 v210:=Tryz.zeroValue341
 t212:=Tryz.underlying333
 a212:=Tryz.isAgg333
 z212:=Tryz.sizeOf333
 v212:=Tryz.zeroValue333
 t213:=Tryz.underlying335
 a213:=Tryz.isAgg335
 z213:=Tryz.sizeOf335
 t232:=Tryz.underlying354
 a232:=Tryz.isAgg354
 z232:=Tryz.sizeOf354
 v232:=Tryz.zeroValue354
 t233:=Tryz.underlying355
 a233:=Tryz.isAgg355
 z233:=Tryz.sizeOf355
 v233:=Tryz.zeroValue355
 g15:=by kernel_rfl
 g16:=by kernel_rfl
 g17:=by kernel_rfl
 g18:=by kernel_rfl
 g19:=by kernel_rfl
 t80:=Tryz.underlying243
 a80:=Tryz.isAgg243
 z80:=Tryz.sizeOf243
 v80:=Tryz.zeroValue243
 i0:=by kernel_rfl
 i2:=by kernel_rfl
 i3:=by kernel_rfl
 i4:=by kernel_rfl
 i5:=by kernel_rfl
 i9:=by kernel_rfl
 i20:=by kernel_rfl
 i21:=by kernel_rfl
 i37:=by kernel_rfl
 i46:=by kernel_rfl
 i51:=by kernel_rfl
 i53:=by kernel_rfl
 i75:=by kernel_rfl
 i76:=by kernel_rfl
 i80:=by kernel_rfl
 i85:=by kernel_rfl
 i127:=by kernel_rfl
 i143:=by kernel_rfl
 i145:=by kernel_rfl
 i167:=by kernel_rfl
 i168:=by kernel_rfl
 i171:=by kernel_rfl
 i173:=by kernel_rfl
 i175:=by kernel_rfl
 i210:=by kernel_rfl
 i212:=by kernel_rfl
 i232:=by kernel_rfl
 i233:=by kernel_rfl
 m15:=by kernel_rfl
 m16:=by kernel_rfl
 m17:=by kernel_rfl
 m18:=by kernel_rfl
 m19:=by kernel_rfl
 c0:=by kernel_rfl
 c2:=by kernel_rfl
 c3:=by kernel_rfl
 c4:=by kernel_rfl
 c5:=by kernel_rfl
 c9:=by kernel_rfl
 c20:=by kernel_rfl
 c21:=by kernel_rfl
 c37:=by kernel_rfl
 c46:=by kernel_rfl
 c51:=by kernel_rfl
 c53:=by kernel_rfl
 c75:=by kernel_rfl
 c76:=by kernel_rfl
 c80:=by kernel_rfl
 c85:=by kernel_rfl
 c127:=by kernel_rfl
 c143:=by kernel_rfl
 c145:=by kernel_rfl
 c167:=by kernel_rfl
 c168:=by kernel_rfl
 c171:=by kernel_rfl
 c173:=by kernel_rfl
 c175:=by kernel_rfl
 c210:=by kernel_rfl
 c212:=by kernel_rfl
 c213:=by kernel_rfl
 c232:=by kernel_rfl
 c233:=by kernel_rfl
def qtf:Go.Shelf.Ren:=⟨λ| 156=>76|165=>156|166=>157|169=>158|240=>210|241=>211|276=>249|277=>250|n=>n,λ| 31=>131|9=>9|3=>3|4=>4|0=>0|20=>20|72=>237|76=>241|70=>234|37=>235|75=>240|127=>283|164=>314|5=>5|80=>243|n=>n,λn=>n⟩
theorem qFL:Lays.n156 Tryz.prog qtf where
 mixed:=by kernel_rfl
 f156:=Tryz.func76.trans (congrArg some (by kernel_rfl))
 f165:=Tryz.func156.trans (congrArg some (by kernel_rfl))
 f166:=Tryz.func157.trans (congrArg some (by kernel_rfl))
 f169:=Tryz.func158.trans (congrArg some (by kernel_rfl))
 f240:=Tryz.func210.trans (congrArg some (by kernel_rfl))
 f241:=Tryz.func211.trans (congrArg some (by kernel_rfl))
 f276:=Tryz.func249.trans (congrArg some (by kernel_rfl))
 f277:=Tryz.func250.trans (congrArg some (by kernel_rfl))
 t0:=Tryz.underlying0
 a0:=Tryz.isAgg0
 z0:=Tryz.sizeOf0
 v0:=Tryz.zeroValue0
 t3:=Tryz.underlying3
 a3:=Tryz.isAgg3
 z3:=Tryz.sizeOf3
 v3:=Tryz.zeroValue3
 t4:=Tryz.underlying4
 a4:=Tryz.isAgg4
 z4:=Tryz.sizeOf4
 v4:=Tryz.zeroValue4
 t9:=Tryz.underlying9
 a9:=Tryz.isAgg9
 z9:=Tryz.sizeOf9
 v9:=Tryz.zeroValue9
 t20:=Tryz.underlying20
 a20:=Tryz.isAgg20
 z20:=Tryz.sizeOf20
 v20:=Tryz.zeroValue20
 t31:=Tryz.underlying131
 a31:=Tryz.isAgg131
 z31:=Tryz.sizeOf131
 v31:=Tryz.zeroValue131
 t37:=Tryz.underlying235
 a37:=Tryz.isAgg235
 z37:=Tryz.sizeOf235
 v37:=Tryz.zeroValue235
 t70:=Tryz.underlying234
 a70:=Tryz.isAgg234
 z70:=Tryz.sizeOf234
 v70:=Tryz.zeroValue234
 t72:=Tryz.underlying237
 a72:=Tryz.isAgg237
 z72:=Tryz.sizeOf237
 v72:=Tryz.zeroValue237
 t75:=Tryz.underlying240
 a75:=Tryz.isAgg240
 z75:=Tryz.sizeOf240
 v75:=Tryz.zeroValue240
 t76:=Tryz.underlying241
 a76:=Tryz.isAgg241
 z76:=Tryz.sizeOf241
 v76:=Tryz.zeroValue241
 t127:=Tryz.underlying283
 a127:=Tryz.isAgg283
 z127:=Tryz.sizeOf283
 v127:=Tryz.zeroValue283
 t164:=Tryz.underlying314
 a164:=Tryz.isAgg314
 z164:=Tryz.sizeOf314
 v164:=Tryz.zeroValue314
def qzs:Go.Shelf.Ren:=⟨λ| 101=>169|208=>225|206=>261|n=>n,λ| 9=>9|4=>4|3=>3|n=>n,λn=>n⟩
theorem qFM:Lays.n101 Tryz.prog qzs where
 mixed:=by kernel_rfl
 f101:=Tryz.func169.trans (congrArg some (by kernel_rfl))
 f206:=Tryz.func261.trans (congrArg some (by kernel_rfl))
 f208:=Tryz.func225.trans (congrArg some (by kernel_rfl))
 t3:=Tryz.underlying3
 a3:=Tryz.isAgg3
 z3:=Tryz.sizeOf3
 v3:=Tryz.zeroValue3
 t4:=Tryz.underlying4
 a4:=Tryz.isAgg4
 z4:=Tryz.sizeOf4
 v4:=Tryz.zeroValue4
 t9:=Tryz.underlying9
 a9:=Tryz.isAgg9
 z9:=Tryz.sizeOf9
 v9:=Tryz.zeroValue9
def qxw:Go.Shelf.Ren:=⟨λ| 143=>239|219=>244|217=>266|225=>267|224=>268|267=>269|266=>278|314=>279|n=>n,λ| 9=>9|3=>3|4=>4|5=>5|46=>331|146=>347|51=>334|n=>n,λ| 1=>0|n=>n⟩
theorem qEX:Lays.n143 Tryz.prog qxw where
 mixed:=by kernel_rfl
 f143:=Tryz.func239.trans (congrArg some (by kernel_rfl))
 f217:=Tryz.func266.trans (congrArg some (by kernel_rfl))
 f219:=Tryz.func244.trans (congrArg some (by kernel_rfl))
 f224:=Tryz.func268.trans (congrArg some (by kernel_rfl))
 f225:=Tryz.func267.trans (congrArg some (by kernel_rfl))
 f266:=Tryz.func278.trans (congrArg some (by kernel_rfl))
 f267:=Tryz.func269.trans (congrArg some (by kernel_rfl))
 f314:=Tryz.func279.trans (congrArg some (by kernel_rfl))
 t3:=Tryz.underlying3
 a3:=Tryz.isAgg3
 z3:=Tryz.sizeOf3
 v3:=Tryz.zeroValue3
 t4:=Tryz.underlying4
 a4:=Tryz.isAgg4
 z4:=Tryz.sizeOf4
 v4:=Tryz.zeroValue4
 t5:=Tryz.underlying5
 a5:=Tryz.isAgg5
 z5:=Tryz.sizeOf5
 v5:=Tryz.zeroValue5
 t9:=Tryz.underlying9
 a9:=Tryz.isAgg9
 z9:=Tryz.sizeOf9
 v9:=Tryz.zeroValue9
 t46:=Tryz.underlying331
 a46:=Tryz.isAgg331
 z46:=Tryz.sizeOf331
 v46:=Tryz.zeroValue331
 t51:=Tryz.underlying334
 a51:=Tryz.isAgg334
 z51:=Tryz.sizeOf334
 v51:=Tryz.zeroValue334
 t146:=Tryz.underlying347
 a146:=Tryz.isAgg347
 z146:=Tryz.sizeOf347
 v146:=Tryz.zeroValue347
 g1:=by kernel_rfl
def qBz:Go.Shelf.Ren:=⟨λ| 145=>151|220=>207|219=>244|217=>266|225=>267|224=>268|267=>269|266=>278|314=>279|n=>n,λ| 9=>9|4=>4|59=>229|3=>3|5=>5|46=>331|146=>347|51=>334|n=>n,λ| 1=>0|n=>n⟩
theorem qGi:Lays.n145 Tryz.prog qBz where
 mixed:=by kernel_rfl
 f145:=Tryz.func151.trans (congrArg some (by kernel_rfl))
 f217:=Tryz.func266.trans (congrArg some (by kernel_rfl))
 f219:=Tryz.func244.trans (congrArg some (by kernel_rfl))
 f220:=Tryz.func207.trans (congrArg some (by kernel_rfl))
 f224:=Tryz.func268.trans (congrArg some (by kernel_rfl))
 f225:=Tryz.func267.trans (congrArg some (by kernel_rfl))
 f266:=Tryz.func278.trans (congrArg some (by kernel_rfl))
 f267:=Tryz.func269.trans (congrArg some (by kernel_rfl))
 f314:=Tryz.func279.trans (congrArg some (by kernel_rfl))
 t3:=Tryz.underlying3
 a3:=Tryz.isAgg3
 z3:=Tryz.sizeOf3
 v3:=Tryz.zeroValue3
 t4:=Tryz.underlying4
 a4:=Tryz.isAgg4
 z4:=Tryz.sizeOf4
 v4:=Tryz.zeroValue4
 t5:=Tryz.underlying5
 a5:=Tryz.isAgg5
 z5:=Tryz.sizeOf5
 v5:=Tryz.zeroValue5
 t9:=Tryz.underlying9
 a9:=Tryz.isAgg9
 z9:=Tryz.sizeOf9
 v9:=Tryz.zeroValue9
 t46:=Tryz.underlying331
 a46:=Tryz.isAgg331
 z46:=Tryz.sizeOf331
 v46:=Tryz.zeroValue331
 t51:=Tryz.underlying334
 a51:=Tryz.isAgg334
 z51:=Tryz.sizeOf334
 v51:=Tryz.zeroValue334
 t59:=Tryz.underlying229
 a59:=Tryz.isAgg229
 z59:=Tryz.sizeOf229
 v59:=Tryz.zeroValue229
 t146:=Tryz.underlying347
 a146:=Tryz.isAgg347
 z146:=Tryz.sizeOf347
 v146:=Tryz.zeroValue347
 g1:=by kernel_rfl
theorem qEW:Builder.Extra Tryz.prog qtf where
 sizeBuilder:=by kernel_rfl
 liesBuilder:=by kernel_rfl
 t5:=Tryz.underlying5
 a5:=Tryz.isAgg5
 z5:=Tryz.sizeOf5
 v5:=Tryz.zeroValue5
 infoByte:=by kernel_rfl
 cellsByte:=by kernel_rfl
 sizeByte:=by kernel_rfl
 neB5:=by decide
theorem qF7 {w : World} {X : Cx} (h : qhG w X) : Lib.TabIs Tryz.prog w "internal/strconv.uint64pow10" .u64 Lib.pow10Tab := qFm h (b := 1) (by simp [qyj]) (by kernel_rfl)
theorem qvU{w:World}{X:Cx}(h:qhG w X){b:Nat}(hm:(b,quA)∈qyj):∃ev,w.cell? ⟨b,0,none⟩=some ev/\(ev=.nilIface\/∃te pe,ev=.iface te pe):=by
 obtain ⟨arr,t,fr,h1,ev,h2,h3⟩:=qyM h hm;exact ⟨ev,by simp [World.cell?,h1,h2],h3⟩
theorem qv6{w:World}{X:Cx}(h:qhG w X):∃m,w.cell? ⟨0,0,none⟩=some (.int .i64 m):=by
 obtain ⟨arr,t,fr,h1,m,h2⟩:=qyM h (b:=0) (p:=qzh) (by simp [qyj]);exact ⟨m,by simp [World.cell?,h1,h2]⟩
theorem qBo{args:List V}{r:V}(h:qza args=some r):qa9 Tryz.prog 75 args [] r []:=by
 unfold qza at h;split at h
 ·rename_i n;obtain ⟨s,hs,rfl⟩:=qf.1 h;unfold strconv_Itoa at hs;split at hs
  ·rename_i hn;cases hs;exact qDK qFK (λ_ _=>enters Tryz.func75 (by kernel_rfl) (by kernel_rfl) _ _) (λw X hg=>qF7 hg) n hn.1 hn.2
  ·cases hs
 ·cases h
theorem qBn{args:List V}{r:V}(h:qy8 args=some r):qa9 Tryz.prog 168 args [] r []:=by
 unfold qy8 at h;split at h
 ·rename_i s;split at h
  ·rename_i hs;cases h;exact qDn qFJ (λ_ _=>enters Tryz.func168 (by kernel_rfl) (by kernel_rfl) _ _) (λw X hg=>qvU hg (by simp [qyj,qoh])) (λw X hg=>qvU hg (by simp [qyj,qoh])) s hs
  ·cases h
 ·cases h
theorem qBp{args:List V}{r:V}(h:qzb args=some r):qa9 Tryz.prog 76 args [] r []:=by
 unfold qzb at h;split at h
 ·rename_i f c l sep;obtain ⟨xs,hxs,h⟩:=qh.1 h;obtain ⟨s,hs,rfl⟩:=qf.1 h;unfold strings_Join at hs;split at hs
  ·rename_i hc;cases hs;exact qDL qFL qEW (λ_ _=>enters Tryz.func76 (by kernel_rfl) (by kernel_rfl) _ _) f c l xs sep hxs hc.1 hc.2
  ·cases hs
 ·cases h
theorem qBr{args:List V}{r:V}(h:qBq args=some r):qa9 Tryz.prog 169 args [] r []:=by
 unfold qBq at h;split at h
 ·cases h;exact qsd qFM (λ_ _=>enters Tryz.func169 (by kernel_rfl) (by kernel_rfl) _ _) _ _
 ·cases h
theorem qy9{args:List V}{r:V}(h:qsV args=some r):qa9 Tryz.prog 239 args [] r []:=by
 unfold qsV at h;split at h
 ·split at h
  ·rename_i hs;cases h;exact qBu qEX (λ_ _=>enters Tryz.func239 (by kernel_rfl) (by kernel_rfl) _ _) (λw X hg=>qv6 hg) _ _ hs
  ·cases h
 ·cases h
theorem qDE{args:List V}{r:V}(h:qEU args=some r):qa9 Tryz.prog 151 args [] r []:=by
 unfold qEU at h;split at h
 ·split at h
  ·rename_i hs;cases h;exact qEN qGi (λ_ _=>enters Tryz.func151 (by kernel_rfl) (by kernel_rfl) _ _) (λw X hg=>qv6 hg) _ _ hs
  ·cases h
 ·cases h
theorem qti:∀{l:List (FuncId×(List V->Option V))} {g:FuncId} {h:List V->Option V},qBD l g=some h->(g,h)∈l
 |[],_,_,h=>by cases h
 |(k,f)::l,g,h,hh=>by
  unfold qBD at hh;split at hh
  ·rename_i e;subst e;cases hh;exact List.mem_cons_self
  ·exact List.mem_cons_of_mem _ (qti hh)
theorem qxi:∀g h args r,Lb g=some h->h args=some r->qa9 Tryz.prog g args [] r []:=λg h args r hg hr=>by
 have hm:=qti hg;simp only [qGd,qp,Prod.mk.injEq,List.mem_nil_iff,or_false]at hm;rcases hm with ⟨rfl,rfl⟩|⟨rfl,rfl⟩|⟨rfl,rfl⟩|⟨rfl,rfl⟩|⟨rfl,rfl⟩|⟨rfl,rfl⟩|⟨rfl,rfl⟩
 ·cases args with
  |nil=>cases hr;exact qA4
  |cons a l=>cases hr
 ·exact qBo hr
 ·exact qBn hr
 ·exact qBp hr
 ·exact qBr hr
 ·exact qy9 hr
 ·exact qDE hr
end Go.Proofs.YteiciemjanhdcaaGreatDoor
end
section
namespace Go
variable {H:Type} {enc:TypeId × Value->H}
theorem qeS{a:Assume}{C:Checked}{os:Os}{f:FuncId}{fn:Func}{s:ChangeSpec}{conds:List PathCond}{apart fresh handsOn again:Bool}{X:World->Array Value->Prop}
  (hX:∀(w w':World) (args:Array Value),w.heap=w'.heap->X w args->X w' args)
  (own:ownKnob C.prog.godebug=none) (started:os.Started) (noInit:C.prog.inits.idxOf? f=none) (hfn:C.prog.funcs[f]?=some fn)
  (witness:∃(w:World) (tape:Tape) (i:Input),w.os=os/\(w.forCall tape i).Shaped C.prog/\i.vars=[]/\Input.okWide C.prog (w.forCall tape i) .any w.heap.size f i /\
   ((s.pre enc C.prog fn conds apart (w.forCall tape i).memory i.args/\X (w.forCall tape i).memory i.args)/\sizedMet enc C.prog fn (OpenSpec.ofChange s) apart (w.forCall tape i).memory i.args)/\a.holds C.prog (lone (Frame.enter C.prog f i.args .normal) [] (w.forCall tape i)))
  (contract:∀(W:World) (base:Nat) (args:Array Value) (ds gs:List (DataW H)) (before:List MemPlace),
   (∀(j:Nat) t v,fn.params[j]?=some t->args[j]?=some v->Value.okWide C.prog W .any base t v) ->
   DataW.Whole enc C.prog fn.params.toList s.vars apart W args.toList ds gs before ->
   W.ShapedOpen C.prog->X W args ->
   Calls C.prog f args W λe W'=>∃v,e=.returned v/\s.post enc C.prog fn apart fresh handsOn again W args v W') :
  ReturnsInHanded a C os f .any (λw args=>(s.pre enc C.prog fn conds apart w args/\X w args)/\sizedMet enc C.prog fn (OpenSpec.ofChange s) apart w args) (s.post enc C.prog fn apart fresh handsOn again):=by
 refine returnsInHanded_of_calls own started noInit witness ?_;intro w tape i _ hsh _ hok hpre hholds;obtain ⟨_,_,_,fn',hfn',_,_,_,_,hval⟩:=hok;have e:fn'=fn:=Option.some.inj (hfn'.symm.trans hfn);subst e;obtain ⟨⟨⟨ds,gs,before,hw,hc⟩,hx⟩,hz⟩:=hpre;have hw':=DataW.Whole.of_heap (w':=w.forCall tape i) (by rfl) hw;refine (contract (w.forCall tape i) w.heap.size i.args ds gs before hval hw' hsh (hX _ _ _ (by rfl) hx)).mono λe W' ⟨v,he,hp⟩=>?_;subst he;exact ChangeSpec.post_blind hp
end Go
namespace Go.Proofs.YteiciemjanhdcaaGreatDoor
open Go Go.Ab Go.Tx Go.ChangeShapes Go.WideShapes Go.ChangeAt Go.WideMaps Go.WideElems Go.RowKit
def qmV : List (String × DataW Unit) := [("math/bits.deBruijn32tab", Rows.laid_math_bits_deBruijn32tab), ("math/bits.deBruijn64tab", Rows.laid_math_bits_deBruijn64tab), ("internal/strconv.uint64pow10", Rows.laid_internal_strconv_uint64pow10), ("unicode/utf8.acceptRanges", Rows.laid_unicode_utf8_acceptRanges), ("strconv.ErrRange", Rows.laid_strconv_ErrRange), ("strconv.ErrSyntax", Rows.laid_strconv_ErrSyntax), ("unicode/utf8.first", Rows.laid_unicode_utf8_first)]
theorem g1 : Tryz.prog.globalNamed "internal/strconv.uint64pow10" = some 1 := by kernel_rfl
theorem g2 : Tryz.prog.globalNamed "strconv.ErrSyntax" = some 2 := by kernel_rfl
theorem g3 : Tryz.prog.globalNamed "strconv.ErrRange" = some 3 := by kernel_rfl
theorem star : "*" ++ "errors.errorString" = "*errors.errorString" := by decide
theorem qC4 (u : TypeId) (h : Tryz.prog.typeName? 3 u = some "*errors.errorString") : u = 351 :=
 typeName_ptr_named (nm := "errors.errorString") (by rw [star]; kernel_rfl) (by kernel_rfl) (by decide) u (by rw [star]; exact h)
theorem glE{W:World}{b n:Nat}{c:Array Value}{P:Program}{nm:String}(hg:P.globalNamed nm=some b)(h:W.var? P nm=some c):∃t fr,W.heap[b]?=some (.cells c t fr):=by
 simp only [World.var?,hg,qb]at h;cases hb:W.heap[b]? with
 |none=>rw [hb]at h;cases h
 |some o =>
  cases o with
  |cells a t fr=>rw [hb]at h;simp only [qe]at h;subst h;exact ⟨t,fr,rfl⟩
  |_=>rw [hb]at h;cases h
theorem glC{W:World}{b:Nat}{v:Value}(h:W.cell? ⟨b,0,none⟩=some v):∃c t fr,W.heap[b]?=some (.cells c t fr)/\c[0]?=some v:=by
 simp only [World.cell?]at h;cases hb:W.heap[b]? with
 |none=>rw [hb]at h;cases h
 |some o =>
  cases o with
  |cells a t fr=>rw [hb]at h;exact ⟨a,t,fr,rfl,h⟩
  |_=>rw [hb]at h;cases h
theorem qxx{W:World}(h:laidMetH Tryz.prog qmV W):laidMet Tryz.prog qmV W:=by
 rwa [MakeChecks.laidMetH_plain _ _ _ (by kernel_rfl)]at h
set_option maxRecDepth 100000 in
theorem qF6 {W : World} (h : laidMet Tryz.prog qmV W) : Lib.TabIs Tryz.prog W "internal/strconv.uint64pow10" .u64 Lib.pow10Tab :=
 Lib.tabIs_of_head (t := 333) (e := 309) (n := 20) (rest := qmV.drop 3) g1 (by kernel_rfl) Tryz.underlying333 Tryz.underlying309 (by kernel_rfl) (by kernel_rfl) (show laidMet Tryz.prog (("internal/strconv.uint64pow10", Lib.tabData .u64 Lib.pow10Tab) :: qmV.drop 3) W from h.tail.tail)
theorem qBe {W : World} (h : laidMet Tryz.prog qmV W) : ∃ a, W.var? Tryz.prog "strconv.ErrRange" = some #[.iface 351 (.pointer (some a))] := by
 obtain ⟨a,s,hv,-,-,-⟩:=laid_sentinel h.tail.tail.tail.tail g3 (show (Tryz.prog.globals[3]?).map (·.type)=some 240 by kernel_rfl) Tryz.underlying240 qC4 Tryz.underlying351 Tryz.underlying353 rfl rfl Tryz.underlying9 (by kernel_rfl) (by kernel_rfl);exact ⟨a,hv⟩
theorem qyX {W : World} (h : laidMet Tryz.prog qmV W) : ∃ a, W.var? Tryz.prog "strconv.ErrSyntax" = some #[.iface 351 (.pointer (some a))] := by
 obtain ⟨a,s,hv,-,-,-⟩:=laid_sentinel h.tail.tail.tail.tail.tail g2 (show (Tryz.prog.globals[2]?).map (·.type)=some 240 by kernel_rfl) Tryz.underlying240 qC4 Tryz.underlying351 Tryz.underlying353 rfl rfl Tryz.underlying9 (by kernel_rfl) (by kernel_rfl);exact ⟨a,hv⟩
theorem qxC{W:World}(h:W.ShapedOpen Tryz.prog):∃m,W.cell? ⟨0,0,none⟩=some (.int .i64 m):=by
 have hr:((begin Tryz.prog (λ_ _=>0) default).world.heap[0]?).bind Obj.row?=some (#[.int .i64 0],3):=by kernel_rfl
 exact cell_of_shapedOpen_int (t:=3) (zero:=#[.int .i64 0]) h (of_decide_eq_true (by kernel_rfl)) hr rfl (by kernel_rfl) (by kernel_rfl) Tryz.underlying3
theorem qDB{W:World}(hs:W.ShapedOpen Tryz.prog)(hL:laidMetH Tryz.prog qmV W):qhG W (cx0 W):=by
 have h:=qxx hL;obtain ⟨m,hm⟩:=qxC hs;obtain ⟨a3,h3⟩:=qBe h;obtain ⟨a2,h2⟩:=qyX h;have h1:=qF6 h;unfold Lib.TabIs at h1;intro x hx;simp only [qyj,qp,List.mem_nil_iff,or_false]at hx;have om:∀{b:Nat} {c:Array Value} {t:TypeId} {fr:Nat×Nat},W.heap[b]?=some (.cells c t fr)->∃e,(cx0 W).ω b=some (e,true):=λ{b c t fr} hb=>⟨c.size,by simp [cx0,hb]⟩
 rcases hx with rfl|rfl|rfl|rfl
 ·obtain ⟨c,t,fr,hb,hc⟩:=glC hm;exact ⟨om hb,c,t,fr,hb,m,hc⟩
 ·obtain ⟨t,fr,hb⟩:=glE (n:=0) g1 h1;exact ⟨om hb,_,t,fr,hb,rfl⟩
 ·obtain ⟨t,fr,hb⟩:=glE (n:=0) g2 h2;exact ⟨om hb,_,t,fr,hb,_,rfl,Or.inr ⟨_,_,rfl⟩⟩
 ·obtain ⟨t,fr,hb⟩:=glE (n:=0) g3 h3;exact ⟨om hb,_,t,fr,hb,_,rfl,Or.inr ⟨_,_,rfl⟩⟩
end Go.Proofs.YteiciemjanhdcaaGreatDoor
end
section
namespace Go.Tx
open Go
section
theorem qj3{n:Int}(h1 : -9223372036854775808<=n)(h2:n<=9223372036854775807):IntKind.wrap .i64 n=n:=by
 rw [IntKind.wrap_i64];omega
theorem qv5{α:Type}(l:List α):idx l 0=l[0]?:=by simp [idx]
theorem qaB{α:Type}{l:List α}{i:Nat}{a:α}(h:l[i]?=some a):idx l (i:Int)=some a:=by simp [idx,h]
theorem qyA{α:Type}{l l2:List α}(h:l.length+l2.length<=4294967296):app l l2=some (l++l2):=by simp [app,h]
section
variable {σ ρ:Type} {f:σ->Option (σ ⊕ ρ)}
theorem qlS:∀{n m:Nat} {s:σ} {r:ρ},qi1 f n s=some r->n<=m->qi1 f m s=some r
 |0,m,s,r,h,_=>by simp [qi1]at h
 |n+1,0,s,r,h,hm=>by omega
 |n+1,m+1,s,r,h,hm=>by
  simp only [qi1]at h ⊢;cases hf:f s with
  |none=>rw [hf]at h;cases h
  |some x =>
   rw [hf]at h;cases x with
   |inl s'=>exact qlS h (by omega)
   |inr r'=>exact h
theorem qrs{n:Nat}{s:σ}{r:ρ}(h:qi1 f n s=some r):qab f s=some r:=by
 have hex:∃n r,qi1 f n s=some r:=⟨n,r,h⟩
 cases hl:qab f s with
 |none=>exfalso;unfold qab at hl;rw [dif_pos hex]at hl;cases hl
 |some r' =>
  obtain ⟨m,hm⟩:=qiK hl;have h1:=qlS h (Nat.le_max_left n m);have h2:=qlS hm (Nat.le_max_right n m);rw [<- h1,<- h2]
theorem qkM{s s':σ}(h:f s=some (.inl s')):qab f s=qab f s':=by
 cases hl:qab f s' with
 |some r =>
  obtain ⟨n,hn⟩:=qiK hl;exact qrs (n:=n+1) (by simp [qi1,h,hn])
 |none =>
  cases hl2:qab f s with
  |none=>rfl
  |some r =>
   obtain ⟨n,hn⟩:=qiK hl2;cases n with
   |zero=>simp [qi1]at hn
   |succ n =>
    simp only [qi1,h]at hn;rw [qrs hn]at hl;cases hl
theorem qeO{s:σ}{r:ρ}(h:f s=some (.inr r)):qab f s=some r:=qrs (n:=1) (by simp [qi1,h])
theorem qBE(n:Nat)(I:Nat->σ->Prop)(Q:ρ->Prop)
  (hs:∀i s,i<=n->I i s->(∃s',f s=some (.inl s')/\i<n/\I (i+1) s')\/(∃r,f s=some (.inr r)/\Q r)) {s:σ} (h0:I 0 s):∃r,qab f s=some r/\Q r:=by
 have h:∀k i s,n-i=k->i<=n->I i s->∃r,qab f s=some r/\Q r:=by
  intro k;induction k with
  |zero =>
   intro i s hk hi hI;rcases hs i s hi hI with ⟨s',_,h,_⟩|⟨r,h,hq⟩
   ·omega
   ·exact ⟨r,qeO h,hq⟩
  |succ k ih =>
   intro i s hk hi hI;rcases hs i s hi hI with ⟨s',h,hlt,hI'⟩|⟨r,h,hq⟩
   ·obtain ⟨r,hr,hq⟩:=ih (i+1) s' (by omega) (by omega) hI';exact ⟨r,by rw [qkM h,hr],hq⟩
   ·exact ⟨r,qeO h,hq⟩
 exact h n 0 s (by omega) (by omega) h0
end
def qgh{α ρ:Type}(g:Nat->α->Option ρ):Nat->List α->Option ρ
 |_,[]=>none
 |k,a::l=>match g k a with
  |some r=>some r
  |none=>qgh g (k+1) l
def qCy{ρ:Type}:Option ρ->Unit⊕ρ
 |some r=>.inr r
 |none=>.inl ()
def stp{ρ:Type}(i:Nat):Option ρ->Int⊕(Unit⊕ρ)
 |some r=>.inr (.inr r)
 |none=>.inl ((i:Int)+1)
theorem qzy{α ρ:Type}(l:List α){f:Int->Option (Int⊕(Unit⊕ρ))}(g:Nat->α->Option ρ)
  (h:∀(i:Nat) (a:α),l[i]?=some a->f i=some (stp i (g i a)))
  (he:f l.length=some (.inr (.inl ()))):qab f 0=some (qCy (qgh g 0 l)):=by
 have key:∀(l2 l1:List α),l1++l2=l->qab f (l1.length:Nat)=some (qCy (qgh g l1.length l2)):=by
  intro l2;induction l2 with
  |nil =>
   intro l1 e;have:l1=l:=by simpa using e
   subst this;rw [qeO he];rfl
  |cons a l2 ih =>
   intro l1 e;have hi:l[l1.length]?=some a:=by rw [<- e];simp
   have hf:=h _ _ hi;simp only [qgh];cases hg:g l1.length a with
   |some r=>rw [hg]at hf;rw [qeO hf];rfl
   |none =>
    rw [hg]at hf;rw [qkM hf];have:=ih (l1++[a]) (by simp [e]);simpa using this
 simpa using key l [] rfl
end
section
def Ok{α:Type}(o:Option α)(Q:α->Prop):Prop:=∃a,o=some a/\Q a
section
variable {α β σ ρ τ:Type}
theorem qcZ{a:α}{Q:α->Prop}:Ok (some a) Q↔Q a:=⟨λ⟨_,h,hq⟩=>by cases h;exact hq,λh=>⟨a,rfl,h⟩⟩
theorem ok_none{Q:α->Prop}:Ok (none:Option α) Q↔False:=⟨λ⟨_,h,_⟩=>(by cases h),λh=>h.elim⟩
theorem ok_eq{o:Option α}{a:α}:Ok o (λr=>r=a)↔o=some a:=⟨λ⟨_,h,hq⟩=>by rw [h,hq],λh=>⟨a,h,rfl⟩⟩
theorem Ok.eq{o:Option α}{a:α}(h:Ok o (λr=>r=a)):o=some a:=ok_eq.1 h
theorem Ok.mono{o:Option α}{P Q:α->Prop}(h:Ok o P)(hq:∀a,P a->Q a):Ok o Q:=by obtain ⟨a,h1,h2⟩:=h;exact ⟨a,h1,hq a h2⟩
theorem Ok.bind{o:Option α}{k:α->Option β}{P:α->Prop}{Q:β->Prop}(h:Ok o P)(hk:∀a,P a->Ok (k a) Q):Ok (o.bind k) Q:=by
 obtain ⟨a,h1,h2⟩:=h;rw [h1];exact hk a h2
theorem qeo{o:Option α}{k:α->Option β}{Q:β->Prop}:Ok (o.bind k) Q↔Ok o λa=>Ok (k a) Q:=by
 cases o with
 |none=>simp [ok_none]
 |some a=>simp [qcZ]
theorem qv4{l:List α}{n:Int}(d:α)(h0:0<=n)(h1:n<l.length):idx l n=some (l.getD n.toNat d):=by
 unfold idx;rw [if_pos h0];have:n.toNat<l.length:=by omega
 simp [this]
theorem qyz{l l2:List α}(h:l.length+l2.length<=4294967296):app l l2=some (l++l2):=qyA h
theorem qdt{l:List α}{a:α}(h:l.length<=4294967295):app l [a]=some (l++[a]):=qyA (by simp;omega)
theorem qDk{l2:List α}(h:l2.length<=4294967296):app [] l2=some l2:=by rw [qyA (by simpa using h)];rfl
theorem qqA{l:List α}{a b:Int}(h:0<=a/\a<=b/\b<=l.length):slc l a b=some ((l.take b.toNat).drop a.toNat):=by unfold slc;rw [if_pos h]
theorem qE3{z:α}{n:Int}(h:0<=n/\n<=4294967296):mkS z n=some (List.replicate n.toNat z):=by unfold mkS;rw [if_pos h]
def Rnd(o:Option (σ⊕ρ))(I:σ->Prop)(Q:ρ->Prop):Prop:=Ok o λx=>match x with
 |.inl s=>I s
 |.inr r=>Q r
theorem qaE{s:σ}{I:σ->Prop}{Q:ρ->Prop}:Rnd (some (.inl s)) I Q↔I s:=qcZ
theorem qar{r:ρ}{I:σ->Prop}{Q:ρ->Prop}:Rnd (some (.inr r):Option (σ⊕ρ)) I Q↔Q r:=qcZ
theorem qrR{o:Option α}{k:α->Option (σ⊕ρ)}{I:σ->Prop}{Q:ρ->Prop}:Rnd (o.bind k) I Q↔Ok o λa=>Rnd (k a) I Q:=qeo
theorem qDP{f:σ->Option (σ⊕ρ)}(μ:σ->Nat)(I:σ->Prop)(Q:ρ->Prop){s:σ}(h0:I s)
  (hs:∀s,I s->Rnd (f s) (λs'=>I s'/\μ s'<μ s) Q):Ok (qab f s) Q:=by
 have key:∀n s,μ s<=n->I s->Ok (qab f s) Q:=by
  intro n;induction n with
  |zero =>
   intro s hn hI;obtain ⟨x,hx,h⟩:=hs s hI;cases x with
   |inl s'=>exact absurd h.2 (by omega)
   |inr r=>exact ⟨r,qeO hx,h⟩
  |succ n ih =>
   intro s hn hI;obtain ⟨x,hx,h⟩:=hs s hI;cases x with
   |inl s'=>rw [qkM hx];exact ih s' (by have:=h.2;omega) h.1
   |inr r=>exact ⟨r,qeO hx,h⟩
 exact key _ s (Nat.le_refl _) h0
theorem qbb{f:σ->Option (σ⊕ρ)}(n:Nat)(I:Nat->σ->Prop)(Q:ρ->Prop){s:σ}(h0:I 0 s)
  (hs:∀i s,i<=n->I i s->Rnd (f s) (λs'=>i<n/\I (i+1) s') Q):Ok (qab f s) Q:=by
 obtain ⟨r,h1,h2⟩:=qBE n I Q (λi s hi hI=>by
  obtain ⟨x,hx,h⟩:=hs i s hi hI;cases x with
  |inl s'=>exact .inl ⟨s',hx,h⟩
  |inr r=>exact .inr ⟨r,hx,h⟩) h0
 exact ⟨r,h1,h2⟩
theorem qzT{o:Option (α⊕β)}{k:α->Option β}{Q:β->Prop}:Ok (o.bind (Sum.elim k some)) Q↔Ok o λx=>match x with
  |.inl a=>Ok (k a) Q
  |.inr b=>Q b:=by
 rw [qeo];cases o with
 |none=>simp [ok_none]
 |some x=>cases x<;>simp [qcZ]
end
theorem getD_at{α:Type}{l:List α}{i:Nat}{a d:α}(h:l[i]?=some a):l.getD i d=a:=by simp [h]
theorem qir{α:Type}{l:List α}{i:Nat}(d:α)(h:i<l.length):l.take (i+1)=l.take i++[l.getD i d]:=by
 rw [List.take_add_one];simp [h]
end
section
section
variable {α β ρ τ:Type}
theorem qhY{l:List α}{i:Nat}{a:α}(h:l[i]?=some a):i<l.length:=(qq.1 h).1
theorem qg0(l:List α)(K:Int->Option (Int⊕(Unit⊕ρ)))(g:Nat->α->Option ρ)(h:∀(i:Nat) (a:α),l[i]?=some a->K i=some (stp i (g i a))) :
  qab (λs=>bif decide (s<(l.length:Int))then K s else some (.inr (.inl ()))) 0=some (qCy (qgh g 0 l)):=by
 refine qzy l g (λi a hi=>?_) ?_
 ·have:=qhY hi;have e:decide ((i:Int)<(l.length:Int))=true:=by simp<;>omega
  simp only [e,cond_true];exact h i a hi
 ·simp
theorem qeh{o:Option ρ}{k:Unit->Option ρ}:(some (qCy o)).bind (Sum.elim k some)=(match o with
  |some r=>some r
  |none=>k ()):=by cases o<;>rfl
theorem qfh{g:Nat->α->Option ρ}:∀{l:List α} {k:Nat},qgh g k l=none↔∀i a,l[i]?=some a->g (k+i) a=none
 |[],k=>by simp [qgh]
 |a::l,k=>by
  simp only [qgh];cases hg:g k a with
  |some r =>
   simp only [reduceCtorEq,false_iff];intro h;have:=h 0 a rfl;simp [hg]at this
  |none =>
   simp only
   rw [qfh (l:=l) (k:=k+1)];constructor
   ·intro h i b hb;cases i with
    |zero=>simp at hb;subst hb;simpa using hg
    |succ i=>have:=h i b (by simpa using hb);rw [<- this];congr 1;omega
   ·intro h i b hb;have:=h (i+1) b (by simpa using hb);rw [<- this];congr 1;omega
theorem qfi{g:Nat->α->Option ρ}{r:ρ}:∀{l:List α} {k:Nat},qgh g k l=some r->∃i a,l[i]?=some a/\g (k+i) a=some r/\∀j b,j<i->l[j]?=some b->g (k+j) b=none
 |[],k,h=>by simp [qgh]at h
 |a::l,k,h=>by
  simp only [qgh]at h;cases hg:g k a with
  |some r' =>
   rw [hg]at h;simp only [qe]at h;subst h;exact ⟨0,a,rfl,by simpa using hg,λj b hj=>by omega⟩
  |none =>
   rw [hg]at h;obtain ⟨i,b,h1,h2,h3⟩:=qfi (l:=l) (k:=k+1) h;refine ⟨i+1,b,by simpa using h1,by rw [<- h2];congr 1;omega,λj c hj hc=>?_⟩;cases j with
   |zero=>simp at hc;subst hc;simpa using hg
   |succ j=>have:=h3 j c (by omega) (by simpa using hc);rw [<- this];congr 1;omega
theorem quE(l:List α)(pf:α->Option Bool)(p:α->Bool)(h:∀x∈l,pf x=some (p x))(hl:l.length<=1000000000) :
  ((qab (λ(s2:Int) =>
   bif decide (s2<(l.length:Int))then
    (idx l s2).bind λx3 =>
    (pf x3).bind λx4 =>
    bif x4 then
     some (.inr (.inr s2))
    else
     some (.inl (IntKind.wrap .i64 (s2+1)))
   else
    some (.inr (.inl ()))) 0).bind (Sum.elim (λ(p5:Unit) =>
  some (-1)) some)).bind (λx1=>some (decide (x1>=0)))=some (l.any p):=by
 rw [qg0 l _ (λi a=>if p a then some (i:Int)else none) (λi a hi=>by
  have:=qhY hi;rw [qaB hi];simp only [qb];rw [h a (List.mem_of_getElem? hi)];simp only [qb];cases hp:p a
  ·simp only [cond_false,qj,if_false,stp];rw [qj3 (by omega) (by omega)]
  ·simp [stp]),qeh]
 cases hf:qgh (λi a=>if p a then some (i:Int)else none) 0 l with
 |none =>
  rw [qfh]at hf;have:l.any p=false:=by
   rw [List.any_eq_false];intro x hx;obtain ⟨i,hi⟩:=List.mem_iff_getElem?.1 hx;have:=hf i x hi;simpa using this
  rw [this];rfl
 |some r =>
  obtain ⟨i,a,h1,h2,_⟩:=qfi hf;have hp:p a=true:=by
   cases hp:p a
   ·simp [hp]at h2
   ·rfl
  have:l.any p=true:=List.any_eq_true.2 ⟨a,List.mem_of_getElem? h1,hp⟩;rw [this];simp only [hp,if_true,qe]at h2;simp only [qb];have:decide (r>=0)=true:=by simp<;>omega
  rw [this]
def qsh:List Int->Int
 |[]=>0
 |e::l=>if e=0 then qsh l else e
theorem qpN:∀(l:List Int) (k:Nat),qgh (λ_ e=>if e=0 then none else some e) k l=if qsh l=0 then none else some (qsh l)
 |[],k=>rfl
 |e::l,k=>by
  simp only [qgh,qsh];by_cases h:e=0
  ·simp only [h,if_true];exact qpN l (k+1)
  ·simp [h]
theorem qy3(l:List Int)(hl:l.length<=1000000000) :
  (qab (λ(s2:Int) =>
   bif decide (s2<(l.length:Int))then
    (idx l s2).bind λx3 =>
    bif !(decide (x3=0))then
     some (.inr (.inr x3))
    else
     some (.inl (IntKind.wrap .i64 (s2+1)))
   else
    some (.inr (.inl ()))) 0).bind (Sum.elim (λ(p4:Unit)=>some 0) some)=some (qsh l):=by
 rw [qg0 l _ (λ_ e=>if e=0 then none else some e) (λi a hi=>by
  have:=qhY hi;rw [qaB hi];simp only [qb];by_cases h:a=0
  ·simp only [h,decide_true,Bool.not_true,cond_false,if_true,stp];rw [qj3 (by omega) (by omega)]
  ·simp [h,stp]),qeh,qpN]
 by_cases h:qsh l=0
 ·simp [h]
 ·simp [h]
end
end
theorem qjp{f:Int×Int->Option ((Int×Int)⊕Int)}(hf:∀s,f s=if s.2=0 then some (.inr s.1)else some (.inl (s.2,s.1.tmod s.2))):∀(n:Nat) (a b:Int),b.natAbs<=n->∃r,qab f (a,b)=some r/\r.natAbs=Int.gcd a b:=by
 intro n;induction n with
 |zero =>
  intro a b hb;have:b=0:=by omega
  subst this;exact ⟨a,qeO (by rw [hf];simp),by simp⟩
 |succ n ih =>
  intro a b hb;by_cases h0:b=0
  ·subst h0;exact ⟨a,qeO (by rw [hf];simp),by simp⟩
  ·have hlt:(a.tmod b).natAbs<b.natAbs:=by
    rw [Int.natAbs_tmod];exact Nat.mod_lt _ (by omega)
   obtain ⟨r,h1,h2⟩:=ih b (a.tmod b) (by omega);refine ⟨r,by rw [qkM (s':=(b,a.tmod b)) (by rw [hf];simp [h0])];exact h1,?_⟩;rw [h2];unfold Int.gcd;rw [Int.natAbs_tmod,Nat.gcd_comm,<- Nat.gcd_rec,Nat.gcd_comm]
def qpe:Nat->List Int->Nat
 |g,[]=>g
 |g,n::l=>qpe (Nat.gcd g n.natAbs) l
def quH(l:List Int):Nat:=qpe 0 l
theorem qkn(g:Nat)(n:Int):∀(l:List Int),qpe g (l++[n])=Nat.gcd (qpe g l) n.natAbs:=by
 intro l;induction l generalizing g with
 |nil=>rfl
 |cons m l ih=>simp only [List.cons_append,qpe];exact ih _
theorem qv0(a b:Int):quH [a,b]=Int.gcd a b:=by simp [quH,qpe,Int.gcd]
theorem qxe(a b c:Int):quH [a,b,c]=Nat.gcd (Int.gcd a b) c.natAbs:=by simp [quH,qpe,Int.gcd]
theorem qq7{B:Nat}:∀{l:List Int} {g:Nat},g<=B->(∀x∈l,x.natAbs<=B)->qpe g l<=B
 |[],g,hg,_=>hg
 |n::l,g,hg,h=>by
  simp only [qpe];refine qq7 ?_ λx hx=>h x (by simp [hx]);have h1:=h n (by simp);by_cases hg0:g=0
  ·subst hg0;simpa using h1
  ·exact Nat.le_trans (Nat.le_of_dvd (by omega) (Nat.gcd_dvd_left g n.natAbs)) hg
theorem qsS:∀{l:List Int} {g:Nat},qpe g l=0↔g=0/\∀x∈l,x=0
 |[],g=>by simp [qpe]
 |n::l,g=>by
  simp only [qpe,qsS (l:=l),Nat.gcd_eq_zero_iff,qp,forall_eq_or_imp];constructor
  ·rintro ⟨⟨h1,h2⟩,h3⟩;exact ⟨h1,by omega,h3⟩
  ·rintro ⟨h1,h2,h3⟩;exact ⟨⟨h1,by omega⟩,h3⟩
theorem qi8:∀(l:List Int) (g:Nat),qpe g l ∣ g
 |[],g=>Nat.dvd_refl g
 |n::l,g=>Nat.dvd_trans (qi8 l _) (Nat.gcd_dvd_left ..)
theorem qsF(l:List Int)(hl:l.length<=1000000000)(hb:∀x∈l,x.natAbs<=4611686018427387904) :
  (qab (λ(s2:(Int×Int)) =>
   bif decide (s2.2<(l.length:Int))then
    (idx l s2.2).bind λx3 =>
    (qab (λ(s5:(Int×Int)) =>
      bif !(decide (s5.2=0))then
       bif decide (s5.2=0)then
        none
       else
        some (.inl (s5.2,s5.1.tmod s5.2))
      else
       some (.inr s5.1)) (s2.1,x3)).bind λ(p6:Int) =>
    some (.inl (p6,IntKind.wrap .i64 (s2.2+1)))
   else
    some (.inr s2.1)) (0,0)).bind (λ(p7:Int)=>some (max p7 (IntKind.wrap .i64 (0-p7))))=some (quH l:Int):=by
 refine Ok.eq ?_;rw [qeo];refine (qbb l.length (λi (s:Int×Int)=>s.2=(i:Int)/\s.1.natAbs=quH (l.take i)) (λr:Int=>r.natAbs=quH l) ⟨rfl,rfl⟩ ?_).mono ?_
 ·rintro i ⟨g,s⟩ hi ⟨h1,h2⟩;simp only at h1 h2;subst h1;by_cases hlt:i<l.length
  ·have e0:decide ((i:Int)<(l.length:Int))=true:=by simp<;>omega
   simp only [e0,cond_true];rw [qv4 0 (by omega) (by omega)];simp only [qb,Int.toNat_natCast];obtain ⟨r,h3,h4⟩:=qjp (f:=λ(s5:(Int×Int))=>bif !(decide (s5.2=0))then bif decide (s5.2=0)then none else some (.inl (s5.2,s5.1.tmod s5.2))else some (.inr s5.1)) (λs=>by
    by_cases h:s.2=0<;>simp [h]) (l.getD i 0).natAbs g (l.getD i 0) (Nat.le_refl _)
   rw [h3];simp only [qb];rw [qj3 (by omega) (by omega),qaE];refine ⟨hlt,by simp,?_⟩;rw [h4,qir 0 hlt];unfold quH at h2 ⊢;rw [qkn,<- h2];rfl
  ·have:i=l.length:=by omega
   subst this;have e0:decide ((l.length:Int)<(l.length:Int))=false:=by simp
   simp only [e0,cond_false];rw [qar];simpa using h2
 ·intro r hr;have hle:quH l<=4611686018427387904:=qq7 (by omega) hb;rw [qj3 (by omega) (by omega),qcZ];omega
section
section
variable {α:Type}
theorem sq_nonneg(z:Int):0<=z*z:=by
 rcases Int.le_total 0 z with hz|hz
 ·exact Int.mul_nonneg hz hz
 ·have:=Int.mul_nonneg (show 0 <= -z by omega) (show 0 <= -z by omega);rwa [Int.neg_mul_neg]at this
theorem qAz{z:Int}(h:z*z=0):z=0:=by
 rcases Int.mul_eq_zero.1 h with h|h<;>exact h
theorem qaQ{a b A B:Int}(h1 : -A<=a/\a<=A)(h2 : -B<=b/\b<=B) : -(A*B)<=a*b/\a*b<=A*B:=by
 have hA:0<=A:=by omega
 have hB:0<=B:=by omega
 have e:(a*b).natAbs=a.natAbs*b.natAbs:=Int.natAbs_mul a b;have h3:a.natAbs*b.natAbs<=A.natAbs*B.natAbs:=Nat.mul_le_mul (by omega) (by omega);have h4:((A.natAbs*B.natAbs:Nat):Int)=A*B:=by
  rw [Int.natCast_mul];congr 1<;>omega
 omega
end
end
section
section
variable {α β:Type}
def mkL(n:Nat)(f:Nat->α):List α:=(List.range n).map f
theorem qad(n:Nat)(f:Nat->α):(mkL n f).length=n:=by simp [mkL]
theorem qbc{n:Nat}(f:Nat->α){k:Nat}(h:k<n):(mkL n f)[k]?=some (f k):=by simp [mkL,h]
theorem qrv{n:Nat}(f:Nat->α){k:Nat}(d:α)(h:k<n):(mkL n f).getD k d=f k:=getD_at (qbc f h)
theorem qwj(f:Nat->α):mkL 0 f=[]:=rfl
theorem qf1(n:Nat)(f:Nat->α):mkL (n+1) f=mkL n f++[f n]:=by simp [mkL,List.range_succ]
theorem qcc{n:Nat}{f g:Nat->α}(h:∀k,k<n->f k=g k):mkL n f=mkL n g:=List.map_congr_left λk hk=>h k (by simpa using hk)
theorem qu0{n:Nat}{f:Nat->α}{x:α}(h:x∈mkL n f):∃k,k<n/\x=f k:=by
 obtain ⟨k,hk,rfl⟩:=List.mem_map.1 h;exact ⟨k,by simpa using hk,rfl⟩
theorem qzK{n:Nat}{f:Nat->α}{k:Nat}(h:k<n):f k∈mkL n f:=List.mem_map.2 ⟨k,by simpa using h,rfl⟩
theorem qfb(l:List α)(d:α):l=mkL l.length λk=>l.getD k d:=by
 apply List.ext_getElem?;intro k;by_cases h:k<l.length
 ·rw [qbc _ h];simp [h]
 ·rw [List.getElem?_eq_none (by omega),List.getElem?_eq_none (by rw [qad];omega)]
theorem qqc{l:List α}{n:Nat}{f:Nat->α}(hl:l.length=n)(h:∀k,k<n->l[k]?=some (f k)):l=mkL n f:=by
 apply List.ext_getElem?;intro k;by_cases hk:k<n
 ·rw [qbc _ hk,h k hk]
 ·rw [List.getElem?_eq_none (by omega),List.getElem?_eq_none (by rw [qad];omega)]
theorem qbj{l:List α}{i:Nat}{d:α}(h:i<l.length):l.getD i d∈l:=by
 have:l[i]?=some (l.getD i d):=by simp [h]
 exact List.mem_of_getElem? this
theorem qgc{l:List α}{i:Nat}(d:α)(h:i<l.length):l[i]?=some (l.getD i d):=by simp [h]
theorem qCS{K:List β×Int->Option ((List β×Int)⊕List β)}(n:Nat)(f:Nat->β)
  (h:∀i,i<n->K (mkL i f,(i:Int))=some (.inl (mkL i f++[f i],(i:Int)+1))) (he:K (mkL n f,(n:Int))=some (.inr (mkL n f))):qab K ([],0)=some (mkL n f):=by
 refine Ok.eq (qbb n (λi (s:List β×Int)=>s=(mkL i f,(i:Int))) (λr=>r=mkL n f) rfl ?_);rintro i s hi rfl;by_cases hlt:i<n
 ·rw [h i hlt,qaE];exact ⟨hlt,by rw [qf1];rfl⟩
 ·have:i=n:=by omega
  subst this;rw [he,qar]
theorem qy4{K:List β×Int->Option ((List β×Int)⊕List β)}(l:List α)(f:α->β)
  (h:∀(i:Nat) a out,l[i]?=some a->out.length=i->K (out,(i:Int))=some (.inl (out++[f a],(i:Int)+1))) (he:∀out,out.length=l.length->K (out,(l.length:Int))=some (.inr out)):qab K ([],0)=some (l.map f):=by
 refine Ok.eq (qbb l.length (λi (s:List β×Int)=>s=((l.take i).map f,(i:Int))) (λr=>r=l.map f) (by simp) ?_);rintro i s hi rfl;by_cases hlt:i<l.length
 ·have ha:l[i]?=some l[i]:=by simp [hlt]
  rw [h i _ _ ha (by simp;omega),qaE];refine ⟨hlt,?_⟩;have e:(l.take (i+1)).map f=(l.take i).map f++[f l[i]]:=by rw [List.take_add_one,ha];simp only [List.map_append,Option.toList_some,qm,List.map_nil]
  rw [e];rfl
 ·have:i=l.length:=by omega
  subst this;rw [he _ (by simp),qar];simp
theorem qBj{l m:List α}(d:α):(l.length=m.length/\∀i,i<l.length->l.getD i d=m.getD i d)↔l=m:=by
 constructor
 ·rintro ⟨h1,h2⟩;rw [qfb l d,qfb m d,h1];exact qcc λk hk=>h2 k (by omega)
 ·rintro rfl;exact ⟨rfl,λ_ _=>rfl⟩
theorem qzi [DecidableEq α]{l m:List α}(d:α)(hl:l.length=m.length)(hb:l.length<=1000000000)(e:α->α->Bool)(he:∀a b,a∈l->b∈m->(e a b=true↔a=b)){K:Int->Option (Int⊕(Unit⊕Bool))}
  (h:∀i,i<l.length->K (i:Int)=some (if e (l.getD i d) (m.getD i d)=true then .inl ((i:Int)+1)else .inr (.inr false))) :
  (qab (λs=>bif decide (s<(l.length:Int))then K s else some (.inr (.inl ()))) 0).bind (Sum.elim (λ(p5:Unit)=>some true) some)=some (decide (l=m)):=by
 refine Ok.eq (qzT.2 ?_);refine (qbb l.length (λi (s:Int)=>s=(i:Int)/\∀j,j<i->l.getD j d=m.getD j d) (λr=>(r=.inl ()/\∀j,j<l.length->l.getD j d=m.getD j d)\/(r=.inr false/\∃j,j<l.length/\l.getD j d≠m.getD j d)) ⟨rfl,by simp⟩ ?_).mono ?_
 ·rintro i s hi ⟨rfl,hI⟩;by_cases hlt:i<l.length
  ·have e0:decide ((i:Int)<(l.length:Int))=true:=by simp<;>omega
   simp only [e0,cond_true];rw [h i hlt];have hm:=he (l.getD i d) (m.getD i d) (qbj hlt) (qbj (by omega));by_cases c:e (l.getD i d) (m.getD i d)=true
   ·rw [if_pos c,qaE];refine ⟨hlt,by simp,λj hj=>?_⟩;by_cases hji:j<i
    ·exact hI j hji
    ·have:j=i:=by omega
     subst this;exact hm.1 c
   ·rw [if_neg c,qar];exact .inr ⟨rfl,i,hlt,λh=>c (hm.2 h)⟩
  ·have:i=l.length:=by omega
   subst this;have e0:decide ((l.length:Int)<(l.length:Int))=false:=by simp
   simp only [e0,cond_false];rw [qar];exact .inl ⟨rfl,hI⟩
 ·rintro r (⟨rfl,h1⟩|⟨rfl,j,hj,hne⟩)
  ·simp only [qcZ];rw [eq_comm,decide_eq_true_iff];exact (qBj d).1 ⟨hl,h1⟩
  ·simp only;rw [eq_comm,decide_eq_false_iff_not]
   exact λh=>hne (by rw [h])
end
end
abbrev G:=Int×Int×Unit
def g0:G:=(0,0,())
def g1:G:=(1,0,())
def qpj(a b:G):G:=(a.1+b.1,a.2.1+b.2.1,())
def qrc(a b:G):G:=(a.1-b.1,a.2.1-b.2.1,())
def qd6(a b:G):G:=(a.1*b.1-a.2.1*b.2.1,a.1*b.2.1+a.2.1*b.1,())
def qrb(a:G):G:=(-a.1,-a.2.1,())
def qsT(a:G):G:=(a.1,-a.2.1,())
theorem qDA{a b:G}(h1:a.1=b.1)(h2:a.2.1=b.2.1):a=b:=by
 obtain ⟨x,y,_⟩:=a;obtain ⟨x',y',_⟩:=b;simp only at h1 h2;rw [h1,h2]
theorem qBk{a b:G}:a=b↔a.1=b.1/\a.2.1=b.2.1:=⟨λh=>by rw [h];exact ⟨rfl,rfl⟩,λh=>qDA h.1 h.2⟩
theorem qGb(a:G):(a.1,a.2.1,())=a:=rfl
def Bd(B:Int)(a:G):Prop:=(-B<=a.1/\a.1<=B)/\(-B<=a.2.1/\a.2.1<=B)
theorem Bd.mono{A B:Int}{a:G}(h:Bd A a)(hAB:A<=B):Bd B a:=by unfold Bd at *;omega
theorem qq1{B:Int}(h:0<=B):Bd B g0:=by unfold Bd g0;simp<;>omega
theorem qCK{B:Int}(h:1<=B):Bd B g1:=by unfold Bd g1;simp<;>omega
theorem Bd.add{A B:Int}{a b:G}(h:Bd A a)(h':Bd B b):Bd (A+B) (qpj a b):=by unfold Bd qpj at *;simp only<;>omega
theorem Bd.sub{A B:Int}{a b:G}(h:Bd A a)(h':Bd B b):Bd (A+B) (qrc a b):=by unfold Bd qrc at *;simp only<;>omega
theorem Bd.neg{A:Int}{a:G}(h:Bd A a):Bd A (qrb a):=by unfold Bd qrb at *;simp only<;>omega
theorem Bd.qEL{A:Int}{a:G}(h:Bd A a):Bd A (qsT a):=by unfold Bd qsT at *;simp only<;>omega
theorem Bd.mul{A B:Int}{a b:G}(h:Bd A a)(h':Bd B b):Bd (2*(A*B)) (qd6 a b):=by
 obtain ⟨h1,h2⟩:=h;obtain ⟨h3,h4⟩:=h';have p1:=qaQ h1 h3;have p2:=qaQ h2 h4;have p3:=qaQ h1 h4;have p4:=qaQ h2 h3;unfold Bd qd6;simp only
 generalize A*B=Q at *;omega
theorem qyf{n:Int}(h1 : -9223372036854775808<=n)(h2:n<=9223372036854775807):IntKind.wrap .i64 n=n:=qj3 h1 h2
theorem qE5{A B:Int}{a b:G}(h:Bd A a)(h':Bd B b)(hb:2*(A*B)<=9000000000000000000) :
  ((IntKind.wrap .i64 (IntKind.wrap .i64 (a.1*b.1)-IntKind.wrap .i64 (a.2.1*b.2.1)),IntKind.wrap .i64 (IntKind.wrap .i64 (a.1*b.2.1)+IntKind.wrap .i64 (a.2.1*b.1)),()):G)=qd6 a b:=by
 obtain ⟨h1,h2⟩:=h;obtain ⟨h3,h4⟩:=h';have p1:=qaQ h1 h3;have p2:=qaQ h2 h4;have p3:=qaQ h1 h4;have p4:=qaQ h2 h3;unfold qd6;generalize A*B=Q at *;rw [qyf (n:=a.1*b.1) (by omega) (by omega),qyf (n:=a.2.1*b.2.1) (by omega) (by omega),qyf (n:=a.1*b.2.1) (by omega) (by omega),qyf (n:=a.2.1*b.1) (by omega) (by omega),qyf (by omega) (by omega),qyf (by omega) (by omega)]
theorem qEB{A B:Int}{a b:G}(h:Bd A a)(h':Bd B b)(hb:A+B<=9000000000000000000) :
  ((IntKind.wrap .i64 (a.1+b.1),IntKind.wrap .i64 (a.2.1+b.2.1),()):G)=qpj a b:=by
 unfold Bd at h h';unfold qpj;rw [qyf (by omega) (by omega),qyf (by omega) (by omega)]
theorem qCp{A B:Int}{a b:G}(h:Bd A a)(h':Bd B b)(hb:A+B<=9000000000000000000) :
  ((IntKind.wrap .i64 (a.1-b.1),IntKind.wrap .i64 (a.2.1-b.2.1),()):G)=qrc a b:=by
 unfold Bd at h h';unfold qrc;rw [qyf (by omega) (by omega),qyf (by omega) (by omega)]
theorem qDC(a b:G):qrc a b=qpj a (qrb b):=qDA (by simp only [qrc,qpj,qrb];omega) (by simp only [qrc,qpj,qrb];omega)
theorem qsU(a:G):qrc g0 a=qrb a:=qDA (by simp [qrc,qrb,g0]) (by simp [qrc,qrb,g0])
def qpf:Nat->(Nat->G)->G
 |0,_=>g0
 |n+1,f=>qpj (qpf n f) (f n)
theorem Bd.sum{B:Int}{f:Nat->G}:∀{n:Nat},(∀k,k<n->Bd B (f k))->Bd (n*B) (qpf n f)
 |0,_=>qq1 (by simp)
 |n+1,h=>by
  have h1:=Bd.sum (n:=n) λk hk=>h k (by omega);have e:((n+1:Nat):Int)*B=n*B+B:=by rw [Int.natCast_add,Int.add_mul];simp
  rw [e];exact h1.add (h n (by omega))
theorem qr4(n:Nat)(hn:n<=1000){A:Int}(hA:0<=A)(hAn:n*A<=9000000000000000000)(f:Nat->G)(hf:∀k,k<n->Bd A (f k)){K:Int×Int×Int->Option ((Int×Int×Int)⊕(Int×Int))}
  (h:∀k,k<n->∀a b:Int,Bd (k*A) (a,b,())->K ((k:Int),a,b)=some (.inl (IntKind.wrap .i64 ((k:Int)+1),(qpj (a,b,()) (f k)).1,(qpj (a,b,()) (f k)).2.1)))
  (he:∀a b:Int,K ((n:Int),a,b)=some (.inr (a,b))):qab K (0,0,0)=some ((qpf n f).1,(qpf n f).2.1):=by
 refine Ok.eq (qbb n (λi (s:Int×Int×Int)=>s=((i:Int),(qpf i f).1,(qpf i f).2.1)) (λr=>r=((qpf n f).1,(qpf n f).2.1)) rfl ?_);rintro i s hi rfl;by_cases hlt:i<n
 ·have hb:Bd (i*A) (qpf i f):=Bd.sum λk hk=>hf k (by omega);rw [h i hlt _ _ hb,qyf (by omega) (by omega),qaE];exact ⟨hlt,rfl⟩
 ·have:i=n:=by omega
  subst this;rw [he,qar]
abbrev Mx:=List (List G)
def mx(n c:Nat)(f:Nat->Nat->G):Mx:=mkL n λi=>mkL c λk=>f i k
def ent(m:Mx)(i k:Nat):G:=(m.getD i []).getD k g0
def qFu(n c:Nat)(m:Mx):Prop:=m.length=n/\∀r∈m,r.length=c
theorem qh4(n c:Nat)(f:Nat->Nat->G):(mx n c f).length=n:=qad _ _
theorem qrw{n c i:Nat}(f:Nat->Nat->G)(h:i<n):(mx n c f)[i]?=some (mkL c λk=>f i k):=qbc _ h
theorem qDQ(n c:Nat)(f:Nat->Nat->G):qFu n c (mx n c f):=⟨qh4 _ _ _,λr hr=>by obtain ⟨i,hi,rfl⟩:=qu0 hr;exact qad _ _⟩
theorem qvf{n c:Nat}{m:Mx}(h:qFu n c m):m=mx n c (ent m):=by
 refine qqc h.1 λi hi=>?_;rw [qgc [] (by rw [h.1];exact hi)];congr 1
 refine qqc (h.2 _ (qbj (by rw [h.1];exact hi))) λk hk=>?_;rw [qgc g0 (by rw [h.2 _ (qbj (by rw [h.1];exact hi))];exact hk)];rfl
def BdM(B:Int)(m:Mx):Prop:=∀r∈m,∀z∈r,Bd B z
def BdF(B:Int)(n c:Nat)(f:Nat->Nat->G):Prop:=∀i k,i<n->k<c->Bd B (f i k)
theorem qq0{B:Int}{n c:Nat}{m:Mx}(h:BdM B m)(hr:qFu n c m):BdF B n c (ent m):=λi k hi hk=>by
 have h1:m.getD i []∈m:=qbj (by rw [hr.1];exact hi);exact h _ h1 _ (qbj (by rw [hr.2 _ h1];exact hk))
theorem qEH{B:Int}{n c:Nat}{f:Nat->Nat->G}:BdM B (mx n c f)↔BdF B n c f:=by
 constructor
 ·intro h i k hi hk;exact h _ (qzK (f:=λi=>mkL c λk=>f i k) hi) _ (qzK (f:=λk=>f i k) hk)
 ·intro h r hr z hz;obtain ⟨i,hi,rfl⟩:=qu0 hr;obtain ⟨k,hk,rfl⟩:=qu0 hz;exact h i k hi hk
theorem qtk(n c:Nat)(hn:n<=1000)(hc:c<=1000)(ask:Int->Int->Option G)(f:Nat->Nat->G)(h:∀i k,i<n->k<c->ask i k=some (f i k)) :
  ((mkS ([]:List G) (n:Int)).bind λx1 =>
   bif decide ((n:Int)=(n:Int))then
    (qab (λ(s3:(Mx×Int)) =>
      bif decide (s3.2<(x1.length:Int))then
       (qab (λ(s5:(Mx×Int)) =>
         bif decide (s5.2<(c:Int))then
          (idx s5.1 s3.2).bind λx6 =>
          (ask s3.2 s5.2).bind λx7 =>
          (idx s5.1 s3.2).bind λx8 =>
          (app x8 ([x7])).bind λx9 =>
          (idx s5.1 s3.2).bind λx10 =>
          bif decide (s3.2=s3.2)then
           let l11:Mx:=List.set s5.1 s3.2.toNat x9
           some (.inl (l11,IntKind.wrap .i64 (s5.2+1)))
          else
           none
         else
          some (.inr s5.1)) (s3.1,0)).bind λ(p12:Mx) =>
       some (.inl (p12,IntKind.wrap .i64 (s3.2+1)))
      else
       some (.inr s3.1)) (x1,0)).bind λ(p13:Mx) =>
    some p13
   else
    none)=some (mx n c f):=by
 have e1:decide ((n:Int)=(n:Int))=true:=by simp
 rw [qE3 (by omega),qb,e1,cond_true];have hlen:(List.replicate ((n:Int).toNat) ([]:List G)).length=n:=by simp
 rw [hlen];let row (i:Nat):List G:=mkL c λk=>f i k
 refine Ok.eq ?_;rw [qeo];refine (qbb n (λi (s:Mx×Int)=>s=(mkL n λj=>if j<i then row j else [],(i:Int))) (λr=>r=mx n c f) ?_ ?_).mono (λa ha=>by rw [ha];exact qcZ.2 rfl)
 ·congr 1
  refine (qqc (by simp) λk hk=>?_);simp [hk]
 ·rintro i s hi rfl;by_cases hlt:i<n
  ·have e0:decide ((i:Int)<(n:Int))=true:=by simp<;>omega
   simp only [e0,cond_true];rw [qrR];refine (qbb c (λk (s:Mx×Int)=>s=(mkL n λj=>if j<i then row j else if j=i then (row i).take k else [],(k:Int))) (λr=>r=mkL n λj=>if j<i+1 then row j else []) ?_ ?_).mono ?_
   ·congr 1
    refine qcc λj hj=>?_;by_cases c1:j<i
    ·rw [if_pos c1,if_pos c1]
    ·rw [if_neg c1,if_neg c1];simp
   ·rintro k s hk rfl;by_cases hlt2:k<c
    ·have e2:decide ((k:Int)<(c:Int))=true:=by simp<;>omega
     have hat:idx (mkL n λj=>if j<i then row j else if j=i then (row i).take k else []) (i:Int)=some ((row i).take k):=by
      rw [qaB (qbc _ hlt)];simp
     simp only [e2,cond_true,hat,qb,h i k hlt hlt2,decide_true,Int.toNat_natCast];have hrl:(row i).length=c:=qad _ _;rw [qdt (by simp [hrl];omega)];simp only [qb];rw [qyf (by omega) (by omega),qaE];refine ⟨hlt2,?_⟩;congr 1
     refine qqc (by simp [qad]) λj hj=>?_;rw [List.getElem?_set,qad];by_cases c1:i=j
     ·subst c1;rw [if_pos rfl,if_pos hj];simp only [Nat.lt_irrefl,if_false,if_true];rw [qir g0 (by rw [hrl];exact hlt2)];have:(row i).getD k g0=f i k:=qrv _ _ hlt2;rw [this]
     ·rw [if_neg c1,qbc _ hj];have:¬ j=i:=λe=>c1 e.symm;simp [this]
    ·have:k=c:=by omega
     subst this;have e2:decide ((k:Int)<(k:Int))=false:=by simp
     simp only [e2,cond_false];rw [qar];refine qcc λj hj=>?_;by_cases c1:j<i
     ·rw [if_pos c1,if_pos (by omega)]
     ·rw [if_neg c1];by_cases c2:j=i
      ·subst c2;rw [if_pos rfl,if_pos (by omega),List.take_of_length_le (by rw [show (row j).length=k from qad _ _];omega)]
      ·rw [if_neg c2,if_neg (by omega)]
   ·rintro r rfl;rw [qyf (by omega) (by omega),qaE];exact ⟨hlt,rfl⟩
  ·have:i=n:=by omega
   subst this;have e0:decide ((i:Int)<(i:Int))=false:=by simp
   simp only [e0,cond_false];rw [qar];exact qcc λj hj=>by rw [if_pos hj]
def skip(r i:Nat):Nat:=if i<r then i else i+1
def minor(f:Nat->Nat->G)(r c i k:Nat):G:=f (skip r i) (skip c k)
theorem qzO{α:Type}{n c:Nat}(f:Nat->α)(h:c<n):((mkL n f).take c).drop 0++((mkL n f).take n).drop (c+1)=mkL (n-1) λk=>f (skip c k):=by
 refine qqc (by simp [qad];omega) λk hk=>?_;have hl:(mkL n f).length=n:=qad _ _;rw [List.drop_zero,List.take_of_length_le (l:=mkL n f) (i:=n) (by omega)];unfold skip;by_cases c1:k<c
 ·rw [qk (by rw [List.length_take];omega),List.getElem?_take_of_lt c1,qbc f (by omega),if_pos c1]
 ·rw [List.getElem?_append_right (by rw [List.length_take];omega),List.length_take,hl,Nat.min_eq_left (by omega),List.getElem?_drop,if_neg c1];rw [show c+1+(k-c)=k+1 by omega,qbc f (by omega)]
def qi6:Nat->(Nat->Nat->G)->G
 |0,_=>g1
 |n+1,f=>qpf (n+1) λk=>if k % 2=1 then qrb (qd6 (f 0 k) (qi6 n (minor f 0 k)))else qd6 (f 0 k) (qi6 n (minor f 0 k))
theorem qex{B:Int}{n:Nat}{f:Nat->Nat->G}{r c:Nat}(h:BdF B (n+1) (n+1) f):BdF B n n (minor f r c):=λi k hi hk=>h _ _ (by unfold skip;split<;>omega) (by unfold skip;split<;>omega)
def dB(B:Int):Nat->Int
 |0=>1
 |n+1=>((n+1:Nat):Int)*(2*(B*dB B n))
theorem qkc{B:Int}(h:0<=B):∀n,0<=dB B n
 |0=>by simp [dB]
 |n+1=>by
  simp only [dB];have:=Int.mul_nonneg h (qkc h n);exact Int.mul_nonneg (by omega) (by omega)
theorem qnC{B:Int}(hB:0<=B):∀(n:Nat) (f:Nat->Nat->G),BdF B n n f->Bd (dB B n) (qi6 n f)
 |0,f,_=>qCK (by simp [dB])
 |n+1,f,h=>by
  simp only [qi6,dB];refine Bd.sum λk hk=>?_;have h1:=(h 0 k (by omega) hk).mul (qnC hB n _ (qex (r:=0) (c:=k) h));split
  ·exact h1.neg
  ·exact h1
def qz2(n:Nat)(f h:Nat->Nat->G)(i k:Nat):G:=qpf n λj=>qd6 (f i j) (h j k)
end Go.Tx
end
section
namespace Go.Proofs.YteiciemjanhdcaaGreatDoor
open Go Go.Ab Go.Tx
section
set_option maxRecDepth 100000
noncomputable section
abbrev yt1 : Ty := .pair I (.pair I .unit)
abbrev yt3 : Ty := .sl (.sl yt1)
abbrev yy4 : Type := Int×Int×Unit
abbrev yt6 : Ty := .pair yt3 (.pair yt3 (.pair I (.pair I (.pair I (.pair I (.pair yt3 .unit))))))
abbrev yt7 : Ty := .pair yt3 (.pair yt3 (.pair I yt1))
abbrev yy10 : Type := List (Int×Int×Int×Int×Unit)
abbrev yy2 : Type := List yy4
abbrev yy5 : Type := (List yy2)×(List yy2)×Int×Int×Int×Unit
abbrev yy8 : Type := (List yy2)×(List yy2)×Int×Int×Int×Int×(List yy2)×Unit
abbrev yy9 : Type := (List yy2)×Int
def KT(e:Entry)(j:TH)(l:List Entry)(n:Nat):Prop:=∀x:denP e.ps,fnT Tryz.prog Hn.hints j (qwJ l) n e.g (qfP e.ps x) e.rs=e.F x
abbrev OT(e:Entry):Prop:=qby Tryz.prog Hn.hints Lb e
theorem entK{e:Entry}{j:TH}{l:List Entry}{n:Nat}(h:TOk Tryz.prog Hn.hints Lb (qwJ l))(hj:∀g,j.lib g=false->Lb g=none)(k:KT e j l n):OT e:=qm8 h hj n e.g e.ps e.rs e.F k
def qaq(a0:Int)(a1:Int)(a2:Int):Option Bool :=
 (bif decide (a1<=a0)then
   some (decide (a0<=a2))
  else
   some false).bind λ(p1:Bool) =>
 some p1
def qcK:Entry:=⟨10,[.ty I,.ty I,.ty I],[(.bool,0)],λx=>qaq x.1 x.2.1 x.2.2⟩
def qrj:TH:=qcR [([],10,.region 1,{lv:=[⟨none,6,0⟩],ps:=[(.bool,0)],D:=⟨32704⟩})] []
theorem qrl:KT qcK qrj [] 40:=λx=>by kernel_rfl
theorem qfd:OT qcK:=entK qE hJ qrl
def qdS(a0:yy4)(a1:Int):Option Bool :=
 ((qaq a0.1 (w64 (0-a1)) a1).bind λx1 =>
  bif x1 then
   (qaq a0.2.1 (w64 (0-a1)) a1).bind λx2 =>
   some x2
  else
   some false).bind λ(p3:Bool) =>
 some p3
def qdH:Entry:=⟨77,[.ty yt1,.ty I],[(.bool,0)],λx=>qdS x.1 x.2⟩
def qn5:TH:=qcR [([],77,.region 1,{lv:=[⟨none,4,0⟩],ps:=[(.bool,0)],D:=⟨524272⟩,rs:=[⟨0,2⟩],Dn:=⟨520144⟩})] []
theorem qoe:KT qdH qn5 [qcK] 40:=λx=>by kernel_rfl
theorem qh9:OT qdH:=entK (qt qfd qE) hJ qoe
def qcU(a0:(List yy2)):Option (Int×Int) :=
 bif decide ((a0.length:Int)=0)then
  some (0,10)
 else
  bif decide ((a0.length:Int) > 3)then
   some (0,8)
  else
   (qab (λ(s2:Int) =>
     bif decide (s2<(a0.length:Int))then
      (idx a0 s2).bind λx3 =>
      bif !(decide ((x3.length:Int)=(a0.length:Int)))then
       some (.inr (.inr (s2,10)))
      else
       (qab (λ(s5:Int) =>
         (idx a0 s2).bind λx6 =>
         bif decide (s5<(x6.length:Int))then
          (idx a0 s2).bind λx7 =>
          (idx x7 s5).bind λx8 =>
          (qdS x8 (20:Int)).bind λx9 =>
          bif !x9 then
           some (.inr (.inr (.inr (.inr (s2,2)))))
          else
           some (.inl (w64 (s5+1)))
         else
          some (.inr (.inl ()))) 0).bind (Sum.elim (λ(p10:Unit) =>
       some (.inl (w64 (s2+1)))) some)
     else
      some (.inr (.inl ()))) 0).bind (Sum.elim (λ(p11:Unit) =>
   some (0,0)) some)
def qdl:Entry:=⟨129,[.ty yt3],[(I,0),(I,0)],λx=>qcU x⟩
def qjw:TH:=qcR [([],129,.block 0,{lv:=[],ps:=[],abn:=true,D:=⟨70368744173616⟩}),
 ([],129,.loop 0,{lv:=[⟨none,4,0⟩],ps:=[(I,0)],D:=⟨70368744173616⟩}),
 ([],129,.block 2,{lv:=[],ps:=[],abn:=true,D:=⟨70368609959968⟩}),
 ([],129,.loop 2,{lv:=[⟨none,5,0⟩],ps:=[(I,0)],D:=⟨70368609959968⟩})] []
theorem qjC:KT qdl qjw [qdH] 40:=λx=>by kernel_rfl
theorem qjH:OT qdl:=entK (qt qh9 qE) hJ qjC
def qbS(a0:(List yy2)):Option Int :=
 (qcU a0).bind λx1 =>
 some x1.2
def qcM:Entry:=⟨54,[.ty yt3],[(I,0)],λx=>qbS x⟩
def qlI:TH:=qcR [] []
theorem qlP:KT qcM qlI [qdl] 40:=λx=>by kernel_rfl
theorem qgE:OT qcM:=entK (qt qjH qE) hJ qlP
def qdT(a0:(List yy2))(a1:Int)(a2:Int):Option (List yy2) :=
 (qab (λ(s2:yy9) =>
   bif decide (s2.2<(a0.length:Int))then
    (bif decide (s2.2=a1)then
      some s2.1
     else
      (qab (λ(s4:(yy2×Int)) =>
        bif decide (s4.2<(a0.length:Int))then
         (bif !(decide (s4.2=a2))then
           (idx a0 s2.2).bind λx5 =>
           (idx x5 s4.2).bind λx6 =>
           (app s4.1 ([x6])).bind λx7 =>
           some x7
          else
           some s4.1).bind λ(p8:yy2) =>
         some (.inl (p8,w64 (s4.2+1)))
        else
         some (.inr s4.1)) ([],0)).bind λ(p9:yy2) =>
      (app s2.1 ([p9])).bind λx10 =>
      some x10).bind λ(p11:(List yy2)) =>
    some (.inl (p11,w64 (s2.2+1)))
   else
    some (.inr s2.1)) ([],0)).bind λ(p12:(List yy2)) =>
 some p12
def qfz:Entry:=⟨190,[.ty yt3,.ty I,.ty I],[(yt3,2)],λx=>qdT x.1 x.2.1 x.2.2⟩
def qn6:TH:=qcR [([],190,.block 0,{lv:=[⟨none,7,0⟩],ps:=[(yt3,2)],D:=⟨8796093022080⟩}),
 ([],190,.loop 0,{lv:=[⟨none,7,0⟩,⟨none,8,0⟩],ps:=[(yt3,2),(I,0)],D:=⟨8796093022080⟩}),
 ([],190,.block 1,{lv:=[⟨none,7,0⟩],ps:=[(yt3,2)],D:=⟨8796092892800⟩}),
 ([],190,.block 2,{lv:=[⟨none,9,0⟩],ps:=[((.sl yt1),1)],D:=⟨549754766848⟩}),
 ([],190,.loop 2,{lv:=[⟨none,9,0⟩,⟨none,10,0⟩],ps:=[((.sl yt1),1),(I,0)],D:=⟨549754766848⟩}),
 ([],190,.cond 28,{lv:=[⟨none,9,0⟩],ps:=[((.sl yt1),1)],D:=⟨549218943488⟩})] []
theorem qof:KT qfz qn6 [] 40:=λx=>by kernel_rfl
theorem qoy:OT qfz:=entK qE hJ qof
def qka(a0:yy4)(a1:yy4):Option yy4 :=
 some (w64 ((w64 (a0.1*a1.1))-(w64 (a0.2.1*a1.2.1))),w64 ((w64 (a0.1*a1.2.1))+(w64 (a0.2.1*a1.1))),())
def qjo:Entry:=⟨189,[.ty yt1,.ty yt1],[(yt1,0)],λx=>qka x.1 x.2⟩
def quO:TH:=qcR [] []
theorem quS:KT qjo quO [] 40:=λx=>by kernel_rfl
theorem qu3:OT qjo:=entK qE hJ quS
def qkb(a0:Int)(a1:Int):Option Int :=
 bif decide (a1=0)then
  none
 else
  (bif decide (a0.tmod a1<0)then
    some (w64 ((a0.tmod a1)+a1))
   else
    some (a0.tmod a1)).bind λ(p1:Int) =>
  some p1
def qlr:Entry:=⟨24,[.ty I,.ty I],[(I,0)],λx=>qkb x.1 x.2⟩
def qxr:TH:=qcR [([],24,.cond 9,{lv:=[⟨none,0,0⟩],ps:=[(I,0)],D:=⟨7169⟩})] []
theorem qxu:KT qlr qxr [] 40:=λx=>by kernel_rfl
theorem qxG:OT qlr:=entK qE hJ qxu
def qj9(a0:yy4)(a1:yy4):Option yy4 :=
 some (w64 (a0.1+a1.1),w64 (a0.2.1+a1.2.1),())
def qjn:Entry:=⟨191,[.ty yt1,.ty yt1],[(yt1,0)],λx=>qj9 x.1 x.2⟩
def quN:TH:=qcR [] []
theorem quR:KT qjn quN [] 40:=λx=>by kernel_rfl
theorem qu2:OT qjn:=entK qE hJ quR
def qfr(a0:yy4)(a1:yy4):Option yy4 :=
 some (w64 (a0.1-a1.1),w64 (a0.2.1-a1.2.1),())
def qgW:Entry:=⟨18,[.ty yt1,.ty yt1],[(yt1,0)],λx=>qfr x.1 x.2⟩
def quP:TH:=qcR [] []
theorem quT:KT qgW quP [] 40:=λx=>by kernel_rfl
theorem qos:OT qgW:=entK qE hJ quT
def qbh(n:Nat):(List yy2)->Option yy4 :=
 Nat.rec (motive:=λ_=>(List yy2)->Option yy4) (λ_=>none) (λ_ ih a0 =>
 bif decide ((a0.length:Int)=0)then
  some (1,0,())
 else
  (qab (λ(s2:(Int×Int×Int)) =>
    bif decide (s2.1<(a0.length:Int))then
     (idx a0 0).bind λx3 =>
     (idx x3 s2.1).bind λx4 =>
     (qdT a0 (0:Int) s2.1).bind λx5 =>
     (ih x5).bind λx6 =>
     (qka x4 x6).bind λx7 =>
     (qkb s2.1 (2:Int)).bind λx8 =>
     (bif decide (x8=0)then
       (qj9 (s2.2.1,s2.2.2,()) x7).bind λx9 =>
       some (x9.1,x9.2.1)
      else
       (qfr (s2.2.1,s2.2.2,()) x7).bind λx10 =>
       some (x10.1,x10.2.1)).bind λ(p11:(Int×Int)) =>
     some (.inl (w64 (s2.1+1),p11.1,p11.2))
    else
     some (.inr (s2.2.1,s2.2.2))) (0,0,0)).bind λ(p12:(Int×Int)) =>
  some (p12.1,p12.2,())) n
def qbR:(List yy2)->Option yy4:=qbh 12
def qfy:Entry:=⟨130,[.ty yt3],[(yt1,0)],λx=>qbR x⟩
def qjx:TH:=qcR [([],130,.block 0,{lv:=[⟨some 0,3,0⟩,⟨some 0,3,1⟩],ps:=[(I,0),(I,0)],D:=⟨68719475760⟩,wr:=[⟨0,3⟩,⟨0,5⟩]}),
 ([],130,.loop 0,{lv:=[⟨none,4,0⟩,⟨some 0,3,0⟩,⟨some 0,3,1⟩],ps:=[(I,0),(I,0),(I,0)],D:=⟨68719475760⟩,wr:=[⟨0,3⟩,⟨0,5⟩],rs:=[⟨0,5⟩],Dn:=⟨68719475728⟩}),
 ([],130,.cond 29,{lv:=[⟨some 0,3,0⟩,⟨some 0,3,1⟩],ps:=[(I,0),(I,0)],D:=⟨67645734912⟩,wr:=[⟨0,3⟩]})] []
def qaw(n:Nat):Entry:=⟨130,[.ty yt3],[(yt1,0)],λx=>qbh n x⟩
theorem qjD(n:Nat)(x:denP (qaw (n+1)).ps):fnT Tryz.prog Hn.hints qjx (qwJ [(qaw n),qjn,qjo,qgW,qlr,qfz]) 40 130 (qfP (qaw (n+1)).ps x) (qaw (n+1)).rs=(qaw (n+1)).F x:=by kernel_rfl
theorem qeP:∀n,qby Tryz.prog Hn.hints Lb (qaw n)
 |0=>λx y h=>by cases (show none=some y from h)
 |n+1=>qm8 (qt (qeP n) (qt qu2 (qt qu3 (qt qos (qt qxG (qt qoy qE)))))) hJ 40 _ _ _ _ (qjD n)
theorem qjI:qby Tryz.prog Hn.hints Lb qfy:=qeP 12
def qdg(a0:(List yy2)):Option Int :=
 (qbS a0).bind λx1 =>
 bif !(decide (x1=0))then
  some x1
 else
  (qbR a0).bind λx2 =>
  let v3:Bool:=(bif decide (x2.1=0)then (bif decide (x2.2.1=0)then true else false)else false)
  bif v3 then
   some 11
  else
   some 0
def qdF:Entry:=⟨55,[.ty yt3],[(I,0)],λx=>qdg x⟩
def qkB:TH:=qcR [] []
theorem qkK:KT qdF qkB [qfy,qcM] 40:=λx=>by kernel_rfl
theorem qkS:OT qdF:=entK (qt qjI (qt qgE qE)) hJ qkK
def qdv(a0:Int):Option Int :=
 some (max a0 (w64 (0-a0)))
def qgX:Entry:=⟨19,[.ty I],[(I,0)],λx=>qdv x⟩
def quQ:TH:=qcR [] []
theorem quU:KT qgX quQ [] 40:=λx=>by kernel_rfl
theorem qou:OT qgX:=entK qE hJ quU
def qm6(a0:Int)(a1:Int):Option Int :=
 (qab (λ(s2:(Int×Int)) =>
   bif !(decide (s2.2=0))then
    bif decide (s2.2=0)then
     none
    else
     some (.inl (s2.2,s2.1.tmod s2.2))
   else
    some (.inr s2.1)) (a0,a1)).bind λ(p3:Int) =>
 (qdv p3).bind λx4 =>
 some x4
def qlq:Entry:=⟨116,[.ty I,.ty I],[(I,0)],λx=>qm6 x.1 x.2⟩
def qxq:TH:=qcR [([],116,.block 0,{lv:=[⟨none,0,0⟩],ps:=[(I,0)],D:=⟨2019⟩}),
 ([],116,.loop 0,{lv:=[⟨none,0,0⟩,⟨none,1,0⟩],ps:=[(I,0),(I,0)],D:=⟨2019⟩})] []
theorem qxt:KT qlq qxq [qgX] 40:=λx=>by kernel_rfl
theorem qxF:OT qlq:=entK (qt qou qE) hJ qxt
def qe7(a0:yy4):Option Bool :=
 (bif decide (a0.2.1 > 0)then
   (qm6 a0.1 a0.2.1).bind λx1 =>
   some (decide (x1=1))
  else
   some false).bind λ(p2:Bool) =>
 some p2
def qfu:Entry:=⟨148,[.ty yt1],[(.bool,0)],λx=>qe7 x⟩
def qnY:TH:=qcR [([],148,.region 1,{lv:=[⟨none,2,0⟩],ps:=[(.bool,0)],D:=⟨16380⟩,rs:=[⟨0,1⟩],Dn:=⟨15732⟩})] []
theorem qn7:KT qfu qnY [qlq] 40:=λx=>by kernel_rfl
theorem qot:OT qfu:=entK (qt qxF qE) hJ qn7
def qf8(a0:yy5):Option Int :=
 (qbS a0.1).bind λx1 =>
 bif !(decide (x1=0))then
  some x1
 else
  (qbS a0.2.1).bind λx2 =>
  bif !(decide (x2=0))then
   some x2
  else
   bif !(decide ((a0.2.1.length:Int)=(a0.1.length:Int)))then
    some 13
   else
    (qdg a0.2.1).bind λx3 =>
    bif !(decide (x3=0))then
     some x3
    else
     (qe7 (a0.2.2.1,a0.2.2.2.1,())).bind λx4 =>
     bif !x4 then
      some 3
     else
      ((qaq a0.2.2.1 (0:Int) a0.2.2.2.1).bind λx5 =>
       bif !x5 then
        some true
       else
        bif decide (a0.2.2.2.1 > 100)then
         some true
        else
         (qaq a0.2.2.2.2.1 (0:Int) (1000:Int)).bind λx6 =>
         some (!x6)).bind λ(p7:Bool) =>
      bif p7 then
       some 2
      else
       some 0
def qgf:Entry:=⟨67,[.ty yt7],[(I,0)],λx=>qf8 x⟩
def qpo:TH:=qcR [([],67,.region 14,{lv:=[⟨none,54,0⟩],ps:=[(.bool,0)],D:=⟨36028762659225600⟩,rs:=[⟨0,1⟩],Dn:=⟨34849158481313792⟩})] []
theorem qps:KT qgf qpo [qfu,qcK,qdF,qcM] 40:=λx=>by kernel_rfl
theorem qpv:OT qgf:=entK (qt qot (qt qfd (qt qkS (qt qgE qE)))) hJ qps
def qbx(a0:yy2)(a1:Int):Option Int :=
 bif !(decide ((a0.length:Int)=a1))then
  some 10
 else
  (qab (λ(s2:Int) =>
    bif decide (s2<(a0.length:Int))then
     (idx a0 s2).bind λx3 =>
     (qdS x3 (10000:Int)).bind λx4 =>
     bif !x4 then
      some (.inr (.inr 2))
     else
      some (.inl (w64 (s2+1)))
    else
     some (.inr (.inl ()))) 0).bind (Sum.elim (λ(p5:Unit) =>
  some 0) some)
def qdG:Entry:=⟨17,[.ty (.sl yt1),.ty I],[(I,0)],λx=>qbx x.1 x.2⟩
def qn4:TH:=qcR [([],17,.block 0,{lv:=[],ps:=[],abn:=true,D:=⟨4193312⟩}),
 ([],17,.loop 0,{lv:=[⟨none,5,0⟩],ps:=[(I,0)],D:=⟨4193312⟩})] []
theorem qod:KT qdG qn4 [qdH] 40:=λx=>by kernel_rfl
theorem qh8:OT qdG:=entK (qt qh9 qE) hJ qod
def qeA(a0:yy5)(a1:yy2)(a2:yy2):Option Int :=
 (qf8 a0).bind λx1 =>
 bif !(decide (x1=0))then
  some x1
 else
  (qbx a1 (a0.1.length:Int)).bind λx2 =>
  bif !(decide (x2=0))then
   some x2
  else
   (qbx a2 (a0.1.length:Int)).bind λx3 =>
   some x3
def qeX:Entry:=⟨9,[.ty yt7,.ty (.sl yt1),.ty (.sl yt1)],[(I,0)],λx=>qeA x.1 x.2.1 x.2.2⟩
def qmQ:TH:=qcR [] []
theorem qmU:KT qeX qmQ [qdG,qgf] 40:=λx=>by kernel_rfl
theorem qmY:OT qeX:=entK (qt qh8 (qt qpv qE)) hJ qmU
def qO(a0:yy2):Option yy2 :=
 (app [] a0).bind λx1 =>
 some x1
def qbs:Entry:=⟨13,[.ty (.sl yt1)],[((.sl yt1),1)],λx=>qO x⟩
def qkt:TH:=qcR [] []
theorem qkC:KT qbs qkt [] 40:=λx=>by kernel_rfl
theorem qdM:OT qbs:=entK qE hJ qkC
def qbp(a0:(List yy2)):Option (List yy2) :=
 (qab (λ(s3:yy9) =>
   bif decide (s3.2<(a0.length:Int))then
    (idx a0 s3.2).bind λx4 =>
    (qO x4).bind λx5 =>
    (app s3.1 ([x5])).bind λx6 =>
    some (.inl (x6,w64 (s3.2+1)))
   else
    some (.inr s3.1)) ([],0)).bind λ(p7:(List yy2)) =>
 some p7
def qcp:Entry:=⟨47,[.ty yt3],[(yt3,2)],λx=>qbp x⟩
def qkA:TH:=qcR [([],47,.block 0,{lv:=[⟨none,3,0⟩],ps:=[(yt3,2)],D:=⟨524280⟩}),
 ([],47,.loop 0,{lv:=[⟨none,3,0⟩,⟨none,4,0⟩],ps:=[(yt3,2),(I,0)],D:=⟨524280⟩})] []
theorem qkJ:KT qcp qkA [qbs] 40:=λx=>by kernel_rfl
theorem qf5:OT qcp:=entK (qt qdM qE) hJ qkJ
def qb4(a0:yy5):Option yy5 :=
 (qbp a0.1).bind λx1 =>
 (qbp a0.2.1).bind λx2 =>
 some (x1,x2,a0.2.2.1,a0.2.2.2.1,a0.2.2.2.2.1,())
def qfx:Entry:=⟨12,[.ty yt7],[(yt7,0)],λx=>qb4 x⟩
def qn3:TH:=qcR [] []
theorem qoc:KT qfx qn3 [qcp] 40:=λx=>by kernel_rfl
theorem qox:OT qfx:=entK (qt qf5 qE) hJ qoc
def qz(a0:Bool)(a1:Int):Option Int :=
 bif a0 then
  some 0
 else
  some a1
def qbe:Entry:=⟨70,[.ty .bool,.ty I],[(I,0)],λx=>qz x.1 x.2⟩
def qpm:TH:=qcR [] []
theorem qpq:KT qbe qpm [] 40:=λx=>by kernel_rfl
theorem qcj:OT qbe:=entK qE hJ qpq
def qQ(a0:(List Int)):Option Int :=
 (qab (λ(s2:Int) =>
   bif decide (s2<(a0.length:Int))then
    (idx a0 s2).bind λx3 =>
    bif !(decide (x3=0))then
     some (.inr (.inr x3))
    else
     some (.inl (w64 (s2+1)))
   else
    some (.inr (.inl ()))) 0).bind (Sum.elim (λ(p4:Unit) =>
 some 0) some)
def qa1:Entry:=⟨69,[.ty (.sl I)],[(I,0)],λx=>qQ x⟩
def qrk:TH:=qcR [([],69,.block 0,{lv:=[],ps:=[],abn:=true,D:=⟨32656⟩}),
 ([],69,.loop 0,{lv:=[⟨none,7,0⟩],ps:=[(I,0)],D:=⟨32656⟩})] []
theorem qrm:KT qa1 qrk [] 40:=λx=>by kernel_rfl
theorem qbw:OT qa1:=entK qE hJ qrm
def q6(a0:Int)(a1:Int)(a2:Int):Option Bool :=
 (bif decide (a1<=a0)then
   some (decide (a0<=a2))
  else
   some false).bind λ(p1:Bool) =>
 some p1
def qci:Entry:=⟨71,[.ty I,.ty I,.ty I],[(.bool,0)],λx=>q6 x.1 x.2.1 x.2.2⟩
def qpn:TH:=qcR [([],71,.region 1,{lv:=[⟨none,6,0⟩],ps:=[(.bool,0)],D:=⟨32704⟩})] []
theorem qpr:KT qci qpn [] 40:=λx=>by kernel_rfl
theorem qey:OT qci:=entK qE hJ qpr
def qdz(a0:Int)(a1:Int):Option Bool :=
 (q6 a0 (w64 (0-a1)) a1).bind λx1 =>
 some x1
def qfv:Entry:=⟨162,[.ty I,.ty I],[(.bool,0)],λx=>qdz x.1 x.2⟩
def qn0:TH:=qcR [] []
theorem qn9:KT qfv qn0 [qci] 40:=λx=>by kernel_rfl
theorem qov:OT qfv:=entK (qt qey qE) hJ qn9
def qau(a0:yy4)(a1:Int):Option Bool :=
 ((qdz a0.1 a1).bind λx1 =>
  bif x1 then
   (qdz a0.2.1 a1).bind λx2 =>
   some x2
  else
   some false).bind λ(p3:Bool) =>
 some p3
def qa5:Entry:=⟨84,[.ty yt1,.ty I],[(.bool,0)],λx=>qau x.1 x.2⟩
def qhS:TH:=qcR [([],84,.region 1,{lv:=[⟨none,4,0⟩],ps:=[(.bool,0)],D:=⟨32752⟩,rs:=[⟨0,2⟩],Dn:=⟨31696⟩})] []
theorem qhV:KT qa5 qhS [qfv] 40:=λx=>by kernel_rfl
theorem qcD:OT qa5:=entK (qt qov qE) hJ qhV
def qbY(a0:yy4):Option Bool :=
 (qau a0 (20:Int)).bind λx1 =>
 some (!x1)
def qcx:Entry:=⟨240,[.ty yt1],[(.bool,0)],λx=>qbY x⟩
def qhR:TH:=qcR [] []
theorem qhU:KT qcx qhR [qa5] 40:=λx=>by kernel_rfl
theorem qh6:OT qcx:=entK (qt qcD qE) hJ qhU
def qM(a0:yy2):Option Int :=
 (qab (λ(s2:Int) =>
   bif decide (s2<(a0.length:Int))then
    (idx a0 s2).bind λx3 =>
    (qbY x3).bind λx4 =>
    bif x4 then
     some (.inr (.inr s2))
    else
     some (.inl (w64 (s2+1)))
   else
    some (.inr (.inl ()))) 0).bind (Sum.elim (λ(p5:Unit) =>
 some (-1)) some)
def qJ:Entry:=⟨208,[.ty (.sl yt1),.fn 240 []],[(I,0)],λx=>qM x.1⟩
def qaG:TH:=qcR [([],208,.block 0,{lv:=[],ps:=[],abn:=true,D:=⟨524064⟩}),
 ([],208,.loop 0,{lv:=[⟨none,8,0⟩],ps:=[(I,0)],D:=⟨524064⟩})] []
theorem qaH:KT qJ qaG [qcx] 40:=λx=>by kernel_rfl
theorem qaI:OT qJ:=entK (qt qh6 qE) hJ qaH
def qA(a0:yy2):Option Bool :=
 (qM a0).bind λx1 =>
 some (decide (x1>=0))
def qH:Entry:=⟨153,[.ty (.sl yt1),.fn 240 []],[(.bool,0)],λx=>qA x.1⟩
def qay:TH:=qcR [] []
theorem qaz:KT qH qay [qJ] 40:=λx=>by kernel_rfl
theorem qaA:OT qH:=entK (qt qaI qE) hJ qaz
def qcG(a0:(List yy2)):Option (Int×Int) :=
 (qz (decide ((a0.length:Int) > 0)) (10:Int)).bind λx1 =>
 (qz (decide ((a0.length:Int)<=3)) (8:Int)).bind λx2 =>
 (qQ ([x1,x2])).bind λx3 =>
 bif !(decide (x3=0))then
  some (0,x3)
 else
  (qab (λ(s5:Int) =>
    bif decide (s5<(a0.length:Int))then
     (idx a0 s5).bind λx6 =>
     (qA x6).bind λx7 =>
     (qz (decide ((x6.length:Int)=(a0.length:Int))) (10:Int)).bind λx8 =>
     (qz (!x7) (2:Int)).bind λx9 =>
     (qQ ([x8,x9])).bind λx10 =>
     bif !(decide (x10=0))then
      some (.inr (.inr (s5,x10)))
     else
      some (.inl (w64 (s5+1)))
    else
     some (.inr (.inl ()))) 0).bind (Sum.elim (λ(p11:Unit) =>
  some (0,0)) some)
def qdj:Entry:=⟨188,[.ty yt3],[(I,0),(I,0)],λx=>qcG x⟩
def qjs:TH:=qcR [([],188,.block 0,{lv:=[],ps:=[],abn:=true,D:=⟨140737471578592⟩}),
 ([],188,.loop 0,{lv:=[⟨none,24,0⟩],ps:=[(I,0)],D:=⟨140737471578592⟩})] []
theorem qjy:KT qdj qjs [qa1,qbe,qH] 40:=λx=>by kernel_rfl
theorem qjF:OT qdj:=entK (qt qbw (qt qcj (qt qaA qE))) hJ qjy
def qbf(a0:(List yy2)):Option Int :=
 (qcG a0).bind λx1 =>
 some x1.2
def qbM:Entry:=⟨125,[.ty yt3],[(I,0)],λx=>qbf x⟩
def qlF:TH:=qcR [] []
theorem qlM:KT qbM qlF [qdj] 40:=λx=>by kernel_rfl
theorem qem:OT qbM:=entK (qt qjF qE) hJ qlM
def qcw(a0:(List yy2))(a1:Int)(a2:Int):Option yy4 :=
 (idx a0 a1).bind λx1 =>
 (idx x1 a2).bind λx2 =>
 some x2
def qeg:Entry:=⟨145,[.ty yt3,.ty I,.ty I],[(yt1,0)],λx=>qcw x.1 x.2.1 x.2.2⟩
def qlG:TH:=qcR [] []
theorem qlN:KT qeg qlG [] 40:=λx=>by kernel_rfl
theorem qlW:OT qeg:=entK qE hJ qlN
def qaf(a0:(List yy2))(a1:Int)(a2:Int):Option (List yy2) :=
 (qab (λ(s2:yy9) =>
   bif decide (s2.2<(a0.length:Int))then
    (idx a0 s2.2).bind λx3 =>
    (bif !(decide (s2.2=a1))then
      (slc x3 0 a2).bind λx4 =>
      bif decide (a2=a2)then
       (slc x3 (w64 (a2+1)) (x3.length:Int)).bind λx5 =>
       (app x4 x5).bind λx6 =>
       (app s2.1 ([x6])).bind λx7 =>
       some x7
      else
       none
     else
      some s2.1).bind λ(p8:(List yy2)) =>
    some (.inl (p8,w64 (s2.2+1)))
   else
    some (.inr s2.1)) ([],0)).bind λ(p9:(List yy2)) =>
 some p9
def qbi:Entry:=⟨197,[.ty yt3,.ty I,.ty I],[(yt3,2001)],λx=>qaf x.1 x.2.1 x.2.2⟩
def qhx:TH:=qcR [([],197,.block 0,{lv:=[⟨none,7,0⟩],ps:=[(yt3,2001)],D:=⟨8589931392⟩}),
 ([],197,.loop 0,{lv:=[⟨none,7,0⟩,⟨none,12,0⟩],ps:=[(yt3,2001),(I,0)],D:=⟨8589931392⟩}),
 ([],197,.cond 19,{lv:=[⟨none,7,0⟩],ps:=[(yt3,2001)],D:=⟨4293918848⟩})] []
theorem qhA:KT qbi qhx [] 40:=λx=>by kernel_rfl
theorem qd8:OT qbi:=entK qE hJ qhA
def qaR(a0:yy4)(a1:yy4):Option yy4 :=
 some (w64 ((w64 (a0.1*a1.1))-(w64 (a0.2.1*a1.2.1))),w64 ((w64 (a0.1*a1.2.1))+(w64 (a0.2.1*a1.1))),())
def qaT:Entry:=⟨179,[.ty yt1,.ty yt1],[(yt1,0)],λx=>qaR x.1 x.2⟩
def qjv:TH:=qcR [] []
theorem qjB:KT qaT qjv [] 40:=λx=>by kernel_rfl
theorem qb2:OT qaT:=entK qE hJ qjB
def qae(a0:yy4)(a1:yy4):Option yy4 :=
 some (w64 (a0.1-a1.1),w64 (a0.2.1-a1.2.1),())
def qaS:Entry:=⟨83,[.ty yt1,.ty yt1],[(yt1,0)],λx=>qae x.1 x.2⟩
def qju:TH:=qcR [] []
theorem qjA:KT qaS qju [] 40:=λx=>by kernel_rfl
theorem qb1:OT qaS:=entK qE hJ qjA
def qbo(a0:yy4)(a1:yy4):Option yy4 :=
 some (w64 (a0.1+a1.1),w64 (a0.2.1+a1.2.1),())
def qbt:Entry:=⟨150,[.ty yt1,.ty yt1],[(yt1,0)],λx=>qbo x.1 x.2⟩
def qkz:TH:=qcR [] []
theorem qkI:KT qbt qkz [] 40:=λx=>by kernel_rfl
theorem qdO:OT qbt:=entK qE hJ qkI
def qap(n:Nat):(List yy2)->Option yy4 :=
 Nat.rec (motive:=λ_=>(List yy2)->Option yy4) (λ_=>none) (λ_ ih a0 =>
 bif decide ((a0.length:Int)=0)then
  some (1,0,())
 else
  (qab (λ(s2:(Int×Int×Int)) =>
    bif decide (s2.1<(a0.length:Int))then
     (qcw a0 (0:Int) s2.1).bind λx3 =>
     (qaf a0 (0:Int) s2.1).bind λx4 =>
     (ih x4).bind λx5 =>
     (qaR x3 x5).bind λx6 =>
     (bif decide (s2.1.tmod 2=1)then
       (qae (0,0,()) x6).bind λx7 =>
       some (x7.1,x7.2.1)
      else
       some (x6.1,x6.2.1)).bind λ(p8:(Int×Int)) =>
     (qbo (s2.2.1,s2.2.2,()) (p8.1,p8.2,())).bind λx9 =>
     some (.inl (w64 (s2.1+1),x9.1,x9.2.1))
    else
     some (.inr (s2.2.1,s2.2.2))) (0,0,0)).bind λ(p10:(Int×Int)) =>
  some (p10.1,p10.2,())) n
def qah:(List yy2)->Option yy4:=qap 12
def qbl:Entry:=⟨137,[.ty yt3],[(yt1,0)],λx=>qah x⟩
def qfM:TH:=qcR [([],137,.block 0,{lv:=[⟨some 0,3,0⟩,⟨some 0,3,1⟩],ps:=[(I,0),(I,0)],D:=⟨8589930544⟩,wr:=[⟨0,3⟩,⟨0,5⟩]}),
 ([],137,.loop 0,{lv:=[⟨none,12,0⟩,⟨some 0,3,0⟩,⟨some 0,3,1⟩],ps:=[(I,0),(I,0),(I,0)],D:=⟨8589930544⟩,wr:=[⟨0,3⟩,⟨0,5⟩],rs:=[⟨0,5⟩],Dn:=⟨8589930512⟩}),
 ([],137,.cond 25,{lv:=[⟨some 0,5,0⟩,⟨some 0,5,1⟩],ps:=[(I,0),(I,0)],D:=⟨469762048⟩,wr:=[⟨0,5⟩]})] []
def q4(n:Nat):Entry:=⟨137,[.ty yt3],[(yt1,0)],λx=>qap n x⟩
theorem qfN(n:Nat)(x:denP (q4 (n+1)).ps):fnT Tryz.prog Hn.hints qfM (qwJ [(q4 n),qeg,qbi,qaS,qbt,qaT]) 40 137 (qfP (q4 (n+1)).ps x) (q4 (n+1)).rs=(q4 (n+1)).F x:=by kernel_rfl
theorem qcs:∀n,qby Tryz.prog Hn.hints Lb (q4 n)
 |0=>λx y h=>by cases (show none=some y from h)
 |n+1=>qm8 (qt (qcs n) (qt qlW (qt qd8 (qt qb1 (qt qdO (qt qb2 qE)))))) hJ 40 _ _ _ _ (qfN n)
theorem qcY:qby Tryz.prog Hn.hints Lb qbl:=qcs 12
def qca(a0:yy4):Option yy4 :=
 some (a0.1,w64 (0-a0.2.1),())
def qco:Entry:=⟨180,[.ty yt1],[(yt1,0)],λx=>qca x⟩
def qky:TH:=qcR [] []
theorem qkH:KT qco qky [] 40:=λx=>by kernel_rfl
theorem qf4:OT qco:=entK qE hJ qkH
def qaO(a0:Int)(a1:Int)(a2:(List yy2))(a3:yy4):Option yy4 :=
 (qaf a2 a1 a0).bind λx1 =>
 (qah x1).bind λx2 =>
 (qca a3).bind λx3 =>
 (qaR x2 x3).bind λx4 =>
 bif decide ((w64 (a0+a1)).tmod 2=1)then
  (qae (0,0,()) x4).bind λx5 =>
  some x5
 else
  some x4
def qbN:Entry:=⟨196,[.ty I,.ty I,.ptr yt3,.ptr yt1],[(yt1,0)],λx=>qaO x.1 x.2.1 x.2.2.1 x.2.2.2⟩
def qgq:TH:=qcR [] []
theorem qgs:KT qbN qgq [qbl,qbi,qco,qaS,qaT] 40:=λx=>by kernel_rfl
theorem qgB:OT qbN:=entK (qt qcY (qt qd8 (qt qf4 (qt qb1 (qt qb2 qE))))) hJ qgs
def qac(a0:Int)(a1:Int)(a2:(List yy2))(a3:yy4):Option (List yy2) :=
 (mkS ([]:yy2) a0).bind λx1 =>
 bif decide (a0=a0)then
  (qab (λ(s3:yy9) =>
    bif decide (s3.2<(x1.length:Int))then
     (qab (λ(s5:yy9) =>
       bif decide (s5.2<a1)then
        (idx s5.1 s3.2).bind λx6 =>
        (qaO s3.2 s5.2 a2 a3).bind λx7 =>
        (idx s5.1 s3.2).bind λx8 =>
        (app x8 ([x7])).bind λx9 =>
        (idx s5.1 s3.2).bind λx10 =>
        bif decide (s3.2=s3.2)then
         let l11:(List yy2):=List.set s5.1 s3.2.toNat x9
         some (.inl (l11,w64 (s5.2+1)))
        else
         none
       else
        some (.inr s5.1)) (s3.1,0)).bind λ(p12:(List yy2)) =>
     some (.inl (p12,w64 (s3.2+1)))
    else
     some (.inr s3.1)) (x1,0)).bind λ(p13:(List yy2)) =>
  some p13
 else
  none
def qal:Entry:=⟨143,[.ty I,.ty I,.fn 196 [.p yt3,.p yt1]],[(yt3,2)],λx=>qac x.1 x.2.1 x.2.2.1 x.2.2.2⟩
def qcO:TH:=qcR [([],143,.block 0,{lv:=[⟨none,7,0⟩],ps:=[(yt3,2)],D:=⟨68719467392⟩}),
 ([],143,.loop 0,{lv:=[⟨none,7,0⟩,⟨none,14,0⟩],ps:=[(yt3,2),(I,0)],D:=⟨68719467392⟩}),
 ([],143,.block 2,{lv:=[⟨none,7,0⟩],ps:=[(yt3,2)],D:=⟨34359476864⟩}),
 ([],143,.loop 2,{lv:=[⟨none,7,0⟩,⟨none,18,0⟩],ps:=[(yt3,2),(I,0)],D:=⟨34359476864⟩})] []
theorem qcP:KT qal qcO [qbN] 40:=λx=>by kernel_rfl
theorem qcS:OT qal:=entK (qt qgB qE) hJ qcP
def qaD(a0:(List Int)):Option Int :=
 (qab (λ(s2:(Int×Int)) =>
   bif decide (s2.2<(a0.length:Int))then
    (idx a0 s2.2).bind λx3 =>
    (qab (λ(s5:(Int×Int)) =>
      bif !(decide (s5.2=0))then
       bif decide (s5.2=0)then
        none
       else
        some (.inl (s5.2,s5.1.tmod s5.2))
      else
       some (.inr s5.1)) (s2.1,x3)).bind λ(p6:Int) =>
    some (.inl (p6,w64 (s2.2+1)))
   else
    some (.inr s2.1)) (0,0)).bind λ(p7:Int) =>
 some (max p7 (w64 (0-p7)))
def qdD:Entry:=⟨198,[.ty (.sl I)],[(I,0)],λx=>qaD x⟩
def qnZ:TH:=qcR [([],198,.block 0,{lv:=[⟨none,3,0⟩],ps:=[(I,0)],D:=⟨524072⟩}),
 ([],198,.loop 0,{lv:=[⟨none,3,0⟩,⟨none,8,0⟩],ps:=[(I,0),(I,0)],D:=⟨524072⟩}),
 ([],198,.block 2,{lv:=[⟨none,3,0⟩],ps:=[(I,0)],D:=⟨258088⟩}),
 ([],198,.loop 2,{lv:=[⟨none,3,0⟩,⟨none,5,0⟩],ps:=[(I,0),(I,0)],D:=⟨258088⟩})] []
theorem qn8:KT qdD qnZ [] 40:=λx=>by kernel_rfl
theorem qh7:OT qdD:=entK qE hJ qn8
def qb9(a0:Int)(a1:Int)(a2:(List yy2))(a3:Int):Option yy4 :=
 (idx a2 a0).bind λx1 =>
 (idx x1 a1).bind λx2 =>
 bif decide (a3=0)then
  none
 else
  (idx a2 a0).bind λx3 =>
  (idx x3 a1).bind λx4 =>
  bif decide (a3=0)then
   none
  else
   some (w64 (x2.1.tdiv a3),w64 (x4.2.1.tdiv a3),())
def qdE:Entry:=⟨199,[.ty I,.ty I,.ptr yt3,.ptr I],[(yt1,0)],λx=>qb9 x.1 x.2.1 x.2.2.1 x.2.2.2⟩
def qkx:TH:=qcR [] []
theorem qkG:KT qdE qkx [] 40:=λx=>by kernel_rfl
theorem qkR:OT qdE:=entK qE hJ qkG
def qas(a0:Int)(a1:Int)(a2:(List yy2))(a3:Int):Option (List yy2) :=
 (mkS ([]:yy2) a0).bind λx1 =>
 bif decide (a0=a0)then
  (qab (λ(s3:yy9) =>
    bif decide (s3.2<(x1.length:Int))then
     (qab (λ(s5:yy9) =>
       bif decide (s5.2<a1)then
        (idx s5.1 s3.2).bind λx6 =>
        (qb9 s3.2 s5.2 a2 a3).bind λx7 =>
        (idx s5.1 s3.2).bind λx8 =>
        (app x8 ([x7])).bind λx9 =>
        (idx s5.1 s3.2).bind λx10 =>
        bif decide (s3.2=s3.2)then
         let l11:(List yy2):=List.set s5.1 s3.2.toNat x9
         some (.inl (l11,w64 (s5.2+1)))
        else
         none
       else
        some (.inr s5.1)) (s3.1,0)).bind λ(p12:(List yy2)) =>
     some (.inl (p12,w64 (s3.2+1)))
    else
     some (.inr s3.1)) (x1,0)).bind λ(p13:(List yy2)) =>
  some p13
 else
  none
def qaK:Entry:=⟨143,[.ty I,.ty I,.fn 199 [.p yt3,.p I]],[(yt3,2)],λx=>qas x.1 x.2.1 x.2.2.1 x.2.2.2⟩
def qd2:TH:=qcR [([],143,.block 0,{lv:=[⟨none,7,0⟩],ps:=[(yt3,2)],D:=⟨68719467392⟩}),
 ([],143,.loop 0,{lv:=[⟨none,7,0⟩,⟨none,14,0⟩],ps:=[(yt3,2),(I,0)],D:=⟨68719467392⟩}),
 ([],143,.block 2,{lv:=[⟨none,7,0⟩],ps:=[(yt3,2)],D:=⟨34359476864⟩}),
 ([],143,.loop 2,{lv:=[⟨none,7,0⟩,⟨none,18,0⟩],ps:=[(yt3,2),(I,0)],D:=⟨34359476864⟩})] []
theorem qd3:KT qaK qd2 [qdE] 40:=λx=>by kernel_rfl
theorem qd4:OT qaK:=entK (qt qkR qE) hJ qd3
def qes(a0:(List yy2))(a1:Int):Option (Int×(List yy2)×Unit) :=
 (qab (λ(s2:(Int×Int)) =>
   bif decide (s2.1<(a0.length:Int))then
    (idx a0 s2.1).bind λx3 =>
    (qab (λ(s5:(Int×Int)) =>
      bif decide (s5.1<(x3.length:Int))then
       (idx x3 s5.1).bind λx6 =>
       (qaD ([s5.2,x6.1,x6.2.1])).bind λx7 =>
       some (.inl (w64 (s5.1+1),x7))
      else
       some (.inr s5.2)) (0,s2.2)).bind λ(p8:Int) =>
    some (.inl (w64 (s2.1+1),p8))
   else
    some (.inr s2.2)) (0,a1)).bind λ(p9:Int) =>
 (idx a0 0).bind λx10 =>
 (qas (a0.length:Int) (x10.length:Int) a0 p9).bind λx11 =>
 bif decide (p9=0)then
  none
 else
  some (w64 (a1.tdiv p9),x11,())
def qeW:Entry:=⟨135,[.ty yt3,.ty I],[((.pair I (.pair yt3 .unit)),2)],λx=>qes x.1 x.2⟩
def qmO:TH:=qcR [([],135,.block 0,{lv:=[⟨some 0,5,0⟩],ps:=[(I,0)],D:=⟨8589919872⟩,wr:=[⟨0,5⟩,⟨0,9⟩]}),
 ([],135,.loop 0,{lv:=[⟨none,14,0⟩,⟨some 0,5,0⟩],ps:=[(I,0),(I,0)],D:=⟨8589919872⟩,wr:=[⟨0,5⟩,⟨0,9⟩]}),
 ([],135,.block 2,{lv:=[⟨some 0,5,0⟩],ps:=[(I,0)],D:=⟨4293920384⟩,wr:=[⟨0,5⟩,⟨0,9⟩]}),
 ([],135,.loop 2,{lv:=[⟨none,20,0⟩,⟨some 0,5,0⟩],ps:=[(I,0),(I,0)],D:=⟨4293920384⟩,wr:=[⟨0,5⟩,⟨0,9⟩],rs:=[⟨0,9⟩],Dn:=⟨4126147712⟩})] []
theorem qmS:KT qeW qmO [qdD,qaK] 40:=λx=>by kernel_rfl
theorem qmX:OT qeW:=entK (qt qh7 (qt qd4 qE)) hJ qmS
def qbG(a0:(List yy2))(a1:yy4):Option (Int×(List yy2)×Unit) :=
 (qac (a0.length:Int) (a0.length:Int) a0 a1).bind λx1 =>
 (qca a1).bind λx2 =>
 (qaR a1 x2).bind λx3 =>
 (qes x1 x3.1).bind λx4 =>
 some x4
def qck:Entry:=⟨134,[.ty yt3,.ty yt1],[((.pair I (.pair yt3 .unit)),2)],λx=>qbG x.1 x.2⟩
def qhw:TH:=qcR [] []
theorem qhz:KT qck qhw [qal,qeW,qco,qaT] 40:=λx=>by kernel_rfl
theorem qhC:OT qck:=entK (qt qcS (qt qmX (qt qf4 (qt qb2 qE)))) hJ qhz
def qdx(a0:(List yy2)):Option ((Int×(List yy2)×Unit)×Int) :=
 (qbf a0).bind λx1 =>
 bif !(decide (x1=0))then
  some ((0,[],()),x1)
 else
  (qah a0).bind λx2 =>
  let v3:Bool:=(bif decide (x2.1=0)then (bif decide (x2.2.1=0)then true else false)else false)
  bif v3 then
   some ((0,[],()),11)
  else
   (qbG a0 x2).bind λx4 =>
   some (x4,0)
def qed:Entry:=⟨60,[.ty yt3],[((.pair I (.pair yt3 .unit)),2),(I,0)],λx=>qdx x⟩
def qlC:TH:=qcR [] []
theorem qlJ:KT qed qlC [qbM,qbl,qck] 40:=λx=>by kernel_rfl
theorem qlT:OT qed:=entK (qt qem (qt qcY (qt qhC qE))) hJ qlJ
def qdA(a0:yy5):Option (yy8×Int) :=
 (qbf a0.1).bind λx1 =>
 (qbf a0.2.1).bind λx2 =>
 (qz (decide ((a0.1.length:Int)=(a0.2.1.length:Int))) (13:Int)).bind λx3 =>
 (qQ ([x1,x2,x3])).bind λx4 =>
 bif !(decide (x4=0))then
  some (([],[],0,0,0,0,[],()),x4)
 else
  (qdx a0.2.1).bind λx5 =>
  (bif decide (a0.2.2.2.1 > 0)then
    (qaD ([a0.2.2.1,a0.2.2.2.1])).bind λx6 =>
    (qz (decide (x6=1)) (3:Int)).bind λx7 =>
    (q6 a0.2.2.1 (0:Int) a0.2.2.2.1).bind λx8 =>
    bif x8 then
     (qz (decide (a0.2.2.2.1<=100)) (2:Int)).bind λx9 =>
     (q6 a0.2.2.2.2.1 (0:Int) (1000:Int)).bind λx10 =>
     (qz x10 (2:Int)).bind λx11 =>
     (qQ ([x5.2,x7,x9,x11])).bind λx12 =>
     some x12
    else
     (qz false (2:Int)).bind λx13 =>
     (q6 a0.2.2.2.2.1 (0:Int) (1000:Int)).bind λx14 =>
     (qz x14 (2:Int)).bind λx15 =>
     (qQ ([x5.2,x7,x13,x15])).bind λx16 =>
     some x16
   else
    (qz false (3:Int)).bind λx17 =>
    (q6 a0.2.2.1 (0:Int) a0.2.2.2.1).bind λx18 =>
    bif x18 then
     (qz (decide (a0.2.2.2.1<=100)) (2:Int)).bind λx19 =>
     (q6 a0.2.2.2.2.1 (0:Int) (1000:Int)).bind λx20 =>
     (qz x20 (2:Int)).bind λx21 =>
     (qQ ([x5.2,x17,x19,x21])).bind λx22 =>
     some x22
    else
     (qz false (2:Int)).bind λx23 =>
     (q6 a0.2.2.2.2.1 (0:Int) (1000:Int)).bind λx24 =>
     (qz x24 (2:Int)).bind λx25 =>
     (qQ ([x5.2,x17,x23,x25])).bind λx26 =>
     some x26).bind λ(p27:Int) =>
  some ((a0.1,a0.2.1,a0.2.2.1,a0.2.2.2.1,a0.2.2.2.2.1,x5.1.1,x5.1.2.1,()),p27)
def qfw:Entry:=⟨142,[.ty yt7],[(yt6,2000),(I,0)],λx=>qdA x⟩
def qn2:TH:=qcR [([],142,.region 6,{lv:=[⟨none,6,0⟩],ps:=[(I,0)],D:=⟨147573952520956936256⟩,rs:=[⟨0,1⟩,⟨0,7⟩],Dn:=⟨145190411285615870016⟩})] []
theorem qob:KT qfw qn2 [qed,qdD,qa1,qbM,qbe,qci] 40:=λx=>by kernel_rfl
theorem qow:OT qfw:=entK (qt qlT (qt qh7 (qt qbw (qt qem (qt qcj (qt qey qE)))))) hJ qob
def qbK(a0:yy4):Option Bool :=
 (qau a0 (10000:Int)).bind λx1 =>
 some (!x1)
def qef:Entry:=⟨154,[.ty yt1],[(.bool,0)],λx=>qbK x⟩
def qlE:TH:=qcR [] []
theorem qlL:KT qef qlE [qa5] 40:=λx=>by kernel_rfl
theorem qlV:OT qef:=entK (qt qcD qE) hJ qlL
def qF(a0:yy2):Option Int :=
 (qab (λ(s2:Int) =>
   bif decide (s2<(a0.length:Int))then
    (idx a0 s2).bind λx3 =>
    (qbK x3).bind λx4 =>
    bif x4 then
     some (.inr (.inr s2))
    else
     some (.inl (w64 (s2+1)))
   else
    some (.inr (.inl ()))) 0).bind (Sum.elim (λ(p5:Unit) =>
 some (-1)) some)
def qP:Entry:=⟨208,[.ty (.sl yt1),.fn 154 []],[(I,0)],λx=>qF x.1⟩
def qa2:TH:=qcR [([],208,.block 0,{lv:=[],ps:=[],abn:=true,D:=⟨524064⟩}),
 ([],208,.loop 0,{lv:=[⟨none,8,0⟩],ps:=[(I,0)],D:=⟨524064⟩})] []
theorem qa3:KT qP qa2 [qef] 40:=λx=>by kernel_rfl
theorem qa4:OT qP:=entK (qt qlV qE) hJ qa3
def qw(a0:yy2):Option Bool :=
 (qF a0).bind λx1 =>
 some (decide (x1>=0))
def qK:Entry:=⟨153,[.ty (.sl yt1),.fn 154 []],[(.bool,0)],λx=>qw x.1⟩
def qaL:TH:=qcR [] []
theorem qaM:KT qK qaL [qP] 40:=λx=>by kernel_rfl
theorem qaN:OT qK:=entK (qt qa4 qE) hJ qaM
def qaZ(a0:yy2)(a1:Int):Option Int :=
 (qw a0).bind λx1 =>
 (qz (decide ((a0.length:Int)=a1)) (10:Int)).bind λx2 =>
 (qz (!x1) (2:Int)).bind λx3 =>
 (qQ ([x2,x3])).bind λx4 =>
 some x4
def qbL:Entry:=⟨74,[.ty (.sl yt1),.ty I],[(I,0)],λx=>qaZ x.1 x.2⟩
def qn1:TH:=qcR [] []
theorem qoa:KT qbL qn1 [qa1,qbe,qK] 40:=λx=>by kernel_rfl
theorem qdN:OT qbL:=entK (qt qbw (qt qcj (qt qaN qE))) hJ qoa
def qa8(a0:yy5)(a1:yy2)(a2:yy2):Option (yy8×Int) :=
 (qdA a0).bind λx1 =>
 (qaZ a1 (a0.1.length:Int)).bind λx2 =>
 (qaZ a2 (a0.1.length:Int)).bind λx3 =>
 (qQ ([x1.2,x2,x3])).bind λx4 =>
 some (x1.1,x4)
def qcn:Entry:=⟨68,[.ty yt7,.ty (.sl yt1),.ty (.sl yt1)],[(yt6,0),(I,0)],λx=>qa8 x.1 x.2.1 x.2.2⟩
def qkw:TH:=qcR [] []
theorem qkF:KT qcn qkw [qa1,qbL,qfw] 40:=λx=>by kernel_rfl
theorem qf3:OT qcn:=entK (qt qbw (qt qdN (qt qow qE))) hJ qkF
def qa0(a0:(List yy2))(a1:yy2):Option yy2 :=
 (qab (λ(s3:(yy2×Int)) =>
   bif decide (s3.2<(a0.length:Int))then
    (idx a0 s3.2).bind λx4 =>
    (qab (λ(s6:((Int×Int)×Int)) =>
      bif decide (s6.2<(x4.length:Int))then
       (idx x4 s6.2).bind λx7 =>
       (flo x7.1).bind λx8 =>
       (flo x7.2.1).bind λx9 =>
       (idx a1 s6.2).bind λx10 =>
       (flo x10.1).bind λx11 =>
       (idx a1 s6.2).bind λx12 =>
       (flo x12.2.1).bind λx13 =>
       (flo (x8*x11)).bind λx14 =>
       (flo (x9*x13)).bind λx15 =>
       (flo (x14-x15)).bind λx16 =>
       (flo (x8*x13)).bind λx17 =>
       (flo (x9*x11)).bind λx18 =>
       (flo (x17+x18)).bind λx19 =>
       (flo (s6.1.1+x16)).bind λx20 =>
       (flo (s6.1.2+x19)).bind λx21 =>
       some (.inl ((x20,x21),w64 (s6.2+1)))
      else
       some (.inr s6.1)) ((0,0),0)).bind λ(p22:(Int×Int)) =>
    (flo p22.1).bind λx23 =>
    (flo p22.2).bind λx24 =>
    (app s3.1 ([(x23,x24,())])).bind λx25 =>
    some (.inl (x25,w64 (s3.2+1)))
   else
    some (.inr s3.1)) ([],0)).bind λ(p26:yy2) =>
 some p26
def qcb:Entry:=⟨78,[.ty yt3,.ty (.sl yt1)],[((.sl yt1),1)],λx=>qa0 x.1 x.2⟩
def qmP:TH:=qcR [([],78,.block 0,{lv:=[⟨none,5,0⟩],ps:=[((.sl yt1),1)],D:=⟨576460752303417248⟩,wr:=[⟨0,10⟩]}),
 ([],78,.loop 0,{lv:=[⟨none,5,0⟩,⟨none,13,0⟩],ps:=[((.sl yt1),1),(I,0)],D:=⟨576460752303417248⟩,wr:=[⟨0,10⟩]}),
 ([],78,.block 2,{lv:=[⟨none,8,0⟩],ps:=[(.cx,0)],D:=⟨281474976188288⟩,wr:=[⟨0,10⟩]}),
 ([],78,.loop 2,{lv:=[⟨none,8,0⟩,⟨none,19,0⟩],ps:=[(.cx,0),(I,0)],D:=⟨281474976188288⟩,wr:=[⟨0,10⟩],rs:=[⟨0,10⟩],Dn:=⟨281474674197376⟩})] []
theorem qmT:KT qcb qmP [] 40:=λx=>by kernel_rfl
theorem qeZ:OT qcb:=entK qE hJ qmT
def qeK(n:Nat):Int->Int->Option Int :=
 Nat.rec (motive:=λ_=>Int->Int->Option Int) (λ_ _=>none) (λ_ ih a0 a1 =>
 bif decide (a0<0)then
  (ih (w64 (0-a0)) a1).bind λx1 =>
  some (w64 (0-x1))
 else
  bif decide (a1=0)then
   none
  else
   bif decide (a1=0)then
    none
   else
    (bif decide (a0.tmod a1 > w64 (a1-(a0.tmod a1)))then
      some (w64 ((w64 (a0.tdiv a1))+1))
     else
      some (w64 (a0.tdiv a1))).bind λ(p2:Int) =>
    some p2) n
def qiC:Int->Int->Option Int:=qeK 12
def qms:Entry:=⟨206,[.ty I,.ty I],[(I,0)],λx=>qiC x.1 x.2⟩
def qs7:TH:=qcR [([],206,.cond 24,{lv:=[⟨none,5,0⟩],ps:=[(I,0)],D:=⟨100663328⟩})] []
def qch(n:Nat):Entry:=⟨206,[.ty I,.ty I],[(I,0)],λx=>qeK n x.1 x.2⟩
theorem qtb(n:Nat)(x:denP (qch (n+1)).ps):fnT Tryz.prog Hn.hints qs7 (qwJ [(qch n)]) 40 206 (qfP (qch (n+1)).ps x) (qch (n+1)).rs=(qch (n+1)).F x:=by kernel_rfl
theorem qjf:∀n,qby Tryz.prog Hn.hints Lb (qch n)
 |0=>λx y h=>by cases (show none=some y from h)
 |n+1=>qm8 (qt (qjf n) qE) hJ 40 _ _ _ _ (qtb n)
theorem qtt:qby Tryz.prog Hn.hints Lb qms:=qjf 12
def qaP(a0:Int)(a1:yy8):Option Int :=
 (qiC (w64 (a0*a1.2.2.1)) (w64 (a1.2.2.2.2.2.1*a1.2.2.2.1))).bind λx1 =>
 some (min (max x1 (w64 (0-a1.2.2.2.2.1))) a1.2.2.2.2.1)
def qbO:Entry:=⟨205,[.ty I,.ptr yt6],[(I,0)],λx=>qaP x.1 x.2⟩
def qgr:TH:=qcR [] []
theorem qgt:KT qbO qgr [qms] 40:=λx=>by kernel_rfl
theorem qgC:OT qbO:=entK (qt qtt qE) hJ qgt
def qbH(a0:yy8)(a1:yy2)(a2:yy2):Option yy2 :=
 (qa0 a0.1 a2).bind λx1 =>
 (qab (λ(s3:(yy2×Int)) =>
   bif decide (s3.2<(a1.length:Int))then
    (idx a1 s3.2).bind λx4 =>
    (idx s3.1 s3.2).bind λx5 =>
    (qae x4 x5).bind λx6 =>
    (idx s3.1 s3.2).bind λx7 =>
    (idx s3.1 s3.2).bind λx8 =>
    let l9:yy2:=List.set s3.1 s3.2.toNat x6
    some (.inl (l9,w64 (s3.2+1)))
   else
    some (.inr s3.1)) (x1,0)).bind λ(p10:yy2) =>
 (qab (λ(s13:(yy2×Int)) =>
   bif decide (s13.2<(a0.2.2.2.2.2.2.1.length:Int))then
    (idx a0.2.2.2.2.2.2.1 s13.2).bind λx14 =>
    (qab (λ(s16:(Int×Int×Int)) =>
      bif decide (s16.1<(x14.length:Int))then
       (idx x14 s16.1).bind λx17 =>
       (idx p10 s16.1).bind λx18 =>
       (qaR x17 x18).bind λx19 =>
       (qbo (s16.2.1,s16.2.2,()) x19).bind λx20 =>
       some (.inl (w64 (s16.1+1),x20.1,x20.2.1))
      else
       some (.inr (s16.2.1,s16.2.2))) (0,0,0)).bind λ(p21:(Int×Int)) =>
    (qaP p21.1 a0).bind λx22 =>
    (qaP p21.2 a0).bind λx23 =>
    (app s13.1 ([(x22,x23,())])).bind λx24 =>
    some (.inl (x24,w64 (s13.2+1)))
   else
    some (.inr s13.1)) ([],0)).bind λ(p25:yy2) =>
 some p25
def qcl:Entry:=⟨149,[.ty yt6,.ty (.sl yt1),.ty (.sl yt1)],[((.sl yt1),1)],λx=>qbH x.1 x.2.1 x.2.2⟩
def qhy:TH:=qcR [([],149,.block 0,{lv:=[⟨none,7,0⟩],ps:=[((.sl yt1),1)],D:=⟨549741225856⟩,wr:=[⟨0,9⟩]}),
 ([],149,.loop 0,{lv:=[⟨none,7,0⟩,⟨none,24,0⟩],ps:=[((.sl yt1),1),(I,0)],D:=⟨549741225856⟩,wr:=[⟨0,9⟩],rs:=[⟨0,9⟩],Dn:=⟨549741225344⟩}),
 ([],149,.block 2,{lv:=[⟨none,10,0⟩],ps:=[((.sl yt1),1)],D:=⟨151115727434236460918272⟩,wr:=[⟨0,9⟩,⟨0,14⟩,⟨0,16⟩]}),
 ([],149,.loop 2,{lv:=[⟨none,10,0⟩,⟨none,44,0⟩],ps:=[((.sl yt1),1),(I,0)],D:=⟨151115727434236460918272⟩,wr:=[⟨0,9⟩,⟨0,14⟩,⟨0,16⟩],rs:=[⟨0,3⟩,⟨0,14⟩],Dn:=⟨149234159538718086637056⟩}),
 ([],149,.block 4,{lv:=[⟨some 0,14,0⟩,⟨some 0,14,1⟩],ps:=[(I,0),(I,0)],D:=⟨18445618173802816000⟩,wr:=[⟨0,14⟩,⟨0,16⟩]}),
 ([],149,.loop 4,{lv:=[⟨none,50,0⟩,⟨some 0,14,0⟩,⟨some 0,14,1⟩],ps:=[(I,0),(I,0),(I,0)],D:=⟨18445618173802816000⟩,wr:=[⟨0,14⟩,⟨0,16⟩],rs:=[⟨0,16⟩],Dn:=⟨18445618173802750464⟩})] []
theorem qhB:KT qcl qhy [qcb,qbO,qaS,qbt,qaT] 40:=λx=>by kernel_rfl
theorem qhD:OT qcl:=entK (qt qeZ (qt qgC (qt qb1 (qt qdO (qt qb2 qE))))) hJ qhB
def qbg(a0:yy8)(a1:yy2)(a2:yy2):Option (yy2×Int) :=
 (qbH a0 a1 a2).bind λx1 =>
 (qab (λ(s3:(yy2×Int)) =>
   bif decide (s3.2<(a2.length:Int))then
    (idx a2 s3.2).bind λx4 =>
    (idx s3.1 s3.2).bind λx5 =>
    (qbo x5 x4).bind λx6 =>
    (idx s3.1 s3.2).bind λx7 =>
    (idx s3.1 s3.2).bind λx8 =>
    let l9:yy2:=List.set s3.1 s3.2.toNat x6
    some (.inl (l9,w64 (s3.2+1)))
   else
    some (.inr s3.1)) (x1,0)).bind λ(p10:yy2) =>
 (qaZ p10 (p10.length:Int)).bind λx11 =>
 bif !(decide (x11=0))then
  some ([],22)
 else
  some (p10,0)
def qcL:Entry:=⟨72,[.ty yt6,.ty (.sl yt1),.ty (.sl yt1)],[((.sl yt1),1),(I,0)],λx=>qbg x.1 x.2.1 x.2.2⟩
def qlH:TH:=qcR [([],72,.block 0,{lv:=[⟨none,8,0⟩],ps:=[((.sl yt1),1)],D:=⟨4294854400⟩,wr:=[⟨0,10⟩]}),
 ([],72,.loop 0,{lv:=[⟨none,8,0⟩,⟨none,17,0⟩],ps:=[((.sl yt1),1),(I,0)],D:=⟨4294854400⟩,wr:=[⟨0,10⟩],rs:=[⟨0,10⟩],Dn:=⟨4294853376⟩})] []
theorem qlO:KT qcL qlH [qbL,qcl,qbt] 40:=λx=>by kernel_rfl
theorem qgD:OT qcL:=entK (qt qdN (qt qhD (qt qdO qE))) hJ qlO
def qcg(a0:yy5)(a1:yy2)(a2:yy2)(a3:Int):Option yy9 :=
 (qa8 a0 a1 a2).bind λx1 =>
 (q6 a3 (0:Int) (20:Int)).bind λx2 =>
 (qz x2 (2:Int)).bind λx3 =>
 (qQ ([x1.2,x3])).bind λx4 =>
 bif !(decide (x4=0))then
  some ([],x4)
 else
  (qab (λ(s7:(yy2×(List yy2)×Int)) =>
    bif decide (s7.2.2<a3)then
     (qbg x1.1 a1 s7.1).bind λx8 =>
     bif !(decide (x8.2=0))then
      some (.inr (.inr ([],x8.2)))
     else
      (app s7.2.1 ([x8.1])).bind λx9 =>
      some (.inl (x8.1,x9,w64 (s7.2.2+1)))
    else
     some (.inr (.inl s7.2.1))) (a2,[],0)).bind (Sum.elim (λ(p10:(List yy2)) =>
  some (p10,0)) some)
def qeV:Entry:=⟨11,[.ty yt7,.ty (.sl yt1),.ty (.sl yt1),.ty I],[(yt3,1),(I,0)],λx=>qcg x.1 x.2.1 x.2.2.1 x.2.2.2⟩
def qmN:TH:=qcR [([],11,.block 0,{lv:=[⟨none,12,0⟩],ps:=[(yt3,1)],abn:=true,D:=⟨140736414619652⟩}),
 ([],11,.loop 0,{lv:=[⟨none,2,0⟩,⟨none,12,0⟩,⟨none,30,0⟩],ps:=[((.sl yt1),2000),(yt3,1),(I,0)],D:=⟨140736414619652⟩})] []
theorem qmR:KT qeV qmN [qa1,qcn,qcL,qbe,qci] 40:=λx=>by kernel_rfl
theorem qmW:OT qeV:=entK (qt qbw (qt qf3 (qt qgD (qt qcj (qt qey qE))))) hJ qmR
def qcH(a0:yy2):Option (List UInt8) :=
 (qab (λ(s3:((List (List UInt8))×Int)) =>
   bif decide (s3.2<(a0.length:Int))then
    (idx a0 s3.2).bind λx4 =>
    (strconv_Itoa x4.1).bind λx5 =>
    (app x5 ([44])).bind λx6 =>
    (strconv_Itoa x4.2.1).bind λx7 =>
    (app x6 x7).bind λx8 =>
    (app s3.1 ([x8])).bind λx9 =>
    some (.inl (x9,w64 (s3.2+1)))
   else
    some (.inr s3.1)) ([],0)).bind λ(p10:(List (List UInt8))) =>
 (strings_Join p10 ([32])).bind λx11 =>
 some x11
def qdk:Entry:=⟨15,[.ty (.sl yt1)],[(.str,0)],λx=>qcH x⟩
def qjt:TH:=qcR [([],15,.block 0,{lv:=[⟨none,3,0⟩],ps:=[((.sl .str),1)],D:=⟨16777000⟩,wr:=[⟨0,5⟩]}),
 ([],15,.loop 0,{lv:=[⟨none,3,0⟩,⟨none,8,0⟩],ps:=[((.sl .str),1),(I,0)],D:=⟨16777000⟩,wr:=[⟨0,5⟩],rs:=[⟨0,5⟩],Dn:=⟨16637704⟩})] []
theorem qjz:KT qdk qjt [qc5,qeu] 40:=λx=>by kernel_rfl
theorem qjG:OT qdk:=entK (qt qjg (qt qpx qE)) hJ qjz
def qcI(a0:(List UInt8))(a1:Int):Option (Int×Bool) :=
 (strconv_Atoi a0).bind λx1 =>
 (bif x1.2 then
   (strconv_Itoa x1.1).bind λx2 =>
   bif decide (x2=a0)then
    (strings_TrimPrefix a0 ([45])).bind λx3 =>
    some (x1.1,decide ((x3.length:Int)<=a1))
   else
    some (x1.1,false)
  else
   some (x1.1,false)).bind λ(p4:(Int×Bool)) =>
 some (p4.1,p4.2)
def qhL:Entry:=⟨152,[.ty .str,.ty I],[(I,0),(.bool,0)],λx=>qcI x.1 x.2⟩
def qs8:TH:=qcR [([],152,.region 2,{lv:=[⟨none,4,0⟩,⟨none,5,0⟩],ps:=[(I,0),(.bool,0)],D:=⟨536862768⟩})] []
theorem qtc:KT qhL qs8 [qet,qc5,qbI] 40:=λx=>by kernel_rfl
theorem qtu:OT qhL:=entK (qt qpw (qt qjg (qt qi2 qE))) hJ qtc
def qiB(a0:(List UInt8))(a1:Int):Option (yy2×Bool) :=
 (qab (λ(s2:(yy2×(List UInt8))) =>
   (strings_Index s2.2 ([32])).bind λx3 =>
   bif decide (x3<0)then
    some (.inr (.inl (s2.1,s2.2)))
   else
    (slc s2.2 0 (w64 (x3+0))).bind λx4 =>
    (strings_Cut x4 ([44])).bind λx5 =>
    (qcI x5.1 a1).bind λx6 =>
    (qcI x5.2.1 a1).bind λx7 =>
    (bif !x5.2.2 then
      some true
     else
      bif !x6.2 then
       some true
      else
       some (!x7.2)).bind λ(p8:Bool) =>
    bif p8 then
     some (.inr (.inr ([],false)))
    else
     (app s2.1 ([(x6.1,x7.1,())])).bind λx9 =>
     (slc s2.2 (w64 (x3+1)) (s2.2.length:Int)).bind λx10 =>
     some (.inl (x9,x10))) ([],a0)).bind (Sum.elim (λ(p11:(yy2×(List UInt8))) =>
 (strings_Cut p11.2 ([44])).bind λx12 =>
 (qcI x12.1 a1).bind λx13 =>
 (qcI x12.2.1 a1).bind λx14 =>
 (bif !x12.2.2 then
   some true
  else
   bif !x13.2 then
    some true
   else
    some (!x14.2)).bind λ(p15:Bool) =>
 bif p15 then
  some ([],false)
 else
  (app p11.1 ([(x13.1,x14.1,())])).bind λx16 =>
  some (x16,true)) some)
def qhK:Entry:=⟨73,[.ty .str,.ty I],[((.sl yt1),2000),(.bool,0)],λx=>qiB x.1 x.2⟩
def qs6:TH:=qcR [([17],237,.block 2,{lv:=[⟨some 0,6,0⟩,⟨some 0,16,0⟩],ps:=[((.sl yt1),1),(.str,0)],abn:=true,D:=⟨562949416550784⟩,wr:=[⟨0,6⟩,⟨0,16⟩]}),
 ([17],237,.loop 2,{lv:=[⟨some 0,6,0⟩,⟨some 0,16,0⟩],ps:=[((.sl yt1),1),(.str,0)],D:=⟨562949416550784⟩,wr:=[⟨0,6⟩,⟨0,16⟩],rs:=[⟨0,17⟩],Dn:=⟨562399660736896⟩}),
 ([41,17],73,.region 7,{lv:=[⟨none,45,0⟩],ps:=[(.bool,0)],D:=⟨70300024700928⟩}),
 ([51,17],73,.region 7,{lv:=[⟨none,45,0⟩],ps:=[(.bool,0)],D:=⟨70300024700928⟩})] []
theorem qta:KT qhK qs6 [qhL,qe8,qdI] 40:=λx=>by kernel_rfl
theorem qts:OT qhK:=entK (qt qtu (qt qry (qt qoz qE))) hJ qta
def qdb(a0:(List UInt8)):Option (yy2×Int) :=
 bif decide ((a0.length:Int) > 60000)then
  some ([],8)
 else
  (qiB a0 (5:Int)).bind λx1 =>
  (qz x1.2 (7:Int)).bind λx2 =>
  (qz (decide ((x1.1.length:Int)<=3)) (8:Int)).bind λx3 =>
  (qaZ x1.1 (x1.1.length:Int)).bind λx4 =>
  (qQ ([x2,x3,x4])).bind λx5 =>
  bif !(decide (x5=0))then
   some ([],x5)
  else
   some (x1.1,0)
def qdB:Entry:=⟨14,[.ty .str],[((.sl yt1),2000),(I,0)],λx=>qdb x⟩
def qku:TH:=qcR [] []
theorem qkD:KT qdB qku [qa1,qhK,qbL,qbe] 40:=λx=>by kernel_rfl
theorem qkP:OT qdB:=entK (qt qbw (qt qts (qt qdN (qt qcj qE)))) hJ qkD
def qeH(a0:yy2)(a1:yy2):Option Bool :=
 bif !(decide ((a0.length:Int)=(a1.length:Int)))then
  some false
 else
  (qab (λ(s2:Int) =>
    bif decide (s2<(a0.length:Int))then
     (idx a0 s2).bind λx3 =>
     (idx a1 s2).bind λx4 =>
     let v5:Bool:=!(bif decide (x3.1=x4.1)then (bif decide (x3.2.1=x4.2.1)then true else false)else false)
     bif v5 then
      some (.inr (.inr false))
     else
      some (.inl (w64 (s2+1)))
    else
     some (.inr (.inl ()))) 0).bind (Sum.elim (λ(p6:Unit) =>
  some true) some)
def qge:Entry:=⟨16,[.ty (.sl yt1),.ty (.sl yt1)],[(.bool,0)],λx=>qeH x.1 x.2⟩
def qpl:TH:=qcR [([],16,.block 0,{lv:=[],ps:=[],abn:=true,D:=⟨67106848⟩}),
 ([],16,.loop 0,{lv:=[⟨none,5,0⟩],ps:=[(I,0)],D:=⟨67106848⟩})] []
theorem qpp:KT qge qpl [] 40:=λx=>by kernel_rfl
theorem qpu:OT qge:=entK qE hJ qpp
def qG(a0:yy2)(a1:yy2):Option yy10 :=
 (qab (λ(s2:(Int×yy10)) =>
   bif decide (s2.1<(a0.length:Int))then
    (idx a0 s2.1).bind λx3 =>
    (idx a1 s2.1).bind λx4 =>
    (app s2.2 ([(x3.1,x3.2.1,x4.1,x4.2.1,())])).bind λx5 =>
    some (.inl (w64 (s2.1+1),x5))
   else
    some (.inr s2.2)) (0,[])).bind λ(p6:yy10) =>
 some p6
def qZ:Entry:=⟨80,[.fn 161 [.p (.sl yt1),.p (.sl yt1)]],[((.sl (.pair I (.pair I yt1))),1)],λx=>qG x.1 x.2⟩
def qbz:TH:=qcR [([7,4],161,.block 0,{lv:=[⟨some 0,2,0⟩],ps:=[((.sl (.pair I (.pair I yt1))),1)],D:=⟨8388400⟩,wr:=[⟨0,2⟩,⟨1,5⟩]}),
 ([7,4],161,.loop 0,{lv:=[⟨none,8,0⟩,⟨some 0,2,0⟩],ps:=[(I,0),((.sl (.pair I (.pair I yt1))),1)],D:=⟨8388400⟩,wr:=[⟨0,2⟩,⟨1,5⟩],rs:=[⟨0,7⟩,⟨1,5⟩],Dn:=⟨8380176⟩})] [([],80,4)]
theorem qbA:KT qZ qbz [] 40:=λx=>by kernel_rfl
theorem qbB:OT qZ:=entK qE hJ qbA
def qdy(a0:yy5)(a1:yy2)(a2:yy2)(a3:Int):Option (Int×Int) :=
 (qa8 a0 a1 a2).bind λx1 =>
 (q6 a3 (0:Int) (10000:Int)).bind λx2 =>
 (qz x2 (2:Int)).bind λx3 =>
 (qQ ([x1.2,x3])).bind λx4 =>
 bif !(decide (x4=0))then
  some (0,x4)
 else
  (qab (λ(s7:(yy2×Int)) =>
    (qa0 a0.1 s7.1).bind λx8 =>
    (qG a1 x8).bind λx9 =>
    ((qab (λ(s11:Int) =>
       bif decide (s11<(x9.length:Int))then
        (idx x9 s11).bind λx12 =>
        (qae (x12.1,x12.2.1,()) (x12.2.2.1,x12.2.2.2.1,())).bind λx13 =>
        (qau x13 a3).bind λx14 =>
        bif !x14 then
         some (.inr (.inr s11))
        else
         some (.inl (w64 (s11+1)))
       else
        some (.inr (.inl ()))) 0).bind (Sum.elim (λ(p15:Unit) =>
     some (-1)) some)).bind λ(p16:Int) =>
    bif !(decide (p16>=0))then
     some (.inr (.inr (s7.2,0)))
    else
     bif decide (s7.2=20)then
      some (.inr (.inr (0,12)))
     else
      (qbg x1.1 a1 s7.1).bind λx17 =>
      bif !(decide (x17.2=0))then
       some (.inr (.inr (0,x17.2)))
      else
       some (.inl (x17.1,w64 (s7.2+1)))) (a2,0)).bind (Sum.elim (λ(p18:Unit) =>
  some (0,0)) some)
def qee:Entry:=⟨20,[.ty yt7,.ty (.sl yt1),.ty (.sl yt1),.ty I],[(I,0),(I,0)],λx=>qdy x.1 x.2.1 x.2.2.1 x.2.2.2⟩
def qlD:TH:=qcR [([],20,.block 0,{lv:=[],ps:=[],abn:=true,D:=⟨0⟩}),
 ([],20,.loop 0,{lv:=[⟨none,2,0⟩,⟨none,12,0⟩],ps:=[((.sl yt1),2000),(I,0)],D:=⟨1152921502459394052⟩,rs:=[⟨0,4⟩,⟨0,7⟩],Dn:=⟨1152919294846203908⟩}),
 ([7,42],159,.inl 0,{lv:=[⟨none,4,0⟩],ps:=[(I,0)],D:=⟨524272⟩,rs:=[⟨0,7⟩],Dn:=⟨522224⟩}),
 ([7,42],159,.block 0,{lv:=[],ps:=[],abn:=true,D:=⟨524064⟩}),
 ([7,42],159,.loop 0,{lv:=[⟨none,8,0⟩],ps:=[(I,0)],D:=⟨524064⟩,rs:=[⟨0,7⟩],Dn:=⟨522016⟩})] [([],20,39)]
theorem qlK:KT qee qlD [qa1,qcn,qcb,qcL,qbe,qa5,qaS,qci,qZ] 40:=λx=>by kernel_rfl
theorem qlU:OT qee:=entK (qt qbw (qt qf3 (qt qeZ (qt qgD (qt qcj (qt qcD (qt qb1 (qt qey (qt qbB qE))))))))) hJ qlK
def qdc(a0:(List yy2))(a1:yy2):Option (yy2×Int) :=
 (qbf a0).bind λx1 =>
 (qaZ a1 (a0.length:Int)).bind λx2 =>
 (qQ ([x1,x2])).bind λx3 =>
 bif !(decide (x3=0))then
  some ([],x3)
 else
  (qa0 a0 a1).bind λx4 =>
  some (x4,0)
def qdC:Entry:=⟨58,[.ty yt3,.ty (.sl yt1)],[((.sl yt1),1),(I,0)],λx=>qdc x.1 x.2⟩
def qkv:TH:=qcR [] []
theorem qkE:KT qdC qkv [qa1,qbL,qbM,qcb] 40:=λx=>by kernel_rfl
theorem qkQ:OT qdC:=entK (qt qbw (qt qdN (qt qem (qt qeZ qE)))) hJ qkE
def qiW(a0:yy5)(a1:yy2)(a2:yy2)(a3:Int):Option Bool :=
 (qbp a0.1).bind λx1 =>
 (qO a2).bind λx2 =>
 (qdc x1 x2).bind λx3 =>
 (bif !(decide (x3.2=0))then
   some true
  else
   some (!(decide ((x3.1.length:Int)=(a1.length:Int))))).bind λ(p4:Bool) =>
 bif p4 then
  some false
 else
  (qab (λ(s6:Int) =>
    bif decide (s6<(x3.1.length:Int))then
     ((idx x3.1 s6).bind λx7 =>
      (idx a1 s6).bind λx8 =>
      (idx a1 s6).bind λx9 =>
      (qaq x7.1 (w64 (x8.1-a3)) (w64 (x9.1+a3))).bind λx10 =>
      bif !x10 then
       some true
      else
       (idx x3.1 s6).bind λx11 =>
       (idx a1 s6).bind λx12 =>
       (idx a1 s6).bind λx13 =>
       (qaq x11.2.1 (w64 (x12.2.1-a3)) (w64 (x13.2.1+a3))).bind λx14 =>
       some (!x14)).bind λ(p15:Bool) =>
     bif p15 then
      some (.inr (.inr false))
     else
      some (.inl (w64 (s6+1)))
    else
     some (.inr (.inl ()))) 0).bind (Sum.elim (λ(p16:Unit) =>
  some true) some)
def qhM:Entry:=⟨21,[.ty yt7,.ty (.sl yt1),.ty (.sl yt1),.ty I],[(.bool,0)],λx=>qiW x.1 x.2.1 x.2.2.1 x.2.2.2⟩
def qs9:TH:=qcR [([],21,.region 2,{lv:=[⟨none,29,0⟩],ps:=[(.bool,0)],D:=⟨1071644672⟩}),
 ([],21,.block 0,{lv:=[],ps:=[],abn:=true,D:=⟨1208925819614628100966400⟩}),
 ([],21,.loop 0,{lv:=[⟨none,11,0⟩],ps:=[(I,0)],D:=⟨1208925819614628100966400⟩}),
 ([],21,.region 7,{lv:=[⟨none,79,0⟩],ps:=[(.bool,0)],D:=⟨1208925819614560455229440⟩})] []
theorem qtd:KT qhM qs9 [qbs,qcK,qdC,qcp] 40:=λx=>by kernel_rfl
theorem qtv:OT qhM:=entK (qt qdM (qt qfd (qt qkQ (qt qf5 qE)))) hJ qtd
def qdn(a0:yy5)(a1:(yy2×yy2×Unit))(a2:yy4):Option Bool :=
 (qgk).bind λx1 =>
 bif !x1 then
  some false
 else
  (bif decide ((a0.1.length:Int) > 3)then
    some true
   else
    (qeA a0 a1.1 a1.2.1).bind λx2 =>
    bif !(decide (x2=0))then
     some true
    else
     (qaq a2.1 (0:Int) (6:Int)).bind λx3 =>
     bif !x3 then
      some true
     else
      (qaq a2.2.1 (0:Int) (10000:Int)).bind λx4 =>
      some (!x4)).bind λ(p5:Bool) =>
  bif p5 then
   some true
  else
   (qb4 a0).bind λx6 =>
   (qO a1.1).bind λx7 =>
   (qO a1.2.1).bind λx8 =>
   (qcg x6 x7 x8 a2.1).bind λx9 =>
   bif !(decide (x9.2=0))then
    some (decide (x9.2=22))
   else
    bif !(decide ((x9.1.length:Int)=a2.1))then
     some false
    else
     (qO a1.2.1).bind λx10 =>
     (qab (λ(s12:(yy2×Int)) =>
       bif decide (s12.2<(x9.1.length:Int))then
        (qO s12.1).bind λx13 =>
        (qcH x13).bind λx14 =>
        (qdb x14).bind λx15 =>
        (bif !(decide (x15.2=0))then
          some true
         else
          (qeH x15.1 s12.1).bind λx16 =>
          some (!x16)).bind λ(p17:Bool) =>
        bif p17 then
         some (.inr (.inr false))
        else
         (qb4 a0).bind λx18 =>
         (qO a1.1).bind λx19 =>
         (qcg x18 x19 x15.1 (1:Int)).bind λx20 =>
         (bif !(decide (x20.2=0))then
           some true
          else
           bif !(decide ((x20.1.length:Int)=1))then
            some true
           else
            (idx x20.1 0).bind λx21 =>
            (idx x9.1 s12.2).bind λx22 =>
            (qeH x21 x22).bind λx23 =>
            bif !x23 then
             some true
            else
             (idx x9.1 s12.2).bind λx24 =>
             (qbx x24 (a1.2.1.length:Int)).bind λx25 =>
             some (!(decide (x25=0)))).bind λ(p26:Bool) =>
         bif p26 then
          some (.inr (.inr false))
         else
          (qab (λ(s28:Int) =>
            bif decide (s28<(s12.1.length:Int))then
             (idx x9.1 s12.2).bind λx29 =>
             (idx x29 s28).bind λx30 =>
             (idx s12.1 s28).bind λx31 =>
             (qfr x30 x31).bind λx32 =>
             (idx x9.1 s12.2).bind λx33 =>
             (idx x33 s28).bind λx34 =>
             (idx a1.2.1 s28).bind λx35 =>
             (qfr x34 x35).bind λx36 =>
             ((qaq x32.1 (w64 (0-a0.2.2.2.2.1)) a0.2.2.2.2.1).bind λx37 =>
              bif !x37 then
               some true
              else
               (qaq x32.2.1 (w64 (0-a0.2.2.2.2.1)) a0.2.2.2.2.1).bind λx38 =>
               bif !x38 then
                some true
               else
                (qdv x36.1).bind λx39 =>
                bif decide (x39 > w64 ((w64 (s12.2+1))*a0.2.2.2.2.1))then
                 some true
                else
                 (qdv x36.2.1).bind λx40 =>
                 some (decide (x40 > w64 ((w64 (s12.2+1))*a0.2.2.2.2.1)))).bind λ(p41:Bool) =>
             bif p41 then
              some (.inr (.inr (.inr (.inr false))))
             else
              some (.inl (w64 (s28+1)))
            else
             some (.inr (.inl ()))) 0).bind (Sum.elim (λ(p42:Unit) =>
          (idx x9.1 s12.2).bind λx43 =>
          (qO x43).bind λx44 =>
          some (.inl (x44,w64 (s12.2+1)))) some)
       else
        some (.inr (.inl ()))) (x10,0)).bind (Sum.elim (λ(p45:Unit) =>
     (qb4 a0).bind λx46 =>
     (qO a1.1).bind λx47 =>
     (qO a1.2.1).bind λx48 =>
     (qdy x46 x47 x48 a2.2.1).bind λx49 =>
     bif !(decide (x49.2=0))then
      (bif decide (x49.2=12)then
        some true
       else
        some (decide (x49.2=22))).bind λ(p50:Bool) =>
      some p50
     else
      (qaq x49.1 (0:Int) (20:Int)).bind λx51 =>
      bif !x51 then
       some false
      else
       (qab (λ(s53:Int) =>
         (bif decide (s53<=x49.1)then
           some (decide (s53<=a2.1))
          else
           some false).bind λ(p54:Bool) =>
         bif p54 then
          (bif decide (s53 > 0)then
            (idx x9.1 (w64 (s53-1))).bind λx55 =>
            some x55
           else
            some a1.2.1).bind λ(p56:yy2) =>
          (qiW a0 a1.1 p56 a2.2.1).bind λx57 =>
          bif !(x57==decide (s53=x49.1))then
           some (.inr (.inr false))
          else
           some (.inl (w64 (s53+1)))
         else
          some (.inr (.inl ()))) 0).bind (Sum.elim (λ(p58:Unit) =>
       some true) some)) some)
def qbu:Entry:=⟨3,[.ty yt7,.ty (.pair (.sl yt1) (.pair (.sl yt1) .unit)),.ty yt1],[(.bool,0)],λx=>qdn x.1 x.2.1 x.2.2⟩
def qhT:TH:=qcR [([],3,.region 3,{lv:=[⟨none,48,0⟩],ps:=[(.bool,0)],D:=⟨562949936644096⟩,rs:=[⟨0,3⟩,⟨0,4⟩,⟨0,5⟩],Dn:=⟨545077487206400⟩}),
 ([],3,.block 0,{lv:=[],ps:=[],abn:=true,D:=⟨13164036458569648337239753460458804039861849146136775949629521408⟩,wr:=[⟨0,16⟩,⟨0,17⟩]}),
 ([],3,.loop 0,{lv:=[⟨none,9,0⟩,⟨none,10,0⟩],ps:=[((.sl yt1),1),(I,0)],D:=⟨13164036458569648337239753460458804039861849146136775949629521408⟩,wr:=[⟨0,16⟩,⟨0,17⟩],rs:=[⟨0,4⟩],Dn:=⟨13164036458569648337239752779894069564159622105272860337741495808⟩}),
 ([],3,.region 15,{lv:=[⟨none,95,0⟩],ps:=[(.bool,0)],D:=⟨78918677504442992524819169280⟩}),
 ([],3,.region 18,{lv:=[⟨none,134,0⟩],ps:=[(.bool,0)],D:=⟨43556142884750484908705268055477325922304⟩,rs:=[⟨0,4⟩],Dn:=⟨42875578150908607981778518840613789499392⟩}),
 ([],3,.block 2,{lv:=[],ps:=[],abn:=true,D:=⟨411376139330301510538698739496371746122360654458643699508414464⟩,wr:=[⟨0,16⟩,⟨0,17⟩]}),
 ([],3,.loop 2,{lv:=[⟨none,15,0⟩],ps:=[(I,0)],D:=⟨411376139330301510538698739496371746122360654458643699508414464⟩,wr:=[⟨0,16⟩,⟨0,17⟩],rs:=[⟨0,3⟩,⟨0,4⟩,⟨0,16⟩,⟨0,17⟩],Dn:=⟨398112423656641987619734952609812442091766012613984430837499904⟩}),
 ([],3,.region 24,{lv:=[⟨none,207,0⟩],ps:=[(.bool,0)],D:=⟨411376139330207974433953117852572590416390124295136986154401792⟩,rs:=[⟨0,3⟩,⟨0,16⟩,⟨0,17⟩],Dn:=⟨398112423656549913016626661868931490070628198733497373416226816⟩}),
 ([],3,.region 29,{lv:=[⟨none,6,0⟩],ps:=[(.bool,0)],D:=⟨54351252480975689826048702415431575438052483155841794121904878262419520⟩}),
 ([],3,.block 4,{lv:=[],ps:=[],abn:=true,D:=⟨948568794590382506715297426795346965948258085424056526392331788662422807690348544⟩,rs:=[⟨0,5⟩],Dn:=⟨948568780455605988488222790128966960004909958804185351387380123689573197349390336⟩}),
 ([],3,.loop 4,{lv:=[⟨none,20,0⟩],ps:=[(I,0)],D:=⟨948568794590382506715297426795346965948258085424056526392331788662422807690348544⟩,rs:=[⟨0,4⟩,⟨0,5⟩],Dn:=⟨940230845404822055884948932560021050265194416236504030459632619378628390193989632⟩}),
 ([],3,.region 33,{lv:=[⟨none,246,0⟩],ps:=[(.bool,0)],D:=⟨225714712525438598104266255719907840396961067825860321900035192215132176384⟩,rs:=[⟨0,5⟩],Dn:=⟨211579936007211523467599875713964492270341196650855370235062342604791218176⟩}),
 ([],3,.cond 252,{lv:=[⟨none,21,0⟩],ps:=[((.sl yt1),0)],D:=⟨448694345794600257266337566908665642931421190579357185652898138030663379451904⟩})] []
theorem qhW:KT qbu qhT [qbs,qgW,qge,qgX,qcK,qdk,qdB,qee,qeV,qfx,qdG,qeX,qdd,qhM] 40:=λx=>by kernel_rfl
theorem qia:OT qbu:=entK (qt qdM (qt qos (qt qpu (qt qou (qt qfd (qt qjG (qt qkP (qt qlU (qt qmW (qt qox (qt qh8 (qt qmY (qt qmZ (qt qtv qE)))))))))))))) hJ qhW
end
end
end Go.Proofs.YteiciemjanhdcaaGreatDoor
end
section
namespace Go.Proofs.YteiciemjanhdcaaGreatDoor.Mat
open Go Go.Ab Go.Tx Go.Proofs.YteiciemjanhdcaaGreatDoor
theorem wid{n:Int}(h1 : -9223372036854775808<=n)(h2:n<=9223372036854775807):w64 n=n:=qj3 h1 h2
theorem qc3(a b c:Int):qaq a b c=some (decide (b<=a/\a<=c)):=by
 unfold qaq;by_cases h:b<=a<;>simp [h]
theorem qlg(a b c:Int):q6 a b c=some (decide (b<=a/\a<=c)):=by
 unfold q6;by_cases h:b<=a<;>simp [h]
theorem qpZ(a k:Int)(h0:0<=k)(h1:k<=4611686018427387904):qdz a k=some (decide (-k<=a/\a<=k)):=by
 unfold qdz;rw [qlg,wid (by omega) (by omega)];simp
theorem qdZ(b:Bool)(e:Int):qz b e=some (if b then 0 else e):=by cases b<;>rfl
theorem qfX(l:List Int)(h:l.length<=1000000000):qQ l=some (qsh l):=by
 unfold qQ;rw [qy3 l h]
instance (B:Int) (z:G):Decidable (Bd B z):=inferInstanceAs (Decidable (_/\_))
theorem qdh(z:G)(k:Int)(h0:0<=k)(h1:k<=4611686018427387904):qau z k=some (decide (Bd k z)):=by
 unfold qau;rw [qpZ _ _ h0 h1,qpZ _ _ h0 h1];unfold Bd;by_cases c : -k<=z.1/\z.1<=k<;>simp [c]
theorem qkV(z:G)(k:Int)(h0:0<=k)(h1:k<=4611686018427387904):qdS z k=some (decide (Bd k z)):=by
 unfold qdS;rw [wid (by omega) (by omega),qc3,qc3];unfold Bd;have e:(0:Int)-k = -k:=by omega
 rw [e];by_cases c : -k<=z.1/\z.1<=k<;>simp [c]
def qi0(B:Int)(z:G):Bool:=!(decide (Bd B z))
def qAm(n:Nat)(i:Nat)(r:List G):Option (Int×Int):=if r.length=n then (if r.any (qi0 20)then some ((i:Int),2)else none)else some ((i:Int),10)
def qEq(m:Mx):Int×Int:=if m.length=0 then (0,10)else if 3<m.length then (0,8)else (qgh (qAm m.length) 0 m).getD (0,0)
def qhr(m:Mx):Int:=(qEq m).2
theorem quq(r:List G)(h:r.length<=1000000000):qA r=some (r.any (qi0 20)):=by
 unfold qA qM;refine quE r qbY (qi0 20) (λx _=>?_) h;unfold qbY;rw [qdh _ _ (by omega) (by omega)];rfl
theorem qpg{m:Mx}(h:m.length<=1000000000)(hr:∀r∈m,r.length<=1000000000):qcG m=some (qEq m):=by
 unfold qcG qEq;simp only [qdZ,qb];rw [qfX _ (by simp)];simp only [qb];by_cases h0:m.length=0
 ·have h0':¬ ((m.length:Int) > 0):=by omega
  simp [h0,qsh]
 ·have h0':(m.length:Int) > 0:=by omega
  by_cases h4:3<m.length
  ·have h4':¬ ((m.length:Int)<=3):=by omega
   simp [h0,h0',h4,h4',qsh]
  ·have h4':(m.length:Int)<=3:=by omega
   simp only [h0,h0',h4,h4',decide_true,if_true,if_false,qsh,Bool.not_true,cond_false];rw [qg0 m _ (qAm m.length) (λi r hi=>?_),qeh]
   ·cases qgh (qAm m.length) 0 m<;>rfl
   ·have hlt:=qhY hi;rw [qaB hi];simp only [qb];rw [quq r (hr r (List.mem_of_getElem? hi))];simp only [qb];rw [qfX _ (by simp),wid (by omega) (by omega)];simp only [qb];unfold qAm;by_cases c:r.length=m.length
    ·have c':(r.length:Int)=(m.length:Int):=by omega
     cases hb:r.any (qi0 20)
     ·simp [c,c',hb,qsh,stp]
     ·simp [c,c',hb,qsh,stp]
    ·have c':¬ (r.length:Int)=(m.length:Int):=by omega
     simp [c,c',qsh,stp]
theorem ql2{m:Mx}:qcU m=some (qEq m):=by
 unfold qcU qEq;by_cases h0:m.length=0
 ·simp [h0]
 have h0':¬ ((m.length:Int)=0):=by omega
 by_cases h4:3<m.length
 ·have h4':(m.length:Int) > 3:=by omega
  simp [h0,h0',h4,h4']
 have h4':¬ ((m.length:Int) > 3):=by omega
 simp only [h0,h0',h4,h4',decide_false,cond_false,if_false];rw [qg0 m _ (qAm m.length) (λi r hi=>?_),qeh]
 ·cases qgh (qAm m.length) 0 m<;>rfl
 ·have hlt:=qhY hi;rw [qaB hi];simp only [qb];unfold qAm;by_cases c:r.length=m.length
  case neg =>
   have c':¬ (r.length:Int)=(m.length:Int):=by omega
   simp [c,c',stp]
  have c':decide ((r.length:Int)=(m.length:Int))=true:=decide_eq_true (by omega);simp only [c',Bool.not_true,cond_false];rw [if_pos c];rw [qg0 r _ (λ_ z=>if qi0 20 z then some (Sum.inr (Sum.inr ((i:Int),(2:Int))):Int⊕(Unit⊕(Int×Int)))else none) (λk z hk=>?_),qeh]
  ·cases hf:qgh (λ_ z=>if qi0 20 z then some (Sum.inr (Sum.inr ((i:Int),(2:Int))):Int⊕(Unit⊕(Int×Int)))else none) 0 r with
   |none =>
    rw [qfh]at hf;have hb:r.any (qi0 20)=false:=by
     rw [List.any_eq_false];intro x hx;obtain ⟨k,hk⟩:=List.mem_iff_getElem?.1 hx;have:=hf k x hk;simpa using this
    simp only [hb,qj,if_false,stp];rw [wid (by omega) (by omega)]
   |some q =>
    obtain ⟨k,z,h1,h2,_⟩:=qfi hf;have hp:qi0 20 z=true:=by
     cases hp:qi0 20 z
     ·simp [hp]at h2
     ·rfl
    have hb:r.any (qi0 20)=true:=List.any_eq_true.2 ⟨z,List.mem_of_getElem? h1,hp⟩;simp only [hp,if_true,qe]at h2;simp only [hb,if_true,stp,<- h2]
  ·have hlk:=qhY hk;simp only [qb,qaB hk];rw [qkV _ _ (by omega) (by omega)];simp only [qb];rw [wid (by omega) (by omega)];unfold qi0;by_cases d:Bd 20 z<;>simp [d,stp]
theorem qf0{m:Mx}(h:m.length<=1000000000)(hr:∀r∈m,r.length<=1000000000):qbf m=some (qhr m):=by
 unfold qbf;rw [qpg h hr];rfl
theorem qhI{m:Mx}:qbS m=some (qhr m):=by
 unfold qbS;rw [ql2];rfl
theorem qmz{m:Mx}(h:qhr m=0):1<=m.length/\m.length<=3/\qFu m.length m.length m/\BdM 20 m:=by
 unfold qhr qEq at h;split at h
 ·cases h
 ·rename_i h1;split at h
  ·cases h
  ·rename_i h2;have hn:qgh (qAm m.length) 0 m=none:=by
    cases hf:qgh (qAm m.length) 0 m with
    |none=>rfl
    |some r =>
     exfalso
     rw [hf]at h;obtain ⟨i,a,_,h3,_⟩:=qfi hf;unfold qAm at h3;split at h3
     ·split at h3
      ·cases h3;cases h
      ·cases h3
     ·cases h3;cases h
   rw [qfh]at hn;have key:∀r∈m,r.length=m.length/\r.any (qi0 20)=false:=λr hr=>by
    obtain ⟨i,hi⟩:=List.mem_iff_getElem?.1 hr;have:=hn i r hi;unfold qAm at this;split at this
    ·rename_i c;split at this
     ·cases this
     ·rename_i d;exact ⟨c,by simpa using d⟩
    ·cases this
   refine ⟨by omega,by omega,⟨rfl,λr hr=>(key r hr).1⟩,λr hr z hz=>?_⟩;have:=List.any_eq_false.1 (key r hr).2 z hz;unfold qi0 at this;simpa using this
theorem qFE{n c i k:Nat}(f:Nat->Nat->G)(hi:i<n)(hk:k<c):qcw (mx n c f) (i:Int) (k:Int)=some (f i k):=by
 unfold qcw;rw [qaB (qrw f hi),qb,qaB (qbc (λk=>f i k) hk)];rfl
theorem qlb{A B:Int}{a b:G}(h:Bd A a)(h':Bd B b)(hb:2*(A*B)<=9000000000000000000):qaR a b=some (qd6 a b):=congrArg some (qE5 h h' hb)
theorem qrG{A B:Int}{a b:G}(h:Bd A a)(h':Bd B b)(hb:A+B<=9000000000000000000):qbo a b=some (qpj a b):=congrArg some (qEB h h' hb)
theorem qDd{A B:Int}{a b:G}(h:Bd A a)(h':Bd B b)(hb:2*(A*B)<=9000000000000000000):qka a b=some (qd6 a b):=congrArg some (qE5 h h' hb)
theorem qDc{A B:Int}{a b:G}(h:Bd A a)(h':Bd B b)(hb:A+B<=9000000000000000000):qj9 a b=some (qpj a b):=congrArg some (qEB h h' hb)
theorem le_next{i n:Nat}{A:Int}(hA:0<=A)(h:i<n)(hb:(n:Int)*A<=9000000000000000000):(i:Int)*A+A<=9000000000000000000:=by
 have:((i+1:Nat):Int)*A<=(n:Int)*A:=Int.mul_le_mul_of_nonneg_right (by omega) hA;have e:((i+1:Nat):Int)*A=(i:Int)*A+A:=by rw [Int.natCast_add,Int.add_mul];simp
 omega
theorem qyh{n c:Nat}(hn:n<=1000)(f:Nat->Nat->G)(hc:c<n+1):qaf (mx (n+1) (n+1) f) 0 (c:Int)=some (mx n n (minor f 0 c)):=by
 unfold qaf;rw [qh4];refine Ok.eq ?_;rw [qeo];refine (qbb (n+1) (λi (s:Mx×Int)=>s=(mkL (i-1) (λj=>mkL n λk=>minor f 0 c j k),(i:Int))) (λr=>r=mx n n (minor f 0 c)) rfl ?_).mono (λa ha=>by rw [ha];exact qcZ.2 rfl);rintro i s hi rfl;by_cases hlt:i<n+1
 ·have e0:decide ((i:Int)<((n+1:Nat):Int))=true:=decide_eq_true (by omega);simp only [e0,cond_true];rw [qaB (qrw f hlt)];simp only [qb];by_cases hz:i=0
  ·subst hz;simp only [Int.ofNat_eq_natCast,Int.natCast_zero,decide_true,Bool.not_true,cond_false,qb];rw [wid (by omega) (by omega),qaE];exact ⟨by omega,rfl⟩
  ·have e1:decide ((i:Int)=0)=false:=decide_eq_false (by omega);simp only [e1,Bool.not_false,cond_true];rw [qqA (by rw [qad];omega)];simp only [qb,decide_true,cond_true];rw [wid (n:=(c:Int)+1) (by omega) (by omega),qqA (by rw [qad];omega)];simp only [qb,qad];have e2:((c:Int)+1).toNat=c+1:=by omega
   have e3:((n+1:Nat):Int).toNat=n+1:=by omega
   have e4:(0:Int).toNat=0:=rfl;rw [e2,e3,e4,Int.toNat_natCast,qyz (by simp [qad];omega)];simp only [qb];rw [qzO (λk=>f i k) hc,qdt (by rw [qad];omega)];simp only [qb];rw [wid (by omega) (by omega),qaE];refine ⟨hlt,?_⟩;have e5:i+1-1=(i-1)+1:=by omega
   rw [e5,qf1];congr 1
   congr 2
   refine qcc λk hk=>?_;unfold minor;congr 1
   all_goals (unfold skip;rw [if_neg (by omega)];omega)
 ·have:i=n+1:=by omega
  subst this;have e0:decide (((n+1:Nat):Int)<((n+1:Nat):Int))=false:=by simp
  simp only [e0,cond_false];rw [qar];rfl
theorem qrL{n c:Nat}(hn:n<=1000)(f:Nat->Nat->G)(hc:c<n+1):qdT (mx (n+1) (n+1) f) 0 (c:Int)=some (mx n n (minor f 0 c)):=by
 unfold qdT;rw [qh4];refine Ok.eq ?_;rw [qeo];refine (qbb (n+1) (λi (s:Mx×Int)=>s=(mkL (i-1) (λj=>mkL n λk=>minor f 0 c j k),(i:Int))) (λr=>r=mx n n (minor f 0 c)) rfl ?_).mono (λa ha=>by rw [ha];exact qcZ.2 rfl);rintro i s hi rfl;by_cases hlt:i<n+1
 ·have e0:decide ((i:Int)<((n+1:Nat):Int))=true:=decide_eq_true (by omega);simp only [e0,cond_true];by_cases hz:i=0
  ·subst hz;simp only [Int.ofNat_eq_natCast,Int.natCast_zero,decide_true,cond_true,qb];rw [wid (by omega) (by omega),qaE];exact ⟨by omega,rfl⟩
  ·have e1:decide ((i:Int)=0)=false:=decide_eq_false (by omega);simp only [e1,cond_false];rw [qrR,qeo];refine (qbb (n+1) (λk (s:List G×Int)=>s=(mkL (if k<=c then k else k-1) (λk=>f i (skip c k)),(k:Int))) (λr=>r=mkL n λk=>f i (skip c k)) ?_ ?_).mono ?_
   ·simp [qwj]
   ·rintro k s hk rfl;by_cases hlt2:k<n+1
    ·have e2:decide ((k:Int)<((n+1:Nat):Int))=true:=decide_eq_true (by omega);simp only [e2,cond_true];by_cases hkc:k=c
     ·subst hkc;simp only [decide_true,Bool.not_true,cond_false,qb];rw [wid (by omega) (by omega),qaE];refine ⟨hlt2,?_⟩;rw [if_pos (by omega),if_neg (by omega)];rfl
     ·have e3:decide ((k:Int)=(c:Int))=false:=decide_eq_false (by omega);simp only [e3,Bool.not_false,cond_true];rw [qaB (qrw f hlt)];simp only [qb];rw [qaB (qbc (λk=>f i k) hlt2)];simp only [qb];rw [qdt (by rw [qad];split<;>omega)];simp only [qb];rw [wid (by omega) (by omega),qaE];refine ⟨hlt2,?_⟩;congr 1
      by_cases hkl:k<c
      ·rw [if_pos (by omega),if_pos (by omega),qf1];congr 3
       unfold skip;rw [if_pos hkl]
      ·rw [if_neg (by omega),if_neg (by omega)];have e5:k+1-1=(k-1)+1:=by omega
       rw [e5,qf1];congr 3
       unfold skip;rw [if_neg (by omega)];omega
    ·have:k=n+1:=by omega
     subst this;have e2:decide (((n+1:Nat):Int)<((n+1:Nat):Int))=false:=by simp
     simp only [e2,cond_false];rw [qar,if_neg (by omega)];rfl
   ·rintro r rfl;rw [qdt (by rw [qad];omega)];simp only [qb];rw [qcZ,wid (by omega) (by omega),qaE];refine ⟨hlt,?_⟩;have e5:i+1-1=(i-1)+1:=by omega
    rw [e5,qf1];congr 1
    congr 2
    refine qcc λk hk=>?_;unfold minor;congr 1
    all_goals (unfold skip;rw [if_neg (by omega)];omega)
 ·have:i=n+1:=by omega
  subst this;have e0:decide (((n+1:Nat):Int)<((n+1:Nat):Int))=false:=by simp
  simp only [e0,cond_false];rw [qar];rfl
theorem qyR{B:Int}(hB:1<=B)(n:Nat):dB B n<=dB B (n+1):=by
 have e:dB B (n+1)=((n+1:Nat):Int)*(2*(B*dB B n)):=rfl;rw [e];have h0:=qkc (show 0<=B by omega) n;have h1:dB B n<=B*dB B n:=by
  have:=Int.mul_le_mul_of_nonneg_right hB h0;omega
 have h2:(1:Int)*(2*(B*dB B n))<=((n+1:Nat):Int)*(2*(B*dB B n)):=Int.mul_le_mul_of_nonneg_right (by omega) (by omega);omega
theorem qCL{B:Int}(hB:1<=B):∀(k n:Nat) (f:Nat->Nat->G),n<=100->n<k->BdF B n n f->dB B n<=9000000000000000000->qap k (mx n n f)=some (qi6 n f)
 |0,n,f,_,h,_,_=>by omega
 |k+1,0,f,_,_,_,_=>rfl
 |k+1,n+1,f,hn,hk,hf,hb=>by
  have hB0:0<=B:=by omega
  have hD0:=qkc hB0 n;have h0:0<=2*(B*dB B n):=by have:=Int.mul_nonneg hB0 hD0;omega
  have hDn:dB B n<=9000000000000000000:=by have:=qyR hB n;omega
  have hb1:2*(B*dB B n)<=9000000000000000000:=by
   have h9:(1:Int)*(2*(B*dB B n))<=((n+1:Nat):Int)*(2*(B*dB B n)):=Int.mul_le_mul_of_nonneg_right (by omega) h0;simp only [dB]at hb;omega
  have hunf:qap (k+1) (mx (n+1) (n+1) f)=(bif decide (((mx (n+1) (n+1) f).length:Int)=0)then some (1,0,())else
   (qab (λ(s2:(Int×Int×Int)) =>
    bif decide (s2.1<((mx (n+1) (n+1) f).length:Int))then
     (qcw (mx (n+1) (n+1) f) (0:Int) s2.1).bind λx3 =>
     (qaf (mx (n+1) (n+1) f) (0:Int) s2.1).bind λx4 =>
     (qap k x4).bind λx5 =>
     (qaR x3 x5).bind λx6 =>
     (bif decide (s2.1.tmod 2=1)then
       (qae (0,0,()) x6).bind λx7 =>
       some (x7.1,x7.2.1)
      else
       some (x6.1,x6.2.1)).bind λ(p8:(Int×Int)) =>
     (qbo (s2.2.1,s2.2.2,()) (p8.1,p8.2,())).bind λx9 =>
     some (.inl (w64 (s2.1+1),x9.1,x9.2.1))
    else
     some (.inr (s2.2.1,s2.2.2))) (0,0,0)).bind λ(p10:(Int×Int)) =>
   some (p10.1,p10.2,())):=rfl
  rw [hunf,qh4];have e0:decide (((n+1:Nat):Int)=0)=false:=decide_eq_false (by omega);rw [e0,cond_false];have htb:∀j,j<n+1->Bd (2*(B*dB B n)) (qd6 (f 0 j) (qi6 n (minor f 0 j))):=λj hj=>(hf 0 j (by omega) hj).mul (qnC hB0 n _ (qex hf));rw [qr4 (n+1) (by omega) h0 hb (λj=>if j % 2=1 then qrb (qd6 (f 0 j) (qi6 n (minor f 0 j)))else qd6 (f 0 j) (qi6 n (minor f 0 j)))
   (λj hj=>by
           split;· exact (htb j hj).neg
           ·exact htb j hj) (λj hj x y hxy=>?_) (λx y=>?_)]
  ·rfl
  ·have e1:decide ((j:Int)<((n+1:Nat):Int))=true:=decide_eq_true (by omega);simp only [e1,cond_true];have hat:=qFE (n:=n+1) (c:=n+1) f (i:=0) (k:=j) (by omega) hj;simp only [Int.natCast_zero]at hat;rw [hat];simp only [qb];rw [qyh (by omega) f hj];simp only [qb];rw [qCL hB k n _ (by omega) (by omega) (qex hf) hDn];simp only [qb];rw [qlb (hf 0 j (by omega) hj) (qnC hB0 n _ (qex (r:=0) (c:=j) hf)) hb1];simp only [qb];have htm:(j:Int).tmod 2=((j % 2:Nat):Int):=by rw [Int.tmod_eq_emod_of_nonneg (by omega)];omega
   rw [htm];by_cases hp:j % 2=1
   ·have e2:decide (((j % 2:Nat):Int)=1)=true:=decide_eq_true (by omega);rw [e2,cond_true,if_pos hp];have hm:qae (0,0,()) (qd6 (f 0 j) (qi6 n (minor f 0 j)))=some (qrb (qd6 (f 0 j) (qi6 n (minor f 0 j)))):=by
     have:=qCp (a:=g0) (qq1 (B:=0) (by omega)) (htb j hj) (by omega);rw [qsU]at this;exact congrArg some this
    rw [hm];simp only [qb,qGb];rw [qrG hxy (htb j hj).neg (le_next h0 hj hb)];rfl
   ·have e2:decide (((j % 2:Nat):Int)=1)=false:=decide_eq_false (by omega);rw [e2,cond_false,if_neg hp];simp only [qb,qGb];rw [qrG hxy (htb j hj) (le_next h0 hj hb)];rfl
  ·have e1:decide (((n+1:Nat):Int)<((n+1:Nat):Int))=false:=by simp
   simp only [e1,cond_false]
theorem qDf(n:Nat)(h:n<=1000000000):qkb (n:Int) 2=some ((n % 2:Nat):Int):=by
 unfold qkb;have e:((n:Int).tmod 2)=((n % 2:Nat):Int):=by rw [Int.tmod_eq_emod_of_nonneg (by omega)];omega
 rw [e];have e1:decide ((2:Int)=0)=false:=by decide
 have e2:decide (((n % 2:Nat):Int)<0)=false:=decide_eq_false (by omega);simp only [e1,e2,cond_false,qb]
theorem qtK{B:Int}(hB:1<=B):∀(k n:Nat) (f:Nat->Nat->G),n<=100->n<k->BdF B n n f->dB B n<=9000000000000000000->qbh k (mx n n f)=some (qi6 n f)
 |0,n,f,_,h,_,_=>by omega
 |k+1,0,f,_,_,_,_=>rfl
 |k+1,n+1,f,hn,hk,hf,hb=>by
  have hB0:0<=B:=by omega
  have hD0:=qkc hB0 n;have h0:0<=2*(B*dB B n):=by have:=Int.mul_nonneg hB0 hD0;omega
  have hDn:dB B n<=9000000000000000000:=by have:=qyR hB n;omega
  have hb1:2*(B*dB B n)<=9000000000000000000:=by
   have h9:(1:Int)*(2*(B*dB B n))<=((n+1:Nat):Int)*(2*(B*dB B n)):=Int.mul_le_mul_of_nonneg_right (by omega) h0;simp only [dB]at hb;omega
  have hunf:qbh (k+1) (mx (n+1) (n+1) f)=(bif decide (((mx (n+1) (n+1) f).length:Int)=0)then some (1,0,())else
   (qab (λ(s2:(Int×Int×Int)) =>
    bif decide (s2.1<((mx (n+1) (n+1) f).length:Int))then
     (idx (mx (n+1) (n+1) f) 0).bind λx3 =>
     (idx x3 s2.1).bind λx4 =>
     (qdT (mx (n+1) (n+1) f) (0:Int) s2.1).bind λx5 =>
     (qbh k x5).bind λx6 =>
     (qka x4 x6).bind λx7 =>
     (qkb s2.1 (2:Int)).bind λx8 =>
     (bif decide (x8=0)then
       (qj9 (s2.2.1,s2.2.2,()) x7).bind λx9 =>
       some (x9.1,x9.2.1)
      else
       (qfr (s2.2.1,s2.2.2,()) x7).bind λx10 =>
       some (x10.1,x10.2.1)).bind λ(p11:(Int×Int)) =>
     some (.inl (w64 (s2.1+1),p11.1,p11.2))
    else
     some (.inr (s2.2.1,s2.2.2))) (0,0,0)).bind λ(p12:(Int×Int)) =>
   some (p12.1,p12.2,())):=rfl
  rw [hunf,qh4];have e0:decide (((n+1:Nat):Int)=0)=false:=decide_eq_false (by omega);rw [e0,cond_false];have htb:∀j,j<n+1->Bd (2*(B*dB B n)) (qd6 (f 0 j) (qi6 n (minor f 0 j))):=λj hj=>(hf 0 j (by omega) hj).mul (qnC hB0 n _ (qex hf));rw [qr4 (n+1) (by omega) h0 hb (λj=>if j % 2=1 then qrb (qd6 (f 0 j) (qi6 n (minor f 0 j)))else qd6 (f 0 j) (qi6 n (minor f 0 j)))
   (λj hj=>by
           split;· exact (htb j hj).neg
           ·exact htb j hj) (λj hj x y hxy=>?_) (λx y=>?_)]
  ·rfl
  ·have e1:decide ((j:Int)<((n+1:Nat):Int))=true:=decide_eq_true (by omega);simp only [e1,cond_true];rw [qv5,qrw f (by omega)];simp only [qb];rw [qaB (qbc (λk=>f 0 k) hj)];simp only [qb];rw [qrL (by omega) f hj];simp only [qb];rw [qtK hB k n _ (by omega) (by omega) (qex hf) hDn];simp only [qb];rw [qDd (hf 0 j (by omega) hj) (qnC hB0 n _ (qex (r:=0) (c:=j) hf)) hb1];simp only [qb];rw [qDf j (by omega)];simp only [qb];by_cases hp:j % 2=1
   ·have e2:decide (((j % 2:Nat):Int)=0)=false:=decide_eq_false (by omega);rw [e2,cond_false,if_pos hp];have hm:qfr (x,y,()) (qd6 (f 0 j) (qi6 n (minor f 0 j)))=some (qpj (x,y,()) (qrb (qd6 (f 0 j) (qi6 n (minor f 0 j))))):=by
     have:=qCp hxy (htb j hj) (le_next h0 hj hb);rw [qDC]at this;exact congrArg some this
    rw [hm];rfl
   ·have e2:decide (((j % 2:Nat):Int)=0)=true:=decide_eq_true (by omega);rw [e2,cond_true,if_neg hp];rw [qDc hxy (htb j hj) (le_next h0 hj hb)];rfl
  ·have e1:decide (((n+1:Nat):Int)<((n+1:Nat):Int))=false:=by simp
   simp only [e1,cond_false]
theorem qcf{l:List G}(h:l.length<=1000000000):qO l=some l:=by
 unfold qO;rw [qDk (by omega)];rfl
theorem qgO{m:Mx}(h:m.length<=1000000000)(hr:∀r∈m,r.length<=1000000000):qbp m=some m:=by
 unfold qbp;rw [qy4 m (λr=>r) (λi a out hi ho=>?_) (λout ho=>?_)]
 ·simp
 ·have hlt:=qhY hi;have e0:decide ((i:Int)<(m.length:Int))=true:=decide_eq_true (by omega);simp only [e0,cond_true,qaB hi,qb];rw [qcf (hr a (List.mem_of_getElem? hi))];simp only [qb];rw [qdt (by omega)];simp only [qb];rw [wid (by omega) (by omega)]
 ·have e0:decide ((m.length:Int)<(m.length:Int))=false:=by simp
  simp only [e0,cond_false]
theorem quI(a b:G):(bif decide (a.1=b.1)then (bif decide (a.2.1=b.2.1)then true else false)else false)=decide (a=b):=by
 rw [Bool.eq_iff_iff];rw [decide_eq_true_iff,qBk];by_cases h1:a.1=b.1<;>by_cases h2:a.2.1=b.2.1<;>simp [h1,h2]
theorem qpC{l m:List G}(hl:l.length<=1000000000):qeH l m=some (decide (l=m)):=by
 unfold qeH;by_cases h:l.length=m.length
 case neg =>
  have d:decide ((l.length:Int)=(m.length:Int))=false:=decide_eq_false (by omega);rw [d];have:decide (l=m)=false:=decide_eq_false (λe=>h (by rw [e]));rw [this];rfl
 have d:decide ((l.length:Int)=(m.length:Int))=true:=decide_eq_true (by omega);rw [d];simp only [Bool.not_true,cond_false];refine qzi g0 h hl (λa b=>decide (a=b)) (λa b _ _=>by simp) (K:=_) (λi hi=>?_);rw [qv4 g0 (by omega) (by omega),qv4 g0 (l:=m) (by omega) (by omega)];simp only [qb,Int.toNat_natCast];rw [quI,wid (by omega) (by omega)];by_cases c:l.getD i g0=m.getD i g0
 ·simp only [c,decide_true,Bool.not_true,cond_false,if_true]
 ·simp only [c,decide_false,Bool.not_false,cond_true,qj,if_false]
end Go.Proofs.YteiciemjanhdcaaGreatDoor.Mat
end
section
namespace Go.Tx
open Go
section
set_option maxRecDepth 1000000
def dd(a b c d e f g h i:G):G:=qpj (qrc (qd6 a (qrc (qd6 e i) (qd6 f h))) (qd6 b (qrc (qd6 d i) (qd6 f g)))) (qd6 c (qrc (qd6 d h) (qd6 e g)))
theorem qDt(f:Nat->Nat->G):qi6 1 f=f 0 0:=by
 simp only [qi6,qpf];exact qDA (by simp [qd6,g1,g0,qpj]) (by simp [qd6,g1,g0,qpj])
end
end Go.Tx
end
section
namespace Go.Proofs.YteiciemjanhdcaaGreatDoor.Mat
open Go Go.Ab Go.Tx Go.Proofs.YteiciemjanhdcaaGreatDoor
theorem qDi{n:Int}(h : -9223372036854775807<=n/\n<=9223372036854775807):qdv n=some (n.natAbs:Int):=by
 unfold qdv;rw [wid (by omega) (by omega)];congr 1;omega
theorem qw6(l:List Int)(hl:l.length<=1000000000)(hb:∀x∈l,x.natAbs<=4611686018427387904):qaD l=some (quH l:Int):=by
 unfold qaD;exact qsF l hl hb
theorem qvG{n r c:Nat}(hn:n<=1000)(f:Nat->Nat->G)(hr:r<n+1)(hc:c<n+1):qaf (mx (n+1) (n+1) f) (r:Int) (c:Int)=some (mx n n (minor f r c)):=by
 unfold qaf;rw [qh4];refine Ok.eq ?_;rw [qeo];refine (qbb (n+1) (λi (s:Mx×Int)=>s=(mkL (if i<=r then i else i-1) (λj=>mkL n λk=>minor f r c j k),(i:Int))) (λq=>q=mx n n (minor f r c)) (by simp [qwj]) ?_).mono (λa ha=>by rw [ha];exact qcZ.2 rfl);rintro i s hi rfl;by_cases hlt:i<n+1
 ·have e0:decide ((i:Int)<((n+1:Nat):Int))=true:=decide_eq_true (by omega);simp only [e0,cond_true];rw [qaB (qrw f hlt)];simp only [qb];by_cases hz:i=r
  ·subst hz;simp only [decide_true,Bool.not_true,cond_false,qb];rw [wid (by omega) (by omega),qaE];refine ⟨hlt,?_⟩;rw [if_pos (Nat.le_refl _),if_neg (by omega)];rfl
  ·have e1:decide ((i:Int)=(r:Int))=false:=decide_eq_false (by omega);simp only [e1,Bool.not_false,cond_true];rw [qqA (by rw [qad];omega)];simp only [qb,decide_true,cond_true];rw [wid (n:=(c:Int)+1) (by omega) (by omega),qqA (by rw [qad];omega)];simp only [qb,qad];have e2:((c:Int)+1).toNat=c+1:=by omega
   have e3:((n+1:Nat):Int).toNat=n+1:=by omega
   have e4:(0:Int).toNat=0:=rfl;rw [e2,e3,e4,Int.toNat_natCast,qyz (by simp [qad];omega)];simp only [qb];rw [qzO (λk=>f i k) hc,qdt (by rw [qad];split<;>omega)];simp only [qb];rw [wid (by omega) (by omega),qaE];refine ⟨hlt,?_⟩;congr 1
   by_cases hir:i<r
   ·rw [if_pos (by omega),if_pos (by omega),qf1];congr 2
    refine qcc λk hk=>?_;unfold minor;rw [show skip r i=i by unfold skip;rw [if_pos hir]]
   ·rw [if_neg (by omega),if_neg (by omega)];have e5:i+1-1=(i-1)+1:=by omega
    rw [e5,qf1];congr 2
    refine qcc λk hk=>?_;unfold minor;rw [show skip r (i-1)=i by unfold skip;rw [if_neg (by omega)];omega]
 ·have:i=n+1:=by omega
  subst this;have e0:decide (((n+1:Nat):Int)<((n+1:Nat):Int))=false:=by simp
  simp only [e0,cond_false];rw [qar,if_neg (by omega)];rfl
def parts(l:List G):List Int:=l.flatMap λz=>[z.1,z.2.1]
def qmF(m:Mx):List Int:=m.flatMap parts
theorem qcd(l:List G)(z:G):parts (l++[z])=parts l++[z.1]++[z.2.1]:=by simp [parts]
theorem qxO(m:Mx)(r:List G):qmF (m++[r])=qmF m++parts r:=by simp [qmF]
theorem qvZ:∀(l m:List Int) (g:Nat),qpe g (l++m)=qpe (qpe g l) m
 |[],m,g=>rfl
 |x::l,m,g=>by simp only [List.cons_append,qpe];exact qvZ l m _
def qg(den:Int)(m:Mx):Nat:=qpe den.natAbs (qmF m)
def qDZ(g:Int)(f:Nat->Nat->G)(i k:Nat):G:=((f i k).1.tdiv g,(f i k).2.1.tdiv g,())
theorem qwr{B:Int}{l:List G}(h:∀z∈l,Bd B z){x:Int}(hx:x∈parts l) : -B<=x/\x<=B:=by
 unfold parts at hx;obtain ⟨z,hz,hx⟩:=List.mem_flatMap.1 hx;have:=h z hz;unfold Bd at this;simp only [qp,List.not_mem_nil,or_false]at hx;rcases hx with rfl|rfl<;>omega
theorem qz0{B:Int}{m:Mx}(h:BdM B m){x:Int}(hx:x∈qmF m) : -B<=x/\x<=B:=by
 unfold qmF at hx;obtain ⟨r,hr,hx⟩:=List.mem_flatMap.1 hx;exact qwr (h r hr) hx
theorem qFX{B:Int}{den:Int}{m:Mx}(h0:0<=den)(hd:den<=B)(h:BdM B m):(qg den m:Int)<=B:=by
 have:qg den m<=B.toNat:=qq7 (by omega) λx hx=>by have:=qz0 h hx;omega
 omega
theorem qFd{den:Int}{m:Mx}(h:den≠0):0<qg den m:=by
 rcases Nat.eq_zero_or_pos (qg den m)with h0|h0
 ·have:=(qsS.1 h0).1;omega
 ·exact h0
theorem qD2{B:Int}(hB:B<=4611686018427387904){r:List G}(hl:r.length<=1000000)(h:∀z∈r,Bd B z){g:Nat}(hg:(g:Int)<=B){K:Nat×Int->Prop} :
  Ok (qab (λ(s5:(Int×Int)) =>
      bif decide (s5.1<(r.length:Int))then
       (idx r s5.1).bind λx6 =>
       (qaD ([s5.2,x6.1,x6.2.1])).bind λx7 =>
       some (.inl (w64 (s5.1+1),x7))
      else
       some (.inr s5.2)) (0,(g:Int))) λx=>x=(qpe g (parts r):Int):=by
 refine qbb r.length (λi (s:Int×Int)=>s=((i:Int),(qpe g (parts (r.take i)):Int))) _ rfl ?_;rintro i s hi rfl;by_cases hlt:i<r.length
 ·have e0:decide ((i:Int)<(r.length:Int))=true:=decide_eq_true (by omega);have hz:r[i]?=some (r.getD i g0):=qgc _ hlt;have hb:=h _ (qbj (d:=g0) hlt);have hgb:qpe g (parts (r.take i))<=B.toNat:=qq7 (by omega) λx hx=>by
   have:=qwr (λz hz=>h z (List.mem_of_mem_take hz)) hx;omega
  unfold Bd at hb;simp only [e0,cond_true];rw [qaB hz];simp only [qb];rw [qw6 _ (by simp) (by
   intro x hx;simp only [qp,List.not_mem_nil,or_false]at hx;rcases hx with rfl|rfl|rfl<;>omega)]
  simp only [qb];rw [wid (by omega) (by omega),qaE];refine ⟨hlt,?_⟩;congr 2
  rw [qir g0 hlt,qcd,qkn,qkn,qxe];rfl
 ·have:i=r.length:=by omega
  subst this;have e0:decide ((r.length:Int)<(r.length:Int))=false:=by simp
  simp only [e0,cond_false];rw [qar,List.take_length]
theorem qDj{B den:Int}(hB:B<=4611686018427387904){m:Mx}(hl:m.length<=1000000)(hr:∀r∈m,r.length<=1000000)(h:BdM B m)(h0:0<=den)(hd:den<=B) :
  qab (λ(s2:(Int×Int)) =>
   bif decide (s2.1<(m.length:Int))then
    (idx m s2.1).bind λx3 =>
    (qab (λ(s5:(Int×Int)) =>
      bif decide (s5.1<(x3.length:Int))then
       (idx x3 s5.1).bind λx6 =>
       (qaD ([s5.2,x6.1,x6.2.1])).bind λx7 =>
       some (.inl (w64 (s5.1+1),x7))
      else
       some (.inr s5.2)) (0,s2.2)).bind λ(p8:Int) =>
    some (.inl (w64 (s2.1+1),p8))
   else
    some (.inr s2.2)) (0,den)=some (qg den m:Int):=by
 refine Ok.eq (qbb m.length (λi (s:Int×Int)=>s=((i:Int),(qg den (m.take i):Int))) _ (by
  have:((qg den (m.take 0):Nat):Int)=den:=by simp [qg,qmF,qpe]<;>omega
  rw [this];rfl) ?_)
 rintro i s hi rfl;by_cases hlt:i<m.length
 ·have e0:decide ((i:Int)<(m.length:Int))=true:=decide_eq_true (by omega);have hz:m[i]?=some (m.getD i []):=qgc _ hlt;have hmem:=qbj (d:=([]:List G)) hlt;simp only [e0,cond_true];rw [qaB hz];simp only [qb];rw [qrR];refine (qD2 hB (hr _ hmem) (h _ hmem) (qFX h0 hd (λr hr=>h r (List.mem_of_mem_take hr))) (K:=λ_=>True)).mono ?_;rintro x rfl;rw [wid (by omega) (by omega),qaE];refine ⟨hlt,?_⟩;congr 2
  rw [qir [] hlt];unfold qg;rw [qxO,qvZ]
 ·have:i=m.length:=by omega
  subst this;have e0:decide ((m.length:Int)<(m.length:Int))=false:=by simp
  simp only [e0,cond_false];rw [qar,List.take_length]
theorem qmg{x g B:Int}(h : -B<=x/\x<=B) : -B<=x.tdiv g/\x.tdiv g<=B:=by
 have h1:(x.tdiv g).natAbs<=x.natAbs:=by rw [Int.natAbs_tdiv];exact Nat.div_le_self _ _
 omega
def qD0(n c:Nat)(f:Nat->Nat->G)(den:Int):Int×Mx×Unit:=(den.tdiv (qg den (mx n c f)),mx n c (qDZ (qg den (mx n c f)) f),())
theorem qE2{n c:Nat}(hn:n<=1000)(hc:c<=1000)(m:Mx)(g:Int)(f:Nat->Nat->G)(h:∀i k:Nat,i<n->k<c->qb9 i k m g=some (f i k)):qas (n:Int) (c:Int) m g=some (mx n c f):=by
 unfold qas;exact qtk n c hn hc (λi k=>qb9 i k m g) f h
theorem qvc{n c:Nat}{B den:Int}{f:Nat->Nat->G}(hB:B<=4611686018427387904)(hn:1<=n)(hn2:n<=1000)(hc:c<=1000)(h:BdF B n c f)(h0:0<den)(hd:den<=B) :
  qes (mx n c f) den=some (qD0 n c f den):=by
 unfold qes;rw [qDj hB (by rw [qh4];omega) (λr hr=>by rw [(qDQ n c f).2 r hr];omega) (qEH.2 h) (by omega) hd];simp only [qb];rw [qv5,qrw f (by omega),qb,qad,qh4];have hg:0<qg den (mx n c f):=qFd (by omega);have hgne:decide ((qg den (mx n c f):Int)=0)=false:=decide_eq_false (by omega);have hm:=qE2 hn2 hc (mx n c f) (qg den (mx n c f)) (qDZ (qg den (mx n c f)) f) (λi k hi hk=>by
  unfold qb9;rw [qaB (qrw f hi)];simp only [qb];rw [qaB (qbc (λk=>f i k) hk)];simp only [qb,hgne,cond_false];have hb:=h i k hi hk;unfold Bd at hb;have t1:=qmg (g:=(qg den (mx n c f):Int)) hb.1;have t2:=qmg (g:=(qg den (mx n c f):Int)) hb.2;rw [wid (by omega) (by omega),wid (by omega) (by omega)];rfl)
 rw [hm];simp only [qb,hgne,cond_false];have t3:=qmg (g:=(qg den (mx n c f):Int)) (B:=B) (x:=den) (by omega);rw [wid (by omega) (by omega)];rfl
def dC(B:Int):Nat->Int
 |0=>1
 |1=>B
 |n+2=>((n+2:Nat):Int)*(2*(B*dC B (n+1)))
theorem qq5{B:Int}(hB:0<=B):∀(n:Nat) (f:Nat->Nat->G),BdF B n n f->Bd (dC B n) (qi6 n f)
 |0,f,_=>qCK (by simp [dC])
 |1,f,h=>by rw [qDt];exact h 0 0 (by omega) (by omega)
 |n+2,f,h=>by
  simp only [qi6,dC];refine Bd.sum λk hk=>?_;have h1:=(h 0 k (by omega) hk).mul (qq5 hB (n+1) _ (qex (r:=0) (c:=k) h));split
  ·exact h1.neg
  ·exact h1
def qEK(n:Nat)(f:Nat->Nat->G)(i k:Nat):G:=qi6 n (minor f k i)
def qFv(n:Nat)(f:Nat->Nat->G)(i k:Nat):G:=if (i+k) % 2=1 then qrb (qEK n f i k)else qEK n f i k
def qyk(n:Nat)(f:Nat->Nat->G)(d:G)(i k:Nat):G:=qd6 (qFv n f i k) (qsT d)
def norm(d:G):Int:=d.1*d.1+d.2.1*d.2.1
theorem qBN(d:G):qd6 d (qsT d)=(norm d,0,()):=qDA (by simp only [qd6,qsT,norm];grind) (by simp only [qd6,qsT];grind)
theorem qrx{d:G}(h:d≠g0):0<norm d:=by
 unfold norm;have h1:=sq_nonneg d.1;have h2:=sq_nonneg d.2.1;rcases Int.lt_or_le 0 (d.1*d.1+d.2.1*d.2.1)with h3|h3
 ·exact h3
 ·exfalso
  have e1:=qAz (show d.1*d.1=0 by omega);have e2:=qAz (show d.2.1*d.2.1=0 by omega);exact h (qDA e1 e2)
theorem qyP{B:Int}{d:G}(h:Bd B d)(hB:B<=9000000000000000000):qca d=some (qsT d):=by
 unfold qca qsT;unfold Bd at h;rw [wid (by omega) (by omega)];have e:(0:Int)-d.2.1 = -d.2.1:=by omega
 rw [e]
theorem neg_mul(a b:G):qd6 (qrb a) b=qrb (qd6 a b):=qDA (by simp only [qd6,qrb];grind) (by simp only [qd6,qrb];grind)
theorem qzN{B:Int}{a:G}(h:Bd B a)(hB:B<=9000000000000000000):qae (0,0,()) a=some (qrb a):=by
 have:=qCp (a:=g0) (qq1 (B:=0) (by omega)) h (by omega);rw [qsU]at this;exact congrArg some this
theorem qF9(j:Nat):(j:Int).tmod 2=((j % 2:Nat):Int):=by rw [Int.tmod_eq_emod_of_nonneg (by omega)];omega
theorem qBI{n c:Nat}(hn:n<=1000)(hc:c<=1000)(m:Mx)(d:G)(f:Nat->Nat->G)(h:∀i k:Nat,i<n->k<c->qaO i k m d=some (f i k)):qac (n:Int) (c:Int) m d=some (mx n c f):=by
 unfold qac;exact qtk n c hn hc (λi k=>qaO i k m d) f h
structure InvB (n:Nat) (f:Nat->Nat->G) (d:G) (B M D Q:Int):Prop where
 hB:1<=B
 hf:BdF B (n+1) (n+1) f
 crude:dB B n<=9000000000000000000
 minor:∀i k,i<n+1->k<n+1->Bd M (qEK n f i k)
 hd:Bd D d
 md:2*(M*D)<=Q
 dd:2*(D*D)<=9000000000000000000
 hQ:Q<=4611686018427387904
 M0:M<=9000000000000000000
 D0:D<=9000000000000000000
 nq:norm d<=Q
 nz:d≠g0
theorem InvB.adj{n:Nat}{f:Nat->Nat->G}{d:G}{B M D Q:Int}(h:InvB n f d B M D Q){i k:Nat}(hi:i<n+1)(hk:k<n+1):Bd M (qFv n f i k):=by
 unfold qFv;split
 ·exact (h.minor i k hi hk).neg
 ·exact h.minor i k hi hk
theorem InvB.t{n:Nat}{f:Nat->Nat->G}{d:G}{B M D Q:Int}(h:InvB n f d B M D Q):BdF Q (n+1) (n+1) (qyk n f d):=λi k hi hk=>((h.adj hi hk).mul h.hd.qEL).mono h.md
theorem qEQ{n:Nat}{f:Nat->Nat->G}{B:Int}(hB:1<=B)(hn:n<=10)(hf:BdF B n n f)(hb:dB B n<=9000000000000000000):qah (mx n n f)=some (qi6 n f):=by
 unfold qah;exact qCL hB 12 n f (by omega) (by omega) hf hb
theorem qB8{n:Nat}{f:Nat->Nat->G}{B:Int}(hB:1<=B)(hn:n<=10)(hf:BdF B n n f)(hb:dB B n<=9000000000000000000):qbR (mx n n f)=some (qi6 n f):=by
 unfold qbR;exact qtK hB 12 n f (by omega) (by omega) hf hb
theorem qxl{n:Nat}{f:Nat->Nat->G}{d:G}{B M D Q:Int}(hn:n<=5)(h:InvB n f d B M D Q) :
  qbG (mx (n+1) (n+1) f) d=some (qD0 (n+1) (n+1) (qyk n f d) (norm d)):=by
 unfold qbG;rw [qh4];have h2Q:2*(M*D)<=9000000000000000000:=by have:=h.md;have:=h.hQ;omega
 rw [qBI (by omega) (by omega) _ d (qyk n f d) (λi k hi hk=>by
  unfold qaO;rw [qvG (by omega) f hk hi];simp only [qb];rw [qEQ h.hB (by omega) (qex h.hf) h.crude];simp only [qb];rw [qyP h.hd h.D0];simp only [qb];have hb:=h.minor i k hi hk;unfold qEK at hb;rw [qlb hb h.hd.qEL h2Q];simp only [qb];rw [wid (by omega) (by omega)];have e0:((i:Int)+(k:Int))=((i+k:Nat):Int):=by omega
  rw [e0,qF9];unfold qyk qFv qEK;by_cases hp:(i+k) % 2=1
  ·have e2:decide ((((i+k) % 2:Nat):Int)=1)=true:=decide_eq_true (by omega);rw [e2,cond_true,if_pos hp,qzN (hb.mul h.hd.qEL) h2Q,neg_mul];rfl
  ·have e2:decide ((((i+k) % 2:Nat):Int)=1)=false:=decide_eq_false (by omega);rw [e2,cond_false,if_neg hp])]
 simp only [qb];rw [qyP h.hd h.D0];simp only [qb];rw [qlb h.hd h.hd.qEL h.dd,qBN];simp only [qb];rw [qvc h.hQ (by omega) (by omega) (by omega) h.t (qrx h.nz) h.nq];rfl
def qy6(z:G):Int:=(z.1.natAbs:Int)+(z.2.1.natAbs:Int)
def qEx:Nat->(Nat->Int)->Int
 |0,_=>0
 |n+1,f=>qEx n f+f n
def qEt:Nat->(Nat->Int)->Int
 |0,_=>0
 |n+1,f=>max (qEt n f) (f n)
def qGe(n c:Nat)(f:Nat->Nat->G):Int:=qEt n λi=>qEx c λk=>qy6 (f i k)
theorem qBl{B:Int}{z:G}(h:Bd B z):0<=qy6 z/\qy6 z<=2*B:=by unfold qy6;unfold Bd at h;omega
theorem qAD{B:Int}{f:Nat->Int}:∀{n:Nat},(∀k,k<n->0<=f k/\f k<=B)->0<=qEx n f/\qEx n f<=n*B
 |0,_=>by simp [qEx]
 |n+1,h=>by
  have h1:=qAD (n:=n) λk hk=>h k (by omega);have h2:=h n (by omega);have e:((n+1:Nat):Int)*B=n*B+B:=by rw [Int.natCast_add,Int.add_mul];simp
  simp only [qEx]<;>omega
theorem qzG{B:Int}(hB:0<=B){f:Nat->Int}:∀{n:Nat},(∀k,k<n->f k<=B)->0<=qEt n f/\qEt n f<=B
 |0,_=>by simp [qEt,hB]
 |n+1,h=>by
  have h1:=qzG hB (n:=n) λk hk=>h k (by omega);have h2:=h n (by omega);simp only [qEt]<;>omega
def qDw(s:Int)(i k:Nat):G:=if i=k then (s,0,())else g0
theorem qDx{s B:Int}(h0:0<=B)(h : -B<=s/\s<=B)(n c:Nat):BdF B n c (qDw s):=λi k _ _=>by
 unfold qDw;split
 ·unfold Bd;simp only<;>omega
 ·exact qq1 h0
abbrev Qt:=Int×Mx×Unit
instance (B:Int) (m:Mx):Decidable (BdM B m):=inferInstanceAs (Decidable (∀r∈m,∀z∈r,Bd B z))
theorem qvV(a b:Int):qQ [a,b]=some (if a=0 then b else a):=by
 rw [qfX _ (by simp)];by_cases h:a=0<;>by_cases h2:b=0<;>simp [qsh,h,h2]
end Go.Proofs.YteiciemjanhdcaaGreatDoor.Mat
end
section
namespace Go.Proofs.YteiciemjanhdcaaGreatDoor.Mat
open Go Go.Ab Go.Tx Go.Proofs.YteiciemjanhdcaaGreatDoor
theorem qEO{B:Int}(hB:0<=B)(h20:B<=20):∀n,n<=3->dC B n<=192000/\(n<=2->dC B n<=1600):=λn hn=>by
 have h1:B*B<=20*20:=Int.mul_le_mul h20 h20 hB (by omega);have h2:B*(2*(2*(B*B)))<=20*(2*(2*(20*20))):=Int.mul_le_mul h20 (by omega) (by have:=Int.mul_nonneg hB hB;omega) (by omega)
 match n,hn with
 |0,_=>simp [dC]
 |1,_=>simp only [dC]<;>omega
 |2,_=>simp only [dC]<;>omega
 |3,_ =>
  have e:dC B 3=3*(2*(B*(2*(2*(B*B))))):=rfl;rw [e];omega
theorem qFH:∀n,n<=3->dB 20 n<=9000000000000000000:=λn hn=>by
 match n,hn with
 |0,_=>decide
 |1,_=>decide
 |2,_=>decide
 |3,_=>decide
def qgn(m:Mx):G:=qi6 m.length (ent m)
theorem qDu{n:Nat}{f:Nat->Nat->G}(hn:n<=3)(h:BdF 20 n n f):Bd 192000 (qi6 n f):=(qq5 (by omega) n f h).mono (qEO (by omega) (by omega) n hn).1
theorem norm_le{D:Int}{d:G}(h:Bd D d):norm d<=2*(D*D):=by
 have:=(qaQ h.1 h.1).2;have:=(qaQ h.2 h.2).2;unfold norm;omega
theorem qCV{n:Nat}{f:Nat->Nat->G}(hn:n+1<=3)(h:BdF 20 (n+1) (n+1) f)(hz:qi6 (n+1) f≠g0):InvB n f (qi6 (n+1) f) 20 1600 192000 73728000000 where
 hB:=by omega
 hf:=h
 crude:=qFH n (by omega)
 minor:=λi k hi hk=>(qq5 (by omega) n _ (qex h)).mono ((qEO (by omega) (by omega) n (by omega)).2 (by omega))
 hd:=qDu hn h
 md:=by omega
 dd:=by omega
 hQ:=by omega
 M0:=by omega
 D0:=by omega
 nq:=norm_le (qDu hn h)
 nz:=hz
def qFI(m:Mx):Qt:=qD0 m.length m.length (qyk (m.length-1) (ent m) (qgn m)) (norm (qgn m))
def qlz(m:Mx):Int:=if qhr m≠0 then qhr m else if qgn m=g0 then 11 else 0
def noQ:Qt:=(0,[],())
theorem qh1{m:Mx}(h:qhr m=0):∃n,m.length=n+1/\n+1<=3/\m=mx (n+1) (n+1) (ent m)/\BdF 20 (n+1) (n+1) (ent m):=by
 obtain ⟨h1,h3,hR,hB⟩:=qmz h;refine ⟨m.length-1,by omega,by omega,?_,?_⟩
 ·have e:m.length-1+1=m.length:=by omega
  rw [e];exact qvf hR
 ·have e:m.length-1+1=m.length:=by omega
  rw [e];exact qq0 hB hR
theorem qDv{m:Mx}(h:qhr m=0):qah m=some (qgn m):=by
 obtain ⟨n,hl,h3,hm,hB⟩:=qh1 h;unfold qgn;rw [hl];conv=>lhs;rw [hm]
 exact qEQ (by omega) (by omega) hB (qFH _ h3)
theorem qxT{m:Mx}(h:qhr m=0):qbR m=some (qgn m):=by
 obtain ⟨n,hl,h3,hm,hB⟩:=qh1 h;unfold qgn;rw [hl];conv=>lhs;rw [hm]
 exact qB8 (by omega) (by omega) hB (qFH _ h3)
theorem qsp{m:Mx}(h:m.length<=1000000000)(hr:∀r∈m,r.length<=1000000000):qdx m=some (if qlz m=0 then qFI m else noQ,qlz m):=by
 unfold qdx;rw [qf0 h hr];simp only [qb];unfold qlz;by_cases hE:qhr m=0
 case neg =>
  rw [if_pos hE,decide_eq_false hE,Bool.not_false,cond_true,if_neg hE];rfl
 rw [if_neg (show ¬ qhr m≠0 from λhh=>hh hE),decide_eq_true hE,Bool.not_true,cond_false,qDv hE];simp only [qb];have hgz:(bif decide ((qgn m).1=0)then (bif decide ((qgn m).2.1=0)then true else false)else false)=decide (qgn m=g0):=quI (qgn m) g0;rw [hgz];by_cases hz:qgn m=g0
 ·rw [decide_eq_true hz,cond_true,if_pos hz];rfl
 ·rw [decide_eq_false hz,cond_false,if_neg hz,if_pos rfl];obtain ⟨n,hl,h3,hm,hB⟩:=qh1 hE;have hd:qgn m=qi6 (n+1) (ent m):=by unfold qgn;rw [hl]
  have hz':qi6 (n+1) (ent m)≠g0:=by rw [<- hd];exact hz
  have:=qxl (by omega) (qCV h3 hB hz');rw [<- hm,<- hd]at this;rw [this];unfold qFI;rw [hl,show n+1-1=n by omega];rfl
theorem qqO{m:Mx}:qdg m=some (qlz m):=by
 unfold qdg;rw [qhI];simp only [qb];unfold qlz;by_cases hE:qhr m=0
 case neg =>
  rw [if_pos hE,decide_eq_false hE,Bool.not_false,cond_true]
 rw [if_neg (show ¬ qhr m≠0 from λhh=>hh hE),decide_eq_true hE,Bool.not_true,cond_false,qxT hE];simp only [qb];have hgz:(bif decide ((qgn m).1=0)then (bif decide ((qgn m).2.1=0)then true else false)else false)=decide (qgn m=g0):=quI (qgn m) g0;rw [hgz];by_cases hz:qgn m=g0
 ·rw [decide_eq_true hz,cond_true,if_pos hz]
 ·rw [decide_eq_false hz,cond_false,if_neg hz]
theorem qv7{m:Mx}(h:qlz m=0):qhr m=0/\qgn m≠g0:=by
 unfold qlz at h;by_cases hE:qhr m=0
 ·rw [if_neg (show ¬ qhr m≠0 from λhh=>hh hE)]at h;by_cases hz:qgn m=g0
  ·rw [if_pos hz]at h;cases h
  ·exact ⟨hE,hz⟩
 ·rw [if_pos hE]at h;exact absurd h hE
def qsi(m:Mx):Nat->Nat->G:=qDZ (qg (norm (qgn m)) (mx m.length m.length (qyk (m.length-1) (ent m) (qgn m)))) (qyk (m.length-1) (ent m) (qgn m))
def qrd(m:Mx):Int:=(norm (qgn m)).tdiv (qg (norm (qgn m)) (mx m.length m.length (qyk (m.length-1) (ent m) (qgn m))))
theorem qDH(m:Mx):qFI m=(qrd m,mx m.length m.length (qsi m),()):=rfl
theorem qDI{m:Mx}(h:qlz m=0):BdF 614400000 m.length m.length (qyk (m.length-1) (ent m) (qgn m)):=by
 obtain ⟨hE,hz⟩:=qv7 h;obtain ⟨n,hl,h3,hm,hB⟩:=qh1 hE;have hd:qgn m=qi6 (n+1) (ent m):=by unfold qgn;rw [hl]
 have hz':qi6 (n+1) (ent m)≠g0:=by rw [<- hd];exact hz
 rw [hd,hl,show n+1-1=n by omega];have hI:=qCV h3 hB hz';intro i k hi hk;exact ((hI.adj hi hk).mul hI.hd.qEL).mono (by omega)
theorem qzk{m:Mx}(h:qlz m=0):BdF 614400000 m.length m.length (qsi m):=λi k hi hk=>by
 have hb:=qDI h i k hi hk;exact ⟨qmg hb.1,qmg hb.2⟩
theorem qzj{m:Mx}(h:qlz m=0):0<=qrd m/\qrd m<=73728000000:=by
 obtain ⟨hE,hz⟩:=qv7 h;obtain ⟨n,hl,h3,hm,hB⟩:=qh1 hE;have hd:qgn m=qi6 (n+1) (ent m):=by unfold qgn;rw [hl]
 have hn:=qrx hz;have hb:=norm_le (qDu h3 hB);rw [<- hd]at hb;unfold qrd;have:=qmg (x:=norm (qgn m)) (g:=(qg (norm (qgn m)) (mx m.length m.length (qyk (m.length-1) (ent m) (qgn m))):Int)) (B:=73728000000) (by omega);exact ⟨Int.tdiv_nonneg (by omega) (Int.natCast_nonneg _),this.2⟩
end Go.Proofs.YteiciemjanhdcaaGreatDoor.Mat
namespace Go.Proofs.YteiciemjanhdcaaGreatDoor
open Go Go.Ab Go.Tx
end Go.Proofs.YteiciemjanhdcaaGreatDoor
end
section
namespace Go.Proofs.YteiciemjanhdcaaGreatDoor.Mat
open Go Go.Ab Go.Tx Go.Proofs.YteiciemjanhdcaaGreatDoor
def qGc(m:Mx):Nat:=qg (norm (qgn m)) (mx m.length m.length (qyk (m.length-1) (ent m) (qgn m)))
theorem qzl(m:Mx):(qGc m:Int) ∣ norm (qgn m):=by
 have h:=qi8 (qmF (mx m.length m.length (qyk (m.length-1) (ent m) (qgn m)))) (norm (qgn m)).natAbs;exact Int.ofNat_dvd_left.2 h
theorem qBv(m:Mx):qrd m*(qGc m:Int)=norm (qgn m):=Int.tdiv_mul_cancel (qzl m)
theorem qBw{m:Mx}(h:qlz m=0):1<=qrd m:=by
 have h1:=qrx (qv7 h).2;have h2:=qBv m;have h3:=(qzj h).1;false_or_by_contra
 have:qrd m=0:=by omega
 rw [this,Int.zero_mul]at h2;omega
end Go.Proofs.YteiciemjanhdcaaGreatDoor.Mat
end
section
namespace Go.Proofs.YteiciemjanhdcaaGreatDoor.Mat
open Go Go.Ab Go.Tx Go.Proofs.YteiciemjanhdcaaGreatDoor
abbrev Rg:=Mx×Mx×Int×Int×Int×Unit
theorem qCQ(a b c:Int):qQ [a,b,c]=some (if a=0 then if b=0 then c else b else a):=by
 rw [qfX _ (by simp)];by_cases h:a=0<;>by_cases h2:b=0<;>by_cases h3:c=0<;>simp [qsh,h,h2,h3]
theorem qET(a b c d:Int):qQ [a,b,c,d]=some (if a=0 then if b=0 then if c=0 then d else c else b else a):=by
 rw [qfX _ (by simp)];by_cases h:a=0<;>by_cases h2:b=0<;>by_cases h3:c=0<;>by_cases h4:d=0<;>simp [qsh,h,h2,h3,h4]
theorem quu(l:List Int)(hl:l.length<=1000000000)(hb:quH l<=9223372036854775807):qaD l=some (quH l:Int):=by
 unfold qaD;refine Ok.eq ?_;rw [qeo];refine (qbb l.length (λi (s:Int×Int)=>s.2=(i:Int)/\s.1.natAbs=quH (l.take i)) (λr:Int=>r.natAbs=quH l) ⟨rfl,rfl⟩ ?_).mono ?_
 ·rintro i ⟨g,s⟩ hi ⟨h1,h2⟩;simp only at h1 h2;subst h1;by_cases hlt:i<l.length
  ·have e0:decide ((i:Int)<(l.length:Int))=true:=decide_eq_true (by omega);simp only [e0,cond_true];rw [qv4 0 (by omega) (by omega)];simp only [qb,Int.toNat_natCast];obtain ⟨r,h3,h4⟩:=qjp (f:=λ(s5:(Int×Int))=>bif !(decide (s5.2=0))then bif decide (s5.2=0)then none else some (.inl (s5.2,s5.1.tmod s5.2))else some (.inr s5.1)) (λs=>by
    by_cases h:s.2=0<;>simp [h]) (l.getD i 0).natAbs g (l.getD i 0) (Nat.le_refl _)
   rw [h3];simp only [qb];rw [wid (by omega) (by omega),qaE];refine ⟨hlt,by simp,?_⟩;rw [h4,qir 0 hlt];unfold quH at h2 ⊢;rw [qkn,<- h2];rfl
  ·have:i=l.length:=by omega
   subst this;have e0:decide ((l.length:Int)<(l.length:Int))=false:=by simp
   simp only [e0,cond_false];rw [qar];simpa using h2
 ·intro r hr;rw [wid (by omega) (by omega),qcZ];omega
theorem qpU{a b:Int}(h0:0<b):(Int.gcd a b:Int)<=b/\1<=Int.gcd a b:=by
 have h1:Nat.gcd a.natAbs b.natAbs ∣ b.natAbs:=Nat.gcd_dvd_right _ _;have h2:=Nat.le_of_dvd (by omega) h1;have h3:0<Nat.gcd a.natAbs b.natAbs:=Nat.pos_of_dvd_of_pos h1 (by omega);have e:Int.gcd a b=Nat.gcd a.natAbs b.natAbs:=rfl;rw [e];omega
theorem qut{a b:Int}(h0:0<b)(h1:b<=9223372036854775807):qaD [a,b]=some (Int.gcd a b:Int):=by
 have h:=(qpU (a:=a) h0).1;rw [quu _ (by simp) (by rw [qv0];omega),qv0]
theorem qDe{a b:Int}(h0:0<b)(h1:b<=9223372036854775807):qm6 a b=some (Int.gcd a b:Int):=by
 unfold qm6;refine Ok.eq ?_;rw [qeo];obtain ⟨r,h3,h4⟩:=qjp (f:=λ(s2:(Int×Int))=>bif !(decide (s2.2=0))then bif decide (s2.2=0)then none else some (.inl (s2.2,s2.1.tmod s2.2))else some (.inr s2.1)) (λs=>by
  by_cases h:s.2=0<;>simp [h]) b.natAbs a b (Nat.le_refl _)
 refine ⟨r,h3,?_⟩;have h:=(qpU (a:=a) h0).1;show Ok ((qdv r).bind λx4=>some x4) _;rw [qDi (by omega),qb,qcZ,h4]
def low(num den:Int):Prop:=0<den/\Int.gcd num den=1
instance (num den:Int):Decidable (low num den):=inferInstanceAs (Decidable (_/\_))
def qqu(r:Rg):Int :=
 if qhr r.1≠0 then qhr r.1 else if qhr r.2.1≠0 then qhr r.2.1 else if r.1.length≠r.2.1.length then 13 else if qlz r.2.1≠0 then qlz r.2.1
 else if ¬ low r.2.2.1 r.2.2.2.1 then 3 else if ¬ (0<=r.2.2.1/\r.2.2.1<=r.2.2.2.1)then 2 else if ¬ r.2.2.2.1<=100 then 2 else if ¬ (0<=r.2.2.2.2.1/\r.2.2.2.2.1<=1000)then 2 else 0
theorem quf{num den:Int}(h1:den<=9223372036854775807):qe7 (num,den,())=some (decide (low num den)):=by
 unfold qe7;by_cases h0:0<den
 ·rw [decide_eq_true (show den > 0 from h0),cond_true,qDe h0 h1];simp only [qb];congr 1
  unfold low;simp [h0]<;>omega
 ·rw [decide_eq_false (show ¬ den > 0 from h0),cond_false,decide_eq_false (show ¬ low num den from λh=>h0 h.1)];rfl
theorem qyq{r:Rg}(hd:r.2.2.2.1<=9223372036854775807):qf8 r=some (qqu r):=by
 obtain ⟨p,m,num,den,lag,_⟩:=r;simp only at hd;unfold qf8 qqu;simp only
 rw [qhI,qb];by_cases e1:qhr p=0
 case neg=>rw [decide_eq_false e1,Bool.not_false,cond_true,if_pos e1]
 rw [decide_eq_true e1,Bool.not_true,cond_false,if_neg (show ¬ (qhr p≠0)from λhh=>hh e1),qhI,qb];by_cases e2:qhr m=0
 case neg=>rw [decide_eq_false e2,Bool.not_false,cond_true,if_pos e2]
 rw [decide_eq_true e2,Bool.not_true,cond_false,if_neg (show ¬ (qhr m≠0)from λhh=>hh e2)];by_cases e3:p.length=m.length
 case neg=>rw [decide_eq_false (show ¬ (m.length:Int)=(p.length:Int) by omega),Bool.not_false,cond_true,if_pos e3]
 rw [decide_eq_true (show (m.length:Int)=(p.length:Int) by omega),Bool.not_true,cond_false,if_neg (show ¬ (p.length≠m.length)from λhh=>hh e3),qqO,qb];by_cases e4:qlz m=0
 case neg=>rw [decide_eq_false e4,Bool.not_false,cond_true,if_pos e4]
 rw [decide_eq_true e4,Bool.not_true,cond_false,if_neg (show ¬ (qlz m≠0)from λhh=>hh e4),quf hd,qb];by_cases e5:low num den
 case neg=>rw [decide_eq_false e5,Bool.not_false,cond_true,if_pos e5]
 rw [decide_eq_true e5,Bool.not_true,cond_false,if_neg (show ¬ (¬ low num den)from λhh=>hh e5),qc3,qb];by_cases e6:0<=num/\num<=den
 case neg=>rw [decide_eq_false e6,Bool.not_false,cond_true,if_pos e6];rfl
 rw [decide_eq_true e6,Bool.not_true,cond_false,if_neg (show ¬ (¬ (0<=num/\num<=den))from λhh=>hh e6)];by_cases e7:den<=100
 case neg=>rw [decide_eq_true (show den > 100 by omega),cond_true,if_pos e7];rfl
 rw [decide_eq_false (show ¬ den > 100 by omega),cond_false,if_neg (show ¬ (¬ den<=100)from λhh=>hh e7),qc3];by_cases e8:0<=lag/\lag<=1000
 case neg=>rw [decide_eq_false e8,if_pos e8];rfl
 rw [decide_eq_true e8,if_neg (show ¬ (¬ (0<=lag/\lag<=1000))from λhh=>hh e8)];rfl
theorem qxN{r:Rg}(hp:r.1.length<=1000000000)(hpr:∀x∈r.1,x.length<=1000000000)(hm:r.2.1.length<=1000000000)(hmr:∀x∈r.2.1,x.length<=1000000000)(hd:r.2.2.2.1<=9223372036854775807) :
  ∃y,qdA r=some (y,qqu r)/\(qqu r=0->y=(r.1,r.2.1,r.2.2.1,r.2.2.2.1,r.2.2.2.2.1,qrd r.2.1,mx r.2.1.length r.2.1.length (qsi r.2.1),())):=by
 obtain ⟨p,m,num,den,lag,_⟩:=r;simp only at hp hpr hm hmr hd;unfold qdA;simp only
 rw [qf0 hp hpr,qb,qf0 hm hmr,qb,qdZ,qb,qCQ,qb];unfold qqu;simp only
 by_cases e1:qhr p=0
 case neg =>
  rw [if_neg e1,decide_eq_false e1,Bool.not_false,cond_true,if_pos e1];exact ⟨_,rfl,λh=>absurd h e1⟩
 rw [if_pos e1,if_neg (show ¬ (qhr p≠0)from λhh=>hh e1)];by_cases e2:qhr m=0
 case neg =>
  rw [if_neg e2,decide_eq_false e2,Bool.not_false,cond_true,if_pos e2];exact ⟨_,rfl,λh=>absurd h e2⟩
 rw [if_pos e2,if_neg (show ¬ (qhr m≠0)from λhh=>hh e2)];by_cases e3:p.length=m.length
 case neg =>
  rw [decide_eq_false (show ¬ (p.length:Int)=(m.length:Int) by omega),if_neg (by simp),decide_eq_false (show ¬ (13:Int)=0 by omega),Bool.not_false,cond_true,if_pos e3];exact ⟨_,rfl,λh=>by cases h⟩
 rw [decide_eq_true (show (p.length:Int)=(m.length:Int) by omega),if_pos rfl,decide_eq_true (show (0:Int)=0 from rfl),Bool.not_true,cond_false,if_neg (show ¬ (p.length≠m.length)from λhh=>hh e3),qsp hm hmr,qb];have hmid:∀b1 b2 b3:Bool,∀x:Int,qQ [x,if b1=true then (0:Int)else 3,if b2=true then (0:Int)else 2,if b3=true then (0:Int)else 2]=some (if x=0 then if b1=true then if b2=true then if b3=true then 0 else 2 else 2 else 3 else x):=λb1 b2 b3 x=>by
  rw [qET];cases b1<;>cases b2<;>cases b3<;>simp
 have hinner:(bif decide (den > 0)then
    (qaD ([num,den])).bind λx6 =>
    (qz (decide (x6=1)) (3:Int)).bind λx7 =>
    (q6 num (0:Int) den).bind λx8 =>
    bif x8 then
     (qz (decide (den<=100)) (2:Int)).bind λx9 =>
     (q6 lag (0:Int) (1000:Int)).bind λx10 =>
     (qz x10 (2:Int)).bind λx11 =>
     (qQ ([qlz m,x7,x9,x11])).bind λx12 =>
     some x12
    else
     (qz false (2:Int)).bind λx13 =>
     (q6 lag (0:Int) (1000:Int)).bind λx14 =>
     (qz x14 (2:Int)).bind λx15 =>
     (qQ ([qlz m,x7,x13,x15])).bind λx16 =>
     some x16
   else
    (qz false (3:Int)).bind λx17 =>
    (q6 num (0:Int) den).bind λx18 =>
    bif x18 then
     (qz (decide (den<=100)) (2:Int)).bind λx19 =>
     (q6 lag (0:Int) (1000:Int)).bind λx20 =>
     (qz x20 (2:Int)).bind λx21 =>
     (qQ ([qlz m,x17,x19,x21])).bind λx22 =>
     some x22
    else
     (qz false (2:Int)).bind λx23 =>
     (q6 lag (0:Int) (1000:Int)).bind λx24 =>
     (qz x24 (2:Int)).bind λx25 =>
     (qQ ([qlz m,x17,x23,x25])).bind λx26 =>
     some x26)=some (if qlz m≠0 then qlz m
 else if ¬ low num den then 3 else if ¬ (0<=num/\num<=den)then 2 else if ¬ den<=100 then 2 else if ¬ (0<=lag/\lag<=1000)then 2 else 0):=by
  simp only [qlg,qdZ,qb,hmid];by_cases h0:0<den
  ·rw [decide_eq_true (show den > 0 from h0),cond_true,qut h0 hd];simp only [qb,hmid];have hl:low num den↔((Int.gcd num den:Nat):Int)=1:=by unfold low;constructor<;>intro h<;>omega
   by_cases e4:qlz m=0<;>by_cases e5:((Int.gcd num den:Nat):Int)=1<;>by_cases e6:0<=num/\num<=den<;>by_cases e7:den<=100<;>by_cases e8:0<=lag/\lag<=1000<;>(try clear h0 hd hp hpr hm hmr)<;>simp [hl,e4,e5,e6,e7,e8]
  ·have hl:¬ low num den:=λh=>h0 h.1;rw [decide_eq_false (show ¬ den > 0 from h0),cond_false];by_cases e4:qlz m=0<;>by_cases e6:0<=num/\num<=den<;>by_cases e7:den<=100<;>by_cases e8:0<=lag/\lag<=1000<;>(try clear h0 hd hp hpr hm hmr)<;>simp [hl,e4,e6,e7,e8]
 rw [hinner,qb];refine ⟨_,rfl,λh=>?_⟩;have e4:qlz m=0:=by
  false_or_by_contra
  rename_i h9;rw [if_pos h9]at h;exact h9 h
 rw [if_pos e4,qDH]
theorem qoV{r:Rg}(h:qqu r=0):qhr r.1=0/\qlz r.2.1=0/\r.1.length=r.2.1.length/\0<r.2.2.2.1/\0<=r.2.2.1/\r.2.2.1<=r.2.2.2.1/\r.2.2.2.1<=100:=by
 unfold qqu at h;by_cases e1:qhr r.1=0
 case neg=>rw [if_pos e1]at h;exact absurd h e1
 rw [if_neg (show ¬ (qhr r.1≠0)from λhh=>hh e1)]at h;by_cases e2:qhr r.2.1=0
 case neg=>rw [if_pos e2]at h;exact absurd h e2
 rw [if_neg (show ¬ (qhr r.2.1≠0)from λhh=>hh e2)]at h;by_cases e3:r.1.length=r.2.1.length
 case neg=>rw [if_pos e3]at h;cases h
 rw [if_neg (show ¬ (r.1.length≠r.2.1.length)from λhh=>hh e3)]at h;by_cases e4:qlz r.2.1=0
 case neg=>rw [if_pos e4]at h;exact absurd h e4
 rw [if_neg (show ¬ (qlz r.2.1≠0)from λhh=>hh e4)]at h;by_cases e5:low r.2.2.1 r.2.2.2.1
 case neg=>rw [if_pos e5]at h;cases h
 rw [if_neg (show ¬ ¬ _ from λhh=>hh e5)]at h;by_cases e6:0<=r.2.2.1/\r.2.2.1<=r.2.2.2.1
 case neg=>rw [if_pos e6]at h;cases h
 rw [if_neg (show ¬ ¬ (0<=r.2.2.1/\r.2.2.1<=r.2.2.2.1)from λhh=>hh e6)]at h;by_cases e7:r.2.2.2.1<=100
 case neg=>rw [if_pos e7]at h;cases h
 exact ⟨e1,e4,e3,e5.1,e6.1,e6.2,e7⟩
def qFx(r:Rg)(i k:Nat):G:=qrc (qDw (r.2.2.2.1*qrd r.2.1) i k) (qd6 (qz2 r.2.1.length (ent r.1) (qsi r.2.1) i k) (r.2.2.1,0,()))
def qFF(r:Rg):Int:=qGe r.2.1.length r.2.1.length (qFx r)
def qEr(r:Rg):Int:=r.2.2.2.1*qrd r.2.1
theorem qwi{A B:Int}{a b:G}(h:Bd A a)(h':Bd B b)(hb:A+B<=9000000000000000000):qae a b=some (qrc a b):=congrArg some (qCp h h' hb)
structure ConB (r:Rg):Prop where
 pB:BdF 73728000000 r.2.1.length r.2.1.length (qz2 r.2.1.length (ent r.1) (qsi r.2.1))
 sB:BdF 14745600000000 r.2.1.length r.2.1.length (λi k=>qd6 (qz2 r.2.1.length (ent r.1) (qsi r.2.1) i k) (r.2.2.1,0,()))
 qB:1<=qEr r/\qEr r<=7372800000000
 cB:BdF 22118400000000 r.2.1.length r.2.1.length (qFx r)
 rB:0<=qFF r/\qFF r<=132710400000000
 n1:1<=r.2.1.length
 n3:r.2.1.length<=3
theorem qGh{r:Rg}(h:qqu r=0):ConB r:=by
 obtain ⟨hE,hI,hl,h0,h1,h2,h3⟩:=qoV h;obtain ⟨m1,m3,mR,mB⟩:=qmz hE;have hX:=qzk hI;have hD:=qzj hI;have hD1:=qBw hI;have hA:=qq0 mB mR;rw [hl]at hA;have hq2:qEr r<=100*73728000000:=Int.mul_le_mul h3 hD.2 hD.1 (by omega);have hq1:1*1<=qEr r:=Int.mul_le_mul (by omega) hD1 (by omega) (by omega);have hp:BdF 73728000000 r.2.1.length r.2.1.length (qz2 r.2.1.length (ent r.1) (qsi r.2.1)):=λi k hi hk=>by
  have:=Bd.sum (n:=r.2.1.length) (f:=λj=>qd6 (ent r.1 i j) (qsi r.2.1 j k)) (B:=2*(20*614400000)) λj hj=>(hA i j hi hj).mul (hX j k hj hk);refine this.mono ?_;have h4:(r.2.1.length:Int)*(2*(20*614400000))<=3*(2*(20*614400000)):=Int.mul_le_mul_of_nonneg_right (by omega) (by omega);omega
 have hs:BdF 14745600000000 r.2.1.length r.2.1.length (λi k=>qd6 (qz2 r.2.1.length (ent r.1) (qsi r.2.1) i k) (r.2.2.1,0,())):=λi k hi hk=>by
  have h5:Bd 100 ((r.2.2.1,0,()):G):=by unfold Bd;simp only<;>omega
  exact ((hp i k hi hk).mul h5).mono (by omega)
 have hc:BdF 22118400000000 r.2.1.length r.2.1.length (qFx r):=λi k hi hk=>by
  have hdg:=qDx (s:=qEr r) (B:=7372800000000) (by omega) (by omega) r.2.1.length r.2.1.length i k hi hk;exact (hdg.sub (hs i k hi hk)).mono (by omega)
 refine ⟨hp,hs,by omega,hc,?_,by omega,by omega⟩;unfold qFF qGe;refine qzG (by omega) λi hi=>?_;have:=(qAD (n:=r.2.1.length) (f:=λk=>qy6 (qFx r i k)) λk hk=>qBl (hc i k hi hk)).2;have h4:(r.2.1.length:Int)*(2*22118400000000)<=3*(2*22118400000000):=Int.mul_le_mul_of_nonneg_right (by omega) (by omega);omega
def qFj(c:G):Prop:=(-1000000000<=c.1/\c.1<=1000000000)/\c.2.1<=1000000000
instance (c:G):Decidable (qFj c):=inferInstanceAs (Decidable (_/\_))
theorem qwU{r:Rg}(hp:r.1.length<=1000000000)(hpr:∀x∈r.1,x.length<=1000000000)(hm:r.2.1.length<=1000000000)(hmr:∀x∈r.2.1,x.length<=1000000000):qb4 r=some r:=by
 unfold qb4;rw [qgO hp hpr,qb,qgO hm hmr,qb]
end Go.Proofs.YteiciemjanhdcaaGreatDoor.Mat
namespace Go.Proofs.YteiciemjanhdcaaGreatDoor
open Go Go.Ab Go.Tx
end Go.Proofs.YteiciemjanhdcaaGreatDoor
end
section
namespace Go.Proofs.YteiciemjanhdcaaGreatDoor.Mat
open Go Go.Ab Go.Tx Go.Proofs.YteiciemjanhdcaaGreatDoor
theorem qfY{n:Int}(h1 : -9007199254740991<=n)(h2:n<=9007199254740991):flo n=some n:=by
 unfold flo;rw [if_pos (by omega)]
def qfO(l:List G)(n:Nat):Int:=if l.length=n then (if l.any (qi0 10000)=true then 2 else 0)else 10
theorem qxA(r:List G)(h:r.length<=1000000000):qw r=some (r.any (qi0 10000)):=by
 unfold qw qF;refine quE r qbK (qi0 10000) (λx _=>?_) h;unfold qbK;rw [qdh _ _ (by omega) (by omega)];rfl
theorem qiG{l:List G}{n:Nat}(h:l.length<=1000000000):qaZ l (n:Int)=some (qfO l n):=by
 unfold qaZ qfO;rw [qxA l h];simp only [qb,qdZ];rw [qvV];by_cases c:l.length=n
 ·have c':decide ((l.length:Int)=(n:Int))=true:=decide_eq_true (by omega);rw [c',if_pos c];cases hb:l.any (qi0 10000)<;>simp
 ·have c':decide ((l.length:Int)=(n:Int))=false:=decide_eq_false (by omega);rw [c',if_neg c];simp
theorem qrK{l:List G}{n:Nat}(h:l.length<=1000000000):qbx l (n:Int)=some (qfO l n):=by
 unfold qbx qfO;by_cases c:l.length=n
 case neg =>
  rw [decide_eq_false (show ¬ (l.length:Int)=(n:Int) by omega),Bool.not_false,cond_true,if_neg c]
 rw [decide_eq_true (show (l.length:Int)=(n:Int) by omega),Bool.not_true,cond_false,if_pos c];rw [qg0 l _ (λ_ z=>if qi0 10000 z then some (2:Int)else none) (λk z hk=>?_),qeh]
 ·cases hf:qgh (λ_ z=>if qi0 10000 z then some (2:Int)else none) 0 l with
  |none =>
   rw [qfh]at hf;have hb:l.any (qi0 10000)=false:=by
    rw [List.any_eq_false];intro x hx;obtain ⟨k,hk⟩:=List.mem_iff_getElem?.1 hx;have:=hf k x hk;simpa using this
   simp [hb]
  |some q =>
   obtain ⟨k,z,h1,h2,_⟩:=qfi hf;have hp:qi0 10000 z=true:=by
    cases hp:qi0 10000 z
    ·simp [hp]at h2
    ·rfl
   have hb:l.any (qi0 10000)=true:=List.any_eq_true.2 ⟨z,List.mem_of_getElem? h1,hp⟩;simp only [hp,if_true,qe]at h2;simp [hb,<- h2]
 ·have hlk:=qhY hk;rw [qaB hk,qb,qkV _ _ (by omega) (by omega),qb,wid (by omega) (by omega)];unfold qi0;by_cases d:Bd 10000 z<;>simp [d,stp]
theorem qd7{l:List G}{n:Nat}(h:qfO l n=0):l.length=n/\∀z∈l,Bd 10000 z:=by
 unfold qfO at h;by_cases c:l.length=n
 case neg=>rw [if_neg c]at h;cases h
 rw [if_pos c]at h;refine ⟨c,λz hz=>?_⟩;cases hb:l.any (qi0 10000)with
 |true=>rw [hb,if_pos rfl]at h;cases h
 |false =>
  have:=List.any_eq_false.1 hb z hz;unfold qi0 at this;simpa using this
def qfJ(n:Nat)(f:Nat->Nat->G)(d:Nat->G)(i:Nat):G:=qpf n λk=>qd6 (f i k) (d k)
theorem qAj{n:Nat}{A B:Int}{f:Nat->Nat->G}{d:Nat->G}(hf:BdF A n n f)(hd:∀k,k<n->Bd B (d k)){i:Nat}(hi:i<n):Bd (n*(2*(A*B))) (qfJ n f d i) :=
 Bd.sum λk hk=>(hf i k hi hk).mul (hd k hk)
theorem qqe{k n:Nat}{A:Int}(hA:0<=A)(h:k<=n):(k:Int)*A<=(n:Int)*A:=Int.mul_le_mul_of_nonneg_right (by omega) hA
theorem qjR{n:Nat}{f:Nat->Nat->G}{d:Nat->G}(hf:BdF 20 n n f)(hd:∀k,k<n->Bd 10000 (d k))(hn:n<=3) :
  qa0 (mx n n f) (mkL n d)=some (mkL n (qfJ n f d)):=by
 unfold qa0;rw [qh4];rw [qCS n (qfJ n f d) (λi hi=>?_) ?_]
 ·rfl
 ·have e0:decide ((n:Int)<(n:Int))=false:=by simp
  simp only [e0,cond_false]
 ·have e0:decide ((i:Int)<(n:Int))=true:=decide_eq_true (by omega);simp only [e0,cond_true];rw [qaB (qrw f hi),qb,qad];have hF:∀k,k<n->Bd 400000 (qd6 (f i k) (d k)):=λk hk=>((hf i k hi hk).mul (hd k hk)).mono (by omega);have hS:∀k,k<=n->Bd 1200000 (qpf k λk=>qd6 (f i k) (d k)):=λk hk=>by
   have h1:=Bd.sum (n:=k) λj hj=>hF j (by omega);exact h1.mono (by omega)
  refine Ok.eq ?_;rw [qeo];refine (qbb n (λk (s:(Int×Int)×Int)=>s=(((qpf k λk=>qd6 (f i k) (d k)).1,(qpf k λk=>qd6 (f i k) (d k)).2.1),(k:Int))) (λr=>r=((qpf n λk=>qd6 (f i k) (d k)).1,(qpf n λk=>qd6 (f i k) (d k)).2.1)) rfl ?_).mono ?_
  ·rintro k s hk rfl;by_cases hlt:k<n
   ·have e1:decide ((k:Int)<(n:Int))=true:=decide_eq_true (by omega);have hx:idx (mkL n λb=>f i b) (k:Int)=some (f i k):=qaB (qbc _ hlt);have hy:idx (mkL n d) (k:Int)=some (d k):=qaB (qbc _ hlt);simp only [e1,cond_true,hx,hy,qb];have hs:=hS k hk;have hs':=hS (k+1) hlt;have hfk:=hf i k hi hlt;have hdk:=hd k hlt;have p1:=qaQ hfk.1 hdk.1;have p2:=qaQ hfk.2 hdk.2;have p3:=qaQ hfk.1 hdk.2;have p4:=qaQ hfk.2 hdk.1;have es:qpf (k+1) (λk=>qd6 (f i k) (d k))=qpj (qpf k λk=>qd6 (f i k) (d k)) (qd6 (f i k) (d k)):=rfl;rw [es]at hs' ⊢;generalize qpf k (λk=>qd6 (f i k) (d k))=S at *;unfold Bd qpj qd6 at *;simp only at hs' ⊢;rw [qfY (by omega) (by omega),qb,qfY (by omega) (by omega),qb,qfY (by omega) (by omega),qb,qfY (by omega) (by omega),qb];rw [qfY (by omega) (by omega),qb,qfY (by omega) (by omega),qb,qfY (by omega) (by omega),qb];rw [qfY (by omega) (by omega),qb,qfY (by omega) (by omega),qb,qfY (by omega) (by omega),qb];rw [qfY (by omega) (by omega),qb,qfY (by omega) (by omega),qb];rw [wid (by omega) (by omega),qaE];exact ⟨hlt,rfl⟩
   ·have:k=n:=by omega
    subst this;have e1:decide ((k:Int)<(k:Int))=false:=by simp
    simp only [e1,cond_false];rw [qar]
  ·rintro r rfl;have hs:=hS n (Nat.le_refl n);unfold Bd at hs;simp only
   rw [qfY (by omega) (by omega),qb,qfY (by omega) (by omega),qb,qdt (by rw [qad];omega),qb,wid (by omega) (by omega)];exact qcZ.2 rfl
def nr(a b:Int):Int:=if a % b > b-a % b then a / b+1 else a / b
def rnd(a b:Int):Int:=if a<0 then 0-nr (0-a) b else nr a b
theorem qCM{a b:Int}(ha:0<=a)(hb:0<b):0<=a / b/\a / b<=a:=⟨Int.ediv_nonneg ha (by omega),Int.ediv_le_self b ha⟩
theorem qFT{a b:Int}(ha:0<=a)(hb:0<b):0<=nr a b/\nr a b<=a+1:=by
 have:=qCM ha hb;unfold nr;split<;>omega
theorem qwk{m:Nat}{a b:Int}(ha:0<=a)(hb:0<b)(ha2:a<=4000000000000000000)(hb2:b<=4000000000000000000):qeK (m+1) a b=some (nr a b):=by
 have h1:=qCM ha hb;have h2:=Int.emod_nonneg a (show b≠0 by omega);have h3:=Int.emod_lt_of_pos a hb;have e1:a.tmod b=a % b:=Int.tmod_eq_emod_of_nonneg ha;have e2:a.tdiv b=a / b:=Int.tdiv_eq_ediv_of_nonneg ha;show (bif decide (a<0)then _ else _)=_;rw [decide_eq_false (show ¬ a<0 by omega),cond_false,decide_eq_false (show ¬ b=0 by omega),cond_false,cond_false,e1,e2,wid (n:=b-a % b) (by omega) (by omega),wid (n:=a / b) (by omega) (by omega),wid (n:=a / b+1) (by omega) (by omega)];unfold nr;by_cases c:a % b > b-a % b
 ·rw [decide_eq_true c,if_pos c];rfl
 ·rw [decide_eq_false c,if_neg c];rfl
theorem qDS{a b:Int}(ha : -4000000000000000000<=a/\a<=4000000000000000000)(hb:0<b)(hb2:b<=4000000000000000000):qiC a b=some (rnd a b):=by
 unfold qiC rnd;by_cases c:a<0
 ·have e:qeK 12 a b=(bif decide (a<0)then (qeK 11 (w64 (0-a)) b).bind λx1=>some (w64 (0-x1))else _):=rfl;rw [e,decide_eq_true c,cond_true,wid (by omega) (by omega),qwk (m:=10) (by omega) hb (by omega) hb2,qb,if_pos c];have:=qFT (a:=0-a) (b:=b) (by omega) hb;rw [wid (by omega) (by omega)]
 ·rw [qwk (m:=11) (by omega) hb (by omega) hb2,if_neg c]
def qg4(n:Nat)(f:Nat->Nat->G)(t d:Nat->G)(i:Nat):G:=qrc (t i) (qfJ n f d i)
theorem qzP{n i:Nat}(f:Nat->G)(z:G)(hi:i<n):(mkL n f).set i z=mkL n λk=>if k=i then z else f k:=by
 refine qqc (by simp [qad]) λk hk=>?_;rw [List.getElem?_set,qad];by_cases c:i=k
 ·subst c;rw [if_pos rfl,if_pos hi,if_pos rfl]
 ·rw [if_neg c,qbc _ hk,if_neg (λhh=>c hh.symm)]
theorem qAi{n:Nat}{f:Nat->Nat->G}{d:Nat->G}(hf:BdF 20 n n f)(hd:∀k,k<n->Bd 10000 (d k))(hn:n<=3){i:Nat}(hi:i<n):Bd 1200000 (qfJ n f d i):=by
 refine (qAj hf hd hi).mono ?_;have:=qqe (A:=2*(20*10000)) (by omega) hn;omega
theorem qzu{n:Nat}{f:Nat->Nat->G}{t d:Nat->G}(hf:BdF 20 n n f)(hd:∀k,k<n->Bd 10000 (d k))(ht:∀k,k<n->Bd 10000 (t k))(hn:n<=3){i:Nat}(hi:i<n):Bd 1210000 (qg4 n f t d i) :=
 ((ht i hi).sub (qAi hf hd hn hi)).mono (by omega)
def qEv(r:Rg)(t d:Nat->G)(i:Nat):G:=qfJ r.2.1.length (qsi r.2.1) (qg4 r.2.1.length (ent r.1) t d) i
def roF(r:Rg)(z:Int):Int:=rnd (z*r.2.2.1) (qrd r.2.1*r.2.2.2.1)
def clF(r:Rg)(z:Int):Int:=max (0-r.2.2.2.2.1) (min r.2.2.2.2.1 (roF r z))
def qBa(r:Rg)(t d:Nat->G)(i:Nat):G:=(clF r (qEv r t d i).1,clF r (qEv r t d i).2.1,())
theorem qrQ{r:Rg}(h:qqu r=0):0<=r.2.2.2.2.1/\r.2.2.2.2.1<=1000:=by
 unfold qqu at h;by_cases e8:0<=r.2.2.2.2.1/\r.2.2.2.2.1<=1000
 ·exact e8
 ·exfalso
  rw [if_pos e8]at h;repeat' split at h
  all_goals first|contradiction|omega
structure CorB (r:Rg) (t d:Nat->G):Prop where
 n1:1<=r.2.1.length
 n3:r.2.1.length<=3
 pm:r.1=mx r.2.1.length r.2.1.length (ent r.1)
 pB:BdF 20 r.2.1.length r.2.1.length (ent r.1)
 xB:BdF 614400000 r.2.1.length r.2.1.length (qsi r.2.1)
 tB:∀k,k<r.2.1.length->Bd 10000 (t k)
 dB:∀k,k<r.2.1.length->Bd 10000 (d k)
 rB:∀i,i<r.2.1.length->Bd 4460544000000000 (qEv r t d i)
 num:0<=r.2.2.1/\r.2.2.1<=100
 den:1<=qrd r.2.1*r.2.2.2.1/\qrd r.2.1*r.2.2.2.1<=7372800000000
 step:0<=r.2.2.2.2.1/\r.2.2.2.2.1<=1000
theorem qFG{r:Rg}(h:qqu r=0){t d:Nat->G}(ht:∀k,k<r.2.1.length->Bd 10000 (t k))(hd:∀k,k<r.2.1.length->Bd 10000 (d k)):CorB r t d:=by
 have hB:=qGh h;obtain ⟨hE,hI,hl,h0,h1,h2,h3⟩:=qoV h;obtain ⟨m1,m3,mR,mB⟩:=qmz hE;have hX:=qzk hI;have hA:=qq0 mB mR;have hpm:=qvf mR;have hq:=hB.qB;rw [hl]at hA hpm;have e:qEr r=qrd r.2.1*r.2.2.2.1:=Int.mul_comm _ _;rw [e]at hq;refine ⟨hB.n1,hB.n3,hpm,hA,hX,ht,hd,λi hi=>?_,by omega,hq,qrQ h⟩;have hn3:=hB.n3;refine (qAj hX (λk hk=>qzu hA hd ht hn3 hk) hi).mono ?_;have:=qqe (A:=2*(614400000*1210000)) (by omega) hn3;omega
theorem qDV{r:Rg}{t d:Nat->G}(h:CorB r t d){z:Int}(hz : -4460544000000000<=z/\z<=4460544000000000) : -446054400000000000<=z*r.2.2.1/\z*r.2.2.1<=446054400000000000:=by
 have hn:=h.num;have:=qaQ (A:=4460544000000000) (B:=100) hz (show -100<=r.2.2.1/\r.2.2.1<=100 by omega);omega
theorem qi5{r:Rg}{t d:Nat->G}(h:CorB r t d){z:Int}(hz : -4460544000000000<=z/\z<=4460544000000000){X:Mx} :
  qaP z (r.1,r.2.1,r.2.2.1,r.2.2.2.1,r.2.2.2.2.1,qrd r.2.1,X,())=some (clF r z):=by
 unfold qaP;simp only
 have hp:=qDV h hz;have hq:=h.den;have hs:=h.step;rw [wid (n:=z*r.2.2.1) (by omega) (by omega),wid (n:=qrd r.2.1*r.2.2.2.1) (by omega) (by omega),wid (n:=0-r.2.2.2.2.1) (by omega) (by omega),qDS (by omega) (by omega) (by omega),qb];congr 1
 unfold clF roF;omega
theorem qq4{r:Rg}{t d:Nat->G}(h:CorB r t d) :
  qbH (r.1,r.2.1,r.2.2.1,r.2.2.2.1,r.2.2.2.2.1,qrd r.2.1,mx r.2.1.length r.2.1.length (qsi r.2.1),()) (mkL r.2.1.length t) (mkL r.2.1.length d)=some (mkL r.2.1.length (qBa r t d)):=by
 unfold qbH;simp only
 have hpm:=h.pm;have hn1:=h.n1;have hn3:=h.n3;have e0:qa0 r.1 (mkL r.2.1.length d)=some (mkL r.2.1.length (qfJ r.2.1.length (ent r.1) d)):=by
  have:=qjR h.pB h.dB hn3;rw [<- hpm]at this;exact this
 rw [e0,qb,qad,qh4];refine Ok.eq ?_;rw [qeo];refine (qbb r.2.1.length (λi (s:List G×Int)=>s=(mkL r.2.1.length (λj=>if j<i then qg4 r.2.1.length (ent r.1) t d j else qfJ r.2.1.length (ent r.1) d j),(i:Int))) (λq=>q=mkL r.2.1.length (qg4 r.2.1.length (ent r.1) t d)) ?_ ?_).mono ?_
 ·congr 1
 ·rintro i s hi rfl;by_cases hlt:i<r.2.1.length
  ·have e1:decide ((i:Int)<(r.2.1.length:Int))=true:=decide_eq_true (by omega);have hx:idx (mkL r.2.1.length t) (i:Int)=some (t i):=qaB (qbc _ hlt);have hy:idx (mkL r.2.1.length (λj=>if j<i then qg4 r.2.1.length (ent r.1) t d j else qfJ r.2.1.length (ent r.1) d j)) (i:Int)=some (qfJ r.2.1.length (ent r.1) d i):=by
    rw [qaB (qbc _ hlt),if_neg (Nat.lt_irrefl i)]
   simp only [e1,cond_true,hx,hy,qb,Int.toNat_natCast];rw [qwi (h.tB i hlt) (qAi h.pB h.dB hn3 hlt) (by omega),qb,wid (by omega) (by omega),qaE];refine ⟨hlt,?_⟩;congr 1
   rw [qzP _ _ hlt];refine qcc λk hk=>?_;by_cases c:k=i
   ·subst c;rw [if_pos rfl,if_pos (by omega)];rfl
   ·rw [if_neg c];by_cases c2:k<i
    ·rw [if_pos c2,if_pos (by omega)]
    ·rw [if_neg c2,if_neg (by omega)]
  ·have:i=r.2.1.length:=by omega
   subst this;have e1:decide ((r.2.1.length:Int)<(r.2.1.length:Int))=false:=by simp
   simp only [e1,cond_false];rw [qar];exact qcc λk hk=>if_pos hk
 ·rintro q rfl;refine ok_eq.2 ?_;have hL:∀k,k<r.2.1.length->Bd 1210000 (qg4 r.2.1.length (ent r.1) t d k):=λk hk=>qzu h.pB h.dB h.tB hn3 hk;rw [qCS r.2.1.length (qBa r t d) (λi hi=>?_) ?_]
  ·rfl
  ·have e0:decide ((r.2.1.length:Int)<(r.2.1.length:Int))=false:=by simp
   simp only [e0,cond_false]
  ·have e0:decide ((i:Int)<(r.2.1.length:Int))=true:=decide_eq_true (by omega);simp only [e0,cond_true];rw [qaB (qrw (qsi r.2.1) hi),qb,qad];have hbd:(r.2.1.length:Int)*(2*(614400000*1210000))<=9000000000000000000:=by omega
   rw [qr4 r.2.1.length (by omega) (A:=2*(614400000*1210000)) (by omega) hbd (λk=>qd6 (qsi r.2.1 i k) (qg4 r.2.1.length (ent r.1) t d k)) (λk hk=>(h.xB i k hi hk).mul (hL k hk)) (λk hk x y hxy=>?_) (λx y=>?_)]
   ·simp only [qb];have hr:=h.rB i hi;have er:qpf r.2.1.length (λk=>qd6 (qsi r.2.1 i k) (qg4 r.2.1.length (ent r.1) t d k))=qEv r t d i:=rfl;rw [er,qi5 h hr.1,qb,qi5 h hr.2,qb,qdt (by rw [qad];omega),qb,wid (by omega) (by omega)];rfl
   ·have e0:decide ((k:Int)<(r.2.1.length:Int))=true:=decide_eq_true (by omega);simp only [e0,cond_true];rw [qaB (qbc (λk=>qsi r.2.1 i k) hk),qb,qaB (qbc _ hk),qb];rw [qlb (h.xB i k hi hk) (hL k hk) (by omega)];simp only [qb];rw [qrG hxy ((h.xB i k hi hk).mul (hL k hk)) (le_next (by omega) hk hbd)];rfl
   ·have e0:decide ((r.2.1.length:Int)<(r.2.1.length:Int))=false:=by simp
    simp only [e0,cond_false]
def qD3(m:Mx)(d:List G):Int:=if qhr m=0 then qfO d m.length else qhr m
def qD4(m:Mx)(d:List G):List G:=mkL m.length (qfJ m.length (ent m) λk=>d.getD k g0)
theorem qqQ{m:Mx}{d:List G}(h:m.length<=1000000000)(hr:∀x∈m,x.length<=1000000000)(hd:d.length<=1000000000):qdc m d=some (if qD3 m d=0 then (qD4 m d,0)else ([],qD3 m d)):=by
 unfold qdc;rw [qf0 h hr,qb,qiG hd,qb,qvV,qb];have e:(if qhr m=0 then qfO d m.length else qhr m)=qD3 m d:=rfl;rw [e];by_cases c:qD3 m d=0
 case neg=>rw [decide_eq_false c,Bool.not_false,cond_true,if_neg c]
 rw [decide_eq_true c,Bool.not_true,cond_false,if_pos c];unfold qD3 at c;by_cases c1:qhr m=0
 case neg=>rw [if_neg c1]at c;exact absurd c c1
 rw [if_pos c1]at c;obtain ⟨m1,m3,mR,mB⟩:=qmz c1;obtain ⟨dl,dB⟩:=qd7 c;have e1:=qjR (d:=λk=>d.getD k g0) (qq0 mB mR) (λk hk=>dB _ (qbj (by omega))) m3;rw [<- qvf mR]at e1;have e2:=qfb d g0;rw [dl]at e2;rw [<- e2]at e1;rw [e1];rfl
def qrS(r:Rg)(t d:List G):Int:=if qqu r=0 then (if qfO t r.1.length=0 then qfO d r.1.length else qfO t r.1.length)else qqu r
theorem qFf{r:Rg}{t d:List G}(h:qrS r t d=0):qqu r=0/\CorB r (λk=>t.getD k g0) (λk=>d.getD k g0)/\t=mkL r.2.1.length (λk=>t.getD k g0)/\d=mkL r.2.1.length (λk=>d.getD k g0):=by
 unfold qrS at h;by_cases c1:qqu r=0
 case neg=>rw [if_neg c1]at h;exact absurd h c1
 rw [if_pos c1]at h;by_cases c2:qfO t r.1.length=0
 case neg=>rw [if_neg c2]at h;exact absurd h c2
 rw [if_pos c2]at h;have hl:=(qoV c1).2.2.1;rw [hl]at c2 h;obtain ⟨tl,tB⟩:=qd7 c2;obtain ⟨dl,dB⟩:=qd7 h;have e1:=qfb t g0;have e2:=qfb d g0;rw [tl]at e1;rw [dl]at e2;exact ⟨c1,qFG c1 (λk hk=>tB _ (qbj (by omega))) (λk hk=>dB _ (qbj (by omega))),e1,e2⟩
theorem qkT{r:Rg}{t d:List G}(hp:r.1.length<=1000000000)(hpr:∀x∈r.1,x.length<=1000000000)(hm:r.2.1.length<=1000000000)(hmr:∀x∈r.2.1,x.length<=1000000000)(hd:r.2.2.2.1<=9223372036854775807)(ht:t.length<=1000000000)(hd2:d.length<=1000000000) :
  ∃y,qa8 r t d=some (y,qrS r t d)/\(qrS r t d=0->y=(r.1,r.2.1,r.2.2.1,r.2.2.2.1,r.2.2.2.2.1,qrd r.2.1,mx r.2.1.length r.2.1.length (qsi r.2.1),())):=by
 obtain ⟨y,e1,e2⟩:=qxN hp hpr hm hmr hd;have e1':qdA (r.1,r.2.1,r.2.2.1,r.2.2.2.1,r.2.2.2.2.1,())=some (y,qqu r):=e1;unfold qa8;rw [e1',qb,qiG ht,qb,qiG hd2,qb,qCQ,qb];exact ⟨y,rfl,λh=>e2 (qFf h).1⟩
end Go.Proofs.YteiciemjanhdcaaGreatDoor.Mat
namespace Go.Proofs.YteiciemjanhdcaaGreatDoor
open Go Go.Ab Go.Tx
end Go.Proofs.YteiciemjanhdcaaGreatDoor
end
section
namespace Go.Proofs.YteiciemjanhdcaaGreatDoor.Mat
open Go Go.Ab Go.Tx Go.Proofs.YteiciemjanhdcaaGreatDoor
def qEc(r:Rg)(t d:Nat->G)(i:Nat):G:=qpj (qBa r t d i) (d i)
def qiV(r:Rg)(t d:List G):List G:=mkL r.2.1.length (qEc r (λk=>t.getD k g0) λk=>d.getD k g0)
theorem qA9{r:Rg}(h:0<=r.2.2.2.2.1/\r.2.2.2.2.1<=1000)(z:Int) : -r.2.2.2.2.1<=clF r z/\clF r z<=r.2.2.2.2.1:=by
 unfold clF;omega
theorem qEM{r:Rg}(h:0<=r.2.2.2.2.1/\r.2.2.2.2.1<=1000)(t d:Nat->G)(i:Nat):Bd 1000 (qBa r t d i):=by
 have h1:=qA9 h (qEv r t d i).1;have h2:=qA9 h (qEv r t d i).2.1;unfold Bd qBa;simp only
 omega
abbrev OR(r:Rg):Mx×Mx×Int×Int×Int×Int×Mx×Unit:=(r.1,r.2.1,r.2.2.1,r.2.2.2.1,r.2.2.2.2.1,qrd r.2.1,mx r.2.1.length r.2.1.length (qsi r.2.1),())
theorem qrT{r:Rg}{t d:Nat->G}(h:CorB r t d) :
  qbg (OR r) (mkL r.2.1.length t) (mkL r.2.1.length d)=some (if qfO (mkL r.2.1.length (qEc r t d)) r.2.1.length=0 then (mkL r.2.1.length (qEc r t d),0)else ([],22)):=by
 have hn3:=h.n3;unfold qbg;rw [qq4 h,qb,qad];refine Ok.eq ?_;rw [qeo];refine (qbb r.2.1.length (λi (s:List G×Int)=>s=(mkL r.2.1.length (λj=>if j<i then qEc r t d j else qBa r t d j),(i:Int))) (λq=>q=mkL r.2.1.length (qEc r t d)) ?_ ?_).mono ?_
 ·congr 1
 ·rintro i s hi rfl;by_cases hlt:i<r.2.1.length
  ·have e1:decide ((i:Int)<(r.2.1.length:Int))=true:=decide_eq_true (by omega);have hx:idx (mkL r.2.1.length d) (i:Int)=some (d i):=qaB (qbc _ hlt);have hy:idx (mkL r.2.1.length (λj=>if j<i then qEc r t d j else qBa r t d j)) (i:Int)=some (qBa r t d i):=by
    rw [qaB (qbc _ hlt),if_neg (Nat.lt_irrefl i)]
   simp only [e1,cond_true,hx,hy,qb,Int.toNat_natCast];rw [qrG (qEM h.step t d i) (h.dB i hlt) (by omega),qb,wid (by omega) (by omega),qaE];refine ⟨hlt,?_⟩;congr 1
   rw [qzP _ _ hlt];refine qcc λk hk=>?_;by_cases c:k=i
   ·subst c;rw [if_pos rfl,if_pos (by omega)];rfl
   ·rw [if_neg c];by_cases c2:k<i
    ·rw [if_pos c2,if_pos (by omega)]
    ·rw [if_neg c2,if_neg (by omega)]
  ·have:i=r.2.1.length:=by omega
   subst this;have e1:decide ((r.2.1.length:Int)<(r.2.1.length:Int))=false:=by simp
   simp only [e1,cond_false];rw [qar];exact qcc λk hk=>if_pos hk
 ·rintro q rfl;refine ok_eq.2 ?_;rw [qad,qiG (by rw [qad];omega),qb];by_cases c:qfO (mkL r.2.1.length (qEc r t d)) r.2.1.length=0
  ·rw [decide_eq_true c,if_pos c];rfl
  ·rw [decide_eq_false c,if_neg c];rfl
theorem qqv{r:Rg}{t d:List G}(hE:qqu r=0)(ht:qfO t r.2.1.length=0)(hd:qfO d r.2.1.length=0) :
  qbg (OR r) t d=some (if qfO (qiV r t d) r.2.1.length=0 then (qiV r t d,0)else ([],22)):=by
 obtain ⟨tl,tB⟩:=qd7 ht;obtain ⟨dl,dB⟩:=qd7 hd;have e1:=qfb t g0;have e2:=qfb d g0;rw [tl]at e1;rw [dl]at e2;have:=qrT (qFG hE (t:=λk=>t.getD k g0) (d:=λk=>d.getD k g0) (λk hk=>tB _ (qbj (by omega))) (λk hk=>dB _ (qbj (by omega))));rw [<- e1,<- e2]at this;exact this
structure Three (r:Rg) (t s0 s1 s2 s3:List G):Prop where
 z0:qfO s0 r.2.1.length=0
 z1:qfO s1 r.2.1.length=0
 z2:qfO s2 r.2.1.length=0
 z3:qfO s3 r.2.1.length=0
 e1:s1=qiV r t s0
 e2:s2=qiV r t s1
 e3:s3=qiV r t s2
end Go.Proofs.YteiciemjanhdcaaGreatDoor.Mat
end
section
namespace Go.Proofs.YteiciemjanhdcaaGreatDoor.Mat
open Go Go.Ab Go.Tx Go.Proofs.YteiciemjanhdcaaGreatDoor
theorem qjN{l:List G}{n:Nat}(h:n<=1000000000):qbx l (n:Int)=some (qfO l n):=by
 by_cases c:l.length=n
 ·exact qrK (by omega)
 ·unfold qbx qfO;rw [decide_eq_false (show ¬ (l.length:Int)=(n:Int) by omega),Bool.not_false,cond_true,if_neg c]
theorem qyr{r:Rg}{t d:List G}(hd:r.2.2.2.1<=9223372036854775807) :
  qeA r t d=some (qrS r t d):=by
 unfold qeA qrS;rw [qyq hd,qb];by_cases c1:qqu r=0
 case neg=>rw [decide_eq_false c1,Bool.not_false,cond_true,if_neg c1]
 have hp:r.1.length<=1000000000:=by have:=(qmz (qoV c1).1).2.1;omega
 rw [decide_eq_true c1,Bool.not_true,cond_false,if_pos c1,qjN hp,qb];by_cases c2:qfO t r.1.length=0
 case neg=>rw [decide_eq_false c2,Bool.not_false,cond_true,if_neg c2]
 rw [decide_eq_true c2,Bool.not_true,cond_false,if_pos c2,qjN hp];rfl
end Go.Proofs.YteiciemjanhdcaaGreatDoor.Mat
namespace Go.Proofs.YteiciemjanhdcaaGreatDoor
open Go Go.Ab Go.Tx
end Go.Proofs.YteiciemjanhdcaaGreatDoor
end
section
namespace Go.Proofs.YteiciemjanhdcaaGreatDoor.Mat
open Go Go.Ab Go.Tx Go.Proofs.YteiciemjanhdcaaGreatDoor
structure RdB (r:Rg) (t d:List G):Prop where
 rig:qqu r=0
 tz:qfO t r.2.1.length=0
 dz:qfO d r.2.1.length=0
theorem RdB.of{r:Rg}{t d:List G}(h:qrS r t d=0):RdB r t d:=by
 unfold qrS at h;by_cases c1:qqu r=0
 case neg=>rw [if_neg c1]at h;exact absurd h c1
 rw [if_pos c1]at h;by_cases c2:qfO t r.1.length=0
 case neg=>rw [if_neg c2]at h;exact absurd h c2
 rw [if_pos c2]at h;have hl:=(qoV c1).2.2.1;rw [hl]at c2 h;exact ⟨c1,c2,h⟩
theorem RdB.cor{r:Rg}{t d:List G}(h:RdB r t d):CorB r (λk=>t.getD k g0) (λk=>d.getD k g0)/\t=mkL r.2.1.length (λk=>t.getD k g0)/\d=mkL r.2.1.length (λk=>d.getD k g0):=by
 obtain ⟨tl,tB⟩:=qd7 h.tz;obtain ⟨dl,dB⟩:=qd7 h.dz;have e1:=qfb t g0;have e2:=qfb d g0;rw [tl]at e1;rw [dl]at e2;exact ⟨qFG h.rig (λk hk=>tB _ (qbj (by omega))) (λk hk=>dB _ (qbj (by omega))),e1,e2⟩
theorem qCo(r:Rg)(t d:List G):(qiV r t d).length=r.2.1.length:=qad _ _
def inF(r:Rg)(t d:List G)(most:Int):Bool:=decide (∀i,i<r.2.1.length->Bd most (qg4 r.2.1.length (ent r.1) (λk=>t.getD k g0) (λk=>d.getD k g0) i))
instance (r:Rg) (t d:List G) (most:Int):Decidable (∀i,i<r.2.1.length->Bd most (qg4 r.2.1.length (ent r.1) (λk=>t.getD k g0) (λk=>d.getD k g0) i)):=Nat.decidableBallLT _ _
theorem qBZ{a b:List G}(hl:a.length=b.length)(h:a.length<=1000):qG a b=some (mkL a.length λi=>((a.getD i g0).1,(a.getD i g0).2.1,(b.getD i g0).1,(b.getD i g0).2.1,())):=by
 unfold qG;have k1:Ok (qab (λ(s2:(Int×(List (Int×Int×Int×Int×Unit)))) =>
   bif decide (s2.1<(a.length:Int))then
    (idx a s2.1).bind λx3 =>
    (idx b s2.1).bind λx4 =>
    (app s2.2 ([(x3.1,x3.2.1,x4.1,x4.2.1,())])).bind λx5 =>
    some (.inl (w64 (s2.1+1),x5))
   else
    some (.inr s2.2)) (0,[])) (λq=>q=mkL a.length λi=>((a.getD i g0).1,(a.getD i g0).2.1,(b.getD i g0).1,(b.getD i g0).2.1,())):=by
  refine qbb a.length (λi (s:Int×List (Int×Int×Int×Int×Unit))=>s=((i:Int),mkL i λi=>((a.getD i g0).1,(a.getD i g0).2.1,(b.getD i g0).1,(b.getD i g0).2.1,()))) _ rfl ?_;rintro i s hi rfl;by_cases hlt:i<a.length
  ·have e0:decide ((i:Int)<(a.length:Int))=true:=decide_eq_true (by omega);have hx:idx a (i:Int)=some (a.getD i g0):=qaB (qgc g0 (by omega));have hy:idx b (i:Int)=some (b.getD i g0):=qaB (qgc g0 (by omega));simp only [e0,cond_true,hx,hy,qb];rw [qdt (by rw [qad];omega),qb,wid (by omega) (by omega),qaE];exact ⟨hlt,by rw [qf1];simp⟩
  ·have:i=a.length:=by omega
   subst this;have e0:decide ((a.length:Int)<(a.length:Int))=false:=by simp
   simp only [e0,cond_false];rw [qar]
 rw [k1.eq];rfl
def qih(r:Rg)(t:List G)(most:Int):Nat->List G->Int×Int
 |0,d=>if inF r t d most=true then (20,0)else (0,12)
 |f+1,d=>if inF r t d most=true then (((20-(f+1):Nat):Int),0)else if qfO (qiV r t d) r.2.1.length=0 then qih r t most f (qiV r t d)else (0,22)
theorem qoK(r:Rg)(t:List G)(most:Int)(f:Nat)(d:List G):qih r t most (f+1) d=if inF r t d most=true then (((20-(f+1):Nat):Int),0)else if qfO (qiV r t d) r.2.1.length=0 then qih r t most f (qiV r t d)else (0,22):=rfl
theorem qoL(r:Rg)(t:List G)(most:Int)(d:List G):qih r t most 0 d=if inF r t d most=true then (20,0)else (0,12):=rfl
theorem qDz{r:Rg}{t d:List G}(h:RdB r t d){most:Int}(h0:0<=most/\most<=10000) :
  Ok ((qa0 r.1 d).bind λx8 =>
    (qG t x8).bind λx9 =>
    (qab (λ(s11:Int) =>
       bif decide (s11<(x9.length:Int))then
        (idx x9 s11).bind λx12 =>
        (qae (x12.1,x12.2.1,()) (x12.2.2.1,x12.2.2.2.1,())).bind λx13 =>
        (qau x13 most).bind λx14 =>
        bif !x14 then
         some (.inr (.inr s11))
        else
         some (.inl (w64 (s11+1)))
       else
        some (.inr (.inl ()))) 0).bind (Sum.elim (λ(p15:Unit) =>
     some (-1)) some)) λp:Int=>decide (p>=0)=!(inF r t d most):=by
 obtain ⟨hC,e1,e2⟩:=h.cor;have hn3:=hC.n3;have tl:t.length=r.2.1.length:=(qd7 h.tz).1;have hr:qa0 r.1 d=some (mkL r.2.1.length (qfJ r.2.1.length (ent r.1) λk=>d.getD k g0)):=by
  have:=qjR hC.pB hC.dB hn3;rw [<- hC.pm,<- e2]at this;exact this
 rw [hr,qb,qBZ (by rw [qad,tl]) (by omega),qb,tl];rw [qg0 (mkL r.2.1.length λi=>((t.getD i g0).1,(t.getD i g0).2.1,((mkL r.2.1.length (qfJ r.2.1.length (ent r.1) λk=>d.getD k g0)).getD i g0).1,((mkL r.2.1.length (qfJ r.2.1.length (ent r.1) λk=>d.getD k g0)).getD i g0).2.1,())) _
  (λi _=>if Bd most (qg4 r.2.1.length (ent r.1) (λk=>t.getD k g0) (λk=>d.getD k g0) i)then none else some (i:Int)) (λi z hi=>by
  have hlt:=qhY hi;rw [qad]at hlt;rw [qaB hi];rw [qbc _ hlt]at hi;cases hi;simp only [qb];rw [qrv _ _ hlt,qwi (A:=10000) (B:=1200000) (hC.tB i hlt) (qAi hC.pB hC.dB hn3 hlt) (by omega),qb,qdh _ _ (by omega) (by omega),qb];show (bif !decide (Bd most (qg4 r.2.1.length (ent r.1) (λk=>t.getD k g0) (λk=>d.getD k g0) i))then _ else _)=_;by_cases c:Bd most (qg4 r.2.1.length (ent r.1) (λk=>t.getD k g0) (λk=>d.getD k g0) i)
  ·simp only [c,decide_true,Bool.not_true,cond_false,if_true,stp];rw [wid (by omega) (by omega)]
  ·simp only [c,decide_false,Bool.not_false,cond_true,if_false,stp]),qeh]
 split
 ·rename_i b hf;obtain ⟨i,z,hi,hz,_⟩:=qfi hf;have hlt:=qhY hi;rw [qad]at hlt;have hz':¬ Bd most (qg4 r.2.1.length (ent r.1) (λk=>t.getD k g0) (λk=>d.getD k g0) i):=λc=>by rw [Nat.zero_add,if_pos c]at hz;cases hz
  rw [Nat.zero_add,if_neg hz']at hz;cases hz;have:inF r t d most=false:=decide_eq_false λhh=>hz' (hh i hlt);rw [qcZ,this];exact decide_eq_true (by omega)
 ·rename_i hf;have:inF r t d most=true:=decide_eq_true λi hi=>by
   have h1:=qfh.1 hf i _ (qbc _ hi);by_cases c:Bd most (qg4 r.2.1.length (ent r.1) (λk=>t.getD k g0) (λk=>d.getD k g0) i)
   ·exact c
   ·rw [Nat.zero_add,if_neg c]at h1;cases h1
  rw [qcZ,this];rfl
theorem qsq{r:Rg}{t d:List G}(hp:r.1.length<=1000000000)(hpr:∀x∈r.1,x.length<=1000000000)(hm:r.2.1.length<=1000000000)(hmr:∀x∈r.2.1,x.length<=1000000000)(hd:r.2.2.2.1<=9223372036854775807)(ht:t.length<=1000000000)(hd2:d.length<=1000000000)(most:Int) :
  qdy r t d most=some (if qrS r t d=0 then (if 0<=most/\most<=10000 then qih r t most 20 d else (0,2))else (0,qrS r t d)):=by
 obtain ⟨y,e1,e2⟩:=qkT hp hpr hm hmr hd ht hd2;have e1':qa8 (r.1,r.2.1,r.2.2.1,r.2.2.2.1,r.2.2.2.2.1,()) t d=some (y,qrS r t d):=e1;unfold qdy;rw [e1',qb,qlg,qb,qdZ,qb,qvV,qb];by_cases hE:qrS r t d=0
 case neg=>simp [hE]
 have hy:=e2 hE;subst hy;by_cases c0:0<=most/\most<=10000
 case neg=>simp [hE,c0]
 simp only [hE,c0,and_self,decide_true,if_true,Bool.not_true,cond_false];refine Ok.eq ?_;refine qzT.2 ?_;refine (qbb 20 (λi (s:List G×Int)=>s.2=(i:Int)/\RdB r t s.1/\qih r t most (20-i) s.1=qih r t most 20 d)
  (λq:Unit⊕(Int×Int)=>q=.inr (qih r t most 20 d)) ⟨rfl,RdB.of hE,by rw [Nat.sub_zero]⟩ ?_).mono ?_
 ·rintro i ⟨s,j⟩ hi ⟨h1,h2,h3⟩;simp only at h1 h2 h3;subst h1;obtain ⟨p,hp1,hp2⟩:=qDz h2 c0;obtain ⟨x8,q1,hp1⟩:=qh.1 hp1;obtain ⟨x9,q2,hp1⟩:=qh.1 hp1;simp only [q1,q2,qb,hp1,hp2,Bool.not_not];by_cases hlt:i<20
  ·obtain ⟨f,hf⟩:∃f,20-i=f+1:=⟨20-i-1,by omega⟩
   rw [hf,qoK r t most f s]at h3;have hi20:¬ ((i:Int)=20):=by omega
   cases c:inF r t s most with
   |true =>
    rw [c,if_pos rfl]at h3;simp only [cond_true];rw [qar,<- h3];congr 2
    omega
   |false =>
    rw [c,if_neg (by simp)]at h3;simp only [cond_false,hi20,decide_false];rw [qqv h2.rig h2.tz h2.dz,qb];by_cases c2:qfO (qiV r t s) r.2.1.length=0
    ·rw [if_pos c2]at h3 ⊢;simp only [decide_true,Bool.not_true,cond_false];rw [wid (by omega) (by omega),qaE];refine ⟨hlt,by simp,⟨h2.rig,h2.tz,c2⟩,?_⟩;rw [show 20-(i+1)=f by omega];exact h3
    ·rw [if_neg c2]at h3 ⊢;simp only [show ¬ ((22:Int)=0) by omega,decide_false,Bool.not_false,cond_true];rw [qar,<- h3]
  ·have:i=20:=by omega
   subst this;rw [Nat.sub_self,qoL r t most s]at h3;cases c:inF r t s most with
   |true =>
    rw [c,if_pos rfl]at h3;simp only [cond_true];rw [qar,<- h3];rfl
   |false =>
    rw [c,if_neg (by simp)]at h3;have e20:decide (((20:Nat):Int)=20)=true:=by decide
    simp only [cond_false,e20,cond_true];rw [qar,<- h3]
 ·rintro q rfl;rfl
def qjE(r:Rg)(t:List G):Nat->List G->Option (List (List G))
 |0,_=>some []
 |k+1,d=>if qfO (qiV r t d) r.2.1.length=0 then (qjE r t k (qiV r t d)).map λl=>qiV r t d::l else none
theorem qiL(r:Rg)(t:List G)(k:Nat)(d:List G):qjE r t (k+1) d=if qfO (qiV r t d) r.2.1.length=0 then (qjE r t k (qiV r t d)).map λl=>qiV r t d::l else none:=rfl
theorem qzB{r:Rg}{t d:List G}(h:RdB r t d){k:Nat}(hk:k<=20){ρ:Type}{K:List G×List (List G)×Int->Option ((List G×List (List G)×Int)⊕(List (List G)⊕ρ))}(bad:ρ)
  (hK:∀(i:Nat) s L,i<k->RdB r t s->L.length<=20->K (s,L,(i:Int))=some (if qfO (qiV r t s) r.2.1.length=0 then .inl (qiV r t s,L++[qiV r t s],(i:Int)+1)else .inr (.inr bad))) :
  Ok (qab (λs=>bif decide (s.2.2<(k:Int))then K s else some (.inr (.inl s.2.1))) (d,[],0)) λq=>q=(match qjE r t k d with|some l=>.inl l|none=>.inr bad):=by
 refine qbb k (λi (s:List G×List (List G)×Int)=>s.2.2=(i:Int)/\RdB r t s.1/\s.2.1.length=i/\qjE r t k d=(qjE r t (k-i) s.1).map λl=>s.2.1++l) _ ⟨rfl,h,rfl,by simp⟩ ?_;rintro i ⟨s,L,j⟩ hi ⟨h1,h2,h3,h4⟩;simp only at h1 h2 h3 h4;subst h1;by_cases hlt:i<k
 ·have e1:decide ((i:Int)<(k:Int))=true:=decide_eq_true (by omega);simp only [e1,cond_true];rw [hK i s L hlt h2 (by omega)];obtain ⟨f,hf⟩:∃f,k-i=f+1:=⟨k-i-1,by omega⟩
  rw [hf,qiL]at h4;by_cases c:qfO (qiV r t s) r.2.1.length=0
  ·rw [if_pos c]at h4 ⊢;rw [qaE];refine ⟨hlt,by simp,⟨h2.rig,h2.tz,c⟩,by simp [h3],?_⟩;rw [show k-(i+1)=f by omega,h4,Option.map_map];congr 1
   funext l
   simp
  ·rw [if_neg c]at h4 ⊢;rw [qar,h4];rfl
 ·have:i=k:=by omega
  subst this;have e1:decide ((i:Int)<(i:Int))=false:=by simp
  simp only [e1,cond_false];rw [qar,h4,Nat.sub_self];simp [qjE]
theorem qpD{r:Rg}{t d:List G}(hp:r.1.length<=1000000000)(hpr:∀x∈r.1,x.length<=1000000000)(hm:r.2.1.length<=1000000000)(hmr:∀x∈r.2.1,x.length<=1000000000)(hd:r.2.2.2.1<=9223372036854775807)(ht:t.length<=1000000000)(hd2:d.length<=1000000000)(n:Int) :
  qcg r t d n=some (if qrS r t d=0 then (if 0<=n/\n<=20 then (match qjE r t n.toNat d with|some l=>(l,0)|none=>([],22))else ([],2))else ([],qrS r t d)):=by
 obtain ⟨y,e1,e2⟩:=qkT hp hpr hm hmr hd ht hd2;have e1':qa8 (r.1,r.2.1,r.2.2.1,r.2.2.2.1,r.2.2.2.2.1,()) t d=some (y,qrS r t d):=e1;unfold qcg;rw [e1',qb,qlg,qb,qdZ,qb,qvV,qb];by_cases hE:qrS r t d=0
 case neg=>simp [hE]
 have hy:=e2 hE;subst hy;by_cases c0:0<=n/\n<=20
 case neg=>simp [hE,c0]
 obtain ⟨k,rfl⟩:∃k:Nat,n=(k:Int):=⟨n.toNat,by omega⟩
 simp only [hE,c0,and_self,decide_true,if_true,Bool.not_true,cond_false,Int.toNat_natCast];have key:=qzB (RdB.of hE) (k:=k) (by omega) (K:=λs7=>(qbg (OR r) t s7.1).bind λx8 =>
     bif !(decide (x8.2=0))then
      some (.inr (.inr ([],x8.2)))
     else
      (app s7.2.1 ([x8.1])).bind λx9 =>
      some (.inl (x8.1,x9,w64 (s7.2.2+1)))) (([],22):List (List G)×Int) (λi s L hi hs hL=>by
  rw [qqv hs.rig hs.tz hs.dz,qb];by_cases c:qfO (qiV r t s) r.2.1.length=0
  ·simp only [c,if_true,decide_true,Bool.not_true,cond_false];rw [qdt (by omega),qb,wid (by omega) (by omega)]
  ·simp [c])
 rw [key.eq];cases qjE r t k d<;>rfl
theorem qzA{r:Rg}{t:List G}(hm:r.2.1.length<=3):∀{k:Nat} {d:List G} {l:List (List G)},qjE r t k d=some l->l.length=k/\∀x∈l,x.length<=3
 |0,d,l,h=>by simp only [qjE,qe]at h;subst h;exact ⟨rfl,by simp⟩
 |k+1,d,l,h=>by
  simp only [qjE]at h;split at h
  ·obtain ⟨l',h1,rfl⟩:=qf.1 h;obtain ⟨a,b⟩:=qzA hm h1;refine ⟨by simp [a],λx hx=>?_⟩;rcases qp.1 hx with rfl|hx
   ·rw [qCo];exact hm
   ·exact b x hx
  ·cases h
end Go.Proofs.YteiciemjanhdcaaGreatDoor.Mat
namespace Go.Proofs.YteiciemjanhdcaaGreatDoor
open Go Go.Ab Go.Tx
end Go.Proofs.YteiciemjanhdcaaGreatDoor
end
section
namespace Go.Dec
open Go Go.Lib
def isD(c:UInt8):Prop:=48<=c.toNat/\c.toNat<=57
instance:DecidablePred isD:=λc=>inferInstanceAs (Decidable (_/\_))
def qmd(n:Nat)(c:UInt8):Nat:=10*n+(c.toNat-48)
def val(l:List UInt8):Nat:=l.foldl qmd 0
theorem qse(l:List UInt8)(c:UInt8):val (l++[c])=10*val l+(c.toNat-48):=by simp [val,qmd]
theorem qib{d:Nat}(h:d<10):(UInt8.ofNat (48+d)).toNat=48+d:=by
 rw [UInt8.toNat_ofNat'];omega
theorem qgm{u:Nat}(h:u<10):decDigits u=[UInt8.ofNat (48+u)]:=by rw [decDigits,dif_pos h]
theorem qur{u:Nat}(h:¬ u<10):decDigits u=decDigits (u / 10)++[UInt8.ofNat (48+u % 10)]:=by rw [decDigits,dif_neg h]
theorem qkd:∀u:Nat,(∀c∈decDigits u,isD c)/\decDigits u≠[]/\val (decDigits u)=u/\(0<u->(decDigits u).head?≠some 48):=by
 intro u;induction u using Nat.strongRecOn with
 |_ u ih =>
  by_cases h:u<10
  ·rw [qgm h];refine ⟨?_,by simp,?_,?_⟩
   ·intro c hc;rw [List.mem_singleton]at hc;subst hc;unfold isD;rw [qib h];omega
   ·simp only [val,List.foldl,qmd];rw [qib h];omega
   ·intro h0 e;simp only [List.head?_cons,qe]at e;have e2:=congrArg UInt8.toNat e;rw [qib h]at e2;have:(48:UInt8).toNat=48:=rfl;omega
  ·obtain ⟨h1,h2,h3,h4⟩:=ih (u / 10) (by omega);have hm:u % 10<10:=Nat.mod_lt _ (by omega);rw [qur h];refine ⟨λc hc=>?_,by simp,?_,λ_=>?_⟩
   ·rcases qo.1 hc with hc|hc
    ·exact h1 c hc
    ·rw [List.mem_singleton]at hc;subst hc;unfold isD;rw [qib hm];omega
   ·rw [qse,h3,qib hm];omega
   ·cases hd:decDigits (u / 10)with
    |nil=>exact absurd hd h2
    |cons a t =>
     rw [hd]at h4;simpa using h4 (by omega)
theorem qnB:∀(k u:Nat),u<10 ^ k->1<=k->(decDigits u).length<=k
 |0,u,h,h1=>by omega
 |k+1,u,h,_=>by
  by_cases h9:u<10
  ·rw [qgm h9];simp
  ·rw [qur h9,List.length_append,List.length_singleton];have hk:1<=k:=by
    rcases Nat.eq_zero_or_pos k with rfl|h0
    ·simp at h;omega
    ·exact h0
   have:=qnB k (u / 10) (by rw [Nat.pow_succ]at h;omega) hk;omega
theorem qus:∀(n:Nat) (ds:List UInt8),ds.length<=n->ds≠[]->(∀c∈ds,isD c)->(ds.head?≠some 48\/ds.length=1)->decDigits (val ds)=ds
 |0,ds,hl,h0,_,_=>absurd (List.eq_nil_of_length_eq_zero (by omega)) h0
 |n+1,ds,hl,h0,hd,hh=>by
  obtain ⟨es,c,rfl⟩:∃es c,ds=es++[c]:=⟨ds.dropLast,ds.getLast h0,(List.dropLast_concat_getLast h0).symm⟩
  have hc:=hd c (by simp);unfold isD at hc;have hcc:UInt8.ofNat (48+(c.toNat-48))=c:=by
   rw [show 48+(c.toNat-48)=c.toNat by omega];simp
  rw [qse];by_cases he:es=[]
  ·subst he;simp only [val,List.foldl,Nat.mul_zero,Nat.zero_add,List.nil_append];rw [qgm (by omega),hcc]
  ·have hlen:1<=es.length:=List.length_pos_iff.2 he;rw [List.length_append,List.length_singleton]at hl hh;have hh2:es.head?≠some 48:=by
    rcases hh with hh|hh
    ·cases es with
     |nil=>exact absurd rfl he
     |cons a t=>simpa using hh
    ·omega
   have ih:=qus n es (by omega) he (λx hx=>hd x (by simp [hx])) (.inl hh2);have hv:0<val es:=by
    rcases Nat.eq_zero_or_pos (val es)with h|h
    ·rw [h]at ih;rw [<- ih,qgm (by omega)]at hh2;exact absurd rfl hh2
    ·exact h
   rw [qur (by omega),show (10*val es+(c.toNat-48)) / 10=val es by omega,show (10*val es+(c.toNat-48)) % 10=c.toNat-48 by omega,ih,hcc]
theorem qDb:∀(n:Nat) (ds:List UInt8),ds.length<=n->(∀c∈ds,isD c)->val ds<10 ^ n
 |0,ds,hl,_=>by
  have:ds=[]:=List.eq_nil_of_length_eq_zero (by omega);subst this;simp [val]
 |n+1,ds,hl,hd=>by
  by_cases h0:ds=[]
  ·subst h0;simp only [val,List.foldl];exact Nat.pow_pos (by omega)
  ·obtain ⟨es,c,rfl⟩:∃es c,ds=es++[c]:=⟨ds.dropLast,ds.getLast h0,(List.dropLast_concat_getLast h0).symm⟩
   have hc:=hd c (by simp);unfold isD at hc;rw [List.length_append,List.length_singleton]at hl;have:=qDb n es (by omega) (λx hx=>hd x (by simp [hx]));rw [qse,Nat.pow_succ];omega
theorem qy1:∀(l:List UInt8) (a:Nat),a<=l.foldl qmd a
 |[],a=>Nat.le_refl _
 |c::l,a=>Nat.le_trans (by unfold qmd;omega) (qy1 l (qmd a c))
theorem qmE:∀(l:List UInt8) (a:Nat),(∀c∈l,isD c)->l.foldl qmd a<10 ^ 18->parseUint10 a l=.ok (l.foldl qmd a)
 |[],a,_,_=>rfl
 |c::l,a,hd,h=>by
  have hc:=hd c (by simp);have h1:=qy1 l (qmd a c);simp only [List.foldl_cons]at h ⊢;have h2:qmd a c<10 ^ 18:=by omega
  unfold isD at hc;unfold parseUint10;rw [if_pos hc];have e:a*10+(c.toNat-48)=qmd a c:=by unfold qmd;omega
  have h3:a*10<=qmd a c:=by omega
  rw [if_neg (by omega),e,if_neg (by omega)];exact qmE l _ (λx hx=>hd x (by simp [hx])) h
def num(d:Nat)(w:List UInt8):Option Int:=match atoiAll w with
 |.ok v=>if itoa v=w/\(trimPrefix w [45]).length<=d then some v else none
 |_=>none
theorem qmm(r:List UInt8):trimPrefix (45::r) [45]=r:=by
 unfold trimPrefix hasPrefix;simp
theorem qqG{w:List UInt8}(h:w.head?≠some 45):trimPrefix w [45]=w:=by
 unfold trimPrefix hasPrefix;cases w with
 |nil=>simp
 |cons c l =>
  have:¬ (45:UInt8)=c:=λe=>h (by simp [e]);simp [this]
def qeR(w:List UInt8):List UInt8:=if w.head?=some 45 then w.drop 1 else w
def qEG(d:Nat)(w:List UInt8):Prop:=qeR w=[]\/d<(qeR w).length\/((qeR w).head?=some 48/\1<w.length)\/¬ ∀c∈qeR w,isD c
instance (d:Nat) (w:List UInt8):Decidable (qEG d w):=inferInstanceAs (Decidable (_\/_))
def qE6(d:Nat)(w:List UInt8):Option Int:=if qEG d w then none else some (if w.head?=some 45 then -((val (qeR w):Nat):Int)else ((val (qeR w):Nat):Int))
theorem qzR{d:Nat}{v:Int}(h:(trimPrefix (itoa v) [45]).length<=d):qE6 d (itoa v)=some v:=by
 by_cases hv:v<0
 ·have e:itoa v=45::decDigits v.natAbs:=by unfold itoa;rw [if_pos hv]
  obtain ⟨h1,h2,h3,h4⟩:=qkd v.natAbs;have hr:qeR (45::decDigits v.natAbs)=decDigits v.natAbs:=by simp [qeR]
  rw [e,qmm]at h;rw [e];unfold qE6;rw [if_neg,hr,h3]
  ·simp only [List.head?_cons,if_true];congr 1;omega
  ·unfold qEG;rw [hr];rintro (h5|h5|⟨h5,_⟩|h5)
   ·exact h2 h5
   ·omega
   ·exact h4 (by omega) h5
   ·exact h5 h1
 ·have e:itoa v=decDigits v.toNat:=by unfold itoa;rw [if_neg hv]
  obtain ⟨h1,h2,h3,h4⟩:=qkd v.toNat;have hh:(decDigits v.toNat).head?≠some 45:=by
   intro hc;cases hd:decDigits v.toNat with
   |nil=>rw [hd]at hc;cases hc
   |cons a t =>
    rw [hd]at hc;simp only [List.head?_cons,qe]at hc;have:=h1 a (by rw [hd];simp);unfold isD at this;rw [hc]at this;exact absurd this.1 (by decide)
  have hr:qeR (decDigits v.toNat)=decDigits v.toNat:=by unfold qeR;rw [if_neg hh]
  rw [e,qqG hh]at h;rw [e];unfold qE6;rw [if_neg,hr,h3,if_neg hh]
  ·congr 1;omega
  ·unfold qEG;rw [hr];rintro (h5|h5|⟨h5,h6⟩|h5)
   ·exact h2 h5
   ·omega
   ·rcases Nat.eq_zero_or_pos v.toNat with h0|h0
    ·rw [h0,qgm (by omega)]at h6;simp at h6
    ·exact h4 h0 h5
   ·exact h5 h1
theorem qBO{d:Nat}(hd:d<=18){w:List UInt8}{v:Int}(h:qE6 d w=some v):num d w=some v:=by
 unfold qE6 at h;split at h
 ·cases h
 ·rename_i hb;simp only [qe]at h;unfold qEG at hb;simp only [not_or,not_and,Classical.not_not]at hb;obtain ⟨b1,b2,b3,b4⟩:=hb;have hlt:val (qeR w)<10 ^ 18:=qDb 18 _ (by omega) b4;have hp:parseMag (qeR w)=.ok (val (qeR w)):=by
   unfold parseMag;rw [if_neg b1];exact qmE _ 0 b4 hlt
  by_cases hm:w.head?=some 45
  ·rw [if_pos hm]at h;cases w with
   |nil=>cases hm
   |cons c r =>
    simp only [List.head?_cons,qe]at hm;subst hm;have hr:qeR (45::r)=r:=by simp [qeR]
    rw [hr]at b1 b2 b3 b4 hlt hp h;have h48:r.head?≠some 48:=λe=>by
     have:=b3 e;have h0:0<r.length:=List.length_pos_iff.2 b1;simp only [List.length_cons]at this;omega
    have hdv:=qus r.length r (Nat.le_refl _) b1 b4 (.inl h48);have hpos:0<val r:=by
     rcases Nat.eq_zero_or_pos (val r)with h0|h0
     ·rw [h0,qgm (by omega)]at hdv;rw [<- hdv]at h48;exact absurd rfl h48
     ·exact h0
    have ha:atoiAll (45::r)=.ok v:=by
     unfold atoiAll;have e45:(45:UInt8).toNat=45:=rfl;simp only [e45,or_true,if_true,hp,not_true,false_and,if_false,true_and];rw [if_neg (by omega),h]
    have hi:itoa v=45::r:=by
     rw [<- h];unfold itoa;rw [if_pos (by omega),show (-((val r:Nat):Int)).natAbs=val r by omega,hdv]
    unfold num;rw [ha];simp only
    rw [if_pos ⟨hi,by rw [qmm];omega⟩]
  ·rw [if_neg hm]at h;have hr:qeR w=w:=by unfold qeR;rw [if_neg hm]
   rw [hr]at b1 b2 b3 b4 hlt hp h;have hdv:=qus w.length w (Nat.le_refl _) b1 b4 (by
    by_cases h48:w.head?=some 48
    ·right
     have:=b3 h48;have h0:0<w.length:=List.length_pos_iff.2 b1;omega
    ·exact .inl h48)
   have ha:atoiAll w=.ok v:=by
    cases w with
    |nil=>exact absurd rfl b1
    |cons c r =>
     have hc:=b4 c (by simp);unfold isD at hc;unfold atoiAll;have e1:¬ (c.toNat=43\/c.toNat=45):=by omega
     have e2:¬ c.toNat=45:=by omega
     simp only [if_neg e1];rw [hp];simp only [e2,not_false_eq_true,true_and,false_and,if_false];rw [if_neg (by omega),h]
   have hi:itoa v=w:=by
    rw [<- h];unfold itoa;rw [if_neg (by omega),Int.toNat_natCast,hdv]
   unfold num;rw [ha];simp only
   rw [if_pos ⟨hi,by rw [qqG hm];omega⟩]
theorem qBP{d:Nat}{w:List UInt8}{v:Int}(h:num d w=some v):atoiAll w=.ok v/\itoa v=w/\(trimPrefix w [45]).length<=d:=by
 unfold num at h;split at h
 ·rename_i u hu;split at h
  ·rename_i hc;cases h;exact ⟨hu,hc.1,hc.2⟩
  ·cases h
 ·cases h
theorem qwm{d:Nat}(hd:d<=18)(h1:1<=d){v:Int}(h:v.natAbs<10 ^ d):num d (itoa v)=some v:=by
 refine qBO hd (qzR ?_);by_cases hv:v<0
 ·have e:itoa v=45::decDigits v.natAbs:=by unfold itoa;rw [if_pos hv]
  rw [e,qmm];exact qnB d _ h h1
 ·have e:itoa v=decDigits v.toNat:=by unfold itoa;rw [if_neg hv]
  have hl:=qnB d v.toNat (by omega) h1;rw [e];unfold trimPrefix;split
  ·rw [List.length_drop];omega
  ·exact hl
theorem qxp(v:Int):∀c∈itoa v,c=45\/isD c:=by
 intro c hc;unfold itoa at hc;split at hc
 ·rcases qp.1 hc with h|h
  ·exact .inl h
  ·exact .inr ((qkd _).1 c h)
 ·exact .inr ((qkd _).1 c hc)
theorem qnX{v:Int}{c:UInt8}(h1:c≠45)(h2:¬ isD c):c∉itoa v:=λh=>(qxp v c h).elim h1 h2
theorem qnf{v:Int}(h : -9223372036854775808<=v/\v<=9223372036854775807):(itoa v).length<=21:=by
 unfold itoa;split
 ·have:=qnB 20 v.natAbs (by omega) (by omega);simp only [List.length_cons]<;>omega
 ·have:=qnB 20 v.toNat (by omega) (by omega);omega
def parts(c:UInt8):List UInt8->List (List UInt8)
 |[]=>[[]]
 |b::l=>if b=c then []::parts c l else match parts c l with
  |[]=>[[b]]
  |p::ps=>(b::p)::ps
theorem qws(c:UInt8):∀l,parts c l≠[]
 |[]=>by simp [parts]
 |b::l=>by
  unfold parts;split
  ·simp
  ·split<;>simp
theorem qdq{c:UInt8}:∀{l:List UInt8},c∉l->parts c l=[l]
 |[],_=>rfl
 |b::l,h=>by
  simp only [qp,not_or]at h;unfold parts;rw [if_neg (λe=>h.1 e.symm),qdq h.2]
theorem qcd{c:UInt8}:∀{p r:List UInt8},c∉p->parts c (p++c::r)=p::parts c r
 |[],r,_=>by simp [parts]
 |b::p,r,h=>by
  simp only [qp,not_or]at h;rw [List.cons_append,parts,if_neg (λe=>h.1 e.symm),qcd h.2]
theorem qtD(c:UInt8):∀l:List UInt8,(parts c l).length<=l.length+1
 |[]=>by simp [parts]
 |b::l=>by
  have:=qtD c l;unfold parts;split
  ·simp<;>omega
  ·split
   ·simp
   ·rename_i p ps h;rw [h]at this;simp at this ⊢;omega
theorem qfB(c:UInt8):∀s:List UInt8,(index s [c] = -1/\c∉s)\/∃p r,s=p++c::r/\c∉p/\index s [c]=(p.length:Int)
 |[]=>.inl ⟨rfl,by simp⟩
 |b::l=>by
  have e:index (b::l) [c]=if [c].isPrefixOf (b::l)then 0 else if index l [c] == -1 then -1 else index l [c]+1:=rfl;by_cases h:c=b
  ·subst h;exact .inr ⟨[],l,rfl,List.not_mem_nil,by rw [e];simp⟩
  ·have hp:([c].isPrefixOf (b::l))=false:=by simp [List.isPrefixOf,h]
   rw [e,hp];simp only [qj,if_false];rcases qfB c l with ⟨h1,h2⟩|⟨p,r,rfl,h2,h3⟩
   ·exact .inl ⟨by rw [h1];rfl,by simp only [qp,not_or];exact ⟨h,h2⟩⟩
   ·refine .inr ⟨b::p,r,rfl,by simp only [qp,not_or];exact ⟨h,h2⟩,?_⟩;rw [h3];have:(((p.length:Int) == -1))=false:=by rw [beq_eq_false_iff_ne];omega
    simp [this]
theorem qp0(x y:List UInt8)(r:List (List UInt8))(sep:List UInt8):join (x::y::r) sep=x++sep++join (y::r) sep:=by
 rw [join_cons,join_cons];simp [joinTail]
theorem qqg{c:UInt8}:∀{ws:List (List UInt8)},ws≠[]->(∀w∈ws,c∉w)->parts c (join ws [c])=ws
 |[],h,_=>absurd rfl h
 |[w],_,h=>by rw [join_one];exact qdq (h w (by simp))
 |w::v::r,_,h=>by
  rw [qp0];have e:w++[c]++join (v::r) [c]=w++c::join (v::r) [c]:=by simp
  rw [e,qcd (h w (by simp)),qqg (by simp) (λx hx=>h x (by simp [hx]))]
theorem qwc(sep:List UInt8){B:Nat}:∀ws:List (List UInt8),(∀w∈ws,w.length<=B)->(join ws sep).length<=ws.length*(B+sep.length)
 |[],_=>by simp [join_nil]
 |[w],h=>by
  rw [join_one];have:=h w (by simp);simp only [List.length_singleton]<;>omega
 |w::v::r,h=>by
  rw [qp0];have h1:=h w (by simp);have h2:=qwc sep (v::r) (λx hx=>h x (by simp [hx]));simp only [List.length_append,List.length_cons]at h2 ⊢;rw [show (r.length+1+1)*(B+sep.length)=(r.length+1)*(B+sep.length)+(B+sep.length) by rw [Nat.add_mul (r.length+1) 1,Nat.one_mul]];omega
def quY{α β:Type}(f:α->Option β):List α->Option (List β)
 |[]=>some []
 |a::l=>(f a).bind λb=>(quY f l).map (b::·)
theorem qzC{α β:Type}{f:α->Option β}{g:β->α}:∀{l:List β},(∀b∈l,f (g b)=some b)->quY f (l.map g)=some l
 |[],_=>rfl
 |b::l,h=>by
  simp only [qm,quY];rw [h b (by simp),qzC (λx hx=>h x (by simp [hx]))];rfl
theorem qwg{α β:Type}{f:α->Option β}:∀{l:List α} {r:List β},quY f l=some r->r.length=l.length
 |[],r,h=>by cases h;rfl
 |a::l,r,h=>by
  simp only [quY]at h;obtain ⟨b,_,h⟩:=qh.1 h;obtain ⟨r',hr,rfl⟩:=qf.1 h;simp [qwg hr]
end Go.Dec
end
section
namespace Go.Proofs.YteiciemjanhdcaaGreatDoor
open Go Go.Ab Go.Tx Go.Dec
def qFy(n:Int):Prop:=-9223372036854775808<=n/\n<=9223372036854775807
theorem wid{n:Int}(h1 : -9223372036854775808<=n)(h2:n<=9223372036854775807):w64 n=n:=qj3 h1 h2
theorem qug{n:Int}(h:qFy n):strconv_Itoa n=some (Lib.itoa n):=by
 exact if_pos h
theorem qCh{l:List UInt8}{a:Nat}(h:a<=l.length):slc l (a:Int) (l.length:Int)=some (l.drop a):=by
 rw [qqA (by omega)];simp
theorem qFh{l:List UInt8}{a:Nat}(h:a<=l.length):slc l 0 (a:Int)=some (l.take a):=by
 rw [qqA (by omega)];simp
end Go.Proofs.YteiciemjanhdcaaGreatDoor
end
section
namespace Go.Proofs.YteiciemjanhdcaaGreatDoor
open Go Go.Ab Go.Tx Go.Dec Go.Proofs.YteiciemjanhdcaaGreatDoor.Mat
theorem qx1{β γ:Type}(c:UInt8)(f:List UInt8->Option β)(bad:γ){s:List UInt8}{B:List β×List UInt8->Option ((List β×List UInt8)⊕((List β×List UInt8)⊕γ))}
  (h1:∀out r,out.length+r.length<=s.length->c∉r->B (out,r)=some (.inr (.inl (out,r))))
  (h2:∀out p q,out.length+p.length+1+q.length<=s.length->c∉p->B (out,p++c::q)=some (match f p with|none=>.inr (.inr bad)|some b=>.inl (out++[b],q))) :
  Ok (qab B ([],s)) λx=>match x with
   |.inl p=>c∉p.2/\p.1.length+p.2.length<=s.length/\quY f (parts c s)=(f p.2).map λb=>p.1++[b]
   |.inr q=>q=bad/\quY f (parts c s)=none:=by
 refine qDP (λst=>st.2.length) (λ(st:List β×List UInt8)=>quY f (parts c s)=(quY f (parts c st.2)).map (st.1++·)/\st.1.length+st.2.length<=s.length) _ ⟨by simp,by simp⟩ ?_;rintro ⟨out,r⟩ ⟨e,hl⟩;simp only at e hl;rcases qfB c r with ⟨_,h3⟩|⟨p,q,rfl,h3,_⟩
 ·rw [h1 out r hl h3,qar];refine ⟨h3,hl,?_⟩;rw [e,qdq h3];simp only [quY];cases f r<;>rfl
 ·have hq:(p++c::q).length=p.length+1+q.length:=by simp<;>omega
  rw [hq]at hl;rw [h2 out p q (by omega) h3];rw [qcd h3]at e;simp only [quY]at e;cases hf:f p with
  |none =>
   rw [hf]at e;rw [qar];exact ⟨rfl,e⟩
  |some b =>
   rw [hf]at e;rw [qaE];refine ⟨⟨?_,by simp;omega⟩,by simp only;rw [hq];omega⟩;simp only [e,qb];cases quY f (parts c q)<;>simp
def inG(z:G):Prop:=qFy z.1/\qFy z.2.1
def pt(d:Nat)(w:List UInt8):Option G:=match parts 44 w with
 |[p,q]=>(num d p).bind λa=>(num d q).map λb=>(a,b,())
 |_=>none
theorem qE7{c:UInt8}(h1:c≠45)(h2:¬ isD c){d:Nat}{w:List UInt8}(h:c∈w):num d w=none:=by
 cases hn:num d w with
 |none=>rfl
 |some v =>
  obtain ⟨_,e,_⟩:=qBP hn;rw [<- e]at h;exact absurd h (qnX h1 h2)
theorem qrF(d:Nat){w:List UInt8}(hw:w.length<=100000):∃v,qcI w (d:Int)=some (v,(num d w).isSome)/\∀n,num d w=some n->v=n:=by
 unfold qcI strconv_Atoi;rw [if_pos (by omega)];unfold qDm num;cases ha:Lib.atoiAll w with
 |ok v =>
  have hb:=Lib.atoiAll_bounds ha;simp only [qb,cond_true];rw [qug ⟨by omega,by omega⟩];simp only [qb];refine ⟨v,?_,?_⟩
  ·by_cases c:Lib.itoa v=w
   ·simp only [c,decide_true,cond_true,true_and];unfold strings_TrimPrefix;simp only [qb];by_cases e:(Lib.trimPrefix w [45]).length<=d
    ·have:((Lib.trimPrefix w [45]).length:Int)<=(d:Int):=by omega
     simp [e,this]
    ·have:¬ ((Lib.trimPrefix w [45]).length:Int)<=(d:Int):=by omega
     simp [e,this]
   ·simp [c]
  ·intro n hn;by_cases c:Lib.itoa v=w/\(Lib.trimPrefix w [45]).length<=d
   ·rw [if_pos c]at hn;cases hn;rfl
   ·rw [if_neg c]at hn;cases hn
 |range=>exact ⟨_,rfl,λn hn=>by cases hn⟩
 |_=>exact ⟨0,rfl,λn hn=>by cases hn⟩
theorem qzZ(d:Nat){w:List UInt8}(hw:w.length<=100000):∃x5 x6 x7,strings_Cut w [44]=some x5/\qcI x5.1 (d:Int)=some x6/\qcI x5.2.1 (d:Int)=some x7 /\
  (bif !x5.2.2 then some true else bif !x6.2 then some true else some (!x7.2))=some (pt d w).isNone/\∀z,pt d w=some z->(x6.1,x7.1,())=z:=by
 unfold strings_Cut;rw [if_pos (by omega)];have hc44:(44:UInt8)≠45:=by decide
 have hd44:¬ isD 44:=by decide
 rcases qfB 44 w with ⟨h1,h2⟩|⟨p,q,rfl,h2,h3⟩
 ·have e:Lib.cut w [44]=(w,[],false):=by unfold Lib.cut;rw [h1,if_neg (by omega)]
  rw [e];obtain ⟨v,p1,_⟩:=qrF d (w:=w) hw;obtain ⟨v',p2,_⟩:=qrF d (w:=[]) (by simp);refine ⟨_,_,_,rfl,p1,p2,?_,?_⟩
  ·unfold pt;rw [qdq h2];rfl
  ·intro z hz;unfold pt at hz;rw [qdq h2]at hz;cases hz
 ·have e:Lib.cut (p++44::q) [44]=(p,q,true):=by
   unfold Lib.cut;rw [h3,if_pos (by omega)];have:(p++44::q).drop (p.length+1)=q:=by
    rw [show p++44::q=(p++[44])++q by simp,List.drop_left' (by simp)]
   simp [this]
  have hl:(p++44::q).length=p.length+1+q.length:=by simp<;>omega
  rw [hl]at hw;rw [e];obtain ⟨v,p1,p2⟩:=qrF d (w:=p) (by omega);obtain ⟨v',q1,q2⟩:=qrF d (w:=q) (by omega);refine ⟨_,_,_,rfl,p1,q1,?_,?_⟩
  ·simp only [Bool.not_true,cond_false];unfold pt;rw [qcd h2];rcases qfB 44 q with ⟨_,h4⟩|⟨p',q',rfl,h4,_⟩
   ·rw [qdq h4];simp only
    cases hp:num d p with
    |none=>rfl
    |some a =>
     simp only [Option.isSome_some,Bool.not_true,cond_false,qb];cases num d q<;>rfl
   ·rw [qcd h4];have hn:num d (p'++44::q')=none:=qE7 hc44 hd44 (by simp);have h5:=qws 44 q';rw [hn];cases hq:parts 44 q' with
    |nil=>exact absurd hq h5
    |cons a l =>
     simp only [Option.isSome_none,Bool.not_false];cases num d p<;>rfl
  ·intro z hz;unfold pt at hz;rw [qcd h2]at hz;rcases qfB 44 q with ⟨_,h4⟩|⟨p',q',rfl,h4,_⟩
   ·rw [qdq h4]at hz;simp only at hz;obtain ⟨a,ha,hz⟩:=qh.1 hz;obtain ⟨b,hb,rfl⟩:=qf.1 hz;rw [p2 a ha,q2 b hb]
   ·rw [qcd h4]at hz;cases hq:parts 44 q' with
    |nil=>exact absurd hq (qws 44 q')
    |cons a l=>rw [hq]at hz;cases hz
def qF0(o:Option (List G)):List G×Bool:=match o with
 |some l=>(l,true)
 |none=>([],false)
def prs(d:Nat)(s:List UInt8):Option (List G):=quY (pt d) (parts 32 s)
theorem qDX{d:Nat}{s:List UInt8}{l:List G}(h:prs d s=some l):l.length<=s.length+1:=by
 have:=qtD 32 s;rw [qwg h];exact this
theorem qE9{α β:Type}{o:Option (α⊕β)}{k:α->Option β}{r:β}(h:Ok o λx=>match x with|.inl p=>k p=some r|.inr q=>q=r):o.bind (Sum.elim k some)=some r:=by
 obtain ⟨x,rfl,h⟩:=h;cases x with
 |inl p=>exact h
 |inr q=>exact congrArg some h
theorem qCl{c:UInt8}{s p q:List UInt8}(hs:s.length<=100000)(h3:p.length+1+q.length<=s.length)(hi:c∉p):strings_Index (p++c::q) [c]=some (p.length:Int) /\
  slc (p++c::q) 0 (w64 ((p.length:Int)+0))=some p/\slc (p++c::q) (w64 ((p.length:Int)+1)) ((p++c::q).length:Int)=some q:=by
 have hl:(p++c::q).length=p.length+1+q.length:=by simp<;>omega
 refine ⟨?_,?_,?_⟩
 ·unfold strings_Index;rw [if_pos (by omega)];rcases qfB c (p++c::q)with ⟨_,h⟩|⟨p',q',e,h1,h2⟩
  ·exact absurd (by simp) h
  ·have h4:=qcd (r:=q) hi;rw [e,qcd h1]at h4;rw [h2,(List.cons.inj h4).1]
 ·rw [wid (by omega) (by omega),show ((p.length:Int)+0)=((p.length:Nat):Int) by omega,qFh (by rw [hl];omega)];simp
 ·rw [wid (by omega) (by omega),show ((p.length:Int)+1)=((p.length+1:Nat):Int) by omega,qCh (by rw [hl];omega)];rw [show p++c::q=(p++[c])++q by simp,List.drop_left' (by simp)]
theorem index_none{c:UInt8}{r:List UInt8}(hr:r.length<=100000)(h:c∉r):strings_Index r [c]=some (-1):=by
 unfold strings_Index;rw [if_pos (by omega)];rcases qfB c r with ⟨h1,_⟩|⟨p,q,rfl,_,_⟩
 ·rw [h1]
 ·exact absurd (by simp) h
theorem qDN(d:Nat){s:List UInt8}(hs:s.length<=100000):qiB s (d:Int)=some (qF0 (prs d s)):=by
 unfold qiB;refine qE9 ((qx1 32 (pt d) (([],false):List G×Bool) ?_ ?_).mono ?_)
 ·intro out r hl hr;rw [index_none (by omega) hr];rfl
 ·intro out p q hl hp;obtain ⟨h1,h2,h3⟩:=qCl hs (by omega) hp (c:=32) (q:=q);have h0:decide (((p.length:Nat):Int)<0)=false:=by simp
  simp only
  rw [h1];simp only [qb,h0,cond_false];rw [h2];simp only [qb];obtain ⟨x5,x6,x7,e1,e2,e3,e4,e5⟩:=qzZ d (w:=p) (by omega);rw [e1];simp only [qb];rw [e2];simp only [qb];rw [e3];simp only [qb];rw [e4];simp only [qb];cases hn:pt d p with
  |none=>simp only [Option.isNone_none,cond_true]
  |some z =>
   simp only [Option.isNone_some,cond_false];rw [e5 z hn,qdt (by omega)];simp only [qb];rw [h3];rfl
 ·rintro x hx;cases x with
  |inr q=>obtain ⟨rfl,h⟩:=hx;unfold prs;simp only [h]<;>rfl
  |inl p =>
   obtain ⟨h1,h2,h3⟩:=hx;simp only
   obtain ⟨x5,x6,x7,e1,e2,e3,e4,e5⟩:=qzZ d (w:=p.2) (by omega);rw [e1];simp only [qb];rw [e2];simp only [qb];rw [e3];simp only [qb];rw [e4];simp only [qb];unfold prs;rw [h3];cases hn:pt d p.2 with
   |none=>rfl
   |some z =>
    simp only [Option.isNone_some,cond_false];rw [e5 z hn,qdt (by omega)];rfl
def qy7(z:G):List UInt8:=Lib.itoa z.1++[44]++Lib.itoa z.2.1
def qCN(l:List G):List UInt8:=Lib.join (l.map qy7) [32]
theorem qBm{z:G}(h:inG z):(qy7 z).length<=43:=by
 have h1:=qnf h.1;have h2:=qnf h.2;unfold qy7;simp only [List.length_append,List.length_singleton]<;>omega
theorem qvT{l:List G}(h:∀z∈l,inG z):(qCN l).length<=l.length*44:=by
 have:=qwc [32] (B:=43) (l.map qy7) (λw hw=>by
  obtain ⟨n,hn,rfl⟩:=List.mem_map.1 hw;exact qBm (h n hn))
 simpa [qCN]using this
theorem qph{l:List G}(hl:l.length<=1000)(h:∀z∈l,inG z):qcH l=some (qCN l):=by
 unfold qcH;rw [qy4 l qy7 ?_ ?_]
 ·simp only [qb];have:=qvT h;unfold strings_Join;unfold qCN at this;rw [if_pos ⟨by rw [List.length_map];omega,by omega⟩];rfl
 ·intro i z out hz ho;have hlt:=qhY hz;have h0:decide ((i:Int)<(l.length:Int))=true:=by simp<;>omega
  have hin:=h z (List.mem_of_getElem? hz);simp only [h0,cond_true,qaB hz,qb];have h1:=qnf hin.1;have h2:=qnf hin.2;rw [qug hin.1];simp only [qb];rw [qdt (by omega)];simp only [qb];rw [qug hin.2];simp only [qb];rw [qyz (by simp;omega)];simp only [qb];rw [qdt (by omega)];simp only [qb];rw [wid (by omega) (by omega)];rfl
 ·intro out ho;have h0:decide ((l.length:Int)<(l.length:Int))=false:=by simp
  simp only [h0,cond_false]
def pdR(s:List UInt8):List G×Int:=match prs 5 s with
 |none=>([],7)
 |some l=>if 3<l.length then ([],8)else if l.any (qi0 10000)then ([],2)else (l,0)
theorem qp3{l:List G}(h:l.length<=1000000000):qaZ l (l.length:Int)=some (if l.any (qi0 10000)then 2 else 0):=by
 unfold qaZ;have hc:qw l=some (l.any (qi0 10000)):=by
  unfold qw qF;refine quE l qbK (qi0 10000) (λx _=>?_) h;unfold qbK;rw [qdh _ _ (by omega) (by omega)];rfl
 rw [hc];simp only [qb,qdZ,decide_true];rw [qfX _ (by simp)];cases l.any (qi0 10000)<;>rfl
theorem qqP{s:List UInt8}(hs:s.length<=60000):qdb s=some (pdR s):=by
 unfold qdb;have h0:decide ((s.length:Int) > 60000)=false:=by simp<;>omega
 simp only [h0,cond_false];have:=qDN 5 (s:=s) (by omega);rw [show ((5:Nat):Int)=5 from rfl]at this;rw [this];unfold pdR;cases hn:prs 5 s with
 |none =>
  simp only [qF0,qb,qdZ];rw [qp3 (by simp)];simp only [qb];rw [qfX _ (by simp)];rfl
 |some l =>
  have hl:=qDX hn;simp only [qF0,qb,qdZ];rw [qp3 (by omega)];simp only [qb];rw [qfX _ (by simp)];simp only [qb,if_true];by_cases c:3<l.length
  ·have c':¬ ((l.length:Int)<=3):=by omega
   simp [c,c',qsh]
  ·have c':(l.length:Int)<=3:=by omega
   cases l.any (qi0 10000)<;>simp [c,c',qsh]
theorem qDD{c:UInt8}(h1:c≠45)(h2:¬ isD c)(h3:c≠44)(z:G):c∉qy7 z:=by
 unfold qy7;simp only [qo,List.mem_singleton,not_or];exact ⟨⟨qnX h1 h2,h3⟩,qnX h1 h2⟩
theorem qDY(d:Nat)(z:G):pt d (qy7 z)=(num d (Lib.itoa z.1)).bind λa=>(num d (Lib.itoa z.2.1)).map λb=>(a,b,()):=by
 have e:qy7 z=Lib.itoa z.1++44::Lib.itoa z.2.1:=by unfold qy7;simp
 unfold pt;rw [e,qcd (qnX (by decide) (by decide)),qdq (qnX (by decide) (by decide))]
theorem qB5(d:Nat){l:List G}(h0:l≠[]):prs d (qCN l)=quY (λz=>pt d (qy7 z)) l:=by
 unfold prs qCN;rw [qqg (by simpa using h0)]
 ·induction l with
  |nil=>rfl
  |cons a l ih =>
   simp only [qm,quY];cases l with
   |nil=>rfl
   |cons b l'=>rw [ih (by simp)]
 ·intro w hw;obtain ⟨z,hz,rfl⟩:=List.mem_map.1 hw;exact qDD (by decide) (by decide) (by decide) z
end Go.Proofs.YteiciemjanhdcaaGreatDoor
end
section
namespace Go.Proofs.YteiciemjanhdcaaGreatDoor.Mat
open Go Go.Ab Go.Tx Go.Dec Go.Proofs.YteiciemjanhdcaaGreatDoor
theorem qtY(r:Rg)(t:List G):∀{k:Nat} {d:List G} {L:List (List G)},qjE r t k d=some L->∀(i:Nat) (a:List G),L[i]?=some a->a=qiV r t ((d::L).getD i [])/\qfO a r.2.1.length=0
 |0,d,L,h,i,a,ha=>by cases h;cases ha
 |k+1,d,L,h,i,a,ha=>by
  rw [qiL]at h;by_cases c:qfO (qiV r t d) r.2.1.length=0
  case neg=>rw [if_neg c]at h;cases h
  rw [if_pos c]at h;obtain ⟨L',h1,rfl⟩:=qf.1 h;cases i with
  |zero=>cases ha;exact ⟨rfl,c⟩
  |succ j=>exact qtY r t h1 j a ha
def iter(r:Rg)(t:List G):Nat->List G->List G
 |0,d=>d
 |i+1,d=>iter r t i (qiV r t d)
theorem qrZ(r:Rg)(t:List G):∀{k:Nat} {d:List G} {L:List (List G)},qjE r t k d=some L->∀i,i<=k->(d::L).getD i []=iter r t i d
 |0,d,L,h,i,hi=>by
  obtain rfl:i=0:=by omega
  rfl
 |k+1,d,L,h,i,hi=>by
  rw [qiL]at h;by_cases c:qfO (qiV r t d) r.2.1.length=0
  case neg=>rw [if_neg c]at h;cases h
  rw [if_pos c]at h;obtain ⟨L',h1,rfl⟩:=qf.1 h;cases i with
  |zero=>rfl
  |succ j=>exact qrZ r t h1 j (by omega)
theorem qql(r:Rg)(t:List G)(most:Int):∀(f:Nat) (d:List G),f<=20->(qih r t most f d).2=12\/(qih r t most f d).2=22\/∃j,j<=f/\qih r t most f d=(((20-f+j:Nat):Int),0)/\∀i,i<=j->inF r t (iter r t i d) most=decide (i=j)
 |0,d,hf=>by
  rw [qoL];by_cases c:inF r t d most=true
  ·rw [if_pos c];refine .inr (.inr ⟨0,by omega,rfl,λi hi=>?_⟩);obtain rfl:i=0:=by omega
   exact c
  ·rw [if_neg c];exact .inl rfl
 |f+1,d,hf=>by
  rw [qoK];by_cases c:inF r t d most=true
  ·rw [if_pos c];refine .inr (.inr ⟨0,by omega,rfl,λi hi=>?_⟩);obtain rfl:i=0:=by omega
   exact c
  ·rw [if_neg c];by_cases c2:qfO (qiV r t d) r.2.1.length=0
   ·rw [if_pos c2];rcases qql r t most f (qiV r t d) (by omega)with h|h|⟨j,h1,h2,h3⟩
    ·exact .inl h
    ·exact .inr (.inl h)
    ·refine .inr (.inr ⟨j+1,by omega,?_,λi hi=>?_⟩)
     ·rw [h2,show 20-f+j=20-(f+1)+(j+1) by omega]
     ·cases i with
      |zero =>
       rw [show decide (0=j+1)=false from decide_eq_false (by omega)];cases h:inF r t d most with
       |true=>exact absurd h c
       |false=>exact h
      |succ i =>
       have:=h3 i (by omega);rw [show decide (i+1=j+1)=decide (i=j) by simp];exact this
   ·rw [if_neg c2];exact .inr (.inl rfl)
theorem qC6{r:Rg}{t d:List G}(h:RdB r t d){k:Nat}(hk:k<r.2.1.length):∃c:G,(-r.2.2.2.2.1<=c.1/\c.1<=r.2.2.2.2.1)/\(-r.2.2.2.2.1<=c.2.1/\c.2.1<=r.2.2.2.2.1)/\(qiV r t d).getD k g0=qpj c (d.getD k g0):=by
 have hs:=qrQ h.rig;refine ⟨qBa r (λk=>t.getD k g0) (λk=>d.getD k g0) k,qA9 hs _,qA9 hs _,?_⟩;unfold qiV;rw [qrv _ _ hk];rfl
theorem qAY{n:Nat}{d:List G}(h:qfO d n=0)(h1:1<=n)(h3:n<=3):(∀z∈d,inG z)/\pdR (qCN d)=(d,0):=by
 obtain ⟨dl,dB⟩:=qd7 h;have hin:∀z∈d,inG z:=λz hz=>by
  have:=dB z hz;unfold Bd at this;unfold inG qFy;omega
 refine ⟨hin,?_⟩;have h0:d≠[]:=by intro e;subst e;simp at dl;omega
 have e:prs 5 (qCN d)=some d:=by
  rw [qB5 5 h0];have e:d.map (λz=>z)=d:=by simp
  conv=>lhs;rw [<- e]
  refine qzC (g:=λz=>z) λz hz=>?_;rw [qDY];have hz':=dB z hz;unfold Bd at hz';rw [qwm (by omega) (by omega) (by omega),qwm (by omega) (by omega) (by omega)];rfl
 unfold pdR;rw [e];simp only
 unfold qfO at h;rw [if_pos dl]at h;rw [if_neg (by omega)];cases hb:d.any (qi0 10000)with
 |true=>rw [hb]at h;cases h
 |false=>rfl
theorem qyg{r:Rg}{t u:List G}(h:RdB r t u){most:Int}(h0:0<=most/\most<=10000):qiW r t u most=some (inF r t u most):=by
 obtain ⟨hC,e1,e2⟩:=h.cor;have hr:=qoV h.rig;obtain ⟨m1,m3,mR,mB⟩:=qmz hr.1;have hpl:r.1.length<=1000000000:=by omega
 have hpr:∀x∈r.1,x.length<=1000000000:=λx hx=>by have:=mR.2 x hx;omega
 have ul:=(qd7 h.dz).1;have tl:=(qd7 h.tz).1;have hrl:=hr.2.2.1;unfold qiW;rw [qgO hpl hpr,qb,qcf (by omega),qb,qqQ hpl hpr (by omega),qb];have hE:qD3 r.1 u=0:=by unfold qD3;rw [if_pos hr.1,hrl];exact h.dz
 simp only [hE,if_true,decide_true,Bool.not_true,cond_false];have hlen:(qD4 r.1 u).length=r.2.1.length:=by unfold qD4;rw [qad,hrl]
 have hat:∀i,i<r.2.1.length->(qD4 r.1 u)[i]?=some (qfJ r.2.1.length (ent r.1) (λk=>u.getD k g0) i):=λi hi=>by
  unfold qD4;rw [hrl];exact qbc _ hi
 rw [hlen,tl];simp only [decide_true,Bool.not_true,qb,cond_false];have key:qab (λ(s6:Int) =>
    bif decide (s6<(r.2.1.length:Int))then
     ((idx (qD4 r.1 u) s6).bind λx7 =>
      (idx t s6).bind λx8 =>
      (idx t s6).bind λx9 =>
      (qaq x7.1 (w64 (x8.1-most)) (w64 (x9.1+most))).bind λx10 =>
      bif !x10 then
       some true
      else
       (idx (qD4 r.1 u) s6).bind λx11 =>
       (idx t s6).bind λx12 =>
       (idx t s6).bind λx13 =>
       (qaq x11.2.1 (w64 (x12.2.1-most)) (w64 (x13.2.1+most))).bind λx14 =>
       some (!x14)).bind λ(p15:Bool) =>
     bif p15 then
      some (.inr (.inr false))
     else
      some (.inl (w64 (s6+1)))
    else
     some (.inr (.inl ()))) 0=some (if inF r t u most=true then (.inl ():Unit⊕Bool)else .inr false):=by
  refine Ok.eq (qbb r.2.1.length (λi (s:Int)=>s=(i:Int)/\∀j,j<i->Bd most (qg4 r.2.1.length (ent r.1) (λk=>t.getD k g0) (λk=>u.getD k g0) j)) _ ⟨rfl,λj hj=>by omega⟩ ?_);rintro i s hi ⟨rfl,hb⟩;by_cases hlt:i<r.2.1.length
  ·have e0:decide ((i:Int)<(r.2.1.length:Int))=true:=decide_eq_true (by omega);have ht:idx t (i:Int)=some (t.getD i g0):=qaB (qgc g0 (by omega));have tB:=hC.tB i hlt;unfold Bd at tB;simp only [e0,cond_true];rw [qaB (hat i hlt),ht];simp only [qb,qc3];rw [wid (n:=(t.getD i g0).1-most) (by omega) (by omega),wid (n:=(t.getD i g0).1+most) (by omega) (by omega),wid (n:=(t.getD i g0).2.1-most) (by omega) (by omega),wid (n:=(t.getD i g0).2.1+most) (by omega) (by omega)];by_cases c:Bd most (qg4 r.2.1.length (ent r.1) (λk=>t.getD k g0) (λk=>u.getD k g0) i)
   ·have c':=c;unfold Bd qg4 qrc at c';simp only at c';have q1:decide ((t.getD i g0).1-most<=(qfJ r.2.1.length (ent r.1) (λk=>u.getD k g0) i).1/\(qfJ r.2.1.length (ent r.1) (λk=>u.getD k g0) i).1<=(t.getD i g0).1+most)=true:=decide_eq_true (by omega);have q2:decide ((t.getD i g0).2.1-most<=(qfJ r.2.1.length (ent r.1) (λk=>u.getD k g0) i).2.1/\(qfJ r.2.1.length (ent r.1) (λk=>u.getD k g0) i).2.1<=(t.getD i g0).2.1+most)=true:=decide_eq_true (by omega);simp only [q1,q2,Bool.not_true,cond_false,qb];rw [wid (by omega) (by omega),qaE];refine ⟨hlt,by omega,λj hj=>?_⟩;by_cases e:j=i
    ·subst e;exact c
    ·exact hb j (by omega)
   ·have c':=c;unfold Bd qg4 qrc at c';simp only at c';have hf:inF r t u most=false:=decide_eq_false λhh=>c (hh i hlt);rw [hf,if_neg (by simp)];by_cases q1:(t.getD i g0).1-most<=(qfJ r.2.1.length (ent r.1) (λk=>u.getD k g0) i).1/\(qfJ r.2.1.length (ent r.1) (λk=>u.getD k g0) i).1<=(t.getD i g0).1+most
    ·have q2:decide ((t.getD i g0).2.1-most<=(qfJ r.2.1.length (ent r.1) (λk=>u.getD k g0) i).2.1/\(qfJ r.2.1.length (ent r.1) (λk=>u.getD k g0) i).2.1<=(t.getD i g0).2.1+most)=false:=decide_eq_false (by omega);simp only [decide_eq_true q1,q2,Bool.not_true,Bool.not_false,cond_false,cond_true,qb];rw [qar]
    ·simp only [decide_eq_false q1,Bool.not_false,cond_true,qb];rw [qar]
  ·have:i=r.2.1.length:=by omega
   subst this;have e0:decide ((r.2.1.length:Int)<(r.2.1.length:Int))=false:=by simp
   simp only [e0,cond_false];have hf:inF r t u most=true:=decide_eq_true hb;rw [qar,hf,if_pos rfl]
 rw [key];cases inF r t u most<;>rfl
end Go.Proofs.YteiciemjanhdcaaGreatDoor.Mat
end
