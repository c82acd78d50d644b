/-
  ONE LAW OF A CHAPTER: its program side is run by an interpreter that is proved sound; what it computes is shown to be what the law says. No conditions. Part 7 of 8.
-/
import Derived.Test.YteiciemjanhdcaaGreatDoorMsef
import Derived.Test.YteiciemjanhdcaaGreatDoorRows
import Derived.WalkKit
import Derived.Test.YteiciemjanhdcaaGreatDoorProg
import Derived.KernelRfl
import Derived.ProofKit
import Derived.LaidMore
import Derived.OpenShut
import Derived.Stop.Joined
import Derived.Stop.LaidErr
import Derived.Lib.LaidTab
import Derived.Shelf.Vars
import Derived.ChangeArms
import Derived.HandedShaped
set_option linter.unusedSimpArgs false
set_option linter.unusedVariables false
set_option linter.unnecessarySimpa false
section
namespace Go.Tx
open Go Go.Ab Go.RowKit Go.ChangeShapes Go.WideShapes Go.Deep
section
variable {H:Type} {enc:TypeId × Value->H} {P:Program}
theorem quO{f:Func}{s:ChangeSpec}{apart fresh handsOn again:Bool}{W W':World}{args:Array Value}{v:Value}{ds gs:List (DataW H)}{before pa pv:List MemPlace}
  (hW:DataW.Whole enc P f.params.toList s.vars apart W args.toList ds gs before)
  (hres:∀(b:Nat) (sp:Nat->Bool) (hd:Bool),DataW.TrodAll enc P W' b sp hd f.resultTypes.toList (v.resultList f.resultTypes.size) (s.fn H (ds++gs)).results [])
  (hargs:∀sp:Nat->Bool,(∀p∈before,sp p.block=true)->DataW.TrodAll enc P W' 0 sp true f.params.toList args.toList (s.fn H (ds++gs)).args pa)
  (hvars:∀sp:Nat->Bool,(∀p∈before,sp p.block=true)->DataW.TrodVars enc P W' sp s.vars (s.fn H (ds++gs)).vars pv)
  (hps:before=pa++pv) (hb:Below W.heap.size W W')
  (hok:∀(j:Nat) (t:TypeId) (r:Value),f.resultTypes[j]?=some t->(v.resultList f.resultTypes.size)[j]?=some r->Value.okWide P W' .any 0 t r) :
  s.post enc P f apart fresh handsOn again W args v W':=by
 have hlt:∀p∈before,p.block<W.heap.size:=λp hp=>hW.lt p hp;have hold:∀p∈before,(λb=>decide (b<W.heap.size)) p.block=true:=λp hp=>by simpa using hlt p hp
 refine ⟨ds,gs,before,[],pa,pv,hW,hres _ _ _,hargs _ hold,hvars _ hold,World.keptBut_mono (λp hp=>⟨hp,?_⟩) (hb.frame (·∈before)),λ_=>?_⟩
 ·rw [hps,qk]at hp;exact Or.inr hp
 ·obtain ⟨_,_,_,_,_,hz,hn⟩:=hW;refine ⟨hok,_,_,([]++pa)++pv,⟨[]++pa,pv,trodAll_append (hargs _ (λ_ _=>rfl)) (hres _ _ _),hvars _ (λ_ _=>rfl),rfl,?_,?_⟩,?_⟩
  ·intro b off hp;have hin:MemPlace.cell b off∈before:=by rw [hps];simpa using hp
   rw [hb.frozen (hlt _ hin)];exact hz b off hin
  ·intro ha;have:=hn ha;rw [hps]at this;simpa using this
  ·intro p hp _;rw [hps];simpa using hp
theorem qse:∀{ts:List TypeId} {vs:List Value} {ds:List (DataW H)} {ps:List MemPlace} {w:World} {b:Nat} {sp:Nat->Bool} {hd:Bool},DataW.TrodAll enc P w b sp hd ts vs ds ps->ds.length=ts.length
 |[],[],[],_,_,_,_,_,_=>rfl
 |[],[],d::ds,_,_,_,_,_,h=>h.elim
 |[],v::vs,_,_,_,_,_,_,h=>by cases h
 |t::ts,[],_,_,_,_,_,_,h=>by cases h
 |t::ts,v::vs,[],_,_,_,_,_,h=>by cases h
 |t::ts,v::vs,d::ds,ps,w,b,sp,hd,⟨p,q,h1,h2,e⟩=>by simp [qse h2]
end
theorem qI6{H:Type}:Sm (H:=H) maxLen (λ_=>True) where
 slice:=λes sp _ h=>⟨h,λ_ _=>trivial⟩
 agg:=λ_ _ _ _=>trivial
 str:=λ_ _ h=>h
theorem qwr{P:Program}{H0:Hints}{lib:FuncId->Option (List V->Option V)}(hm:P.follows .mixedOrders=true)(qeW:qmq P H0)
  (qAE:∀g h args r,lib g=some h->h args=some r->qbD P g args [] r []) (hl:laidOutB P=true) {k:FuncId} {fn:Func} (hfn:P.funcs[k]?=some fn) (hbody:fn.body.isSome=true)
  {ts:List TypeId} {τs:List Ty} (hps:fn.params.toList=ts) (hts:ts.mapM (qHZ P)=some τs) (hok:ts.all (okT P 10)=true) (hrd:ts.all (λt=>P.readableRec t&&decide (t<P.types.size))=true)
  {tb:TypeId} (hres:fn.resultTypes=#[tb]) (htb:P.underlying tb=some .bool) {F:denP (τs.map .ty)->Option Bool}
  (he:qce P H0 lib ⟨k,τs.map .ty,[(.bool,0)],F⟩) (hF:∀x,qIf maxLen τs x->F x=some true)
  {s:ChangeSpec} (hv:s.vars=[]) (hs:∀(H:Type) (ds:List (DataW H)),ds.length=ts.length->s.fn H ds={results:=[.lit (.bool true)],args:=ds})
  (H:Type) (enc:TypeId×Value->H) (W:World) (base:Nat) (args:Array Value) (ds gs:List (DataW H)) (before:List MemPlace)
  (hval:∀(j:Nat) t v,fn.params[j]?=some t->args[j]?=some v->Value.okWide P W .any base t v)
  (hW:DataW.Whole enc P fn.params.toList s.vars false W args.toList ds gs before) (hgl:qjA W (cx0 W)) :
  Calls P k args W λe W'=>∃v,e=.returned v/\s.post enc P fn false true false false W args v W':=by
 have hW':=hW;have hlt:∀p∈before,p.block<W.heap.size:=λp hp=>hW.lt p hp;obtain ⟨p,q,hA,hV,rfl,hfz,hnd⟩:=hW;rw [hv]at hV;obtain ⟨rfl,rfl⟩:=trodVars_none hV;rw [hps]at hA;have hlen:=qse hA;have hval':∀(j:Nat) t v,ts[j]?=some t->args.toList[j]?=some v->Value.okWide P W .any base t v:=λj t v h1 h2 =>
  hval j t v (by rw [<- hps]at h1;simpa using h1) (by simpa using h2)
 refine (qCI hm qeW qAE hl qI6 hfn hbody hts hok he hF hval' hA (λ_ _=>trivial) hgl).mono λe W' ⟨h1,hb⟩=>?_;subst h1;have hfs:s.fn H (ds++[])={results:=[.lit (.bool true)],args:=ds}:=by rw [List.append_nil];exact hs H ds hlen
 refine ⟨_,rfl,quO (pa:=p) (pv:=[]) hW' ?_ ?_ ?_ rfl hb ?_⟩
 ·intro b sp hd;rw [hfs,hres];exact trodAll_mk1 (shut_bool htb true)
 ·intro sp hsp;rw [hfs,hps];exact qnH hl hb hrd hA (λx hx=>hlt x (by simpa using hx)) sp (λx hx=>hsp x (by simpa using hx))
 ·intro sp _;rw [hfs,hv];rfl
 ·exact ok_one hres rfl (okWide_bool_mk htb true)
end Go.Tx
namespace Go.Proofs.YteiciemjanhdcaaGreatDoor
open Go Go.Ab Go.Tx
theorem own:ownKnob Tryz.prog.godebug=none:=by kernel_rfl
theorem qE0:laidOutB Tryz.prog=true:=by kernel_rfl
end Go.Proofs.YteiciemjanhdcaaGreatDoor
end
section
namespace Go.Proofs.YteiciemjanhdcaaGreatDoor
open Go Go.Ab Go.Tx
section
set_option maxRecDepth 100000
noncomputable section
@[reducible] def I:Ty:=.int .i64
@[reducible] def w64 (n:Int):Int:=IntKind.wrap .i64 n
def qE2:List (List Tmp×FuncId×Kind×Join)->List Tmp->FuncId->Kind->Option Join
 |[],_,_,_=>none
 |(c,f,k,j)::l,c',f',k'=>if f=f' then (if k=k' then (if c=c' then some j else qE2 l c' f' k')else qE2 l c' f' k')else qE2 l c' f' k'
def strconv_Itoa(n:Int):Option (List UInt8):=if -9223372036854775808<=n/\n<=9223372036854775807 then some (Lib.itoa n)else none
def qGV(s:List UInt8):Int×Bool:=match Lib.atoiAll s with
 |.ok v=>(v,true)
 |.range=>(Lib.atoiSat s,false)
 |_=>(0,false)
def strconv_Atoi(s:List UInt8):Option (Int×Bool):=if s.length<=281474976710656 then some (qGV s)else none
def strings_Join(l:List (List UInt8))(sep:List UInt8):Option (List UInt8):=if l.length<=140737488355328/\(Lib.join l sep).length<=140737488355328 then some (Lib.join l sep)else none
def strings_TrimPrefix(s p:List UInt8):Option (List UInt8):=some (Lib.trimPrefix s p)
def strings_Index(s p:List UInt8):Option Int:=if s.length<4294967281 then some (Lib.index s p)else none
def strings_Cut(s p:List UInt8):Option (List UInt8×List UInt8×Bool):=if s.length<4294967281 then some (Lib.cut s p)else none
def qCp:List V->Option V
 |[.val (.int .i64 n)]=>(strconv_Itoa n).map λs=>.val (.string ⟨s.toArray⟩)
 |_=>none
def qCn:List V->Option V
 |[.val (.string s)]=>if s.size<=281474976710656 then some (qBS 323 s.data.toList)else none
 |_=>none
def qCq:List V->Option V
 |[.sl _ _ l,.val (.string sep)]=>(qix l).bind λxs=>(strings_Join xs sep.data.toList).map λs=>.val (.string ⟨s.toArray⟩)
 |_=>none
def qEQ:List V->Option V
 |[.val (.string s),.val (.string p)]=>some (.val (.string ⟨(Lib.trimPrefix s.data.toList p.data.toList).toArray⟩))
 |_=>none
def qv3:List V->Option V
 |[.val (.string s),.val (.string p)]=>if s.size<4294967281 then some (.val (.int .i64 (Lib.index s.data.toList p.data.toList)))else none
 |_=>none
def qIA:List V->Option V
 |[.val (.string s),.val (.string p)]=>if s.size<4294967281 then some (.tuple [.val (.string ⟨(Lib.cut s.data.toList p.data.toList).1.toArray⟩),.val (.string ⟨(Lib.cut s.data.toList p.data.toList).2.1.toArray⟩),.val (.bool (Lib.cut s.data.toList p.data.toList).2.2)])else none
 |_=>none
def qGv:List V->Option V
 |[]=>some (.val (.bool true))
 |_=>none
def qJ2:List (FuncId×(List V->Option V)):=[(8,qGv),(75,qCp),(168,qCn),(76,qCq),(169,qEQ),(239,qv3),(151,qIA)]
def qE3:List (FuncId×(List V->Option V))->FuncId->Option (List V->Option V)
 |[],_=>none
 |(k,h)::l,g=>if g=k then some h else qE3 l g
def Lb:FuncId->Option (List V->Option V):=qE3 qJ2
def qbM(js:List (List Tmp×FuncId×Kind×Join))(inl:List (List Tmp×FuncId×Tmp)):TH where
 lib:=λg=>(Lb g).isSome
 join:=qE2 js
 inl:=λc f d=>inl.any λ(c',f',d')=>decide (f=f')&&decide (d=d')&&decide (c=c')
theorem hJ{js:List (List Tmp×FuncId×Kind×Join)}{inl:List (List Tmp×FuncId×Tmp)}:∀g,(qbM js inl).lib g=false->Lb g=none:=λg h=>by
 simpa [qbM]using h
theorem qg4{e:Entry}{h:List V->Option V}(hl:Lb e.g=some h)(hx:∀x y,e.F x=some y->∀vs,RVL (qhm e.ps x) vs->∃v,h vs=some v/\RV (qlb e.rs y) v):qce Tryz.prog Hn.hints Lb e:=λx y hy vs hv=>by
 obtain ⟨v,h1,h2⟩:=hx x y hy vs hv;refine ⟨v,⟨1,λm hm=>?_⟩,h2⟩;obtain ⟨m',rfl⟩:∃m',m=m'+1:=⟨m-1,by omega⟩
 simp [qvn,hl,h1]
def qd4:Entry:=⟨75,[.ty I],[(.str,0)],λx=>strconv_Itoa x⟩
theorem qlr:qce Tryz.prog Hn.hints Lb qd4:=qg4 (h:=qCp) rfl λx y hy vs hv=>by
 simp only [qd4]at hy hv x y;simp only [qhm,qEm,ofTy,RVL,RV,RTy]at hv;obtain ⟨v,l,rfl,rfl,rfl⟩:=hv;exact ⟨.val (.string ⟨y.toArray⟩),by simp [qCp,hy],by simp [qlb,qd4,ofL,qck,ofTy,RV,RTy]⟩
def qfO:Entry:=⟨168,[.ty .str],[(I,0),(.err,0)],λx=>strconv_Atoi x⟩
theorem qsD:qce Tryz.prog Hn.hints Lb qfO:=qg4 (h:=qCn) rfl λx y hy vs hv=>by
 simp only [qfO]at hy hv x y;simp only [qhm,qEm,ofTy,RVL,RV,RTy]at hv;obtain ⟨v,l,rfl,rfl,rfl⟩:=hv;unfold strconv_Atoi at hy;split at hy
 ·rename_i hl;cases hy;refine ⟨qBS 323 x,?_,?_⟩
  ·have:(⟨x.toArray⟩:ByteArray).size<=281474976710656:=by simpa [ByteArray.size]using hl
   simp only [qCn];rw [if_pos this]
  ·unfold qBS qGV;cases Lib.atoiAll x<;>simp [qlb,qfO,ofL,qck,ofTy,RV,RTy,RVL]
   all_goals exact ⟨_,_,⟨rfl,rfl⟩,rfl,_,rfl,_,rfl⟩
 ·cases hy
theorem qDS{τ:Nat}:∀{l:List (List UInt8)} {l':List V},All2 (RTy .str τ) l l'->qix l'=some l:=by
 intro l l' h;induction h with
 |nil=>rfl
 |cons h1 _ ih=>simp only [RTy]at h1;subst h1;simp [qix,ih]
def qd5:Entry:=⟨76,[.ty (.sl .str),.ty .str],[(.str,0)],λx=>strings_Join x.1 x.2⟩
theorem qls:qce Tryz.prog Hn.hints Lb qd5:=qg4 (h:=qCq) rfl λx y hy vs hv=>by
 simp only [qd5]at hy hv x y;simp only [qhm,qEm,ofTy,RVL,RV,RTy]at hv;obtain ⟨v,l,rfl,⟨f,c,l',rfl,_,hall⟩,v2,l2,rfl,rfl,rfl⟩:=hv;have hs:qix l'=some x.1:=qDS (τ:=0) (hall.mono λa b h=>by simpa only [RTy]using h);exact ⟨.val (.string ⟨y.toArray⟩),by simp [qCq,hs,hy],by simp [qlb,qd5,ofL,qck,ofTy,RV,RTy]⟩
def qcp:Entry:=⟨169,[.ty .str,.ty .str],[(.str,0)],λx=>strings_TrimPrefix x.1 x.2⟩
theorem qla:qce Tryz.prog Hn.hints Lb qcp:=qg4 (h:=qEQ) rfl λx y hy vs hv=>by
 simp only [qcp]at hy hv x y;simp only [qhm,qEm,ofTy,RVL,RV,RTy]at hv;obtain ⟨v,l,rfl,rfl,v2,l2,rfl,rfl,rfl⟩:=hv;obtain rfl:Lib.trimPrefix x.1 x.2=y:=Option.some.inj hy;exact ⟨.val (.string ⟨(Lib.trimPrefix x.1 x.2).toArray⟩),rfl,by simp [qlb,qcp,ofL,qck,ofTy,RV,RTy]⟩
def qdn:Entry:=⟨239,[.ty .str,.ty .str],[(I,0)],λx=>strings_Index x.1 x.2⟩
theorem qj7:qce Tryz.prog Hn.hints Lb qdn:=qg4 (h:=qv3) rfl λx y hy vs hv=>by
 simp only [qdn]at hy hv x y;simp only [qhm,qEm,ofTy,RVL,RV,RTy]at hv;obtain ⟨v,l,rfl,rfl,v2,l2,rfl,rfl,rfl⟩:=hv;unfold strings_Index at hy;split at hy
 ·rename_i hl;cases hy;refine ⟨.val (.int .i64 (Lib.index x.1 x.2)),?_,by simp [qlb,qdn,ofL,qck,ofTy,RV,RTy]⟩;have:(⟨x.1.toArray⟩:ByteArray).size<4294967281:=by simpa [ByteArray.size]using hl
  simp only [qv3];rw [if_pos this]
 ·cases hy
def qgA:Entry:=⟨151,[.ty .str,.ty .str],[(.str,0),(.str,0),(.bool,0)],λx=>strings_Cut x.1 x.2⟩
theorem quE:qce Tryz.prog Hn.hints Lb qgA:=qg4 (h:=qIA) rfl λx y hy vs hv=>by
 simp only [qgA]at hy hv x y;simp only [qhm,qEm,ofTy,RVL,RV,RTy]at hv;obtain ⟨v,l,rfl,rfl,v2,l2,rfl,rfl,rfl⟩:=hv;unfold strings_Cut at hy;split at hy
 ·rename_i hl;cases hy;refine ⟨.tuple [.val (.string ⟨(Lib.cut x.1 x.2).1.toArray⟩),.val (.string ⟨(Lib.cut x.1 x.2).2.1.toArray⟩),.val (.bool (Lib.cut x.1 x.2).2.2)],?_,by simp [qlb,qgA,ofL,qck,ofTy,RV,RTy,RVL]⟩;have:(⟨x.1.toArray⟩:ByteArray).size<4294967281:=by simpa [ByteArray.size]using hl
  simp only [qIA];rw [if_pos this]
 ·cases hy
def qhT:Option Bool:=some true
def qej:Entry:=⟨8,[],[(.bool,0)],λ_=>qhT⟩
theorem qpI:qce Tryz.prog Hn.hints Lb qej:=qg4 (h:=qGv) rfl λx y hy vs hv=>by
 obtain rfl:true=y:=Option.some.inj hy;simp only [qej,qhm,RVL]at hv;subst hv;exact ⟨.val (.bool true),rfl,by simp [qlb,qej,ofL,qck,ofTy,RV,RTy]⟩
end
end
end Go.Proofs.YteiciemjanhdcaaGreatDoor
end
section
namespace Go.Proofs.YteiciemjanhdcaaGreatDoor
open Go Go.Ab Go.RowKit Go.Shelf
def qCG:Go.Shelf.Ren:=⟨λ| 171=>75|243=>155|246=>209|283=>245|284=>246|285=>247|286=>248|129=>271|317=>270|318=>272|319=>273|320=>274|337=>280|338=>281|n=>n,λ| 3=>3|9=>9|2=>2|4=>4|171=>308|0=>0|53=>309|37=>235|5=>5|173=>312|212=>333|51=>334|20=>20|213=>335|46=>331|232=>354|233=>355|n=>n,λ| 17=>1|18=>6|19=>7|n=>n⟩
theorem qJv:LaysM.n171 Tryz.prog qCG where
 mixed:=by kernel_rfl
 f129:=Tryz.func271.trans (congrArg some (by kernel_rfl))
 f171:=Tryz.func75.trans (congrArg some (by kernel_rfl))
 f243:=Tryz.func155.trans (congrArg some (by kernel_rfl))
 f246:=Tryz.func209.trans (congrArg some (by kernel_rfl))
 f283:=Tryz.func245.trans (congrArg some (by kernel_rfl))
 f284:=Tryz.func246.trans (congrArg some (by kernel_rfl))
 f285:=Tryz.func247.trans (congrArg some (by kernel_rfl))
 f286:=Tryz.func248.trans (congrArg some (by kernel_rfl))
 f317:=Tryz.func270.trans (congrArg some (by kernel_rfl))
 f318:=Tryz.func272.trans (congrArg some (by kernel_rfl))
 f319:=Tryz.func273.trans (congrArg some (by kernel_rfl))
 f320:=Tryz.func274.trans (congrArg some (by kernel_rfl))
 f337:=Tryz.func280.trans (congrArg some (by kernel_rfl))
 f338:=Tryz.func281.trans (congrArg some (by kernel_rfl))
 t0:=Tryz.underlying0
 a0:=Tryz.isAgg0
 z0:=Tryz.sizeOf0
 v0:=Tryz.zeroValue0
 t2:=Tryz.underlying2
 a2:=Tryz.isAgg2
 z2:=Tryz.sizeOf2
 v2:=Tryz.zeroValue2
 t3:=Tryz.underlying3
 a3:=Tryz.isAgg3
 z3:=Tryz.sizeOf3
 v3:=Tryz.zeroValue3
 t4:=Tryz.underlying4
 a4:=Tryz.isAgg4
 z4:=Tryz.sizeOf4
 v4:=Tryz.zeroValue4
 t5:=Tryz.underlying5
 a5:=Tryz.isAgg5
 z5:=Tryz.sizeOf5
 v5:=Tryz.zeroValue5
 t9:=Tryz.underlying9
 a9:=Tryz.isAgg9
 z9:=Tryz.sizeOf9
 v9:=Tryz.zeroValue9
 t20:=Tryz.underlying20
 a20:=Tryz.isAgg20
 z20:=Tryz.sizeOf20
 v20:=Tryz.zeroValue20
 t37:=Tryz.underlying235
 a37:=Tryz.isAgg235
 z37:=Tryz.sizeOf235
 v37:=Tryz.zeroValue235
 t46:=Tryz.underlying331
 a46:=Tryz.isAgg331
 z46:=Tryz.sizeOf331
 v46:=Tryz.zeroValue331
 t51:=Tryz.underlying334
 a51:=Tryz.isAgg334
 z51:=Tryz.sizeOf334
 v51:=Tryz.zeroValue334
 t53:=Tryz.underlying309
 a53:=Tryz.isAgg309
 z53:=Tryz.sizeOf309
 v53:=Tryz.zeroValue309
 t171:=Tryz.underlying308
 a171:=Tryz.isAgg308
 z171:=Tryz.sizeOf308
 v171:=Tryz.zeroValue308
 t173:=Tryz.underlying312
 a173:=Tryz.isAgg312
 z173:=Tryz.sizeOf312
 v173:=Tryz.zeroValue312
 t212:=Tryz.underlying333
 a212:=Tryz.isAgg333
 z212:=Tryz.sizeOf333
 v212:=Tryz.zeroValue333
 t213:=Tryz.underlying335
 a213:=Tryz.isAgg335
 z213:=Tryz.sizeOf335
 t232:=Tryz.underlying354
 a232:=Tryz.isAgg354
 z232:=Tryz.sizeOf354
 v232:=Tryz.zeroValue354
 t233:=Tryz.underlying355
 a233:=Tryz.isAgg355
 z233:=Tryz.sizeOf355
 v233:=Tryz.zeroValue355
 g17:=by kernel_rfl
 g18:=by kernel_rfl
 g19:=by kernel_rfl
 i0:=by kernel_rfl
 i2:=by kernel_rfl
 i3:=by kernel_rfl
 i4:=by kernel_rfl
 i5:=by kernel_rfl
 i9:=by kernel_rfl
 i20:=by kernel_rfl
 i37:=by kernel_rfl
 i46:=by kernel_rfl
 i51:=by kernel_rfl
 i53:=by kernel_rfl
 i171:=by kernel_rfl
 i173:=by kernel_rfl
 i212:=by kernel_rfl
 i232:=by kernel_rfl
 i233:=by kernel_rfl
 m17:=by kernel_rfl
 m18:=by kernel_rfl
 m19:=by kernel_rfl
def qrf:Go.Shelf.Ren:=⟨λ| 172=>168|244=>223|245=>224|247=>256|279=>257|280=>258|281=>259|282=>260|287=>275|316=>276|171=>75|205=>277|321=>282|322=>283|243=>155|246=>209|283=>245|284=>246|285=>247|286=>248|129=>271|317=>270|318=>272|319=>273|320=>274|337=>280|338=>281|n=>n,λ| 9=>9|3=>3|75=>240|76=>241|4=>4|5=>5|167=>320|37=>235|0=>0|85=>321|2=>2|168=>323|53=>309|175=>337|46=>331|210=>341|127=>283|145=>353|143=>351|21=>21|171=>308|173=>312|212=>333|51=>334|20=>20|213=>335|232=>354|233=>355|80=>243|n=>n,λ| 15=>2|16=>3|17=>1|18=>6|19=>7|n=>n⟩
theorem qJu:LaysC.n172 Tryz.prog qrf where
 mixed:=by kernel_rfl
 f129:=Tryz.func271.trans (congrArg some (by kernel_rfl))
 f171:=Tryz.func75.trans (congrArg some (by kernel_rfl))
 f172:=Tryz.func168.trans (congrArg some (by kernel_rfl))
 f205:=Tryz.func277.trans (congrArg some (by kernel_rfl))
 f243:=Tryz.func155.trans (congrArg some (by kernel_rfl))
 f244:=Tryz.func223.trans (congrArg some (by kernel_rfl))
 f245:=Tryz.func224.trans (congrArg some (by kernel_rfl))
 f246:=Tryz.func209.trans (congrArg some (by kernel_rfl))
 f247:=Tryz.func256.trans (congrArg some (by kernel_rfl))
 f279:=Tryz.func257.trans (congrArg some (by kernel_rfl))
 f280:=Tryz.func258.trans (congrArg some (by kernel_rfl))
 f281:=Tryz.func259.trans (congrArg some (by kernel_rfl))
 f282:=Tryz.func260.trans (congrArg some (by kernel_rfl))
 f283:=Tryz.func245.trans (congrArg some (by kernel_rfl))
 f284:=Tryz.func246.trans (congrArg some (by kernel_rfl))
 f285:=Tryz.func247.trans (congrArg some (by kernel_rfl))
 f286:=Tryz.func248.trans (congrArg some (by kernel_rfl))
 f287:=Tryz.func275.trans (congrArg some (by kernel_rfl))
 f316:=Tryz.func276.trans (congrArg some (by kernel_rfl))
 f317:=Tryz.func270.trans (congrArg some (by kernel_rfl))
 f318:=Tryz.func272.trans (congrArg some (by kernel_rfl))
 f319:=Tryz.func273.trans (congrArg some (by kernel_rfl))
 f320:=Tryz.func274.trans (congrArg some (by kernel_rfl))
 f321:=Tryz.func282.trans (congrArg some (by kernel_rfl))
 f322:=Tryz.func283.trans (congrArg some (by kernel_rfl))
 f337:=Tryz.func280.trans (congrArg some (by kernel_rfl))
 f338:=Tryz.func281.trans (congrArg some (by kernel_rfl))
 t0:=Tryz.underlying0
 a0:=Tryz.isAgg0
 z0:=Tryz.sizeOf0
 v0:=Tryz.zeroValue0
 t2:=Tryz.underlying2
 a2:=Tryz.isAgg2
 z2:=Tryz.sizeOf2
 v2:=Tryz.zeroValue2
 t3:=Tryz.underlying3
 a3:=Tryz.isAgg3
 z3:=Tryz.sizeOf3
 v3:=Tryz.zeroValue3
 t4:=Tryz.underlying4
 a4:=Tryz.isAgg4
 z4:=Tryz.sizeOf4
 v4:=Tryz.zeroValue4
 t5:=Tryz.underlying5
 a5:=Tryz.isAgg5
 z5:=Tryz.sizeOf5
 v5:=Tryz.zeroValue5
 t9:=Tryz.underlying9
 a9:=Tryz.isAgg9
 z9:=Tryz.sizeOf9
 v9:=Tryz.zeroValue9
 t20:=Tryz.underlying20
 a20:=Tryz.isAgg20
 z20:=Tryz.sizeOf20
 v20:=Tryz.zeroValue20
 t21:=Tryz.underlying21
 a21:=Tryz.isAgg21
 z21:=Tryz.sizeOf21
 v21:=Tryz.zeroValue21
 t37:=Tryz.underlying235
 a37:=Tryz.isAgg235
 z37:=Tryz.sizeOf235
 v37:=Tryz.zeroValue235
 t46:=Tryz.underlying331
 a46:=Tryz.isAgg331
 z46:=Tryz.sizeOf331
 v46:=Tryz.zeroValue331
 t51:=Tryz.underlying334
 a51:=Tryz.isAgg334
 z51:=Tryz.sizeOf334
 v51:=Tryz.zeroValue334
 t53:=Tryz.underlying309
 a53:=Tryz.isAgg309
 z53:=Tryz.sizeOf309
 v53:=Tryz.zeroValue309
 t75:=Tryz.underlying240
 a75:=Tryz.isAgg240
 z75:=Tryz.sizeOf240
 v75:=Tryz.zeroValue240
 t76:=Tryz.underlying241
 a76:=Tryz.isAgg241
 z76:=Tryz.sizeOf241
 v76:=Tryz.zeroValue241
 t85:=Tryz.underlying321
 a85:=Tryz.isAgg321
 z85:=Tryz.sizeOf321
 v85:=Tryz.zeroValue321
 t127:=Tryz.underlying283
 a127:=Tryz.isAgg283
 z127:=Tryz.sizeOf283
 v127:=Tryz.zeroValue283
 t143:=Tryz.underlying351
 a143:=Tryz.isAgg351
 z143:=Tryz.sizeOf351
 v143:=Tryz.zeroValue351
 t145:=Tryz.underlying353
 a145:=Tryz.isAgg353
 z145:=Tryz.sizeOf353
 v145:=Tryz.zeroValue353
 t167:=Tryz.underlying320
 a167:=Tryz.isAgg320
 z167:=Tryz.sizeOf320
 v167:=Tryz.zeroValue320
 t168:=Tryz.underlying323
 a168:=Tryz.isAgg323
 z168:=Tryz.sizeOf323
 v168:=Tryz.zeroValue323
 t171:=Tryz.underlying308
 a171:=Tryz.isAgg308
 z171:=Tryz.sizeOf308
 v171:=Tryz.zeroValue308
 t173:=Tryz.underlying312
 a173:=Tryz.isAgg312
 z173:=Tryz.sizeOf312
 v173:=Tryz.zeroValue312
 t175:=Tryz.underlying337
 a175:=Tryz.isAgg337
 z175:=Tryz.sizeOf337
 v175:=Tryz.zeroValue337
 t210:=Tryz.underlying341
 a210:=Tryz.isAgg341
 z210:=Tryz.sizeOf341
 v210:=Tryz.zeroValue341
 t212:=Tryz.underlying333
 a212:=Tryz.isAgg333
 z212:=Tryz.sizeOf333
 v212:=Tryz.zeroValue333
 t213:=Tryz.underlying335
 a213:=Tryz.isAgg335
 z213:=Tryz.sizeOf335
 t232:=Tryz.underlying354
 a232:=Tryz.isAgg354
 z232:=Tryz.sizeOf354
 v232:=Tryz.zeroValue354
 t233:=Tryz.underlying355
 a233:=Tryz.isAgg355
 z233:=Tryz.sizeOf355
 v233:=Tryz.zeroValue355
 g15:=by kernel_rfl
 g16:=by kernel_rfl
 g17:=by kernel_rfl
 g18:=by kernel_rfl
 g19:=by kernel_rfl
 t80:=Tryz.underlying243
 a80:=Tryz.isAgg243
 z80:=Tryz.sizeOf243
 v80:=Tryz.zeroValue243
 i0:=by kernel_rfl
 i2:=by kernel_rfl
 i3:=by kernel_rfl
 i4:=by kernel_rfl
 i5:=by kernel_rfl
 i9:=by kernel_rfl
 i20:=by kernel_rfl
 i21:=by kernel_rfl
 i37:=by kernel_rfl
 i46:=by kernel_rfl
 i51:=by kernel_rfl
 i53:=by kernel_rfl
 i75:=by kernel_rfl
 i76:=by kernel_rfl
 i80:=by kernel_rfl
 i85:=by kernel_rfl
 i127:=by kernel_rfl
 i143:=by kernel_rfl
 i145:=by kernel_rfl
 i167:=by kernel_rfl
 i168:=by kernel_rfl
 i171:=by kernel_rfl
 i173:=by kernel_rfl
 i175:=by kernel_rfl
 i210:=by kernel_rfl
 i212:=by kernel_rfl
 i232:=by kernel_rfl
 i233:=by kernel_rfl
 m15:=by kernel_rfl
 m16:=by kernel_rfl
 m17:=by kernel_rfl
 m18:=by kernel_rfl
 m19:=by kernel_rfl
 c0:=by kernel_rfl
 c2:=by kernel_rfl
 c3:=by kernel_rfl
 c4:=by kernel_rfl
 c5:=by kernel_rfl
 c9:=by kernel_rfl
 c20:=by kernel_rfl
 c21:=by kernel_rfl
 c37:=by kernel_rfl
 c46:=by kernel_rfl
 c51:=by kernel_rfl
 c53:=by kernel_rfl
 c75:=by kernel_rfl
 c76:=by kernel_rfl
 c80:=by kernel_rfl
 c85:=by kernel_rfl
 c127:=by kernel_rfl
 c143:=by kernel_rfl
 c145:=by kernel_rfl
 c167:=by kernel_rfl
 c168:=by kernel_rfl
 c171:=by kernel_rfl
 c173:=by kernel_rfl
 c175:=by kernel_rfl
 c210:=by kernel_rfl
 c212:=by kernel_rfl
 c213:=by kernel_rfl
 c232:=by kernel_rfl
 c233:=by kernel_rfl
def qwq:Go.Shelf.Ren:=⟨λ| 156=>76|165=>156|166=>157|169=>158|240=>210|241=>211|276=>249|277=>250|n=>n,λ| 31=>131|9=>9|3=>3|4=>4|0=>0|20=>20|72=>237|76=>241|70=>234|37=>235|75=>240|127=>283|164=>314|5=>5|80=>243|n=>n,λn=>n⟩
theorem qJw:Lays.n156 Tryz.prog qwq where
 mixed:=by kernel_rfl
 f156:=Tryz.func76.trans (congrArg some (by kernel_rfl))
 f165:=Tryz.func156.trans (congrArg some (by kernel_rfl))
 f166:=Tryz.func157.trans (congrArg some (by kernel_rfl))
 f169:=Tryz.func158.trans (congrArg some (by kernel_rfl))
 f240:=Tryz.func210.trans (congrArg some (by kernel_rfl))
 f241:=Tryz.func211.trans (congrArg some (by kernel_rfl))
 f276:=Tryz.func249.trans (congrArg some (by kernel_rfl))
 f277:=Tryz.func250.trans (congrArg some (by kernel_rfl))
 t0:=Tryz.underlying0
 a0:=Tryz.isAgg0
 z0:=Tryz.sizeOf0
 v0:=Tryz.zeroValue0
 t3:=Tryz.underlying3
 a3:=Tryz.isAgg3
 z3:=Tryz.sizeOf3
 v3:=Tryz.zeroValue3
 t4:=Tryz.underlying4
 a4:=Tryz.isAgg4
 z4:=Tryz.sizeOf4
 v4:=Tryz.zeroValue4
 t9:=Tryz.underlying9
 a9:=Tryz.isAgg9
 z9:=Tryz.sizeOf9
 v9:=Tryz.zeroValue9
 t20:=Tryz.underlying20
 a20:=Tryz.isAgg20
 z20:=Tryz.sizeOf20
 v20:=Tryz.zeroValue20
 t31:=Tryz.underlying131
 a31:=Tryz.isAgg131
 z31:=Tryz.sizeOf131
 v31:=Tryz.zeroValue131
 t37:=Tryz.underlying235
 a37:=Tryz.isAgg235
 z37:=Tryz.sizeOf235
 v37:=Tryz.zeroValue235
 t70:=Tryz.underlying234
 a70:=Tryz.isAgg234
 z70:=Tryz.sizeOf234
 v70:=Tryz.zeroValue234
 t72:=Tryz.underlying237
 a72:=Tryz.isAgg237
 z72:=Tryz.sizeOf237
 v72:=Tryz.zeroValue237
 t75:=Tryz.underlying240
 a75:=Tryz.isAgg240
 z75:=Tryz.sizeOf240
 v75:=Tryz.zeroValue240
 t76:=Tryz.underlying241
 a76:=Tryz.isAgg241
 z76:=Tryz.sizeOf241
 v76:=Tryz.zeroValue241
 t127:=Tryz.underlying283
 a127:=Tryz.isAgg283
 z127:=Tryz.sizeOf283
 v127:=Tryz.zeroValue283
 t164:=Tryz.underlying314
 a164:=Tryz.isAgg314
 z164:=Tryz.sizeOf314
 v164:=Tryz.zeroValue314
def qCH:Go.Shelf.Ren:=⟨λ| 101=>169|208=>225|206=>261|n=>n,λ| 9=>9|4=>4|3=>3|n=>n,λn=>n⟩
theorem qJx:Lays.n101 Tryz.prog qCH where
 mixed:=by kernel_rfl
 f101:=Tryz.func169.trans (congrArg some (by kernel_rfl))
 f206:=Tryz.func261.trans (congrArg some (by kernel_rfl))
 f208:=Tryz.func225.trans (congrArg some (by kernel_rfl))
 t3:=Tryz.underlying3
 a3:=Tryz.isAgg3
 z3:=Tryz.sizeOf3
 v3:=Tryz.zeroValue3
 t4:=Tryz.underlying4
 a4:=Tryz.isAgg4
 z4:=Tryz.sizeOf4
 v4:=Tryz.zeroValue4
 t9:=Tryz.underlying9
 a9:=Tryz.isAgg9
 z9:=Tryz.sizeOf9
 v9:=Tryz.zeroValue9
def qAQ:Go.Shelf.Ren:=⟨λ| 143=>239|219=>244|217=>266|225=>267|224=>268|267=>269|266=>278|314=>279|n=>n,λ| 9=>9|3=>3|4=>4|5=>5|46=>331|146=>347|51=>334|n=>n,λ| 1=>0|n=>n⟩
theorem qID:Lays.n143 Tryz.prog qAQ where
 mixed:=by kernel_rfl
 f143:=Tryz.func239.trans (congrArg some (by kernel_rfl))
 f217:=Tryz.func266.trans (congrArg some (by kernel_rfl))
 f219:=Tryz.func244.trans (congrArg some (by kernel_rfl))
 f224:=Tryz.func268.trans (congrArg some (by kernel_rfl))
 f225:=Tryz.func267.trans (congrArg some (by kernel_rfl))
 f266:=Tryz.func278.trans (congrArg some (by kernel_rfl))
 f267:=Tryz.func269.trans (congrArg some (by kernel_rfl))
 f314:=Tryz.func279.trans (congrArg some (by kernel_rfl))
 t3:=Tryz.underlying3
 a3:=Tryz.isAgg3
 z3:=Tryz.sizeOf3
 v3:=Tryz.zeroValue3
 t4:=Tryz.underlying4
 a4:=Tryz.isAgg4
 z4:=Tryz.sizeOf4
 v4:=Tryz.zeroValue4
 t5:=Tryz.underlying5
 a5:=Tryz.isAgg5
 z5:=Tryz.sizeOf5
 v5:=Tryz.zeroValue5
 t9:=Tryz.underlying9
 a9:=Tryz.isAgg9
 z9:=Tryz.sizeOf9
 v9:=Tryz.zeroValue9
 t46:=Tryz.underlying331
 a46:=Tryz.isAgg331
 z46:=Tryz.sizeOf331
 v46:=Tryz.zeroValue331
 t51:=Tryz.underlying334
 a51:=Tryz.isAgg334
 z51:=Tryz.sizeOf334
 v51:=Tryz.zeroValue334
 t146:=Tryz.underlying347
 a146:=Tryz.isAgg347
 z146:=Tryz.sizeOf347
 v146:=Tryz.zeroValue347
 g1:=by kernel_rfl
def qEZ:Go.Shelf.Ren:=⟨λ| 145=>151|220=>207|219=>244|217=>266|225=>267|224=>268|267=>269|266=>278|314=>279|n=>n,λ| 9=>9|4=>4|59=>229|3=>3|5=>5|46=>331|146=>347|51=>334|n=>n,λ| 1=>0|n=>n⟩
theorem qJ8:Lays.n145 Tryz.prog qEZ where
 mixed:=by kernel_rfl
 f145:=Tryz.func151.trans (congrArg some (by kernel_rfl))
 f217:=Tryz.func266.trans (congrArg some (by kernel_rfl))
 f219:=Tryz.func244.trans (congrArg some (by kernel_rfl))
 f220:=Tryz.func207.trans (congrArg some (by kernel_rfl))
 f224:=Tryz.func268.trans (congrArg some (by kernel_rfl))
 f225:=Tryz.func267.trans (congrArg some (by kernel_rfl))
 f266:=Tryz.func278.trans (congrArg some (by kernel_rfl))
 f267:=Tryz.func269.trans (congrArg some (by kernel_rfl))
 f314:=Tryz.func279.trans (congrArg some (by kernel_rfl))
 t3:=Tryz.underlying3
 a3:=Tryz.isAgg3
 z3:=Tryz.sizeOf3
 v3:=Tryz.zeroValue3
 t4:=Tryz.underlying4
 a4:=Tryz.isAgg4
 z4:=Tryz.sizeOf4
 v4:=Tryz.zeroValue4
 t5:=Tryz.underlying5
 a5:=Tryz.isAgg5
 z5:=Tryz.sizeOf5
 v5:=Tryz.zeroValue5
 t9:=Tryz.underlying9
 a9:=Tryz.isAgg9
 z9:=Tryz.sizeOf9
 v9:=Tryz.zeroValue9
 t46:=Tryz.underlying331
 a46:=Tryz.isAgg331
 z46:=Tryz.sizeOf331
 v46:=Tryz.zeroValue331
 t51:=Tryz.underlying334
 a51:=Tryz.isAgg334
 z51:=Tryz.sizeOf334
 v51:=Tryz.zeroValue334
 t59:=Tryz.underlying229
 a59:=Tryz.isAgg229
 z59:=Tryz.sizeOf229
 v59:=Tryz.zeroValue229
 t146:=Tryz.underlying347
 a146:=Tryz.isAgg347
 z146:=Tryz.sizeOf347
 v146:=Tryz.zeroValue347
 g1:=by kernel_rfl
theorem qIC:Builder.Extra Tryz.prog qwq where
 sizeBuilder:=by kernel_rfl
 liesBuilder:=by kernel_rfl
 t5:=Tryz.underlying5
 a5:=Tryz.isAgg5
 z5:=Tryz.sizeOf5
 v5:=Tryz.zeroValue5
 infoByte:=by kernel_rfl
 cellsByte:=by kernel_rfl
 sizeByte:=by kernel_rfl
 neB5:=by decide
theorem qJS {w : World} {X : Cx} (h : qjA w X) : Lib.TabIs Tryz.prog w "internal/strconv.uint64pow10" .u64 Lib.pow10Tab := qJa h (b := 1) (by simp [qBA]) (by kernel_rfl)
theorem qza{w:World}{X:Cx}(h:qjA w X){b:Nat}(hm:(b,qxL)∈qBA):∃ev,w.cell? ⟨b,0,none⟩=some ev/\(ev=.nilIface\/∃te pe,ev=.iface te pe):=by
 obtain ⟨arr,t,fr,h1,ev,h2,h3⟩:=qBZ h hm;exact ⟨ev,by simp [World.cell?,h1,h2],h3⟩
theorem qzl{w:World}{X:Cx}(h:qjA w X):∃m,w.cell? ⟨0,0,none⟩=some (.int .i64 m):=by
 obtain ⟨arr,t,fr,h1,m,h2⟩:=qBZ h (b:=0) (p:=qCv) (by simp [qBA]);exact ⟨m,by simp [World.cell?,h1,h2]⟩
theorem qEO{args:List V}{r:V}(h:qCp args=some r):qbD Tryz.prog 75 args [] r []:=by
 unfold qCp at h;split at h
 ·rename_i n;obtain ⟨s,hs,rfl⟩:=qc.1 h;unfold strconv_Itoa at hs;split at hs
  ·rename_i hn;cases hs;exact qHk qJv (λ_ _=>enters Tryz.func75 (by kernel_rfl) (by kernel_rfl) _ _) (λw X hg=>qJS hg) n hn.1 hn.2
  ·cases hs
 ·cases h
theorem qEN{args:List V}{r:V}(h:qCn args=some r):qbD Tryz.prog 168 args [] r []:=by
 unfold qCn at h;split at h
 ·rename_i s;split at h
  ·rename_i hs;cases h;exact qGW qJu (λ_ _=>enters Tryz.func168 (by kernel_rfl) (by kernel_rfl) _ _) (λw X hg=>qza hg (by simp [qBA,qrf])) (λw X hg=>qza hg (by simp [qBA,qrf])) s hs
  ·cases h
 ·cases h
theorem qEP{args:List V}{r:V}(h:qCq args=some r):qbD Tryz.prog 76 args [] r []:=by
 unfold qCq at h;split at h
 ·rename_i f c l sep;obtain ⟨xs,hxs,h⟩:=qd.1 h;obtain ⟨s,hs,rfl⟩:=qc.1 h;unfold strings_Join at hs;split at hs
  ·rename_i hc;cases hs;exact qHl qJw qIC (λ_ _=>enters Tryz.func76 (by kernel_rfl) (by kernel_rfl) _ _) f c l xs sep hxs hc.1 hc.2
  ·cases hs
 ·cases h
theorem qER{args:List V}{r:V}(h:qEQ args=some r):qbD Tryz.prog 169 args [] r []:=by
 unfold qEQ at h;split at h
 ·cases h;exact qvi qJx (λ_ _=>enters Tryz.func169 (by kernel_rfl) (by kernel_rfl) _ _) _ _
 ·cases h
theorem qCo{args:List V}{r:V}(h:qv3 args=some r):qbD Tryz.prog 239 args [] r []:=by
 unfold qv3 at h;split at h
 ·split at h
  ·rename_i hs;cases h;exact qEU qID (λ_ _=>enters Tryz.func239 (by kernel_rfl) (by kernel_rfl) _ _) (λw X hg=>qzl hg) _ _ hs
  ·cases h
 ·cases h
theorem qHe{args:List V}{r:V}(h:qIA args=some r):qbD Tryz.prog 151 args [] r []:=by
 unfold qIA at h;split at h
 ·split at h
  ·rename_i hs;cases h;exact qIt qJ8 (λ_ _=>enters Tryz.func151 (by kernel_rfl) (by kernel_rfl) _ _) (λw X hg=>qzl hg) _ _ hs
  ·cases h
 ·cases h
theorem qwt:∀{l:List (FuncId×(List V->Option V))} {g:FuncId} {h:List V->Option V},qE3 l g=some h->(g,h)∈l
 |[],_,_,h=>by cases h
 |(k,f)::l,g,h,hh=>by
  unfold qE3 at hh;split at hh
  ·rename_i e;subst e;cases hh;exact List.mem_cons_self
  ·exact List.mem_cons_of_mem _ (qwt hh)
theorem qAE:∀g h args r,Lb g=some h->h args=some r->qbD Tryz.prog g args [] r []:=λg h args r hg hr=>by
 have hm:=qwt hg;simp only [qJ2,qm,Prod.mk.injEq,List.mem_nil_iff,or_false]at hm;rcases hm with ⟨rfl,rfl⟩|⟨rfl,rfl⟩|⟨rfl,rfl⟩|⟨rfl,rfl⟩|⟨rfl,rfl⟩|⟨rfl,rfl⟩|⟨rfl,rfl⟩
 ·cases args with
  |nil=>cases hr;exact qEr
  |cons a l=>cases hr
 ·exact qEO hr
 ·exact qEN hr
 ·exact qEP hr
 ·exact qER hr
 ·exact qCo hr
 ·exact qHe hr
end Go.Proofs.YteiciemjanhdcaaGreatDoor
end
section
namespace Go
variable {H:Type} {enc:TypeId × Value->H}
theorem qgd{a:Assume}{C:Checked}{os:Os}{f:FuncId}{fn:Func}{s:ChangeSpec}{conds:List PathCond}{apart fresh handsOn again:Bool}{X:World->Array Value->Prop}
  (hX:∀(w w':World) (args:Array Value),w.heap=w'.heap->X w args->X w' args)
  (own:ownKnob C.prog.godebug=none) (started:os.Started) (noInit:C.prog.inits.idxOf? f=none) (hfn:C.prog.funcs[f]?=some fn)
  (witness:∃(w:World) (tape:Tape) (i:Input),w.os=os/\(w.forCall tape i).Shaped C.prog/\i.vars=[]/\Input.okWide C.prog (w.forCall tape i) .any w.heap.size f i /\
   ((s.pre enc C.prog fn conds apart (w.forCall tape i).memory i.args/\X (w.forCall tape i).memory i.args)/\sizedMet enc C.prog fn (OpenSpec.ofChange s) apart (w.forCall tape i).memory i.args)/\a.holds C.prog (lone (Frame.enter C.prog f i.args .normal) [] (w.forCall tape i)))
  (contract:∀(W:World) (base:Nat) (args:Array Value) (ds gs:List (DataW H)) (before:List MemPlace),
   (∀(j:Nat) t v,fn.params[j]?=some t->args[j]?=some v->Value.okWide C.prog W .any base t v) ->
   DataW.Whole enc C.prog fn.params.toList s.vars apart W args.toList ds gs before ->
   W.ShapedOpen C.prog->X W args ->
   Calls C.prog f args W λe W'=>∃v,e=.returned v/\s.post enc C.prog fn apart fresh handsOn again W args v W') :
  ReturnsInHanded a C os f .any (λw args=>(s.pre enc C.prog fn conds apart w args/\X w args)/\sizedMet enc C.prog fn (OpenSpec.ofChange s) apart w args) (s.post enc C.prog fn apart fresh handsOn again):=by
 refine returnsInHanded_of_calls own started noInit witness ?_;intro w tape i _ hsh _ hok hpre hholds;obtain ⟨_,_,_,fn',hfn',_,_,_,_,hval⟩:=hok;have e:fn'=fn:=Option.some.inj (hfn'.symm.trans hfn);subst e;obtain ⟨⟨⟨ds,gs,before,hw,hc⟩,hx⟩,hz⟩:=hpre;have hw':=DataW.Whole.of_heap (w':=w.forCall tape i) (by rfl) hw;refine (contract (w.forCall tape i) w.heap.size i.args ds gs before hval hw' hsh (hX _ _ _ (by rfl) hx)).mono λe W' ⟨v,he,hp⟩=>?_;subst he;exact ChangeSpec.post_blind hp
end Go
namespace Go.Proofs.YteiciemjanhdcaaGreatDoor
open Go Go.Ab Go.Tx Go.ChangeShapes Go.WideShapes Go.ChangeAt Go.WideMaps Go.WideElems Go.RowKit
def qpC : List (String × DataW Unit) := [("math/bits.deBruijn32tab", Rows.laid_math_bits_deBruijn32tab), ("math/bits.deBruijn64tab", Rows.laid_math_bits_deBruijn64tab), ("internal/strconv.uint64pow10", Rows.laid_internal_strconv_uint64pow10), ("unicode/utf8.acceptRanges", Rows.laid_unicode_utf8_acceptRanges), ("strconv.ErrRange", Rows.laid_strconv_ErrRange), ("strconv.ErrSyntax", Rows.laid_strconv_ErrSyntax), ("unicode/utf8.first", Rows.laid_unicode_utf8_first)]
theorem g1 : Tryz.prog.globalNamed "internal/strconv.uint64pow10" = some 1 := by kernel_rfl
theorem g2 : Tryz.prog.globalNamed "strconv.ErrSyntax" = some 2 := by kernel_rfl
theorem g3 : Tryz.prog.globalNamed "strconv.ErrRange" = some 3 := by kernel_rfl
theorem star : "*" ++ "errors.errorString" = "*errors.errorString" := by decide
theorem qGF (u : TypeId) (h : Tryz.prog.typeName? 3 u = some "*errors.errorString") : u = 351 :=
 typeName_ptr_named (nm := "errors.errorString") (by rw [star]; kernel_rfl) (by kernel_rfl) (by decide) u (by rw [star]; exact h)
theorem glE{W:World}{b n:Nat}{c:Array Value}{P:Program}{nm:String}(hg:P.globalNamed nm=some b)(h:W.var? P nm=some c):∃t fr,W.heap[b]?=some (.cells c t fr):=by
 simp only [World.var?,hg,qa]at h;cases hb:W.heap[b]? with
 |none=>rw [hb]at h;cases h
 |some o =>
  cases o with
  |cells a t fr=>rw [hb]at h;simp only [qb]at h;subst h;exact ⟨t,fr,rfl⟩
  |_=>rw [hb]at h;cases h
theorem glC{W:World}{b:Nat}{v:Value}(h:W.cell? ⟨b,0,none⟩=some v):∃c t fr,W.heap[b]?=some (.cells c t fr)/\c[0]?=some v:=by
 simp only [World.cell?]at h;cases hb:W.heap[b]? with
 |none=>rw [hb]at h;cases h
 |some o =>
  cases o with
  |cells a t fr=>rw [hb]at h;exact ⟨a,t,fr,rfl,h⟩
  |_=>rw [hb]at h;cases h
theorem qAR{W:World}(h:laidMetH Tryz.prog qpC W):laidMet Tryz.prog qpC W:=by
 rwa [MakeChecks.laidMetH_plain _ _ _ (by kernel_rfl)]at h
set_option maxRecDepth 100000 in
theorem qJR {W : World} (h : laidMet Tryz.prog qpC W) : Lib.TabIs Tryz.prog W "internal/strconv.uint64pow10" .u64 Lib.pow10Tab :=
 Lib.tabIs_of_head (t := 333) (e := 309) (n := 20) (rest := qpC.drop 3) g1 (by kernel_rfl) Tryz.underlying333 Tryz.underlying309 (by kernel_rfl) (by kernel_rfl) (show laidMet Tryz.prog (("internal/strconv.uint64pow10", Lib.tabData .u64 Lib.pow10Tab) :: qpC.drop 3) W from h.tail.tail)
theorem qEC {W : World} (h : laidMet Tryz.prog qpC W) : ∃ a, W.var? Tryz.prog "strconv.ErrRange" = some #[.iface 351 (.pointer (some a))] := by
 obtain ⟨a,s,hv,-,-,-⟩:=laid_sentinel h.tail.tail.tail.tail g3 (show (Tryz.prog.globals[3]?).map (·.type)=some 240 by kernel_rfl) Tryz.underlying240 qGF Tryz.underlying351 Tryz.underlying353 rfl rfl Tryz.underlying9 (by kernel_rfl) (by kernel_rfl);exact ⟨a,hv⟩
theorem qCa {W : World} (h : laidMet Tryz.prog qpC W) : ∃ a, W.var? Tryz.prog "strconv.ErrSyntax" = some #[.iface 351 (.pointer (some a))] := by
 obtain ⟨a,s,hv,-,-,-⟩:=laid_sentinel h.tail.tail.tail.tail.tail g2 (show (Tryz.prog.globals[2]?).map (·.type)=some 240 by kernel_rfl) Tryz.underlying240 qGF Tryz.underlying351 Tryz.underlying353 rfl rfl Tryz.underlying9 (by kernel_rfl) (by kernel_rfl);exact ⟨a,hv⟩
theorem qAW{W:World}(h:W.ShapedOpen Tryz.prog):∃m,W.cell? ⟨0,0,none⟩=some (.int .i64 m):=by
 have hr:((begin Tryz.prog (λ_ _=>0) default).world.heap[0]?).bind Obj.row?=some (#[.int .i64 0],3):=by kernel_rfl
 exact cell_of_shapedOpen_int (t:=3) (zero:=#[.int .i64 0]) h (of_decide_eq_true (by kernel_rfl)) hr rfl (by kernel_rfl) (by kernel_rfl) Tryz.underlying3
theorem qHd{W:World}(hs:W.ShapedOpen Tryz.prog)(hL:laidMetH Tryz.prog qpC W):qjA W (cx0 W):=by
 have h:=qAR hL;obtain ⟨m,hm⟩:=qAW hs;obtain ⟨a3,h3⟩:=qEC h;obtain ⟨a2,h2⟩:=qCa h;have h1:=qJR h;unfold Lib.TabIs at h1;intro x hx;simp only [qBA,qm,List.mem_nil_iff,or_false]at hx;have om:∀{b:Nat} {c:Array Value} {t:TypeId} {fr:Nat×Nat},W.heap[b]?=some (.cells c t fr)->∃e,(cx0 W).ω b=some (e,true):=λ{b c t fr} hb=>⟨c.size,by simp [cx0,hb]⟩
 rcases hx with rfl|rfl|rfl|rfl
 ·obtain ⟨c,t,fr,hb,hc⟩:=glC hm;exact ⟨om hb,c,t,fr,hb,m,hc⟩
 ·obtain ⟨t,fr,hb⟩:=glE (n:=0) g1 h1;exact ⟨om hb,_,t,fr,hb,rfl⟩
 ·obtain ⟨t,fr,hb⟩:=glE (n:=0) g2 h2;exact ⟨om hb,_,t,fr,hb,_,rfl,Or.inr ⟨_,_,rfl⟩⟩
 ·obtain ⟨t,fr,hb⟩:=glE (n:=0) g3 h3;exact ⟨om hb,_,t,fr,hb,_,rfl,Or.inr ⟨_,_,rfl⟩⟩
end Go.Proofs.YteiciemjanhdcaaGreatDoor
end
section
namespace Go.Tx
open Go
section
theorem qmm{n:Int}(h1 : -9223372036854775808<=n)(h2:n<=9223372036854775807):IntKind.wrap .i64 n=n:=by
 rw [IntKind.wrap_i64];omega
theorem qp1{α:Type}(l:List α):idx l 0=l[0]?:=by simp [idx]
theorem qaO{α:Type}{l:List α}{i:Nat}{a:α}(h:l[i]?=some a):idx l (i:Int)=some a:=by simp [idx,h]
theorem qy0{α:Type}{l l2:List α}(h:l.length+l2.length<=4294967296):app l l2=some (l++l2):=by simp [app,h]
section
variable {σ ρ:Type} {f:σ->Option (σ ⊕ ρ)}
theorem qoq:∀{n m:Nat} {s:σ} {r:ρ},qk6 f n s=some r->n<=m->qk6 f m s=some r
 |0,m,s,r,h,_=>by simp [qk6]at h
 |n+1,0,s,r,h,hm=>by omega
 |n+1,m+1,s,r,h,hm=>by
  simp only [qk6]at h ⊢;cases hf:f s with
  |none=>rw [hf]at h;cases h
  |some x =>
   rw [hf]at h;cases x with
   |inl s'=>exact qoq h (by omega)
   |inr r'=>exact h
theorem quv{n:Nat}{s:σ}{r:ρ}(h:qk6 f n s=some r):qF f s=some r:=by
 have hex:∃n r,qk6 f n s=some r:=⟨n,r,h⟩
 cases hl:qF f s with
 |none=>exfalso;unfold qF at hl;rw [dif_pos hex]at hl;cases hl
 |some r' =>
  obtain ⟨m,hm⟩:=qkG hl;have h1:=qoq h (Nat.le_max_left n m);have h2:=qoq hm (Nat.le_max_right n m);rw [<- h1,<- h2]
theorem qna{s s':σ}(h:f s=some (.inl s')):qF f s=qF f s':=by
 cases hl:qF f s' with
 |some r =>
  obtain ⟨n,hn⟩:=qkG hl;exact quv (n:=n+1) (by simp [qk6,h,hn])
 |none =>
  cases hl2:qF f s with
  |none=>rfl
  |some r =>
   obtain ⟨n,hn⟩:=qkG hl2;cases n with
   |zero=>simp [qk6]at hn
   |succ n =>
    simp only [qk6,h]at hn;rw [quv hn]at hl;cases hl
theorem qeZ{s:σ}{r:ρ}(h:f s=some (.inr r)):qF f s=some r:=quv (n:=1) (by simp [qk6,h])
theorem qE4(n:Nat)(I:Nat->σ->Prop)(Q:ρ->Prop)
  (hs:∀i s,i<=n->I i s->(∃s',f s=some (.inl s')/\i<n/\I (i+1) s')\/(∃r,f s=some (.inr r)/\Q r)) {s:σ} (h0:I 0 s):∃r,qF f s=some r/\Q r:=by
 have h:∀k i s,n-i=k->i<=n->I i s->∃r,qF f s=some r/\Q r:=by
  intro k;induction k with
  |zero =>
   intro i s hk hi hI;rcases hs i s hi hI with ⟨s',_,h,_⟩|⟨r,h,hq⟩
   ·omega
   ·exact ⟨r,qeZ h,hq⟩
  |succ k ih =>
   intro i s hk hi hI;rcases hs i s hi hI with ⟨s',h,hlt,hI'⟩|⟨r,h,hq⟩
   ·obtain ⟨r,hr,hq⟩:=ih (i+1) s' (by omega) (by omega) hI';exact ⟨r,by rw [qna h,hr],hq⟩
   ·exact ⟨r,qeZ h,hq⟩
 exact h n 0 s (by omega) (by omega) h0
end
def qfB{α ρ:Type}(g:Nat->α->Option ρ):Nat->List α->Option ρ
 |_,[]=>none
 |k,a::l=>match g k a with
  |some r=>some r
  |none=>qfB g (k+1) l
def qGb{ρ:Type}:Option ρ->Unit⊕ρ
 |some r=>.inr r
 |none=>.inl ()
def stp{ρ:Type}(i:Nat):Option ρ->Int⊕(Unit⊕ρ)
 |some r=>.inr (.inr r)
 |none=>.inl ((i:Int)+1)
theorem qCN{α ρ:Type}(l:List α){f:Int->Option (Int⊕(Unit⊕ρ))}(g:Nat->α->Option ρ)
  (h:∀(i:Nat) (a:α),l[i]?=some a->f i=some (stp i (g i a)))
  (he:f l.length=some (.inr (.inl ()))):qF f 0=some (qGb (qfB g 0 l)):=by
 have key:∀(l2 l1:List α),l1++l2=l->qF f (l1.length:Nat)=some (qGb (qfB g l1.length l2)):=by
  intro l2;induction l2 with
  |nil =>
   intro l1 e;have:l1=l:=by simpa using e
   subst this;rw [qeZ he];rfl
  |cons a l2 ih =>
   intro l1 e;have hi:l[l1.length]?=some a:=by rw [<- e];simp
   have hf:=h _ _ hi;simp only [qfB];cases hg:g l1.length a with
   |some r=>rw [hg]at hf;rw [qeZ hf];rfl
   |none =>
    rw [hg]at hf;rw [qna hf];have:=ih (l1++[a]) (by simp [e]);simpa using this
 simpa using key l [] rfl
end
section
def Ok{α:Type}(o:Option α)(Q:α->Prop):Prop:=∃a,o=some a/\Q a
section
variable {α β σ ρ τ:Type}
theorem qbT{a:α}{Q:α->Prop}:Ok (some a) Q↔Q a:=⟨λ⟨_,h,hq⟩=>by cases h;exact hq,λh=>⟨a,rfl,h⟩⟩
theorem ok_none{Q:α->Prop}:Ok (none:Option α) Q↔False:=⟨λ⟨_,h,_⟩=>(by cases h),λh=>h.elim⟩
theorem ok_eq{o:Option α}{a:α}:Ok o (λr=>r=a)↔o=some a:=⟨λ⟨_,h,hq⟩=>by rw [h,hq],λh=>⟨a,h,rfl⟩⟩
theorem Ok.eq{o:Option α}{a:α}(h:Ok o (λr=>r=a)):o=some a:=ok_eq.1 h
theorem Ok.mono{o:Option α}{P Q:α->Prop}(h:Ok o P)(hq:∀a,P a->Q a):Ok o Q:=by obtain ⟨a,h1,h2⟩:=h;exact ⟨a,h1,hq a h2⟩
theorem Ok.bind{o:Option α}{k:α->Option β}{P:α->Prop}{Q:β->Prop}(h:Ok o P)(hk:∀a,P a->Ok (k a) Q):Ok (o.bind k) Q:=by
 obtain ⟨a,h1,h2⟩:=h;rw [h1];exact hk a h2
theorem qfG{o:Option α}{k:α->Option β}{Q:β->Prop}:Ok (o.bind k) Q↔Ok o λa=>Ok (k a) Q:=by
 cases o with
 |none=>simp [ok_none]
 |some a=>simp [qbT]
theorem qfp{l:List α}{n:Int}(d:α)(h0:0<=n)(h1:n<l.length):idx l n=some (l.getD n.toNat d):=by
 unfold idx;rw [if_pos h0];have:n.toNat<l.length:=by omega
 simp [this]
theorem qBO{l l2:List α}(h:l.length+l2.length<=4294967296):app l l2=some (l++l2):=qy0 h
theorem qcG{l:List α}{a:α}(h:l.length<=4294967295):app l [a]=some (l++[a]):=qy0 (by simp;omega)
theorem qxq{l2:List α}(h:l2.length<=4294967296):app [] l2=some l2:=by rw [qy0 (by simpa using h)];rfl
theorem qtD{l:List α}{a b:Int}(h:0<=a/\a<=b/\b<=l.length):slc l a b=some ((l.take b.toNat).drop a.toNat):=by unfold slc;rw [if_pos h]
theorem qIM{z:α}{n:Int}(h:0<=n/\n<=4294967296):mkS z n=some (List.replicate n.toNat z):=by unfold mkS;rw [if_pos h]
def Rnd(o:Option (σ⊕ρ))(I:σ->Prop)(Q:ρ->Prop):Prop:=Ok o λx=>match x with
 |.inl s=>I s
 |.inr r=>Q r
theorem qaw{s:σ}{I:σ->Prop}{Q:ρ->Prop}:Rnd (some (.inl s)) I Q↔I s:=qbT
theorem qag{r:ρ}{I:σ->Prop}{Q:ρ->Prop}:Rnd (some (.inr r):Option (σ⊕ρ)) I Q↔Q r:=qbT
theorem qqd{o:Option α}{k:α->Option (σ⊕ρ)}{I:σ->Prop}{Q:ρ->Prop}:Rnd (o.bind k) I Q↔Ok o λa=>Rnd (k a) I Q:=qfG
theorem qHp{f:σ->Option (σ⊕ρ)}(μ:σ->Nat)(I:σ->Prop)(Q:ρ->Prop){s:σ}(h0:I s)
  (hs:∀s,I s->Rnd (f s) (λs'=>I s'/\μ s'<μ s) Q):Ok (qF f s) Q:=by
 have key:∀n s,μ s<=n->I s->Ok (qF f s) Q:=by
  intro n;induction n with
  |zero =>
   intro s hn hI;obtain ⟨x,hx,h⟩:=hs s hI;cases x with
   |inl s'=>exact absurd h.2 (by omega)
   |inr r=>exact ⟨r,qeZ hx,h⟩
  |succ n ih =>
   intro s hn hI;obtain ⟨x,hx,h⟩:=hs s hI;cases x with
   |inl s'=>rw [qna hx];exact ih s' (by have:=h.2;omega) h.1
   |inr r=>exact ⟨r,qeZ hx,h⟩
 exact key _ s (Nat.le_refl _) h0
theorem qaZ{f:σ->Option (σ⊕ρ)}(n:Nat)(I:Nat->σ->Prop)(Q:ρ->Prop){s:σ}(h0:I 0 s)
  (hs:∀i s,i<=n->I i s->Rnd (f s) (λs'=>i<n/\I (i+1) s') Q):Ok (qF f s) Q:=by
 obtain ⟨r,h1,h2⟩:=qE4 n I Q (λi s hi hI=>by
  obtain ⟨x,hx,h⟩:=hs i s hi hI;cases x with
  |inl s'=>exact .inl ⟨s',hx,h⟩
  |inr r=>exact .inr ⟨r,hx,h⟩) h0
 exact ⟨r,h1,h2⟩
theorem qrB{o:Option (α⊕β)}{k:α->Option β}{Q:β->Prop}:Ok (o.bind (Sum.elim k some)) Q↔Ok o λx=>match x with
  |.inl a=>Ok (k a) Q
  |.inr b=>Q b:=by
 rw [qfG];cases o with
 |none=>simp [ok_none]
 |some x=>cases x<;>simp [qbT]
end
theorem qFJ{α σ ρ:Type}{o:Option (α⊕(σ⊕ρ))}{k:α->Option (σ⊕ρ)}{I:σ->Prop}{Q:ρ->Prop}:Rnd (o.bind (Sum.elim k some)) I Q↔Ok o λx=>match x with
  |.inl a=>Rnd (k a) I Q
  |.inr b=>match b with
   |.inl s=>I s
   |.inr r=>Q r:=by
 cases o with
 |none=>simp [Rnd,ok_none]
 |some x=>cases x with
  |inl a=>simp only [qa,Sum.elim_inl,qbT]
  |inr b=>simp only [qa,Sum.elim_inr,qbT];unfold Rnd;rw [qbT]
theorem getD_at{α:Type}{l:List α}{i:Nat}{a d:α}(h:l[i]?=some a):l.getD i d=a:=by simp [h]
theorem qfg{α:Type}{l:List α}{i:Nat}(d:α)(h:i<l.length):l.take (i+1)=l.take i++[l.getD i d]:=by
 rw [List.take_add_one];simp [h]
end
section
section
variable {α β ρ τ:Type}
theorem qgr{l:List α}{i:Nat}{a:α}(h:l[i]?=some a):i<l.length:=(qn.1 h).1
theorem qgB(l:List α)(K:Int->Option (Int⊕(Unit⊕ρ)))(g:Nat->α->Option ρ)(h:∀(i:Nat) (a:α),l[i]?=some a->K i=some (stp i (g i a))) :
  qF (λs=>bif decide (s<(l.length:Int))then K s else some (.inr (.inl ()))) 0=some (qGb (qfB g 0 l)):=by
 refine qCN l g (λi a hi=>?_) ?_
 ·have:=qgr hi;have e:decide ((i:Int)<(l.length:Int))=true:=by simp<;>omega
  simp only [e,cond_true];exact h i a hi
 ·simp
theorem qdG{o:Option ρ}{k:Unit->Option ρ}:(some (qGb o)).bind (Sum.elim k some)=(match o with
  |some r=>some r
  |none=>k ()):=by cases o<;>rfl
theorem qeC{g:Nat->α->Option ρ}:∀{l:List α} {k:Nat},qfB g k l=none↔∀i a,l[i]?=some a->g (k+i) a=none
 |[],k=>by simp [qfB]
 |a::l,k=>by
  simp only [qfB];cases hg:g k a with
  |some r =>
   simp only [reduceCtorEq,false_iff];intro h;have:=h 0 a rfl;simp [hg]at this
  |none =>
   simp only
   rw [qeC (l:=l) (k:=k+1)];constructor
   ·intro h i b hb;cases i with
    |zero=>simp at hb;subst hb;simpa using hg
    |succ i=>have:=h i b (by simpa using hb);rw [<- this];congr 1;omega
   ·intro h i b hb;have:=h (i+1) b (by simpa using hb);rw [<- this];congr 1;omega
theorem qfC{g:Nat->α->Option ρ}{r:ρ}:∀{l:List α} {k:Nat},qfB g k l=some r->∃i a,l[i]?=some a/\g (k+i) a=some r/\∀j b,j<i->l[j]?=some b->g (k+j) b=none
 |[],k,h=>by simp [qfB]at h
 |a::l,k,h=>by
  simp only [qfB]at h;cases hg:g k a with
  |some r' =>
   rw [hg]at h;simp only [qb]at h;subst h;exact ⟨0,a,rfl,by simpa using hg,λj b hj=>by omega⟩
  |none =>
   rw [hg]at h;obtain ⟨i,b,h1,h2,h3⟩:=qfC (l:=l) (k:=k+1) h;refine ⟨i+1,b,by simpa using h1,by rw [<- h2];congr 1;omega,λj c hj hc=>?_⟩;cases j with
   |zero=>simp at hc;subst hc;simpa using hg
   |succ j=>have:=h3 j c (by omega) (by simpa using hc);rw [<- this];congr 1;omega
theorem qxP(l:List α)(pf:α->Option Bool)(p:α->Bool)(h:∀x∈l,pf x=some (p x))(hl:l.length<=1000000000) :
  ((qF (λ(s2:Int) =>
   bif decide (s2<(l.length:Int))then
    (idx l s2).bind λx3 =>
    (pf x3).bind λx4 =>
    bif x4 then
     some (.inr (.inr s2))
    else
     some (.inl (IntKind.wrap .i64 (s2+1)))
   else
    some (.inr (.inl ()))) 0).bind (Sum.elim (λ(p5:Unit) =>
  some (-1)) some)).bind (λx1=>some (decide (x1>=0)))=some (l.any p):=by
 rw [qgB l _ (λi a=>if p a then some (i:Int)else none) (λi a hi=>by
  have:=qgr hi;rw [qaO hi];simp only [qa];rw [h a (List.mem_of_getElem? hi)];simp only [qa];cases hp:p a
  ·simp only [cond_false,qf,if_false,stp];rw [qmm (by omega) (by omega)]
  ·simp [stp]),qdG]
 cases hf:qfB (λi a=>if p a then some (i:Int)else none) 0 l with
 |none =>
  rw [qeC]at hf;have:l.any p=false:=by
   rw [List.any_eq_false];intro x hx;obtain ⟨i,hi⟩:=List.mem_iff_getElem?.1 hx;have:=hf i x hi;simpa using this
  rw [this];rfl
 |some r =>
  obtain ⟨i,a,h1,h2,_⟩:=qfC hf;have hp:p a=true:=by
   cases hp:p a
   ·simp [hp]at h2
   ·rfl
  have:l.any p=true:=List.any_eq_true.2 ⟨a,List.mem_of_getElem? h1,hp⟩;rw [this];simp only [hp,if_true,qb]at h2;simp only [qa];have:decide (r>=0)=true:=by simp<;>omega
  rw [this]
def qxk:List Int->Int
 |[]=>0
 |e::l=>if e=0 then qxk l else e
theorem qsS:∀(l:List Int) (k:Nat),qfB (λ_ e=>if e=0 then none else some e) k l=if qxk l=0 then none else some (qxk l)
 |[],k=>rfl
 |e::l,k=>by
  simp only [qfB,qxk];by_cases h:e=0
  ·simp only [h,if_true];exact qsS l (k+1)
  ·simp [h]
theorem qCe(l:List Int)(hl:l.length<=1000000000) :
  (qF (λ(s2:Int) =>
   bif decide (s2<(l.length:Int))then
    (idx l s2).bind λx3 =>
    bif !(decide (x3=0))then
     some (.inr (.inr x3))
    else
     some (.inl (IntKind.wrap .i64 (s2+1)))
   else
    some (.inr (.inl ()))) 0).bind (Sum.elim (λ(p4:Unit)=>some 0) some)=some (qxk l):=by
 rw [qgB l _ (λ_ e=>if e=0 then none else some e) (λi a hi=>by
  have:=qgr hi;rw [qaO hi];simp only [qa];by_cases h:a=0
  ·simp only [h,decide_true,Bool.not_true,cond_false,if_true,stp];rw [qmm (by omega) (by omega)]
  ·simp [h,stp]),qdG,qsS]
 by_cases h:qxk l=0
 ·simp [h]
 ·simp [h]
end
end
theorem qqx{f:Int×Int->Option ((Int×Int)⊕Int)}(hf:∀s,f s=if s.2=0 then some (.inr s.1)else some (.inl (s.2,s.1.tmod s.2))):∀(n:Nat) (a b:Int),b.natAbs<=n->∃r,qF f (a,b)=some r/\r.natAbs=Int.gcd a b:=by
 intro n;induction n with
 |zero =>
  intro a b hb;have:b=0:=by omega
  subst this;exact ⟨a,qeZ (by rw [hf];simp),by simp⟩
 |succ n ih =>
  intro a b hb;by_cases h0:b=0
  ·subst h0;exact ⟨a,qeZ (by rw [hf];simp),by simp⟩
  ·have hlt:(a.tmod b).natAbs<b.natAbs:=by
    rw [Int.natAbs_tmod];exact Nat.mod_lt _ (by omega)
   obtain ⟨r,h1,h2⟩:=ih b (a.tmod b) (by omega);refine ⟨r,by rw [qna (s':=(b,a.tmod b)) (by rw [hf];simp [h0])];exact h1,?_⟩;rw [h2];unfold Int.gcd;rw [Int.natAbs_tmod,Nat.gcd_comm,<- Nat.gcd_rec,Nat.gcd_comm]
def qkX:Nat->List Int->Nat
 |g,[]=>g
 |g,n::l=>qkX (Nat.gcd g n.natAbs) l
def qxU(l:List Int):Nat:=qkX 0 l
theorem qh2(g:Nat)(n:Int):∀(l:List Int),qkX g (l++[n])=Nat.gcd (qkX g l) n.natAbs:=by
 intro l;induction l generalizing g with
 |nil=>rfl
 |cons m l ih=>simp only [List.cons_append,qkX];exact ih _
theorem qzf(a b:Int):qxU [a,b]=Int.gcd a b:=by simp [qxU,qkX,Int.gcd]
theorem qsZ(a b c:Int):qxU [a,b,c]=Nat.gcd (Int.gcd a b) c.natAbs:=by simp [qxU,qkX,Int.gcd]
theorem qqH{B:Nat}:∀{l:List Int} {g:Nat},g<=B->(∀x∈l,x.natAbs<=B)->qkX g l<=B
 |[],g,hg,_=>hg
 |n::l,g,hg,h=>by
  simp only [qkX];refine qqH ?_ λx hx=>h x (by simp [hx]);have h1:=h n (by simp);by_cases hg0:g=0
  ·subst hg0;simpa using h1
  ·exact Nat.le_trans (Nat.le_of_dvd (by omega) (Nat.gcd_dvd_left g n.natAbs)) hg
theorem qvZ:∀{l:List Int} {g:Nat},qkX g l=0↔g=0/\∀x∈l,x=0
 |[],g=>by simp [qkX]
 |n::l,g=>by
  simp only [qkX,qvZ (l:=l),Nat.gcd_eq_zero_iff,qm,forall_eq_or_imp];constructor
  ·rintro ⟨⟨h1,h2⟩,h3⟩;exact ⟨h1,by omega,h3⟩
  ·rintro ⟨h1,h2,h3⟩;exact ⟨⟨h1,by omega⟩,h3⟩
theorem qbL:∀(l:List Int) (g:Nat),qkX g l ∣ g
 |[],g=>Nat.dvd_refl g
 |n::l,g=>Nat.dvd_trans (qbL l _) (Nat.gcd_dvd_left ..)
theorem qfQ:∀{l:List Int} {g:Nat} {x:Int},x∈l->((qkX g l:Nat):Int) ∣ x
 |n::l,g,x,hx=>by
  rcases qm.1 hx with rfl|hx
  ·have h1:=Nat.dvd_trans (qbL l (Nat.gcd g x.natAbs)) (Nat.gcd_dvd_right ..);exact Int.ofNat_dvd_left.2 h1
  ·exact qfQ (l:=l) hx
theorem qpS{d:Nat}:∀{l:List Int} {g:Nat},d ∣ g->(∀x∈l,(d:Int) ∣ x)->d ∣ qkX g l
 |[],g,hg,_=>hg
 |n::l,g,hg,h=>qpS (l:=l) (Nat.dvd_gcd hg (Int.ofNat_dvd_left.1 (h n (by simp)))) λx hx=>h x (by simp [hx])
theorem qvL(l:List Int)(hl:l.length<=1000000000)(hb:∀x∈l,x.natAbs<=4611686018427387904) :
  (qF (λ(s2:(Int×Int)) =>
   bif decide (s2.2<(l.length:Int))then
    (idx l s2.2).bind λx3 =>
    (qF (λ(s5:(Int×Int)) =>
      bif !(decide (s5.2=0))then
       bif decide (s5.2=0)then
        none
       else
        some (.inl (s5.2,s5.1.tmod s5.2))
      else
       some (.inr s5.1)) (s2.1,x3)).bind λ(p6:Int) =>
    some (.inl (p6,IntKind.wrap .i64 (s2.2+1)))
   else
    some (.inr s2.1)) (0,0)).bind (λ(p7:Int)=>some (max p7 (IntKind.wrap .i64 (0-p7))))=some (qxU l:Int):=by
 refine Ok.eq ?_;rw [qfG];refine (qaZ l.length (λi (s:Int×Int)=>s.2=(i:Int)/\s.1.natAbs=qxU (l.take i)) (λr:Int=>r.natAbs=qxU l) ⟨rfl,rfl⟩ ?_).mono ?_
 ·rintro i ⟨g,s⟩ hi ⟨h1,h2⟩;simp only at h1 h2;subst h1;by_cases hlt:i<l.length
  ·have e0:decide ((i:Int)<(l.length:Int))=true:=by simp<;>omega
   simp only [e0,cond_true];rw [qfp 0 (by omega) (by omega)];simp only [qa,Int.toNat_natCast];obtain ⟨r,h3,h4⟩:=qqx (f:=λ(s5:(Int×Int))=>bif !(decide (s5.2=0))then bif decide (s5.2=0)then none else some (.inl (s5.2,s5.1.tmod s5.2))else some (.inr s5.1)) (λs=>by
    by_cases h:s.2=0<;>simp [h]) (l.getD i 0).natAbs g (l.getD i 0) (Nat.le_refl _)
   rw [h3];simp only [qa];rw [qmm (by omega) (by omega),qaw];refine ⟨hlt,by simp,?_⟩;rw [h4,qfg 0 hlt];unfold qxU at h2 ⊢;rw [qh2,<- h2];rfl
  ·have:i=l.length:=by omega
   subst this;have e0:decide ((l.length:Int)<(l.length:Int))=false:=by simp
   simp only [e0,cond_false];rw [qag];simpa using h2
 ·intro r hr;have hle:qxU l<=4611686018427387904:=qqH (by omega) hb;rw [qmm (by omega) (by omega),qbT];omega
section
section
variable {α:Type}
theorem sq_nonneg(z:Int):0<=z*z:=by
 rcases Int.le_total 0 z with hz|hz
 ·exact Int.mul_nonneg hz hz
 ·have:=Int.mul_nonneg (show 0 <= -z by omega) (show 0 <= -z by omega);rwa [Int.neg_mul_neg]at this
theorem qu8{z:Int}(h:z*z=0):z=0:=by
 rcases Int.mul_eq_zero.1 h with h|h<;>exact h
theorem qaM{a b A B:Int}(h1 : -A<=a/\a<=A)(h2 : -B<=b/\b<=B) : -(A*B)<=a*b/\a*b<=A*B:=by
 have hA:0<=A:=by omega
 have hB:0<=B:=by omega
 have e:(a*b).natAbs=a.natAbs*b.natAbs:=Int.natAbs_mul a b;have h3:a.natAbs*b.natAbs<=A.natAbs*B.natAbs:=Nat.mul_le_mul (by omega) (by omega);have h4:((A.natAbs*B.natAbs:Nat):Int)=A*B:=by
  rw [Int.natCast_mul];congr 1<;>omega
 omega
end
end
section
section
variable {α β:Type}
def mkL(n:Nat)(f:Nat->α):List α:=(List.range n).map f
theorem qX(n:Nat)(f:Nat->α):(mkL n f).length=n:=by simp [mkL]
theorem qbR{n:Nat}(f:Nat->α){k:Nat}(h:k<n):(mkL n f)[k]?=some (f k):=by simp [mkL,h]
theorem qhz{n:Nat}(f:Nat->α){k:Nat}(d:α)(h:k<n):(mkL n f).getD k d=f k:=getD_at (qbR f h)
theorem qzx(f:Nat->α):mkL 0 f=[]:=rfl
theorem qhA(n:Nat)(f:Nat->α):mkL (n+1) f=mkL n f++[f n]:=by simp [mkL,List.range_succ]
theorem qbQ{n:Nat}{f g:Nat->α}(h:∀k,k<n->f k=g k):mkL n f=mkL n g:=List.map_congr_left λk hk=>h k (by simpa using hk)
theorem qrk{n:Nat}{f:Nat->α}{x:α}(h:x∈mkL n f):∃k,k<n/\x=f k:=by
 obtain ⟨k,hk,rfl⟩:=List.mem_map.1 h;exact ⟨k,by simpa using hk,rfl⟩
theorem quA{n:Nat}{f:Nat->α}{k:Nat}(h:k<n):f k∈mkL n f:=List.mem_map.2 ⟨k,by simpa using h,rfl⟩
theorem qfS(l:List α)(d:α):l=mkL l.length λk=>l.getD k d:=by
 apply List.ext_getElem?;intro k;by_cases h:k<l.length
 ·rw [qbR _ h];simp [h]
 ·rw [List.getElem?_eq_none (by omega),List.getElem?_eq_none (by rw [qX];omega)]
theorem qrl{l:List α}{n:Nat}{f:Nat->α}(hl:l.length=n)(h:∀k,k<n->l[k]?=some (f k)):l=mkL n f:=by
 apply List.ext_getElem?;intro k;by_cases hk:k<n
 ·rw [qbR _ hk,h k hk]
 ·rw [List.getElem?_eq_none (by omega),List.getElem?_eq_none (by rw [qX];omega)]
theorem qaG{l:List α}{i:Nat}{d:α}(h:i<l.length):l.getD i d∈l:=by
 have:l[i]?=some (l.getD i d):=by simp [h]
 exact List.mem_of_getElem? this
theorem qhL{l:List α}{i:Nat}(d:α)(h:i<l.length):l[i]?=some (l.getD i d):=by simp [h]
theorem qzd{K:List β×Int->Option ((List β×Int)⊕List β)}(n:Nat)(f:Nat->β)
  (h:∀i,i<n->K (mkL i f,(i:Int))=some (.inl (mkL i f++[f i],(i:Int)+1))) (he:K (mkL n f,(n:Int))=some (.inr (mkL n f))):qF K ([],0)=some (mkL n f):=by
 refine Ok.eq (qaZ n (λi (s:List β×Int)=>s=(mkL i f,(i:Int))) (λr=>r=mkL n f) rfl ?_);rintro i s hi rfl;by_cases hlt:i<n
 ·rw [h i hlt,qaw];exact ⟨hlt,by rw [qhA];rfl⟩
 ·have:i=n:=by omega
  subst this;rw [he,qag]
theorem qxQ{K:List β×Int->Option ((List β×Int)⊕List β)}(l:List α)(f:α->β)
  (h:∀(i:Nat) a out,l[i]?=some a->out.length=i->K (out,(i:Int))=some (.inl (out++[f a],(i:Int)+1))) (he:∀out,out.length=l.length->K (out,(l.length:Int))=some (.inr out)):qF K ([],0)=some (l.map f):=by
 refine Ok.eq (qaZ l.length (λi (s:List β×Int)=>s=((l.take i).map f,(i:Int))) (λr=>r=l.map f) (by simp) ?_);rintro i s hi rfl;by_cases hlt:i<l.length
 ·have ha:l[i]?=some l[i]:=by simp [hlt]
  rw [h i _ _ ha (by simp;omega),qaw];refine ⟨hlt,?_⟩;have e:(l.take (i+1)).map f=(l.take i).map f++[f l[i]]:=by rw [List.take_add_one,ha];simp only [List.map_append,Option.toList_some,qi,List.map_nil]
  rw [e];rfl
 ·have:i=l.length:=by omega
  subst this;rw [he _ (by simp),qag];simp
theorem qEI{l m:List α}(d:α):(l.length=m.length/\∀i,i<l.length->l.getD i d=m.getD i d)↔l=m:=by
 constructor
 ·rintro ⟨h1,h2⟩;rw [qfS l d,qfS m d,h1];exact qbQ λk hk=>h2 k (by omega)
 ·rintro rfl;exact ⟨rfl,λ_ _=>rfl⟩
theorem qv9 [DecidableEq α]{l m:List α}(d:α)(hl:l.length=m.length)(hb:l.length<=1000000000)(e:α->α->Bool)(he:∀a b,a∈l->b∈m->(e a b=true↔a=b)){K:Int->Option (Int⊕(Unit⊕Bool))}
  (h:∀i,i<l.length->K (i:Int)=some (if e (l.getD i d) (m.getD i d)=true then .inl ((i:Int)+1)else .inr (.inr false))) :
  (qF (λs=>bif decide (s<(l.length:Int))then K s else some (.inr (.inl ()))) 0).bind (Sum.elim (λ(p5:Unit)=>some true) some)=some (decide (l=m)):=by
 refine Ok.eq (qrB.2 ?_);refine (qaZ l.length (λi (s:Int)=>s=(i:Int)/\∀j,j<i->l.getD j d=m.getD j d) (λr=>(r=.inl ()/\∀j,j<l.length->l.getD j d=m.getD j d)\/(r=.inr false/\∃j,j<l.length/\l.getD j d≠m.getD j d)) ⟨rfl,by simp⟩ ?_).mono ?_
 ·rintro i s hi ⟨rfl,hI⟩;by_cases hlt:i<l.length
  ·have e0:decide ((i:Int)<(l.length:Int))=true:=by simp<;>omega
   simp only [e0,cond_true];rw [h i hlt];have hm:=he (l.getD i d) (m.getD i d) (qaG hlt) (qaG (by omega));by_cases c:e (l.getD i d) (m.getD i d)=true
   ·rw [if_pos c,qaw];refine ⟨hlt,by simp,λj hj=>?_⟩;by_cases hji:j<i
    ·exact hI j hji
    ·have:j=i:=by omega
     subst this;exact hm.1 c
   ·rw [if_neg c,qag];exact .inr ⟨rfl,i,hlt,λh=>c (hm.2 h)⟩
  ·have:i=l.length:=by omega
   subst this;have e0:decide ((l.length:Int)<(l.length:Int))=false:=by simp
   simp only [e0,cond_false];rw [qag];exact .inl ⟨rfl,hI⟩
 ·rintro r (⟨rfl,h1⟩|⟨rfl,j,hj,hne⟩)
  ·simp only [qbT];rw [eq_comm,decide_eq_true_iff];exact (qEI d).1 ⟨hl,h1⟩
  ·simp only;rw [eq_comm,decide_eq_false_iff_not]
   exact λh=>hne (by rw [h])
end
end
abbrev G:=Int×Int×Unit
def g0:G:=(0,0,())
def g1:G:=(1,0,())
def qcP(a b:G):G:=(a.1+b.1,a.2.1+b.2.1,())
def qdZ(a b:G):G:=(a.1-b.1,a.2.1-b.2.1,())
def qK(a b:G):G:=(a.1*b.1-a.2.1*b.2.1,a.1*b.2.1+a.2.1*b.1,())
def qjy(a:G):G:=(-a.1,-a.2.1,())
def qau(a:G):G:=(a.1,-a.2.1,())
theorem qiN{a b:G}(h1:a.1=b.1)(h2:a.2.1=b.2.1):a=b:=by
 obtain ⟨x,y,_⟩:=a;obtain ⟨x',y',_⟩:=b;simp only at h1 h2;rw [h1,h2]
theorem qEJ{a b:G}:a=b↔a.1=b.1/\a.2.1=b.2.1:=⟨λh=>by rw [h];exact ⟨rfl,rfl⟩,λh=>qiN h.1 h.2⟩
theorem qJ0(a:G):(a.1,a.2.1,())=a:=rfl
def Bd(B:Int)(a:G):Prop:=(-B<=a.1/\a.1<=B)/\(-B<=a.2.1/\a.2.1<=B)
theorem Bd.mono{A B:Int}{a:G}(h:Bd A a)(hAB:A<=B):Bd B a:=by unfold Bd at *;omega
theorem qt1{B:Int}(h:0<=B):Bd B g0:=by unfold Bd g0;simp<;>omega
theorem qGn{B:Int}(h:1<=B):Bd B g1:=by unfold Bd g1;simp<;>omega
theorem Bd.add{A B:Int}{a b:G}(h:Bd A a)(h':Bd B b):Bd (A+B) (qcP a b):=by unfold Bd qcP at *;simp only<;>omega
theorem Bd.sub{A B:Int}{a b:G}(h:Bd A a)(h':Bd B b):Bd (A+B) (qdZ a b):=by unfold Bd qdZ at *;simp only<;>omega
theorem Bd.neg{A:Int}{a:G}(h:Bd A a):Bd A (qjy a):=by unfold Bd qjy at *;simp only<;>omega
theorem Bd.qEk{A:Int}{a:G}(h:Bd A a):Bd A (qau a):=by unfold Bd qau at *;simp only<;>omega
theorem Bd.mul{A B:Int}{a b:G}(h:Bd A a)(h':Bd B b):Bd (2*(A*B)) (qK a b):=by
 obtain ⟨h1,h2⟩:=h;obtain ⟨h3,h4⟩:=h';have p1:=qaM h1 h3;have p2:=qaM h2 h4;have p3:=qaM h1 h4;have p4:=qaM h2 h3;unfold Bd qK;simp only
 generalize A*B=Q at *;omega
theorem qBw{n:Int}(h1 : -9223372036854775808<=n)(h2:n<=9223372036854775807):IntKind.wrap .i64 n=n:=qmm h1 h2
theorem qIO{A B:Int}{a b:G}(h:Bd A a)(h':Bd B b)(hb:2*(A*B)<=9000000000000000000) :
  ((IntKind.wrap .i64 (IntKind.wrap .i64 (a.1*b.1)-IntKind.wrap .i64 (a.2.1*b.2.1)),IntKind.wrap .i64 (IntKind.wrap .i64 (a.1*b.2.1)+IntKind.wrap .i64 (a.2.1*b.1)),()):G)=qK a b:=by
 obtain ⟨h1,h2⟩:=h;obtain ⟨h3,h4⟩:=h';have p1:=qaM h1 h3;have p2:=qaM h2 h4;have p3:=qaM h1 h4;have p4:=qaM h2 h3;unfold qK;generalize A*B=Q at *;rw [qBw (n:=a.1*b.1) (by omega) (by omega),qBw (n:=a.2.1*b.2.1) (by omega) (by omega),qBw (n:=a.1*b.2.1) (by omega) (by omega),qBw (n:=a.2.1*b.1) (by omega) (by omega),qBw (by omega) (by omega),qBw (by omega) (by omega)]
theorem qIi{A B:Int}{a b:G}(h:Bd A a)(h':Bd B b)(hb:A+B<=9000000000000000000) :
  ((IntKind.wrap .i64 (a.1+b.1),IntKind.wrap .i64 (a.2.1+b.2.1),()):G)=qcP a b:=by
 unfold Bd at h h';unfold qcP;rw [qBw (by omega) (by omega),qBw (by omega) (by omega)]
theorem qDU{A B:Int}{a b:G}(h:Bd A a)(h':Bd B b)(hb:A+B<=9000000000000000000) :
  ((IntKind.wrap .i64 (a.1-b.1),IntKind.wrap .i64 (a.2.1-b.2.1),()):G)=qdZ a b:=by
 unfold Bd at h h';unfold qdZ;rw [qBw (by omega) (by omega),qBw (by omega) (by omega)]
theorem qvX(a:G):qcP a g0=a:=qiN (by simp [qcP,g0]) (by simp [qcP,g0])
theorem qh5(a:G):qcP g0 a=a:=qiN (by simp [qcP,g0]) (by simp [qcP,g0])
theorem qh4(a b:G):qK a b=qK b a:=qiN (by simp only [qK];grind) (by simp only [qK];grind)
theorem qh3(a b c:G):qK (qK a b) c=qK a (qK b c):=qiN (by simp only [qK];grind) (by simp only [qK];grind)
theorem qEH(a b c:G):qK (qcP a b) c=qcP (qK a c) (qK b c):=qiN (by simp only [qK,qcP];grind) (by simp only [qK,qcP];grind)
theorem qv0(a:G):qK a g0=g0:=qiN (by simp [qK,g0]) (by simp [qK,g0])
theorem qh6(a:G):qK g0 a=g0:=qiN (by simp [qK,g0]) (by simp [qK,g0])
theorem qzj(a:G):qK g1 a=a:=qiN (by simp [qK,g1]) (by simp [qK,g1])
theorem qzh(a:G):qK a g1=a:=qiN (by simp [qK,g1]) (by simp [qK,g1])
theorem qxX(a b:G):qdZ a b=qcP a (qjy b):=qiN (by simp only [qdZ,qcP,qjy];omega) (by simp only [qdZ,qcP,qjy];omega)
theorem qv1(a:G):qdZ a a=g0:=qiN (by simp [qdZ,g0]) (by simp [qdZ,g0])
theorem qv2(a:G):qdZ g0 a=qjy a:=qiN (by simp [qdZ,qjy,g0]) (by simp [qdZ,qjy,g0])
def qeJ:Nat->(Nat->G)->G
 |0,_=>g0
 |n+1,f=>qcP (qeJ n f) (f n)
theorem qbz{n:Nat}{f h:Nat->G}(e:∀k,k<n->f k=h k):qeJ n f=qeJ n h:=by
 induction n with
 |zero=>rfl
 |succ n ih=>simp only [qeJ];rw [ih λk hk=>e k (by omega),e n (by omega)]
theorem Bd.sum{B:Int}{f:Nat->G}:∀{n:Nat},(∀k,k<n->Bd B (f k))->Bd (n*B) (qeJ n f)
 |0,_=>qt1 (by simp)
 |n+1,h=>by
  have h1:=Bd.sum (n:=n) λk hk=>h k (by omega);have e:((n+1:Nat):Int)*B=n*B+B:=by rw [Int.natCast_add,Int.add_mul];simp
  rw [e];exact h1.add (h n (by omega))
theorem qkT(n:Nat)(hn:n<=1000){A:Int}(hA:0<=A)(hAn:n*A<=9000000000000000000)(f:Nat->G)(hf:∀k,k<n->Bd A (f k)){K:Int×Int×Int->Option ((Int×Int×Int)⊕(Int×Int))}
  (h:∀k,k<n->∀a b:Int,Bd (k*A) (a,b,())->K ((k:Int),a,b)=some (.inl (IntKind.wrap .i64 ((k:Int)+1),(qcP (a,b,()) (f k)).1,(qcP (a,b,()) (f k)).2.1)))
  (he:∀a b:Int,K ((n:Int),a,b)=some (.inr (a,b))):qF K (0,0,0)=some ((qeJ n f).1,(qeJ n f).2.1):=by
 refine Ok.eq (qaZ n (λi (s:Int×Int×Int)=>s=((i:Int),(qeJ i f).1,(qeJ i f).2.1)) (λr=>r=((qeJ n f).1,(qeJ n f).2.1)) rfl ?_);rintro i s hi rfl;by_cases hlt:i<n
 ·have hb:Bd (i*A) (qeJ i f):=Bd.sum λk hk=>hf k (by omega);rw [h i hlt _ _ hb,qBw (by omega) (by omega),qaw];exact ⟨hlt,rfl⟩
 ·have:i=n:=by omega
  subst this;rw [he,qag]
abbrev Mx:=List (List G)
def mx(n c:Nat)(f:Nat->Nat->G):Mx:=mkL n λi=>mkL c λk=>f i k
def ent(m:Mx)(i k:Nat):G:=(m.getD i []).getD k g0
def qH6(n c:Nat)(m:Mx):Prop:=m.length=n/\∀r∈m,r.length=c
theorem qd9(n c:Nat)(f:Nat->Nat->G):(mx n c f).length=n:=qX _ _
theorem qIP{n c i:Nat}(f:Nat->Nat->G)(h:i<n):(mx n c f).getD i []=mkL c λk=>f i k:=qhz _ _ h
theorem qpD{n c i:Nat}(f:Nat->Nat->G)(h:i<n):(mx n c f)[i]?=some (mkL c λk=>f i k):=qbR _ h
theorem qIw{n c i k:Nat}(f:Nat->Nat->G)(h:i<n)(hk:k<c):ent (mx n c f) i k=f i k:=by unfold ent;rw [qIP f h,qhz _ _ hk]
theorem qkH{n c:Nat}{f h:Nat->Nat->G}(e:∀i k,i<n->k<c->f i k=h i k):mx n c f=mx n c h:=qbQ λi hi=>qbQ λk hk=>e i k hi hk
theorem quC(n c:Nat)(f:Nat->Nat->G):qH6 n c (mx n c f):=⟨qd9 _ _ _,λr hr=>by obtain ⟨i,hi,rfl⟩:=qrk hr;exact qX _ _⟩
theorem qoB{n c:Nat}{m:Mx}(h:qH6 n c m):m=mx n c (ent m):=by
 refine qrl h.1 λi hi=>?_;rw [qhL [] (by rw [h.1];exact hi)];congr 1
 refine qrl (h.2 _ (qaG (by rw [h.1];exact hi))) λk hk=>?_;rw [qhL g0 (by rw [h.2 _ (qaG (by rw [h.1];exact hi))];exact hk)];rfl
def BdM(B:Int)(m:Mx):Prop:=∀r∈m,∀z∈r,Bd B z
def BdF(B:Int)(n c:Nat)(f:Nat->Nat->G):Prop:=∀i k,i<n->k<c->Bd B (f i k)
theorem qnR{B:Int}{n c:Nat}{m:Mx}(h:BdM B m)(hr:qH6 n c m):BdF B n c (ent m):=λi k hi hk=>by
 have h1:m.getD i []∈m:=qaG (by rw [hr.1];exact hi);exact h _ h1 _ (qaG (by rw [hr.2 _ h1];exact hk))
theorem qGm{B:Int}{n c:Nat}{f:Nat->Nat->G}:BdM B (mx n c f)↔BdF B n c f:=by
 constructor
 ·intro h i k hi hk;exact h _ (quA (f:=λi=>mkL c λk=>f i k) hi) _ (quA (f:=λk=>f i k) hk)
 ·intro h r hr z hz;obtain ⟨i,hi,rfl⟩:=qrk hr;obtain ⟨k,hk,rfl⟩:=qrk hz;exact h i k hi hk
theorem qg7(n c:Nat)(hn:n<=1000)(hc:c<=1000)(ask:Int->Int->Option G)(f:Nat->Nat->G)(h:∀i k,i<n->k<c->ask i k=some (f i k)) :
  ((mkS ([]:List G) (n:Int)).bind λx1 =>
   bif decide ((n:Int)=(n:Int))then
    (qF (λ(s3:(Mx×Int)) =>
      bif decide (s3.2<(x1.length:Int))then
       (qF (λ(s5:(Mx×Int)) =>
         bif decide (s5.2<(c:Int))then
          (idx s5.1 s3.2).bind λx6 =>
          (ask s3.2 s5.2).bind λx7 =>
          (idx s5.1 s3.2).bind λx8 =>
          (app x8 ([x7])).bind λx9 =>
          (idx s5.1 s3.2).bind λx10 =>
          bif decide (s3.2=s3.2)then
           let l11:Mx:=List.set s5.1 s3.2.toNat x9
           some (.inl (l11,IntKind.wrap .i64 (s5.2+1)))
          else
           none
         else
          some (.inr s5.1)) (s3.1,0)).bind λ(p12:Mx) =>
       some (.inl (p12,IntKind.wrap .i64 (s3.2+1)))
      else
       some (.inr s3.1)) (x1,0)).bind λ(p13:Mx) =>
    some p13
   else
    none)=some (mx n c f):=by
 have e1:decide ((n:Int)=(n:Int))=true:=by simp
 rw [qIM (by omega),qa,e1,cond_true];have hlen:(List.replicate ((n:Int).toNat) ([]:List G)).length=n:=by simp
 rw [hlen];let row (i:Nat):List G:=mkL c λk=>f i k
 refine Ok.eq ?_;rw [qfG];refine (qaZ n (λi (s:Mx×Int)=>s=(mkL n λj=>if j<i then row j else [],(i:Int))) (λr=>r=mx n c f) ?_ ?_).mono (λa ha=>by rw [ha];exact qbT.2 rfl)
 ·congr 1
  refine (qrl (by simp) λk hk=>?_);simp [hk]
 ·rintro i s hi rfl;by_cases hlt:i<n
  ·have e0:decide ((i:Int)<(n:Int))=true:=by simp<;>omega
   simp only [e0,cond_true];rw [qqd];refine (qaZ c (λk (s:Mx×Int)=>s=(mkL n λj=>if j<i then row j else if j=i then (row i).take k else [],(k:Int))) (λr=>r=mkL n λj=>if j<i+1 then row j else []) ?_ ?_).mono ?_
   ·congr 1
    refine qbQ λj hj=>?_;by_cases c1:j<i
    ·rw [if_pos c1,if_pos c1]
    ·rw [if_neg c1,if_neg c1];simp
   ·rintro k s hk rfl;by_cases hlt2:k<c
    ·have e2:decide ((k:Int)<(c:Int))=true:=by simp<;>omega
     have hat:idx (mkL n λj=>if j<i then row j else if j=i then (row i).take k else []) (i:Int)=some ((row i).take k):=by
      rw [qaO (qbR _ hlt)];simp
     simp only [e2,cond_true,hat,qa,h i k hlt hlt2,decide_true,Int.toNat_natCast];have hrl:(row i).length=c:=qX _ _;rw [qcG (by simp [hrl];omega)];simp only [qa];rw [qBw (by omega) (by omega),qaw];refine ⟨hlt2,?_⟩;congr 1
     refine qrl (by simp [qX]) λj hj=>?_;rw [List.getElem?_set,qX];by_cases c1:i=j
     ·subst c1;rw [if_pos rfl,if_pos hj];simp only [Nat.lt_irrefl,if_false,if_true];rw [qfg g0 (by rw [hrl];exact hlt2)];have:(row i).getD k g0=f i k:=qhz _ _ hlt2;rw [this]
     ·rw [if_neg c1,qbR _ hj];have:¬ j=i:=λe=>c1 e.symm;simp [this]
    ·have:k=c:=by omega
     subst this;have e2:decide ((k:Int)<(k:Int))=false:=by simp
     simp only [e2,cond_false];rw [qag];refine qbQ λj hj=>?_;by_cases c1:j<i
     ·rw [if_pos c1,if_pos (by omega)]
     ·rw [if_neg c1];by_cases c2:j=i
      ·subst c2;rw [if_pos rfl,if_pos (by omega),List.take_of_length_le (by rw [show (row j).length=k from qX _ _];omega)]
      ·rw [if_neg c2,if_neg (by omega)]
   ·rintro r rfl;rw [qBw (by omega) (by omega),qaw];exact ⟨hlt,rfl⟩
  ·have:i=n:=by omega
   subst this;have e0:decide ((i:Int)<(i:Int))=false:=by simp
   simp only [e0,cond_false];rw [qag];exact qbQ λj hj=>by rw [if_pos hj]
def skip(r i:Nat):Nat:=if i<r then i else i+1
def minor(f:Nat->Nat->G)(r c i k:Nat):G:=f (skip r i) (skip c k)
theorem qC1{α:Type}{n c:Nat}(f:Nat->α)(h:c<n):((mkL n f).take c).drop 0++((mkL n f).take n).drop (c+1)=mkL (n-1) λk=>f (skip c k):=by
 refine qrl (by simp [qX];omega) λk hk=>?_;have hl:(mkL n f).length=n:=qX _ _;rw [List.drop_zero,List.take_of_length_le (l:=mkL n f) (i:=n) (by omega)];unfold skip;by_cases c1:k<c
 ·rw [qh (by rw [List.length_take];omega),List.getElem?_take_of_lt c1,qbR f (by omega),if_pos c1]
 ·rw [List.getElem?_append_right (by rw [List.length_take];omega),List.length_take,hl,Nat.min_eq_left (by omega),List.getElem?_drop,if_neg c1];rw [show c+1+(k-c)=k+1 by omega,qbR f (by omega)]
def qeK:Nat->(Nat->Nat->G)->G
 |0,_=>g1
 |n+1,f=>qeJ (n+1) λk=>if k % 2=1 then qjy (qK (f 0 k) (qeK n (minor f 0 k)))else qK (f 0 k) (qeK n (minor f 0 k))
theorem qe0{B:Int}{n:Nat}{f:Nat->Nat->G}{r c:Nat}(h:BdF B (n+1) (n+1) f):BdF B n n (minor f r c):=λi k hi hk=>h _ _ (by unfold skip;split<;>omega) (by unfold skip;split<;>omega)
def dB(B:Int):Nat->Int
 |0=>1
 |n+1=>((n+1:Nat):Int)*(2*(B*dB B n))
theorem qmv{B:Int}(h:0<=B):∀n,0<=dB B n
 |0=>by simp [dB]
 |n+1=>by
  simp only [dB];have:=Int.mul_nonneg h (qmv h n);exact Int.mul_nonneg (by omega) (by omega)
theorem qqt{B:Int}(hB:0<=B):∀(n:Nat) (f:Nat->Nat->G),BdF B n n f->Bd (dB B n) (qeK n f)
 |0,f,_=>qGn (by simp [dB])
 |n+1,f,h=>by
  simp only [qeK,dB];refine Bd.sum λk hk=>?_;have h1:=(h 0 k (by omega) hk).mul (qqt hB n _ (qe0 (r:=0) (c:=k) h));split
  ·exact h1.neg
  ·exact h1
def qbi(n:Nat)(f h:Nat->Nat->G)(i k:Nat):G:=qeJ n λj=>qK (f i j) (h j k)
end Go.Tx
end
section
namespace Go.Proofs.YteiciemjanhdcaaGreatDoor
open Go Go.Ab Go.Tx
section
set_option maxRecDepth 100000
noncomputable section
abbrev yt3 : Ty := .pair I (.pair I .unit)
abbrev yy4 : Type := Int×Int×Unit
abbrev yy14 : Type := Int×Int×Int
abbrev yy15 : Type := List (Int×Int×Int×Int×Unit)
abbrev yt1 : Ty := .sl yt3
abbrev yy2 : Type := List yy4
abbrev yt5 : Ty := .pair (.sl yt1) .unit
abbrev yy6 : Type := (List yy2)×(List yy2)×Unit
abbrev yt7 : Ty := .pair (.sl yt1) (.pair (.sl yt1) (.pair I (.pair I (.pair I (.pair I yt5)))))
abbrev yy8 : Type := (List yy2)×Int
abbrev yy9 : Type := (List yy2)×(List yy2)×Int×Int×Int×Unit
abbrev yt10 : Ty := .pair (.sl yt1) (.pair (.sl yt1) (.pair I yt3))
abbrev yy11 : Type := (List yy2)×(List yy2)×Int×Int×Int×Int×(List yy2)×Unit
abbrev yt12 : Ty := .pair (.sl yt1) yt5
abbrev yy13 : Type := Int×(List yy2)×Unit
def KT(e:Entry)(j:TH)(l:List Entry)(n:Nat):Prop:=∀x:denP e.ps,fnT Tryz.prog Hn.hints j (qz6 l) n e.g (qhm e.ps x) e.rs=e.F x
abbrev OT(e:Entry):Prop:=qce Tryz.prog Hn.hints Lb e
theorem entK{e:Entry}{j:TH}{l:List Entry}{n:Nat}(h:TOk Tryz.prog Hn.hints Lb (qz6 l))(hj:∀g,j.lib g=false->Lb g=none)(k:KT e j l n):OT e:=qpT h hj n e.g e.ps e.rs e.F k
def qdf(a0:Int)(a1:Int)(a2:Int):Option Bool :=
 (bif decide (a1<=a0)then
   some (decide (a0<=a2))
  else
   some false).bind λ(p1:Bool) =>
 some p1
def qgz:Entry:=⟨10,[.ty I,.ty I,.ty I],[(.bool,0)],λx=>qdf x.1 x.2.1 x.2.2⟩
def qul:TH:=qbM [([],10,.region 1,{lv:=[⟨none,6,0⟩],ps:=[(.bool,0)],D:=⟨32704⟩})] []
theorem quq:KT qgz qul [] 40:=λx=>by kernel_rfl
theorem qnd:OT qgz:=entK qt hJ quq
def qbK(a0:yy4)(a1:Int):Option Bool :=
 ((qdf a0.1 (w64 (0-a1)) a1).bind λx1 =>
  bif x1 then
   (qdf a0.2.1 (w64 (0-a1)) a1).bind λx2 =>
   some x2
  else
   some false).bind λ(p3:Bool) =>
 some p3
def qdm:Entry:=⟨77,[.ty yt3,.ty I],[(.bool,0)],λx=>qbK x.1 x.2⟩
def qq2:TH:=qbM [([],77,.region 1,{lv:=[⟨none,4,0⟩],ps:=[(.bool,0)],D:=⟨524272⟩,rs:=[⟨0,2⟩],Dn:=⟨520144⟩})] []
theorem qrd:KT qdm qq2 [qgz] 40:=λx=>by kernel_rfl
theorem qhd:OT qdm:=entK (qo qnd qt) hJ qrd
def qdM(a0:(List yy2)):Option (Int×Int) :=
 bif decide ((a0.length:Int)=0)then
  some (0,10)
 else
  bif decide ((a0.length:Int) > 3)then
   some (0,8)
  else
   (qF (λ(s2:Int) =>
     bif decide (s2<(a0.length:Int))then
      (idx a0 s2).bind λx3 =>
      bif !(decide ((x3.length:Int)=(a0.length:Int)))then
       some (.inr (.inr (s2,10)))
      else
       (qF (λ(s5:Int) =>
         (idx a0 s2).bind λx6 =>
         bif decide (s5<(x6.length:Int))then
          (idx a0 s2).bind λx7 =>
          (idx x7 s5).bind λx8 =>
          (qbK x8 (20:Int)).bind λx9 =>
          bif !x9 then
           some (.inr (.inr (.inr (.inr (s2,2)))))
          else
           some (.inl (w64 (s5+1)))
         else
          some (.inr (.inl ()))) 0).bind (Sum.elim (λ(p10:Unit) =>
       some (.inl (w64 (s2+1)))) some)
     else
      some (.inr (.inl ()))) 0).bind (Sum.elim (λ(p11:Unit) =>
   some (0,0)) some)
def qet:Entry:=⟨129,[.ty (.sl yt1)],[(I,0),(I,0)],λx=>qdM x⟩
def qlK:TH:=qbM [([],129,.block 0,{lv:=[],ps:=[],abn:=true,D:=⟨70368744173616⟩}),
 ([],129,.loop 0,{lv:=[⟨none,4,0⟩],ps:=[(I,0)],D:=⟨70368744173616⟩}),
 ([],129,.block 2,{lv:=[],ps:=[],abn:=true,D:=⟨70368609959968⟩}),
 ([],129,.loop 2,{lv:=[⟨none,5,0⟩],ps:=[(I,0)],D:=⟨70368609959968⟩})] []
theorem qlT:KT qet qlK [qdm] 40:=λx=>by kernel_rfl
theorem ql0:OT qet:=entK (qo qhd qt) hJ qlT
def qe8(a0:(List yy2)):Option Int :=
 (qdM a0).bind λx1 =>
 some x1.2
def qfz:Entry:=⟨54,[.ty (.sl yt1)],[(I,0)],λx=>qe8 x⟩
def qoe:TH:=qbM [] []
theorem qon:KT qfz qoe [qet] 40:=λx=>by kernel_rfl
theorem qou:OT qfz:=entK (qo ql0 qt) hJ qon
def qfa(a0:(List yy2))(a1:Int)(a2:Int):Option (List yy2) :=
 (qF (λ(s2:yy8) =>
   bif decide (s2.2<(a0.length:Int))then
    (bif decide (s2.2=a1)then
      some s2.1
     else
      (qF (λ(s4:(yy2×Int)) =>
        bif decide (s4.2<(a0.length:Int))then
         (bif !(decide (s4.2=a2))then
           (idx a0 s2.2).bind λx5 =>
           (idx x5 s4.2).bind λx6 =>
           (app s4.1 ([x6])).bind λx7 =>
           some x7
          else
           some s4.1).bind λ(p8:yy2) =>
         some (.inl (p8,w64 (s4.2+1)))
        else
         some (.inr s4.1)) ([],0)).bind λ(p9:yy2) =>
      (app s2.1 ([p9])).bind λx10 =>
      some x10).bind λ(p11:(List yy2)) =>
    some (.inl (p11,w64 (s2.2+1)))
   else
    some (.inr s2.1)) ([],0)).bind λ(p12:(List yy2)) =>
 some p12
def qg0:Entry:=⟨190,[.ty (.sl yt1),.ty I,.ty I],[((.sl yt1),2)],λx=>qfa x.1 x.2.1 x.2.2⟩
def qq3:TH:=qbM [([],190,.block 0,{lv:=[⟨none,7,0⟩],ps:=[((.sl yt1),2)],D:=⟨8796093022080⟩}),
 ([],190,.loop 0,{lv:=[⟨none,7,0⟩,⟨none,8,0⟩],ps:=[((.sl yt1),2),(I,0)],D:=⟨8796093022080⟩}),
 ([],190,.block 1,{lv:=[⟨none,7,0⟩],ps:=[((.sl yt1),2)],D:=⟨8796092892800⟩}),
 ([],190,.block 2,{lv:=[⟨none,9,0⟩],ps:=[(yt1,1)],D:=⟨549754766848⟩}),
 ([],190,.loop 2,{lv:=[⟨none,9,0⟩,⟨none,10,0⟩],ps:=[(yt1,1),(I,0)],D:=⟨549754766848⟩}),
 ([],190,.cond 28,{lv:=[⟨none,9,0⟩],ps:=[(yt1,1)],D:=⟨549218943488⟩})] []
theorem qre:KT qg0 qq3 [] 40:=λx=>by kernel_rfl
theorem qrA:OT qg0:=entK qt hJ qre
def qjE(a0:yy4)(a1:yy4):Option yy4 :=
 some (w64 ((w64 (a0.1*a1.1))-(w64 (a0.2.1*a1.2.1))),w64 ((w64 (a0.1*a1.2.1))+(w64 (a0.2.1*a1.1))),())
def qiI:Entry:=⟨189,[.ty yt3,.ty yt3],[(yt3,0)],λx=>qjE x.1 x.2⟩
def qx4:TH:=qbM [] []
theorem qx7:KT qiI qx4 [] 40:=λx=>by kernel_rfl
theorem qrt:OT qiI:=entK qt hJ qx7
def qmu(a0:Int)(a1:Int):Option Int :=
 bif decide (a1=0)then
  none
 else
  (bif decide (a0.tmod a1<0)then
    some (w64 ((a0.tmod a1)+a1))
   else
    some (a0.tmod a1)).bind λ(p1:Int) =>
  some p1
def qnX:Entry:=⟨24,[.ty I,.ty I],[(I,0)],λx=>qmu x.1 x.2⟩
def qAN:TH:=qbM [([],24,.cond 9,{lv:=[⟨none,0,0⟩],ps:=[(I,0)],D:=⟨7169⟩})] []
theorem qAP:KT qnX qAN [] 40:=λx=>by kernel_rfl
theorem qAZ:OT qnX:=entK qt hJ qAP
def qjD(a0:yy4)(a1:yy4):Option yy4 :=
 some (w64 (a0.1+a1.1),w64 (a0.2.1+a1.2.1),())
def qiH:Entry:=⟨191,[.ty yt3,.ty yt3],[(yt3,0)],λx=>qjD x.1 x.2⟩
def qx3:TH:=qbM [] []
theorem qx6:KT qiH qx3 [] 40:=λx=>by kernel_rfl
theorem qrs:OT qiH:=entK qt hJ qx6
def qhV(a0:yy4)(a1:yy4):Option yy4 :=
 some (w64 (a0.1-a1.1),w64 (a0.2.1-a1.2.1),())
def qiJ:Entry:=⟨18,[.ty yt3,.ty yt3],[(yt3,0)],λx=>qhV x.1 x.2⟩
def qx5:TH:=qbM [] []
theorem qx8:KT qiJ qx5 [] 40:=λx=>by kernel_rfl
theorem qru:OT qiJ:=entK qt hJ qx8
def qbU(n:Nat):(List yy2)->Option yy4 :=
 Nat.rec (motive:=λ_=>(List yy2)->Option yy4) (λ_=>none) (λ_ ih a0 =>
 bif decide ((a0.length:Int)=0)then
  some (1,0,())
 else
  (qF (λ(s2:yy14) =>
    bif decide (s2.1<(a0.length:Int))then
     (idx a0 0).bind λx3 =>
     (idx x3 s2.1).bind λx4 =>
     (qfa a0 (0:Int) s2.1).bind λx5 =>
     (ih x5).bind λx6 =>
     (qjE x4 x6).bind λx7 =>
     (qmu s2.1 (2:Int)).bind λx8 =>
     (bif decide (x8=0)then
       (qjD (s2.2.1,s2.2.2,()) x7).bind λx9 =>
       some (x9.1,x9.2.1)
      else
       (qhV (s2.2.1,s2.2.2,()) x7).bind λx10 =>
       some (x10.1,x10.2.1)).bind λ(p11:(Int×Int)) =>
     some (.inl (w64 (s2.1+1),p11.1,p11.2))
    else
     some (.inr (s2.2.1,s2.2.2))) (0,0,0)).bind λ(p12:(Int×Int)) =>
  some (p12.1,p12.2,())) n
def qbj:(List yy2)->Option yy4:=qbU 12
def qeu:Entry:=⟨130,[.ty (.sl yt1)],[(yt3,0)],λx=>qbj x⟩
def qlL:TH:=qbM [([],130,.block 0,{lv:=[⟨some 0,3,0⟩,⟨some 0,3,1⟩],ps:=[(I,0),(I,0)],D:=⟨68719475760⟩,wr:=[⟨0,3⟩,⟨0,5⟩]}),
 ([],130,.loop 0,{lv:=[⟨none,4,0⟩,⟨some 0,3,0⟩,⟨some 0,3,1⟩],ps:=[(I,0),(I,0),(I,0)],D:=⟨68719475760⟩,wr:=[⟨0,3⟩,⟨0,5⟩],rs:=[⟨0,5⟩],Dn:=⟨68719475728⟩}),
 ([],130,.cond 29,{lv:=[⟨some 0,3,0⟩,⟨some 0,3,1⟩],ps:=[(I,0),(I,0)],D:=⟨67645734912⟩,wr:=[⟨0,3⟩]})] []
def qaN(n:Nat):Entry:=⟨130,[.ty (.sl yt1)],[(yt3,0)],λx=>qbU n x⟩
theorem qlU(n:Nat)(x:denP (qaN (n+1)).ps):fnT Tryz.prog Hn.hints qlL (qz6 [(qaN n),qiH,qiI,qiJ,qnX,qg0]) 40 130 (qhm (qaN (n+1)).ps x) (qaN (n+1)).rs=(qaN (n+1)).F x:=by kernel_rfl
theorem qga:∀n,qce Tryz.prog Hn.hints Lb (qaN n)
 |0=>λx y h=>by cases (show none=some y from h)
 |n+1=>qpT (qo (qga n) (qo qrs (qo qrt (qo qru (qo qAZ (qo qrA qt)))))) hJ 40 _ _ _ _ (qlU n)
theorem qhc:qce Tryz.prog Hn.hints Lb qeu:=qga 12
def qen(a0:(List yy2)):Option Int :=
 (qe8 a0).bind λx1 =>
 bif !(decide (x1=0))then
  some x1
 else
  (qbj a0).bind λx2 =>
  let v3:Bool:=(bif decide (x2.1=0)then (bif decide (x2.2.1=0)then true else false)else false)
  bif v3 then
   some 11
  else
   some 0
def qeU:Entry:=⟨55,[.ty (.sl yt1)],[(I,0)],λx=>qen x⟩
def qmV:TH:=qbM [] []
theorem qm7:KT qeU qmV [qeu,qfz] 40:=λx=>by kernel_rfl
theorem qnj:OT qeU:=entK (qo qhc (qo qou qt)) hJ qm7
def qe9(a0:yy6):Option Int :=
 (bif decide ((a0.1.length:Int)=0)then
   some true
  else
   some (!(decide ((a0.2.1.length:Int)=(a0.1.length:Int))))).bind λ(p1:Bool) =>
 bif p1 then
  some 10
 else
  bif decide ((a0.1.length:Int) > 6)then
   some 8
  else
   (qF (λ(s3:Int) =>
     bif decide (s3<(a0.1.length:Int))then
      (idx a0.1 s3).bind λx4 =>
      (idx a0.2.1 s3).bind λx5 =>
      (bif decide ((x4.length:Int)=0)then
        some true
       else
        (idx a0.1 0).bind λx6 =>
        bif !(decide ((x4.length:Int)=(x6.length:Int)))then
         some true
        else
         some (!(decide ((x5.length:Int)=(x4.length:Int))))).bind λ(p7:Bool) =>
      bif p7 then
       some (.inr (.inr 10))
      else
       bif decide ((x4.length:Int) > 3)then
        some (.inr (.inr 8))
       else
        (qF (λ(s9:Int) =>
          bif decide (s9<(x4.length:Int))then
           ((idx x4 s9).bind λx10 =>
            (qbK x10 (9:Int)).bind λx11 =>
            bif !x11 then
             some true
            else
             (idx x5 s9).bind λx12 =>
             (qbK x12 (9:Int)).bind λx13 =>
             some (!x13)).bind λ(p14:Bool) =>
           bif p14 then
            some (.inr (.inr (.inr (.inr 2))))
           else
            some (.inl (w64 (s9+1)))
          else
           some (.inr (.inl ()))) 0).bind (Sum.elim (λ(p15:Unit) =>
        some (.inl (w64 (s3+1)))) some)
     else
      some (.inr (.inl ()))) 0).bind (Sum.elim (λ(p16:Unit) =>
   some 0) some)
def qgZ:Entry:=⟨131,[.ty yt12],[(I,0)],λx=>qe9 x⟩
def qq1:TH:=qbM [([],131,.region 1,{lv:=[⟨none,19,0⟩],ps:=[(.bool,0)],D:=⟨1048448⟩,rs:=[⟨0,1⟩],Dn:=⟨1011456⟩}),
 ([],131,.block 0,{lv:=[],ps:=[],abn:=true,D:=⟨19342813113834066778521720⟩,rs:=[⟨0,1⟩],Dn:=⟨19342813113834066744967288⟩}),
 ([],131,.loop 0,{lv:=[⟨none,3,0⟩],ps:=[(I,0)],D:=⟨19342813113834066778521720⟩,rs:=[⟨0,1⟩],Dn:=⟨19342813113693258389651576⟩}),
 ([],131,.region 9,{lv:=[⟨none,60,0⟩],ps:=[(.bool,0)],D:=⟨2305840810190438400⟩,rs:=[⟨0,1⟩],Dn:=⟨2305700072702083072⟩}),
 ([],131,.block 2,{lv:=[],ps:=[],abn:=true,D:=⟨19342794667089993085747264⟩}),
 ([],131,.loop 2,{lv:=[⟨none,6,0⟩],ps:=[(I,0)],D:=⟨19342794667089993085747264⟩}),
 ([],131,.region 16,{lv:=[⟨none,83,0⟩],ps:=[(.bool,0)],D:=⟨19341632522213349383995392⟩})] []
theorem qrc:KT qgZ qq1 [qdm] 40:=λx=>by kernel_rfl
theorem qrz:OT qgZ:=entK (qo qhd qt) hJ qrc
def qkt(a0:yy4):Option yy4 :=
 some (a0.1,w64 (0-a0.2.1),())
def qjG:Entry:=⟨192,[.ty yt3],[(yt3,0)],λx=>qkt x⟩
def qwg:TH:=qbM [] []
theorem qwl:KT qjG qwg [] 40:=λx=>by kernel_rfl
theorem qwB:OT qjG:=entK qt hJ qwl
def qe7(a0:(List yy2))(a1:(List yy2)):Option (List yy2) :=
 (qF (λ(s3:yy8) =>
   (idx a0 0).bind λx4 =>
   bif decide (s3.2<(x4.length:Int))then
    (qF (λ(s7:(yy2×Int)) =>
      (idx a1 0).bind λx8 =>
      bif decide (s7.2<(x8.length:Int))then
       (qF (λ(s10:yy14) =>
         bif decide (s10.1<(a0.length:Int))then
          (idx a0 s10.1).bind λx11 =>
          (idx x11 s3.2).bind λx12 =>
          (idx a1 s10.1).bind λx13 =>
          (idx x13 s7.2).bind λx14 =>
          (qkt x14).bind λx15 =>
          (qjE x12 x15).bind λx16 =>
          (qjD (s10.2.1,s10.2.2,()) x16).bind λx17 =>
          some (.inl (w64 (s10.1+1),x17.1,x17.2.1))
         else
          some (.inr (s10.2.1,s10.2.2))) (0,0,0)).bind λ(p18:(Int×Int)) =>
       (app s7.1 ([(p18.1,p18.2,())])).bind λx19 =>
       some (.inl (x19,w64 (s7.2+1)))
      else
       some (.inr s7.1)) ([],0)).bind λ(p20:yy2) =>
    (app s3.1 ([p20])).bind λx21 =>
    some (.inl (x21,w64 (s3.2+1)))
   else
    some (.inr s3.1)) ([],0)).bind λ(p22:(List yy2)) =>
 some p22
def qgX:Entry:=⟨132,[.ty (.sl yt1),.ty (.sl yt1)],[((.sl yt1),2)],λx=>qe7 x.1 x.2⟩
def qqZ:TH:=qbM [([],132,.block 0,{lv:=[⟨none,5,0⟩],ps:=[((.sl yt1),2)],D:=⟨576460752303423456⟩,wr:=[⟨0,9⟩]}),
 ([],132,.loop 0,{lv:=[⟨none,5,0⟩,⟨none,6,0⟩],ps:=[((.sl yt1),2),(I,0)],D:=⟨576460752303423456⟩,wr:=[⟨0,9⟩]}),
 ([],132,.block 2,{lv:=[⟨none,7,0⟩],ps:=[(yt1,1)],D:=⟨36028797018441600⟩,wr:=[⟨0,9⟩]}),
 ([],132,.loop 2,{lv:=[⟨none,7,0⟩,⟨none,8,0⟩],ps:=[(yt1,1),(I,0)],D:=⟨36028797018441600⟩,wr:=[⟨0,9⟩],rs:=[⟨0,9⟩],Dn:=⟨36028797018441088⟩}),
 ([],132,.block 4,{lv:=[⟨some 0,9,0⟩,⟨some 0,9,1⟩],ps:=[(I,0),(I,0)],D:=⟨2251799679468544⟩,wr:=[⟨0,9⟩]}),
 ([],132,.loop 4,{lv:=[⟨none,10,0⟩,⟨some 0,9,0⟩,⟨some 0,9,1⟩],ps:=[(I,0),(I,0),(I,0)],D:=⟨2251799679468544⟩,wr:=[⟨0,9⟩]})] []
theorem qra:KT qgX qqZ [qiH,qjG,qiI] 40:=λx=>by kernel_rfl
theorem qrx:OT qgX:=entK (qo qrs (qo qwB (qo qrt qt))) hJ qra
def qcB(a0:yy6):Option Int :=
 (qe9 a0).bind λx1 =>
 bif !(decide (x1=0))then
  some x1
 else
  (qe7 a0.1 a0.1).bind λx2 =>
  (qbj x2).bind λx3 =>
  let v4:Bool:=(bif decide (x3.1=0)then (bif decide (x3.2.1=0)then true else false)else false)
  bif v4 then
   some 11
  else
   some 0
def qev:Entry:=⟨56,[.ty yt12],[(I,0)],λx=>qcB x⟩
def qlM:TH:=qbM [] []
theorem qlV:KT qev qlM [qgX,qeu,qgZ] 40:=λx=>by kernel_rfl
theorem ql1:OT qev:=entK (qo qrx (qo qhc (qo qrz qt))) hJ qlV
def qcd(a0:yy2)(a1:Int):Option Int :=
 bif !(decide ((a0.length:Int)=a1))then
  some 10
 else
  (qF (λ(s2:Int) =>
    bif decide (s2<(a0.length:Int))then
     (idx a0 s2).bind λx3 =>
     (qbK x3 (10000:Int)).bind λx4 =>
     bif !x4 then
      some (.inr (.inr 2))
     else
      some (.inl (w64 (s2+1)))
    else
     some (.inr (.inl ()))) 0).bind (Sum.elim (λ(p5:Unit) =>
  some 0) some)
def qgY:Entry:=⟨17,[.ty yt1,.ty I],[(I,0)],λx=>qcd x.1 x.2⟩
def qq0:TH:=qbM [([],17,.block 0,{lv:=[],ps:=[],abn:=true,D:=⟨4193312⟩}),
 ([],17,.loop 0,{lv:=[⟨none,5,0⟩],ps:=[(I,0)],D:=⟨4193312⟩})] []
theorem qrb:KT qgY qq0 [qdm] 40:=λx=>by kernel_rfl
theorem qry:OT qgY:=entK (qo qhd qt) hJ qrb
def qS(a0:yy2):Option yy2 :=
 (app [] a0).bind λx1 =>
 some x1
def qc7:Entry:=⟨13,[.ty yt1],[(yt1,1)],λx=>qS x⟩
def qmL:TH:=qbM [] []
theorem qmX:KT qc7 qmL [] 40:=λx=>by kernel_rfl
theorem qhC:OT qc7:=entK qt hJ qmX
def qP(a0:(List yy2)):Option (List yy2) :=
 (qF (λ(s3:yy8) =>
   bif decide (s3.2<(a0.length:Int))then
    (idx a0 s3.2).bind λx4 =>
    (qS x4).bind λx5 =>
    (app s3.1 ([x5])).bind λx6 =>
    some (.inl (x6,w64 (s3.2+1)))
   else
    some (.inr s3.1)) ([],0)).bind λ(p7:(List yy2)) =>
 some p7
def qbx:Entry:=⟨47,[.ty (.sl yt1)],[((.sl yt1),2)],λx=>qP x⟩
def qmU:TH:=qbM [([],47,.block 0,{lv:=[⟨none,3,0⟩],ps:=[((.sl yt1),2)],D:=⟨524280⟩}),
 ([],47,.loop 0,{lv:=[⟨none,3,0⟩,⟨none,4,0⟩],ps:=[((.sl yt1),2),(I,0)],D:=⟨524280⟩})] []
theorem qm6:KT qbx qmU [qc7] 40:=λx=>by kernel_rfl
theorem qdc:OT qbx:=entK (qo qhC qt) hJ qm6
def qed(a0:yy6):Option yy6 :=
 (qP a0.1).bind λx1 =>
 (qP a0.2.1).bind λx2 =>
 some (x1,x2,())
def qgm:Entry:=⟨57,[.ty yt12],[(yt12,2)],λx=>qed x⟩
def qpv:TH:=qbM [] []
theorem qpB:KT qgm qpv [qbx] 40:=λx=>by kernel_rfl
theorem qpH:OT qgm:=entK (qo qdc qt) hJ qpB
def qp(a0:Bool)(a1:Int):Option Int :=
 bif a0 then
  some 0
 else
  some a1
def qbo:Entry:=⟨70,[.ty .bool,.ty I],[(I,0)],λx=>qp x.1 x.2⟩
def qsu:TH:=qbM [] []
theorem qsz:KT qbo qsu [] 40:=λx=>by kernel_rfl
theorem qci:OT qbo:=entK qt hJ qsz
def qx(a0:(List Int)):Option Int :=
 (qF (λ(s2:Int) =>
   bif decide (s2<(a0.length:Int))then
    (idx a0 s2).bind λx3 =>
    bif !(decide (x3=0))then
     some (.inr (.inr x3))
    else
     some (.inl (w64 (s2+1)))
   else
    some (.inr (.inl ()))) 0).bind (Sum.elim (λ(p4:Unit) =>
 some 0) some)
def qaX:Entry:=⟨69,[.ty (.sl I)],[(I,0)],λx=>qx x⟩
def qum:TH:=qbM [([],69,.block 0,{lv:=[],ps:=[],abn:=true,D:=⟨32656⟩}),
 ([],69,.loop 0,{lv:=[⟨none,7,0⟩],ps:=[(I,0)],D:=⟨32656⟩})] []
theorem qur:KT qaX qum [] 40:=λx=>by kernel_rfl
theorem qbJ:OT qaX:=entK qt hJ qur
def qZ(a0:Int)(a1:Int)(a2:Int):Option Bool :=
 (bif decide (a1<=a0)then
   some (decide (a0<=a2))
  else
   some false).bind λ(p1:Bool) =>
 some p1
def qcf:Entry:=⟨71,[.ty I,.ty I,.ty I],[(.bool,0)],λx=>qZ x.1 x.2.1 x.2.2⟩
def qsv:TH:=qbM [([],71,.region 1,{lv:=[⟨none,6,0⟩],ps:=[(.bool,0)],D:=⟨32704⟩})] []
theorem qsA:KT qcf qsv [] 40:=λx=>by kernel_rfl
theorem qeb:OT qcf:=entK qt hJ qsA
def qdA(a0:Int)(a1:Int):Option Bool :=
 (qZ a0 (w64 (0-a1)) a1).bind λx1 =>
 some x1
def qeO:Entry:=⟨162,[.ty I,.ty I],[(.bool,0)],λx=>qdA x.1 x.2⟩
def qqV:TH:=qbM [] []
theorem qq6:KT qeO qqV [qcf] 40:=λx=>by kernel_rfl
theorem qj4:OT qeO:=entK (qo qeb qt) hJ qq6
def qaj(a0:yy4)(a1:Int):Option Bool :=
 ((qdA a0.1 a1).bind λx1 =>
  bif x1 then
   (qdA a0.2.1 a1).bind λx2 =>
   some x2
  else
   some false).bind λ(p3:Bool) =>
 some p3
def qaq:Entry:=⟨84,[.ty yt3,.ty I],[(.bool,0)],λx=>qaj x.1 x.2⟩
def qjS:TH:=qbM [([],84,.region 1,{lv:=[⟨none,4,0⟩],ps:=[(.bool,0)],D:=⟨32752⟩,rs:=[⟨0,2⟩],Dn:=⟨31696⟩})] []
theorem qjX:KT qaq qjS [qeO] 40:=λx=>by kernel_rfl
theorem qbu:OT qaq:=entK (qo qj4 qt) hJ qjX
def qcI(a0:yy4):Option Bool :=
 (qaj a0 (20:Int)).bind λx1 =>
 some (!x1)
def qdi:Entry:=⟨240,[.ty yt3],[(.bool,0)],λx=>qcI x⟩
def qjO:TH:=qbM [] []
theorem qjT:KT qdi qjO [qaq] 40:=λx=>by kernel_rfl
theorem qj2:OT qdi:=entK (qo qbu qt) hJ qjT
def qJ(a0:yy2):Option Int :=
 (qF (λ(s2:Int) =>
   bif decide (s2<(a0.length:Int))then
    (idx a0 s2).bind λx3 =>
    (qcI x3).bind λx4 =>
    bif x4 then
     some (.inr (.inr s2))
    else
     some (.inl (w64 (s2+1)))
   else
    some (.inr (.inl ()))) 0).bind (Sum.elim (λ(p5:Unit) =>
 some (-1)) some)
def qH:Entry:=⟨208,[.ty yt1,.fn 240 []],[(I,0)],λx=>qJ x.1⟩
def qa1:TH:=qbM [([],208,.block 0,{lv:=[],ps:=[],abn:=true,D:=⟨524064⟩}),
 ([],208,.loop 0,{lv:=[⟨none,8,0⟩],ps:=[(I,0)],D:=⟨524064⟩})] []
theorem qa2:KT qH qa1 [qdi] 40:=λx=>by kernel_rfl
theorem qa3:OT qH:=entK (qo qj2 qt) hJ qa2
def qw(a0:yy2):Option Bool :=
 (qJ a0).bind λx1 =>
 some (decide (x1>=0))
def qD:Entry:=⟨153,[.ty yt1,.fn 240 []],[(.bool,0)],λx=>qw x.1⟩
def qaR:TH:=qbM [] []
theorem qaS:KT qD qaR [qH] 40:=λx=>by kernel_rfl
theorem qaT:OT qD:=entK (qo qa3 qt) hJ qaS
def qdx(a0:(List yy2)):Option (Int×Int) :=
 (qp (decide ((a0.length:Int) > 0)) (10:Int)).bind λx1 =>
 (qp (decide ((a0.length:Int)<=3)) (8:Int)).bind λx2 =>
 (qx ([x1,x2])).bind λx3 =>
 bif !(decide (x3=0))then
  some (0,x3)
 else
  (qF (λ(s5:Int) =>
    bif decide (s5<(a0.length:Int))then
     (idx a0 s5).bind λx6 =>
     (qw x6).bind λx7 =>
     (qp (decide ((x6.length:Int)=(a0.length:Int))) (10:Int)).bind λx8 =>
     (qp (!x7) (2:Int)).bind λx9 =>
     (qx ([x8,x9])).bind λx10 =>
     bif !(decide (x10=0))then
      some (.inr (.inr (s5,x10)))
     else
      some (.inl (w64 (s5+1)))
    else
     some (.inr (.inl ()))) 0).bind (Sum.elim (λ(p11:Unit) =>
  some (0,0)) some)
def qep:Entry:=⟨188,[.ty (.sl yt1)],[(I,0),(I,0)],λx=>qdx x⟩
def qlE:TH:=qbM [([],188,.block 0,{lv:=[],ps:=[],abn:=true,D:=⟨140737471578592⟩}),
 ([],188,.loop 0,{lv:=[⟨none,24,0⟩],ps:=[(I,0)],D:=⟨140737471578592⟩})] []
theorem qlN:KT qep qlE [qaX,qbo,qD] 40:=λx=>by kernel_rfl
theorem qlW:OT qep:=entK (qo qbJ (qo qci (qo qaT qt))) hJ qlN
def qaW(a0:(List yy2)):Option Int :=
 (qdx a0).bind λx1 =>
 some x1.2
def qbf:Entry:=⟨125,[.ty (.sl yt1)],[(I,0)],λx=>qaW x⟩
def qob:TH:=qbM [] []
theorem qok:KT qbf qob [qep] 40:=λx=>by kernel_rfl
theorem qcy:OT qbf:=entK (qo qlW qt) hJ qok
def qeM(a0:yy4):Option Bool :=
 (qaj a0 (10000:Int)).bind λx1 =>
 some (!x1)
def qfy:Entry:=⟨154,[.ty yt3],[(.bool,0)],λx=>qeM x⟩
def qoa:TH:=qbM [] []
theorem qoj:KT qfy qoa [qaq] 40:=λx=>by kernel_rfl
theorem qot:OT qfy:=entK (qo qbu qt) hJ qoj
def qN(a0:yy2):Option Int :=
 (qF (λ(s2:Int) =>
   bif decide (s2<(a0.length:Int))then
    (idx a0 s2).bind λx3 =>
    (qeM x3).bind λx4 =>
    bif x4 then
     some (.inr (.inr s2))
    else
     some (.inl (w64 (s2+1)))
   else
    some (.inr (.inl ()))) 0).bind (Sum.elim (λ(p5:Unit) =>
 some (-1)) some)
def qL:Entry:=⟨208,[.ty yt1,.fn 154 []],[(I,0)],λx=>qN x.1⟩
def qbp:TH:=qbM [([],208,.block 0,{lv:=[],ps:=[],abn:=true,D:=⟨524064⟩}),
 ([],208,.loop 0,{lv:=[⟨none,8,0⟩],ps:=[(I,0)],D:=⟨524064⟩})] []
theorem qbq:KT qL qbp [qfy] 40:=λx=>by kernel_rfl
theorem qbr:OT qL:=entK (qo qot qt) hJ qbq
def qy(a0:yy2):Option Bool :=
 (qN a0).bind λx1 =>
 some (decide (x1>=0))
def qI:Entry:=⟨153,[.ty yt1,.fn 154 []],[(.bool,0)],λx=>qy x.1⟩
def qa8:TH:=qbM [] []
theorem qa9:KT qI qa8 [qL] 40:=λx=>by kernel_rfl
theorem qba:OT qI:=entK (qo qbr qt) hJ qa9
def qcJ(a0:yy2)(a1:Int):Option Int :=
 (qy a0).bind λx1 =>
 (qp (decide ((a0.length:Int)=a1)) (10:Int)).bind λx2 =>
 (qp (!x1) (2:Int)).bind λx3 =>
 (qx ([x2,x3])).bind λx4 =>
 some x4
def qdk:Entry:=⟨74,[.ty yt1,.ty I],[(I,0)],λx=>qcJ x.1 x.2⟩
def qqW:TH:=qbM [] []
theorem qq7:KT qdk qqW [qaX,qbo,qI] 40:=λx=>by kernel_rfl
theorem qhb:OT qdk:=entK (qo qbJ (qo qci (qo qba qt))) hJ qq7
def qbn(a0:(List yy2))(a1:yy2):Option yy2 :=
 (qF (λ(s3:(yy2×Int)) =>
   bif decide (s3.2<(a0.length:Int))then
    (idx a0 s3.2).bind λx4 =>
    (qF (λ(s6:((Int×Int)×Int)) =>
      bif decide (s6.2<(x4.length:Int))then
       (idx x4 s6.2).bind λx7 =>
       (flo x7.1).bind λx8 =>
       (flo x7.2.1).bind λx9 =>
       (idx a1 s6.2).bind λx10 =>
       (flo x10.1).bind λx11 =>
       (idx a1 s6.2).bind λx12 =>
       (flo x12.2.1).bind λx13 =>
       (flo (x8*x11)).bind λx14 =>
       (flo (x9*x13)).bind λx15 =>
       (flo (x14-x15)).bind λx16 =>
       (flo (x8*x13)).bind λx17 =>
       (flo (x9*x11)).bind λx18 =>
       (flo (x17+x18)).bind λx19 =>
       (flo (s6.1.1+x16)).bind λx20 =>
       (flo (s6.1.2+x19)).bind λx21 =>
       some (.inl ((x20,x21),w64 (s6.2+1)))
      else
       some (.inr s6.1)) ((0,0),0)).bind λ(p22:(Int×Int)) =>
    (flo p22.1).bind λx23 =>
    (flo p22.2).bind λx24 =>
    (app s3.1 ([(x23,x24,())])).bind λx25 =>
    some (.inl (x25,w64 (s3.2+1)))
   else
    some (.inr s3.1)) ([],0)).bind λ(p26:yy2) =>
 some p26
def qcY:Entry:=⟨78,[.ty (.sl yt1),.ty yt1],[(yt1,1)],λx=>qbn x.1 x.2⟩
def qpt:TH:=qbM [([],78,.block 0,{lv:=[⟨none,5,0⟩],ps:=[(yt1,1)],D:=⟨576460752303417248⟩,wr:=[⟨0,10⟩]}),
 ([],78,.loop 0,{lv:=[⟨none,5,0⟩,⟨none,13,0⟩],ps:=[(yt1,1),(I,0)],D:=⟨576460752303417248⟩,wr:=[⟨0,10⟩]}),
 ([],78,.block 2,{lv:=[⟨none,8,0⟩],ps:=[(.cx,0)],D:=⟨281474976188288⟩,wr:=[⟨0,10⟩]}),
 ([],78,.loop 2,{lv:=[⟨none,8,0⟩,⟨none,19,0⟩],ps:=[(.cx,0),(I,0)],D:=⟨281474976188288⟩,wr:=[⟨0,10⟩],rs:=[⟨0,10⟩],Dn:=⟨281474674197376⟩})] []
theorem qpz:KT qcY qpt [] 40:=λx=>by kernel_rfl
theorem qgo:OT qcY:=entK qt hJ qpz
def qbB(a0:(List yy2))(a1:yy2):Option (yy2×Int) :=
 (qaW a0).bind λx1 =>
 (qcJ a1 (a0.length:Int)).bind λx2 =>
 (qx ([x1,x2])).bind λx3 =>
 bif !(decide (x3=0))then
  some ([],x3)
 else
  (qbn a0 a1).bind λx4 =>
  some (x4,0)
def qeN:Entry:=⟨58,[.ty (.sl yt1),.ty yt1],[(yt1,1),(I,0)],λx=>qbB x.1 x.2⟩
def qmM:TH:=qbM [] []
theorem qmY:KT qeN qmM [qaX,qdk,qbf,qcY] 40:=λx=>by kernel_rfl
theorem qne:OT qeN:=entK (qo qbJ (qo qhb (qo qcy (qo qgo qt)))) hJ qmY
def qaa(a0:yy4):Option Bool :=
 (qaj a0 (9:Int)).bind λx1 =>
 some (!x1)
def qeQ:Entry:=⟨194,[.ty yt3],[(.bool,0)],λx=>qaa x⟩
def qmO:TH:=qbM [] []
theorem qm0:KT qeQ qmO [qaq] 40:=λx=>by kernel_rfl
theorem qnf:OT qeQ:=entK (qo qbu qt) hJ qm0
def qb3(a0:yy4):Option yy4 :=
 some (a0.1,w64 (0-a0.2.1),())
def qb9:Entry:=⟨180,[.ty yt3],[(yt3,0)],λx=>qb3 x⟩
def qmR:TH:=qbM [] []
theorem qm3:KT qb9 qmR [] 40:=λx=>by kernel_rfl
theorem qe2:OT qb9:=entK qt hJ qm3
def qal(a0:yy4)(a1:yy4):Option yy4 :=
 some (w64 ((w64 (a0.1*a1.1))-(w64 (a0.2.1*a1.2.1))),w64 ((w64 (a0.1*a1.2.1))+(w64 (a0.2.1*a1.1))),())
def qak:Entry:=⟨179,[.ty yt3,.ty yt3],[(yt3,0)],λx=>qal x.1 x.2⟩
def qlJ:TH:=qbM [] []
theorem qlS:KT qak qlJ [] 40:=λx=>by kernel_rfl
theorem qaL:OT qak:=entK qt hJ qlS
def qa4(a0:yy4)(a1:yy4):Option yy4 :=
 some (w64 (a0.1+a1.1),w64 (a0.2.1+a1.2.1),())
def qaY:Entry:=⟨150,[.ty yt3,.ty yt3],[(yt3,0)],λx=>qa4 x.1 x.2⟩
def qmS:TH:=qbM [] []
theorem qm4:KT qaY qmS [] 40:=λx=>by kernel_rfl
theorem qcb:OT qaY:=entK qt hJ qm4
def qb2(a0:Int)(a1:Int)(a2:yy6)(a3:(List yy2)):Option yy4 :=
 (qF (λ(s2:yy14) =>
   bif decide (s2.1<(a2.1.length:Int))then
    (idx a2.1 s2.1).bind λx3 =>
    (idx a3 s2.1).bind λx4 =>
    (idx x4 a0).bind λx5 =>
    (idx x3 a1).bind λx6 =>
    (qb3 x6).bind λx7 =>
    (qal x5 x7).bind λx8 =>
    (qa4 (s2.2.1,s2.2.2,()) x8).bind λx9 =>
    some (.inl (w64 (s2.1+1),x9.1,x9.2.1))
   else
    some (.inr (s2.2.1,s2.2.2))) (0,0,0)).bind λ(p10:(Int×Int)) =>
 some (p10.1,p10.2,())
def qeS:Entry:=⟨243,[.ty I,.ty I,.ptr yt12,.ptr (.sl yt1)],[(yt3,0)],λx=>qb2 x.1 x.2.1 x.2.2.1 x.2.2.2⟩
def qmQ:TH:=qbM [([],243,.block 0,{lv:=[⟨some 0,7,0⟩,⟨some 0,7,1⟩],ps:=[(I,0),(I,0)],D:=⟨17179861760⟩,wr:=[⟨0,7⟩]}),
 ([],243,.loop 0,{lv:=[⟨none,13,0⟩,⟨some 0,7,0⟩,⟨some 0,7,1⟩],ps:=[(I,0),(I,0),(I,0)],D:=⟨17179861760⟩,wr:=[⟨0,7⟩]})] []
theorem qm2:KT qeS qmQ [qb9,qaY,qak] 40:=λx=>by kernel_rfl
theorem qnh:OT qeS:=entK (qo qe2 (qo qcb (qo qaL qt))) hJ qm2
def qaD(a0:Int)(a1:Int)(a2:yy6)(a3:(List yy2)):Option (List yy2) :=
 (mkS ([]:yy2) a0).bind λx1 =>
 bif decide (a0=a0)then
  (qF (λ(s3:yy8) =>
    bif decide (s3.2<(x1.length:Int))then
     (qF (λ(s5:yy8) =>
       bif decide (s5.2<a1)then
        (idx s5.1 s3.2).bind λx6 =>
        (qb2 s3.2 s5.2 a2 a3).bind λx7 =>
        (idx s5.1 s3.2).bind λx8 =>
        (app x8 ([x7])).bind λx9 =>
        (idx s5.1 s3.2).bind λx10 =>
        bif decide (s3.2=s3.2)then
         let l11:(List yy2):=List.set s5.1 s3.2.toNat x9
         some (.inl (l11,w64 (s5.2+1)))
        else
         none
       else
        some (.inr s5.1)) (s3.1,0)).bind λ(p12:(List yy2)) =>
     some (.inl (p12,w64 (s3.2+1)))
    else
     some (.inr s3.1)) (x1,0)).bind λ(p13:(List yy2)) =>
  some p13
 else
  none
def qa7:Entry:=⟨143,[.ty I,.ty I,.fn 243 [.p yt12,.p (.sl yt1)]],[((.sl yt1),2)],λx=>qaD x.1 x.2.1 x.2.2.1 x.2.2.2⟩
def qfj:TH:=qbM [([],143,.block 0,{lv:=[⟨none,7,0⟩],ps:=[((.sl yt1),2)],D:=⟨68719467392⟩}),
 ([],143,.loop 0,{lv:=[⟨none,7,0⟩,⟨none,14,0⟩],ps:=[((.sl yt1),2),(I,0)],D:=⟨68719467392⟩}),
 ([],143,.block 2,{lv:=[⟨none,7,0⟩],ps:=[((.sl yt1),2)],D:=⟨34359476864⟩}),
 ([],143,.loop 2,{lv:=[⟨none,7,0⟩,⟨none,18,0⟩],ps:=[((.sl yt1),2),(I,0)],D:=⟨34359476864⟩})] []
theorem qfl:KT qa7 qfj [qeS] 40:=λx=>by kernel_rfl
theorem qfn:OT qa7:=entK (qo qnh qt) hJ qfl
def qfM(a0:(List yy2))(a1:Int)(a2:yy6):Option (List yy2) :=
 (qaD a1 a1 a2 a0).bind λx1 =>
 some x1
def qgl:Entry:=⟨242,[.ty (.sl yt1),.ptr I,.ptr yt12],[((.sl yt1),2)],λx=>qfM x.1 x.2.1 x.2.2⟩
def qpu:TH:=qbM [] []
theorem qpA:KT qgl qpu [qa7] 40:=λx=>by kernel_rfl
theorem qpG:OT qgl:=entK (qo qfn qt) hJ qpA
def qf3(a0:yy6)(a1:Int):Option yy6 :=
 (qfM a0.1 a1 a0).bind λx1 =>
 (qfM a0.2.1 a1 a0).bind λx2 =>
 some (x1,x2,())
def qhN:Entry:=⟨195,[.ty yt12,.ty I],[(yt12,2)],λx=>qf3 x.1 x.2⟩
def qss:TH:=qbM [] []
theorem qsx:KT qhN qss [qgl] 40:=λx=>by kernel_rfl
theorem qsB:OT qhN:=entK (qo qpG qt) hJ qsx
def qao(a0:(List yy2))(a1:Int)(a2:Int):Option yy4 :=
 (idx a0 a1).bind λx1 =>
 (idx x1 a2).bind λx2 =>
 some x2
def qbg:Entry:=⟨145,[.ty (.sl yt1),.ty I,.ty I],[(yt3,0)],λx=>qao x.1 x.2.1 x.2.2⟩
def qoc:TH:=qbM [] []
theorem qol:KT qbg qoc [] 40:=λx=>by kernel_rfl
theorem qcz:OT qbg:=entK qt hJ qol
def qam(a0:(List yy2))(a1:Int)(a2:Int):Option (List yy2) :=
 (qF (λ(s2:yy8) =>
   bif decide (s2.2<(a0.length:Int))then
    (idx a0 s2.2).bind λx3 =>
    (bif !(decide (s2.2=a1))then
      (slc x3 0 a2).bind λx4 =>
      bif decide (a2=a2)then
       (slc x3 (w64 (a2+1)) (x3.length:Int)).bind λx5 =>
       (app x4 x5).bind λx6 =>
       (app s2.1 ([x6])).bind λx7 =>
       some x7
      else
       none
     else
      some s2.1).bind λ(p8:(List yy2)) =>
    some (.inl (p8,w64 (s2.2+1)))
   else
    some (.inr s2.1)) ([],0)).bind λ(p9:(List yy2)) =>
 some p9
def qbW:Entry:=⟨197,[.ty (.sl yt1),.ty I,.ty I],[((.sl yt1),2001)],λx=>qam x.1 x.2.1 x.2.2⟩
def qjq:TH:=qbM [([],197,.block 0,{lv:=[⟨none,7,0⟩],ps:=[((.sl yt1),2001)],D:=⟨8589931392⟩}),
 ([],197,.loop 0,{lv:=[⟨none,7,0⟩,⟨none,12,0⟩],ps:=[((.sl yt1),2001),(I,0)],D:=⟨8589931392⟩}),
 ([],197,.cond 19,{lv:=[⟨none,7,0⟩],ps:=[((.sl yt1),2001)],D:=⟨4293918848⟩})] []
theorem qju:KT qbW qjq [] 40:=λx=>by kernel_rfl
theorem qfr:OT qbW:=entK qt hJ qju
def qY(a0:yy4)(a1:yy4):Option yy4 :=
 some (w64 (a0.1-a1.1),w64 (a0.2.1-a1.2.1),())
def qaI:Entry:=⟨83,[.ty yt3,.ty yt3],[(yt3,0)],λx=>qY x.1 x.2⟩
def qlI:TH:=qbM [] []
theorem qlR:KT qaI qlI [] 40:=λx=>by kernel_rfl
theorem qbS:OT qaI:=entK qt hJ qlR
def qaz(n:Nat):(List yy2)->Option yy4 :=
 Nat.rec (motive:=λ_=>(List yy2)->Option yy4) (λ_=>none) (λ_ ih a0 =>
 bif decide ((a0.length:Int)=0)then
  some (1,0,())
 else
  (qF (λ(s2:yy14) =>
    bif decide (s2.1<(a0.length:Int))then
     (qao a0 (0:Int) s2.1).bind λx3 =>
     (qam a0 (0:Int) s2.1).bind λx4 =>
     (ih x4).bind λx5 =>
     (qal x3 x5).bind λx6 =>
     (bif decide (s2.1.tmod 2=1)then
       (qY (0,0,()) x6).bind λx7 =>
       some (x7.1,x7.2.1)
      else
       some (x6.1,x6.2.1)).bind λ(p8:(Int×Int)) =>
     (qa4 (s2.2.1,s2.2.2,()) (p8.1,p8.2,())).bind λx9 =>
     some (.inl (w64 (s2.1+1),x9.1,x9.2.1))
    else
     some (.inr (s2.2.1,s2.2.2))) (0,0,0)).bind λ(p10:(Int×Int)) =>
  some (p10.1,p10.2,())) n
def qW:(List yy2)->Option yy4:=qaz 12
def qbc:Entry:=⟨137,[.ty (.sl yt1)],[(yt3,0)],λx=>qW x⟩
def qhj:TH:=qbM [([],137,.block 0,{lv:=[⟨some 0,3,0⟩,⟨some 0,3,1⟩],ps:=[(I,0),(I,0)],D:=⟨8589930544⟩,wr:=[⟨0,3⟩,⟨0,5⟩]}),
 ([],137,.loop 0,{lv:=[⟨none,12,0⟩,⟨some 0,3,0⟩,⟨some 0,3,1⟩],ps:=[(I,0),(I,0),(I,0)],D:=⟨8589930544⟩,wr:=[⟨0,3⟩,⟨0,5⟩],rs:=[⟨0,5⟩],Dn:=⟨8589930512⟩}),
 ([],137,.cond 25,{lv:=[⟨some 0,5,0⟩,⟨some 0,5,1⟩],ps:=[(I,0),(I,0)],D:=⟨469762048⟩,wr:=[⟨0,5⟩]})] []
def q6(n:Nat):Entry:=⟨137,[.ty (.sl yt1)],[(yt3,0)],λx=>qaz n x⟩
theorem qhk(n:Nat)(x:denP (q6 (n+1)).ps):fnT Tryz.prog Hn.hints qhj (qz6 [(q6 n),qbg,qbW,qaI,qaY,qak]) 40 137 (qhm (q6 (n+1)).ps x) (q6 (n+1)).rs=(q6 (n+1)).F x:=by kernel_rfl
theorem qdb:∀n,qce Tryz.prog Hn.hints Lb (q6 n)
 |0=>λx y h=>by cases (show none=some y from h)
 |n+1=>qpT (qo (qdb n) (qo qcz (qo qfr (qo qbS (qo qcb (qo qaL qt)))))) hJ 40 _ _ _ _ (qhk n)
theorem qbZ:qce Tryz.prog Hn.hints Lb qbc:=qdb 12
def qfL(a0:yy6):Option (yy6×yy4×Int) :=
 (bif decide ((a0.1.length:Int) > 0)then
   (qp (decide ((a0.2.1.length:Int)=(a0.1.length:Int))) (10:Int)).bind λx1 =>
   (qp (decide ((a0.1.length:Int)<=6)) (8:Int)).bind λx2 =>
   (qx ([x1,x2])).bind λx3 =>
   some x3
  else
   (qp false (10:Int)).bind λx4 =>
   (qp (decide ((a0.1.length:Int)<=6)) (8:Int)).bind λx5 =>
   (qx ([x4,x5])).bind λx6 =>
   some x6).bind λ(p7:Int) =>
 bif !(decide (p7=0))then
  some (([],[],()),(0,0,()),p7)
 else
  (idx a0.1 0).bind λx8 =>
  (qF (λ(s10:(Int×Int)) =>
    bif decide (s10.2<(a0.1.length:Int))then
     (idx a0.1 s10.2).bind λx11 =>
     (idx a0.2.1 s10.2).bind λx12 =>
     (bif decide (w64 (0+(x11.length:Int))<0)then
       none
      else
       bif decide (w64 ((w64 (0+(x11.length:Int)))+(x12.length:Int))<0)then
        none
       else
        bif decide (w64 ((w64 (0+(x11.length:Int)))+(x12.length:Int))<0)then
         none
        else
         let v13:Bool:=decide (w64 ((w64 ((w64 (0+(x11.length:Int)))+(x12.length:Int)))-0) > 0)
         bif v13 then
          bif (decide (0<w64 ((w64 ((w64 (0+(x11.length:Int)))+(x12.length:Int)))-0))&&decide (w64 ((w64 ((w64 (0+(x11.length:Int)))+(x12.length:Int)))-0)<=4294967296))then
           bif List.isEmpty x11 then
            bif List.isEmpty x12 then
             ((qF (λ(s15:Int) =>
                bif decide (s15<0)then
                 none
                else
                 some (.inr (.inl ()))) 0).bind (Sum.elim (λ(p16:Unit) =>
              some (-1)) some)).bind λ(p17:Int) =>
             some (decide (p17>=0))
            else
             (app [] x12).bind λx18 =>
             ((qF (λ(s20:Int) =>
                bif decide (s20<(x18.length:Int))then
                 (idx x18 s20).bind λx21 =>
                 (qaa x21).bind λx22 =>
                 bif x22 then
                  some (.inr (.inr s20))
                 else
                  some (.inl (w64 (s20+1)))
                else
                 some (.inr (.inl ()))) 0).bind (Sum.elim (λ(p23:Unit) =>
              some (-1)) some)).bind λ(p24:Int) =>
             some (decide (p24>=0))
           else
            (app [] x11).bind λx25 =>
            (app x25 x12).bind λx26 =>
            ((qF (λ(s28:Int) =>
               bif decide (s28<(x26.length:Int))then
                (idx x26 s28).bind λx29 =>
                (qaa x29).bind λx30 =>
                bif x30 then
                 some (.inr (.inr s28))
                else
                 some (.inl (w64 (s28+1)))
               else
                some (.inr (.inl ()))) 0).bind (Sum.elim (λ(p31:Unit) =>
             some (-1)) some)).bind λ(p32:Int) =>
            some (decide (p32>=0))
          else
           none
         else
          bif List.isEmpty x11 then
           bif List.isEmpty x12 then
            ((qF (λ(s34:Int) =>
               bif decide (s34<0)then
                none
               else
                some (.inr (.inl ()))) 0).bind (Sum.elim (λ(p35:Unit) =>
             some (-1)) some)).bind λ(p36:Int) =>
            some (decide (p36>=0))
           else
            (app [] x12).bind λx37 =>
            ((qF (λ(s39:Int) =>
               bif decide (s39<(x37.length:Int))then
                (idx x37 s39).bind λx40 =>
                (qaa x40).bind λx41 =>
                bif x41 then
                 some (.inr (.inr s39))
                else
                 some (.inl (w64 (s39+1)))
               else
                some (.inr (.inl ()))) 0).bind (Sum.elim (λ(p42:Unit) =>
             some (-1)) some)).bind λ(p43:Int) =>
            some (decide (p43>=0))
          else
           (app [] x11).bind λx44 =>
           (app x44 x12).bind λx45 =>
           ((qF (λ(s47:Int) =>
              bif decide (s47<(x45.length:Int))then
               (idx x45 s47).bind λx48 =>
               (qaa x48).bind λx49 =>
               bif x49 then
                some (.inr (.inr s47))
               else
                some (.inl (w64 (s47+1)))
              else
               some (.inr (.inl ()))) 0).bind (Sum.elim (λ(p50:Unit) =>
            some (-1)) some)).bind λ(p51:Int) =>
           some (decide (p51>=0))).bind λ(p52:Bool) =>
     (bif decide ((x11.length:Int) > 0)then
       bif decide ((x11.length:Int)=(x8.length:Int))then
        (qp (decide ((x12.length:Int)=(x8.length:Int))) (10:Int)).bind λx53 =>
        (qp (decide ((x11.length:Int)<=3)) (8:Int)).bind λx54 =>
        (qp (!p52) (2:Int)).bind λx55 =>
        (qx ([s10.1,x53,x54,x55])).bind λx56 =>
        some x56
       else
        (qp false (10:Int)).bind λx57 =>
        (qp (decide ((x11.length:Int)<=3)) (8:Int)).bind λx58 =>
        (qp (!p52) (2:Int)).bind λx59 =>
        (qx ([s10.1,x57,x58,x59])).bind λx60 =>
        some x60
      else
       (qp false (10:Int)).bind λx61 =>
       (qp (decide ((x11.length:Int)<=3)) (8:Int)).bind λx62 =>
       (qp (!p52) (2:Int)).bind λx63 =>
       (qx ([s10.1,x61,x62,x63])).bind λx64 =>
       some x64).bind λ(p65:Int) =>
     some (.inl (p65,w64 (s10.2+1)))
    else
     some (.inr s10.1)) (p7,0)).bind λ(p66:Int) =>
  bif !(decide (p66=0))then
   some (([],[],()),(0,0,()),p66)
  else
   (qf3 a0 (x8.length:Int)).bind λx67 =>
   (qW x67.1).bind λx68 =>
   let v69:Bool:=!(bif decide (x68.1=0)then (bif decide (x68.2.1=0)then true else false)else false)
   (qp v69 (11:Int)).bind λx70 =>
   some (x67,x68,x70)
def qgk:Entry:=⟨133,[.ty yt12],[(yt12,2000),(yt3,0),(I,0)],λx=>qfL x⟩
def qpr:TH:=qbM [([],133,.region 1,{lv:=[⟨none,5,0⟩],ps:=[(I,0)],D:=⟨17179861024⟩,rs:=[⟨0,1⟩],Dn:=⟨17043275808⟩}),
 ([],133,.block 0,{lv:=[⟨none,5,0⟩],ps:=[(I,0)],D:=⟨618970019642549399961208736⟩}),
 ([],133,.loop 0,{lv:=[⟨none,5,0⟩,⟨none,47,0⟩],ps:=[(I,0),(I,0)],D:=⟨618970019642549399961208736⟩,rs:=[⟨0,1⟩],Dn:=⟨618970019638045800333838240⟩}),
 ([],133,.region 9,{lv:=[⟨none,10,0⟩],ps:=[(.bool,0)],D:=⟨4467570830351533056⟩}),
 ([7,61],208,.inl 0,{lv:=[⟨none,4,0⟩],ps:=[(I,0)],D:=⟨524272⟩}),
 ([7,61],208,.block 0,{lv:=[],ps:=[],abn:=true,D:=⟨524064⟩}),
 ([7,61],208,.loop 0,{lv:=[⟨none,8,0⟩],ps:=[(I,0)],D:=⟨524064⟩}),
 ([],133,.region 10,{lv:=[⟨none,5,0⟩],ps:=[(I,0)],D:=⟨309485005209659050297393184⟩})] [([],133,60),([],133,61),([60],193,24),([61],153,7)]
theorem qpx:KT qgk qpr [qaX,qbc,qeQ,qhN,qbo] 40:=λx=>by kernel_rfl
theorem qpF:OT qgk:=entK (qo qbJ (qo qbZ (qo qnf (qo qsB (qo qci qt))))) hJ qpx
def qbd(a0:Int)(a1:Int)(a2:(List yy2))(a3:yy4):Option yy4 :=
 (qam a2 a1 a0).bind λx1 =>
 (qW x1).bind λx2 =>
 (qb3 a3).bind λx3 =>
 (qal x2 x3).bind λx4 =>
 bif decide ((w64 (a0+a1)).tmod 2=1)then
  (qY (0,0,()) x4).bind λx5 =>
  some x5
 else
  some x4
def qct:Entry:=⟨196,[.ty I,.ty I,.ptr (.sl yt1),.ptr yt3],[(yt3,0)],λx=>qbd x.1 x.2.1 x.2.2.1 x.2.2.2⟩
def qh9:TH:=qbM [] []
theorem qic:KT qct qh9 [qbc,qbW,qb9,qaI,qak] 40:=λx=>by kernel_rfl
theorem qio:OT qct:=entK (qo qbZ (qo qfr (qo qe2 (qo qbS (qo qaL qt))))) hJ qic
def qae(a0:Int)(a1:Int)(a2:(List yy2))(a3:yy4):Option (List yy2) :=
 (mkS ([]:yy2) a0).bind λx1 =>
 bif decide (a0=a0)then
  (qF (λ(s3:yy8) =>
    bif decide (s3.2<(x1.length:Int))then
     (qF (λ(s5:yy8) =>
       bif decide (s5.2<a1)then
        (idx s5.1 s3.2).bind λx6 =>
        (qbd s3.2 s5.2 a2 a3).bind λx7 =>
        (idx s5.1 s3.2).bind λx8 =>
        (app x8 ([x7])).bind λx9 =>
        (idx s5.1 s3.2).bind λx10 =>
        bif decide (s3.2=s3.2)then
         let l11:(List yy2):=List.set s5.1 s3.2.toNat x9
         some (.inl (l11,w64 (s5.2+1)))
        else
         none
       else
        some (.inr s5.1)) (s3.1,0)).bind λ(p12:(List yy2)) =>
     some (.inl (p12,w64 (s3.2+1)))
    else
     some (.inr s3.1)) (x1,0)).bind λ(p13:(List yy2)) =>
  some p13
 else
  none
def qat:Entry:=⟨143,[.ty I,.ty I,.fn 196 [.p (.sl yt1),.p yt3]],[((.sl yt1),2)],λx=>qae x.1 x.2.1 x.2.2.1 x.2.2.2⟩
def qdI:TH:=qbM [([],143,.block 0,{lv:=[⟨none,7,0⟩],ps:=[((.sl yt1),2)],D:=⟨68719467392⟩}),
 ([],143,.loop 0,{lv:=[⟨none,7,0⟩,⟨none,14,0⟩],ps:=[((.sl yt1),2),(I,0)],D:=⟨68719467392⟩}),
 ([],143,.block 2,{lv:=[⟨none,7,0⟩],ps:=[((.sl yt1),2)],D:=⟨34359476864⟩}),
 ([],143,.loop 2,{lv:=[⟨none,7,0⟩,⟨none,18,0⟩],ps:=[((.sl yt1),2),(I,0)],D:=⟨34359476864⟩})] []
theorem qdJ:KT qat qdI [qct] 40:=λx=>by kernel_rfl
theorem qdL:OT qat:=entK (qo qio qt) hJ qdJ
def qas(a0:(List Int)):Option Int :=
 (qF (λ(s2:(Int×Int)) =>
   bif decide (s2.2<(a0.length:Int))then
    (idx a0 s2.2).bind λx3 =>
    (qF (λ(s5:(Int×Int)) =>
      bif !(decide (s5.2=0))then
       bif decide (s5.2=0)then
        none
       else
        some (.inl (s5.2,s5.1.tmod s5.2))
      else
       some (.inr s5.1)) (s2.1,x3)).bind λ(p6:Int) =>
    some (.inl (p6,w64 (s2.2+1)))
   else
    some (.inr s2.1)) (0,0)).bind λ(p7:Int) =>
 some (max p7 (w64 (0-p7)))
def qcs:Entry:=⟨198,[.ty (.sl I)],[(I,0)],λx=>qas x⟩
def qqU:TH:=qbM [([],198,.block 0,{lv:=[⟨none,3,0⟩],ps:=[(I,0)],D:=⟨524072⟩}),
 ([],198,.loop 0,{lv:=[⟨none,3,0⟩,⟨none,8,0⟩],ps:=[(I,0),(I,0)],D:=⟨524072⟩}),
 ([],198,.block 2,{lv:=[⟨none,3,0⟩],ps:=[(I,0)],D:=⟨258088⟩}),
 ([],198,.loop 2,{lv:=[⟨none,3,0⟩,⟨none,5,0⟩],ps:=[(I,0),(I,0)],D:=⟨258088⟩})] []
theorem qq5:KT qcs qqU [] 40:=λx=>by kernel_rfl
theorem qe1:OT qcs:=entK qt hJ qq5
def qcX(a0:Int)(a1:Int)(a2:(List yy2))(a3:Int):Option yy4 :=
 (idx a2 a0).bind λx1 =>
 (idx x1 a1).bind λx2 =>
 bif decide (a3=0)then
  none
 else
  (idx a2 a0).bind λx3 =>
  (idx x3 a1).bind λx4 =>
  bif decide (a3=0)then
   none
  else
   some (w64 (x2.1.tdiv a3),w64 (x4.2.1.tdiv a3),())
def qeR:Entry:=⟨199,[.ty I,.ty I,.ptr (.sl yt1),.ptr I],[(yt3,0)],λx=>qcX x.1 x.2.1 x.2.2.1 x.2.2.2⟩
def qmP:TH:=qbM [] []
theorem qm1:KT qeR qmP [] 40:=λx=>by kernel_rfl
theorem qng:OT qeR:=entK qt hJ qm1
def qaC(a0:Int)(a1:Int)(a2:(List yy2))(a3:Int):Option (List yy2) :=
 (mkS ([]:yy2) a0).bind λx1 =>
 bif decide (a0=a0)then
  (qF (λ(s3:yy8) =>
    bif decide (s3.2<(x1.length:Int))then
     (qF (λ(s5:yy8) =>
       bif decide (s5.2<a1)then
        (idx s5.1 s3.2).bind λx6 =>
        (qcX s3.2 s5.2 a2 a3).bind λx7 =>
        (idx s5.1 s3.2).bind λx8 =>
        (app x8 ([x7])).bind λx9 =>
        (idx s5.1 s3.2).bind λx10 =>
        bif decide (s3.2=s3.2)then
         let l11:(List yy2):=List.set s5.1 s3.2.toNat x9
         some (.inl (l11,w64 (s5.2+1)))
        else
         none
       else
        some (.inr s5.1)) (s3.1,0)).bind λ(p12:(List yy2)) =>
     some (.inl (p12,w64 (s3.2+1)))
    else
     some (.inr s3.1)) (x1,0)).bind λ(p13:(List yy2)) =>
  some p13
 else
  none
def qa6:Entry:=⟨143,[.ty I,.ty I,.fn 199 [.p (.sl yt1),.p I]],[((.sl yt1),2)],λx=>qaC x.1 x.2.1 x.2.2.1 x.2.2.2⟩
def qfi:TH:=qbM [([],143,.block 0,{lv:=[⟨none,7,0⟩],ps:=[((.sl yt1),2)],D:=⟨68719467392⟩}),
 ([],143,.loop 0,{lv:=[⟨none,7,0⟩,⟨none,14,0⟩],ps:=[((.sl yt1),2),(I,0)],D:=⟨68719467392⟩}),
 ([],143,.block 2,{lv:=[⟨none,7,0⟩],ps:=[((.sl yt1),2)],D:=⟨34359476864⟩}),
 ([],143,.loop 2,{lv:=[⟨none,7,0⟩,⟨none,18,0⟩],ps:=[((.sl yt1),2),(I,0)],D:=⟨34359476864⟩})] []
theorem qfk:KT qa6 qfi [qeR] 40:=λx=>by kernel_rfl
theorem qfm:OT qa6:=entK (qo qng qt) hJ qfk
def qd3(a0:(List yy2))(a1:Int):Option yy13 :=
 (qF (λ(s2:(Int×Int)) =>
   bif decide (s2.1<(a0.length:Int))then
    (idx a0 s2.1).bind λx3 =>
    (qF (λ(s5:(Int×Int)) =>
      bif decide (s5.1<(x3.length:Int))then
       (idx x3 s5.1).bind λx6 =>
       (qas ([s5.2,x6.1,x6.2.1])).bind λx7 =>
       some (.inl (w64 (s5.1+1),x7))
      else
       some (.inr s5.2)) (0,s2.2)).bind λ(p8:Int) =>
    some (.inl (w64 (s2.1+1),p8))
   else
    some (.inr s2.2)) (0,a1)).bind λ(p9:Int) =>
 (idx a0 0).bind λx10 =>
 (qaC (a0.length:Int) (x10.length:Int) a0 p9).bind λx11 =>
 bif decide (p9=0)then
  none
 else
  some (w64 (a1.tdiv p9),x11,())
def qei:Entry:=⟨135,[.ty (.sl yt1),.ty I],[((.pair I yt5),2)],λx=>qd3 x.1 x.2⟩
def qps:TH:=qbM [([],135,.block 0,{lv:=[⟨some 0,5,0⟩],ps:=[(I,0)],D:=⟨8589919872⟩,wr:=[⟨0,5⟩,⟨0,9⟩]}),
 ([],135,.loop 0,{lv:=[⟨none,14,0⟩,⟨some 0,5,0⟩],ps:=[(I,0),(I,0)],D:=⟨8589919872⟩,wr:=[⟨0,5⟩,⟨0,9⟩]}),
 ([],135,.block 2,{lv:=[⟨some 0,5,0⟩],ps:=[(I,0)],D:=⟨4293920384⟩,wr:=[⟨0,5⟩,⟨0,9⟩]}),
 ([],135,.loop 2,{lv:=[⟨none,20,0⟩,⟨some 0,5,0⟩],ps:=[(I,0),(I,0)],D:=⟨4293920384⟩,wr:=[⟨0,5⟩,⟨0,9⟩],rs:=[⟨0,9⟩],Dn:=⟨4126147712⟩})] []
theorem qpy:KT qei qps [qcs,qa6] 40:=λx=>by kernel_rfl
theorem qjh:OT qei:=entK (qo qe1 (qo qfm qt)) hJ qpy
def qbE(a0:(List yy2))(a1:yy4):Option yy13 :=
 (qae (a0.length:Int) (a0.length:Int) a0 a1).bind λx1 =>
 (qb3 a1).bind λx2 =>
 (qal a1 x2).bind λx3 =>
 (qd3 x1 x3.1).bind λx4 =>
 some x4
def qbV:Entry:=⟨134,[.ty (.sl yt1),.ty yt3],[((.pair I yt5),2)],λx=>qbE x.1 x.2⟩
def qjo:TH:=qbM [] []
theorem qjs:KT qbV qjo [qat,qei,qb9,qak] 40:=λx=>by kernel_rfl
theorem qfq:OT qbV:=entK (qo qdL (qo qjh (qo qe2 (qo qaL qt)))) hJ qjs
def qbF(a0:Int)(a1:Int)(a2:(List yy2))(a3:(List yy2)):Option yy4 :=
 (qF (λ(s2:yy14) =>
   bif decide (s2.1<(a2.length:Int))then
    (qao a3 a0 s2.1).bind λx3 =>
    (qao a2 s2.1 a1).bind λx4 =>
    (qal x3 x4).bind λx5 =>
    (qa4 (s2.2.1,s2.2.2,()) x5).bind λx6 =>
    some (.inl (w64 (s2.1+1),x6.1,x6.2.1))
   else
    some (.inr (s2.2.1,s2.2.2))) (0,0,0)).bind λ(p7:(Int×Int)) =>
 some (p7.1,p7.2,())
def qc2:Entry:=⟨200,[.ty I,.ty I,.ptr (.sl yt1),.ptr (.sl yt1)],[(yt3,0)],λx=>qbF x.1 x.2.1 x.2.2.1 x.2.2.2⟩
def qjp:TH:=qbM [([],200,.block 0,{lv:=[⟨some 0,7,0⟩,⟨some 0,7,1⟩],ps:=[(I,0),(I,0)],D:=⟨67107072⟩,wr:=[⟨0,7⟩]}),
 ([],200,.loop 0,{lv:=[⟨none,11,0⟩,⟨some 0,7,0⟩,⟨some 0,7,1⟩],ps:=[(I,0),(I,0),(I,0)],D:=⟨67107072⟩,wr:=[⟨0,7⟩]})] []
theorem qjt:KT qc2 qjp [qbg,qaY,qak] 40:=λx=>by kernel_rfl
theorem qjw:OT qc2:=entK (qo qcz (qo qcb (qo qaL qt))) hJ qjt
def qaQ(a0:Int)(a1:Int)(a2:(List yy2))(a3:(List yy2)):Option (List yy2) :=
 (mkS ([]:yy2) a0).bind λx1 =>
 bif decide (a0=a0)then
  (qF (λ(s3:yy8) =>
    bif decide (s3.2<(x1.length:Int))then
     (qF (λ(s5:yy8) =>
       bif decide (s5.2<a1)then
        (idx s5.1 s3.2).bind λx6 =>
        (qbF s3.2 s5.2 a2 a3).bind λx7 =>
        (idx s5.1 s3.2).bind λx8 =>
        (app x8 ([x7])).bind λx9 =>
        (idx s5.1 s3.2).bind λx10 =>
        bif decide (s3.2=s3.2)then
         let l11:(List yy2):=List.set s5.1 s3.2.toNat x9
         some (.inl (l11,w64 (s5.2+1)))
        else
         none
       else
        some (.inr s5.1)) (s3.1,0)).bind λ(p12:(List yy2)) =>
     some (.inl (p12,w64 (s3.2+1)))
    else
     some (.inr s3.1)) (x1,0)).bind λ(p13:(List yy2)) =>
  some p13
 else
  none
def qaF:Entry:=⟨143,[.ty I,.ty I,.fn 200 [.p (.sl yt1),.p (.sl yt1)]],[((.sl yt1),2)],λx=>qaQ x.1 x.2.1 x.2.2.1 x.2.2.2⟩
def qd6:TH:=qbM [([],143,.block 0,{lv:=[⟨none,7,0⟩],ps:=[((.sl yt1),2)],D:=⟨68719467392⟩}),
 ([],143,.loop 0,{lv:=[⟨none,7,0⟩,⟨none,14,0⟩],ps:=[((.sl yt1),2),(I,0)],D:=⟨68719467392⟩}),
 ([],143,.block 2,{lv:=[⟨none,7,0⟩],ps:=[((.sl yt1),2)],D:=⟨34359476864⟩}),
 ([],143,.loop 2,{lv:=[⟨none,7,0⟩,⟨none,18,0⟩],ps:=[((.sl yt1),2),(I,0)],D:=⟨34359476864⟩})] []
theorem qd7:KT qaF qd6 [qc2] 40:=λx=>by kernel_rfl
theorem qea:OT qaF:=entK (qo qjw qt) hJ qd7
def qbw(a0:(List yy2))(a1:(List yy2)):Option (List yy2) :=
 (idx a1 0).bind λx1 =>
 (qaQ (a0.length:Int) (x1.length:Int) a1 a0).bind λx2 =>
 some x2
def qbG:Entry:=⟨136,[.ty (.sl yt1),.ty (.sl yt1)],[((.sl yt1),2)],λx=>qbw x.1 x.2⟩
def qk0:TH:=qbM [] []
theorem qk4:KT qbG qk0 [qaF] 40:=λx=>by kernel_rfl
theorem qdX:OT qbG:=entK (qo qea qt) hJ qk4
def qeL(a0:yy6):Option (yy13×Int) :=
 (qfL a0).bind λx1 =>
 bif !(decide (x1.2.2=0))then
  some ((0,[],()),x1.2.2)
 else
  (qbE x1.1.1 x1.2.1).bind λx2 =>
  (qbw x1.1.2.1 x2.2.1).bind λx3 =>
  (qd3 x3 x2.1).bind λx4 =>
  some (x4,0)
def qfw:Entry:=⟨59,[.ty yt12],[((.pair I yt5),2),(I,0)],λx=>qeL x⟩
def qn7:TH:=qbM [] []
theorem qog:KT qfw qn7 [qbV,qbG,qgk,qei] 40:=λx=>by kernel_rfl
theorem qor:OT qfw:=entK (qo qfq (qo qdX (qo qpF (qo qjh qt)))) hJ qog
def qeB(a0:yy2)(a1:yy2):Option Bool :=
 bif !(decide ((a0.length:Int)=(a1.length:Int)))then
  some false
 else
  (qF (λ(s2:Int) =>
    bif decide (s2<(a0.length:Int))then
     (idx a0 s2).bind λx3 =>
     (idx a1 s2).bind λx4 =>
     let v5:Bool:=!(bif decide (x3.1=x4.1)then (bif decide (x3.2.1=x4.2.1)then true else false)else false)
     bif v5 then
      some (.inr (.inr false))
     else
      some (.inl (w64 (s2+1)))
    else
     some (.inr (.inl ()))) 0).bind (Sum.elim (λ(p6:Unit) =>
  some true) some)
def qfN:Entry:=⟨16,[.ty yt1,.ty yt1],[(.bool,0)],λx=>qeB x.1 x.2⟩
def qsr:TH:=qbM [([],16,.block 0,{lv:=[],ps:=[],abn:=true,D:=⟨67106848⟩}),
 ([],16,.loop 0,{lv:=[⟨none,5,0⟩],ps:=[(I,0)],D:=⟨67106848⟩})] []
theorem qsw:KT qfN qsr [] 40:=λx=>by kernel_rfl
theorem qlp:OT qfN:=entK qt hJ qsw
def qb4(a0:(List yy2))(a1:(List yy2)):Option Bool :=
 bif !(decide ((a0.length:Int)=(a1.length:Int)))then
  some false
 else
  (qF (λ(s2:Int) =>
    bif decide (s2<(a0.length:Int))then
     (idx a0 s2).bind λx3 =>
     (idx a1 s2).bind λx4 =>
     (qeB x3 x4).bind λx5 =>
     bif !x5 then
      some (.inr (.inr false))
     else
      some (.inl (w64 (s2+1)))
    else
     some (.inr (.inl ()))) 0).bind (Sum.elim (λ(p6:Unit) =>
  some true) some)
def qeV:Entry:=⟨53,[.ty (.sl yt1),.ty (.sl yt1)],[(.bool,0)],λx=>qb4 x.1 x.2⟩
def qmW:TH:=qbM [([],53,.block 0,{lv:=[],ps:=[],abn:=true,D:=⟨134215712⟩}),
 ([],53,.loop 0,{lv:=[⟨none,5,0⟩],ps:=[(I,0)],D:=⟨134215712⟩})] []
theorem qm8:KT qeV qmW [qfN] 40:=λx=>by kernel_rfl
theorem qnk:OT qeV:=entK (qo qlp qt) hJ qm8
def qdy(a0:yy2):Option (List UInt8) :=
 (qF (λ(s3:((List (List UInt8))×Int)) =>
   bif decide (s3.2<(a0.length:Int))then
    (idx a0 s3.2).bind λx4 =>
    (strconv_Itoa x4.1).bind λx5 =>
    (app x5 ([44])).bind λx6 =>
    (strconv_Itoa x4.2.1).bind λx7 =>
    (app x6 x7).bind λx8 =>
    (app s3.1 ([x8])).bind λx9 =>
    some (.inl (x9,w64 (s3.2+1)))
   else
    some (.inr s3.1)) ([],0)).bind λ(p10:(List (List UInt8))) =>
 (strings_Join p10 ([32])).bind λx11 =>
 some x11
def qeq:Entry:=⟨15,[.ty yt1],[(.str,0)],λx=>qdy x⟩
def qlF:TH:=qbM [([],15,.block 0,{lv:=[⟨none,3,0⟩],ps:=[((.sl .str),1)],D:=⟨16777000⟩,wr:=[⟨0,5⟩]}),
 ([],15,.loop 0,{lv:=[⟨none,3,0⟩,⟨none,8,0⟩],ps:=[((.sl .str),1),(I,0)],D:=⟨16777000⟩,wr:=[⟨0,5⟩],rs:=[⟨0,5⟩],Dn:=⟨16637704⟩})] []
theorem qlO:KT qeq qlF [qd4,qd5] 40:=λx=>by kernel_rfl
theorem qlX:OT qeq:=entK (qo qlr (qo qls qt)) hJ qlO
def qc6(a0:(List yy2)):Option (List UInt8) :=
 (qF (λ(s3:((List (List UInt8))×Int)) =>
   bif decide (s3.2<(a0.length:Int))then
    (idx a0 s3.2).bind λx4 =>
    (qdy x4).bind λx5 =>
    (app s3.1 ([x5])).bind λx6 =>
    some (.inl (x6,w64 (s3.2+1)))
   else
    some (.inr s3.1)) ([],0)).bind λ(p7:(List (List UInt8))) =>
 (strings_Join p7 ([124])).bind λx8 =>
 some x8
def qdP:Entry:=⟨46,[.ty (.sl yt1)],[(.str,0)],λx=>qc6 x⟩
def qkZ:TH:=qbM [([],46,.block 0,{lv:=[⟨none,3,0⟩],ps:=[((.sl .str),1)],D:=⟨261928⟩}),
 ([],46,.loop 0,{lv:=[⟨none,3,0⟩,⟨none,8,0⟩],ps:=[((.sl .str),1),(I,0)],D:=⟨261928⟩})] []
theorem qk3:KT qdP qkZ [qeq,qd5] 40:=λx=>by kernel_rfl
theorem qk8:OT qdP:=entK (qo qlX (qo qls qt)) hJ qk3
def qdB(a0:(List UInt8))(a1:Int):Option (Int×Bool) :=
 (strconv_Atoi a0).bind λx1 =>
 (bif x1.2 then
   (strconv_Itoa x1.1).bind λx2 =>
   bif decide (x2=a0)then
    (strings_TrimPrefix a0 ([45])).bind λx3 =>
    some (x1.1,decide ((x3.length:Int)<=a1))
   else
    some (x1.1,false)
  else
   some (x1.1,false)).bind λ(p4:(Int×Bool)) =>
 some (p4.1,p4.2)
def qjI:Entry:=⟨152,[.ty .str,.ty I],[(I,0),(.bool,0)],λx=>qdB x.1 x.2⟩
def qwj:TH:=qbM [([],152,.region 2,{lv:=[⟨none,4,0⟩,⟨none,5,0⟩],ps:=[(I,0),(.bool,0)],D:=⟨536862768⟩})] []
theorem qwo:KT qjI qwj [qfO,qd4,qcp] 40:=λx=>by kernel_rfl
theorem qwE:OT qjI:=entK (qo qsD (qo qlr (qo qla qt))) hJ qwo
def qhY(a0:(List UInt8))(a1:Int):Option (yy2×Bool) :=
 (qF (λ(s2:(yy2×(List UInt8))) =>
   (strings_Index s2.2 ([32])).bind λx3 =>
   bif decide (x3<0)then
    some (.inr (.inl (s2.1,s2.2)))
   else
    (slc s2.2 0 (w64 (x3+0))).bind λx4 =>
    (strings_Cut x4 ([44])).bind λx5 =>
    (qdB x5.1 a1).bind λx6 =>
    (qdB x5.2.1 a1).bind λx7 =>
    (bif !x5.2.2 then
      some true
     else
      bif !x6.2 then
       some true
      else
       some (!x7.2)).bind λ(p8:Bool) =>
    bif p8 then
     some (.inr (.inr ([],false)))
    else
     (app s2.1 ([(x6.1,x7.1,())])).bind λx9 =>
     (slc s2.2 (w64 (x3+1)) (s2.2.length:Int)).bind λx10 =>
     some (.inl (x9,x10))) ([],a0)).bind (Sum.elim (λ(p11:(yy2×(List UInt8))) =>
 (strings_Cut p11.2 ([44])).bind λx12 =>
 (qdB x12.1 a1).bind λx13 =>
 (qdB x12.2.1 a1).bind λx14 =>
 (bif !x12.2.2 then
   some true
  else
   bif !x13.2 then
    some true
   else
    some (!x14.2)).bind λ(p15:Bool) =>
 bif p15 then
  some ([],false)
 else
  (app p11.1 ([(x13.1,x14.1,())])).bind λx16 =>
  some (x16,true)) some)
def qjH:Entry:=⟨73,[.ty .str,.ty I],[(yt1,2000),(.bool,0)],λx=>qhY x.1 x.2⟩
def qwh:TH:=qbM [([17],237,.block 2,{lv:=[⟨some 0,6,0⟩,⟨some 0,16,0⟩],ps:=[(yt1,1),(.str,0)],abn:=true,D:=⟨562949416550784⟩,wr:=[⟨0,6⟩,⟨0,16⟩]}),
 ([17],237,.loop 2,{lv:=[⟨some 0,6,0⟩,⟨some 0,16,0⟩],ps:=[(yt1,1),(.str,0)],D:=⟨562949416550784⟩,wr:=[⟨0,6⟩,⟨0,16⟩],rs:=[⟨0,17⟩],Dn:=⟨562399660736896⟩}),
 ([41,17],73,.region 7,{lv:=[⟨none,45,0⟩],ps:=[(.bool,0)],D:=⟨70300024700928⟩}),
 ([51,17],73,.region 7,{lv:=[⟨none,45,0⟩],ps:=[(.bool,0)],D:=⟨70300024700928⟩})] []
theorem qwm:KT qjH qwh [qjI,qgA,qdn] 40:=λx=>by kernel_rfl
theorem qwC:OT qjH:=entK (qo qwE (qo quE (qo qj7 qt))) hJ qwm
def qdz(a0:(List UInt8)):Option yy8 :=
 bif decide ((a0.length:Int) > 60000)then
  some ([],8)
 else
  (qF (λ(s2:((List yy2)×(List UInt8))) =>
    (strings_Index s2.2 ([124])).bind λx3 =>
    bif decide (x3<0)then
     some (.inr (.inl (s2.1,s2.2)))
    else
     (slc s2.2 0 (w64 (x3+0))).bind λx4 =>
     (qhY x4 (2:Int)).bind λx5 =>
     bif !x5.2 then
      some (.inr (.inr ([],7)))
     else
      (app s2.1 ([x5.1])).bind λx6 =>
      (slc s2.2 (w64 (x3+1)) (s2.2.length:Int)).bind λx7 =>
      some (.inl (x6,x7))) ([],a0)).bind (Sum.elim (λ(p8:((List yy2)×(List UInt8))) =>
  (qhY p8.2 (2:Int)).bind λx9 =>
  bif !x9.2 then
   some ([],7)
  else
   (app p8.1 ([x9.1])).bind λx10 =>
   (qaW x10).bind λx11 =>
   bif !(decide (x11=0))then
    some ([],x11)
   else
    some (x10,0)) some)
def qer:Entry:=⟨48,[.ty .str],[((.sl yt1),2000),(I,0)],λx=>qdz x⟩
def qlG:TH:=qbM [([14],237,.block 2,{lv:=[⟨some 0,4,0⟩,⟨some 0,13,0⟩],ps:=[((.sl yt1),2001),(.str,0)],abn:=true,D:=⟨562949416550784⟩,wr:=[⟨0,4⟩,⟨0,13⟩]}),
 ([14],237,.loop 2,{lv:=[⟨some 0,4,0⟩,⟨some 0,13,0⟩],ps:=[((.sl yt1),2001),(.str,0)],D:=⟨562949416550784⟩,wr:=[⟨0,4⟩,⟨0,13⟩],rs:=[⟨0,14⟩],Dn:=⟨562399660736896⟩})] []
theorem qlP:KT qer qlG [qjH,qbf,qdn] 40:=λx=>by kernel_rfl
theorem qlY:OT qer:=entK (qo qwC (qo qcy (qo qj7 qt))) hJ qlP
def qcr(a0:(List yy2)):Option (yy13×Int) :=
 (qaW a0).bind λx1 =>
 bif !(decide (x1=0))then
  some ((0,[],()),x1)
 else
  (qW a0).bind λx2 =>
  let v3:Bool:=(bif decide (x2.1=0)then (bif decide (x2.2.1=0)then true else false)else false)
  bif v3 then
   some ((0,[],()),11)
  else
   (qbE a0 x2).bind λx4 =>
   some (x4,0)
def qdE:Entry:=⟨60,[.ty (.sl yt1)],[((.pair I yt5),2),(I,0)],λx=>qcr x⟩
def qn8:TH:=qbM [] []
theorem qoh:KT qdE qn8 [qbf,qbc,qbV] 40:=λx=>by kernel_rfl
theorem qin:OT qdE:=entK (qo qcy (qo qbZ (qo qfq qt))) hJ qoh
def qcc(a0:yy13):Option yy13 :=
 (qP a0.2.1).bind λx1 =>
 some (a0.1,x1,())
def qdQ:Entry:=⟨62,[.ty (.pair I yt5)],[((.pair I yt5),2)],λx=>qcc x⟩
def qk1:TH:=qbM [] []
theorem qk5:KT qdQ qk1 [qbx] 40:=λx=>by kernel_rfl
theorem qk9:OT qdQ:=entK (qo qdc qt) hJ qk5
def qdC(a0:yy13)(a1:Int):Option Int :=
 (qZ a0.1 (1:Int) (100000000000:Int)).bind λx1 =>
 (qp x1 (2:Int)).bind λx2 =>
 (qp (decide ((a0.2.1.length:Int)=a1)) (10:Int)).bind λx3 =>
 (qx ([x2,x3])).bind λx4 =>
 (qF (λ(s6:(Int×Int)) =>
   bif decide (s6.2<(a0.2.1.length:Int))then
    (idx a0.2.1 s6.2).bind λx7 =>
    (qp (decide ((x7.length:Int)=a1)) (10:Int)).bind λx8 =>
    (qx ([s6.1,x8])).bind λx9 =>
    some (.inl (x9,w64 (s6.2+1)))
   else
    some (.inr s6.1)) (x4,0)).bind λ(p10:Int) =>
 bif !(decide (p10=0))then
  some p10
 else
  (qF (λ(s12:(Int×Int)) =>
    bif decide (s12.2<(a0.2.1.length:Int))then
     (idx a0.2.1 s12.2).bind λx13 =>
     (qF (λ(s15:(Int×Int)) =>
       bif decide (s15.2<(x13.length:Int))then
        (idx x13 s15.2).bind λx16 =>
        (qaj x16 (100000000000:Int)).bind λx17 =>
        bif !x17 then
         some (.inr (.inr (.inr (.inr 2))))
        else
         (qas ([s15.1,x16.1,x16.2.1])).bind λx18 =>
         some (.inl (x18,w64 (s15.2+1)))
       else
        some (.inr (.inl s15.1))) (s12.1,0)).bind (Sum.elim (λ(p19:Int) =>
     some (.inl (p19,w64 (s12.2+1)))) some)
    else
     some (.inr (.inl s12.1))) (a0.1,0)).bind (Sum.elim (λ(p20:Int) =>
  (qp (decide (p20=1)) (3:Int)).bind λx21 =>
  some x21) some)
def qes:Entry:=⟨138,[.ty (.pair I yt5),.ty I],[(I,0)],λx=>qdC x.1 x.2⟩
def qlH:TH:=qbM [([],138,.block 0,{lv:=[⟨none,5,0⟩],ps:=[(I,0)],D:=⟨2198754821280⟩}),
 ([],138,.loop 0,{lv:=[⟨none,5,0⟩,⟨none,28,0⟩],ps:=[(I,0),(I,0)],D:=⟨2198754821280⟩}),
 ([],138,.block 2,{lv:=[⟨none,8,0⟩],ps:=[(I,0)],abn:=true,D:=⟨2361182678484869191040⟩,wr:=[⟨0,12⟩]}),
 ([],138,.loop 2,{lv:=[⟨none,8,0⟩,⟨none,49,0⟩],ps:=[(I,0),(I,0)],D:=⟨2361182678484869191040⟩,wr:=[⟨0,12⟩]}),
 ([],138,.block 4,{lv:=[⟨none,8,0⟩],ps:=[(I,0)],abn:=true,D:=⟨1180555591920392344960⟩,wr:=[⟨0,12⟩]}),
 ([],138,.loop 4,{lv:=[⟨none,8,0⟩,⟨none,55,0⟩],ps:=[(I,0),(I,0)],D:=⟨1180555591920392344960⟩,wr:=[⟨0,12⟩],rs:=[⟨0,12⟩],Dn:=⟨1134438731736118461824⟩})] []
theorem qlQ:KT qes qlH [qcs,qaX,qbo,qaq,qcf] 40:=λx=>by kernel_rfl
theorem qlZ:OT qes:=entK (qo qe1 (qo qbJ (qo qci (qo qbu (qo qeb qt))))) hJ qlQ
def qf4(a0:Int)(a1:Int):Option yy4 :=
 bif decide (a0=a1)then
  some (1,0,())
 else
  some (0,0,())
def qhO:Entry:=⟨202,[.ty I,.ty I],[(yt3,0)],λx=>qf4 x.1 x.2⟩
def qst:TH:=qbM [] []
theorem qsy:KT qhO qst [] 40:=λx=>by kernel_rfl
theorem qsC:OT qhO:=entK qt hJ qsy
def qbb(a0:Int)(a1:Int):Option (List yy2) :=
 (mkS ([]:yy2) a0).bind λx1 =>
 bif decide (a0=a0)then
  (qF (λ(s3:yy8) =>
    bif decide (s3.2<(x1.length:Int))then
     (qF (λ(s5:yy8) =>
       bif decide (s5.2<a1)then
        (idx s5.1 s3.2).bind λx6 =>
        (qf4 s3.2 s5.2).bind λx7 =>
        (idx s5.1 s3.2).bind λx8 =>
        (app x8 ([x7])).bind λx9 =>
        (idx s5.1 s3.2).bind λx10 =>
        bif decide (s3.2=s3.2)then
         let l11:(List yy2):=List.set s5.1 s3.2.toNat x9
         some (.inl (l11,w64 (s5.2+1)))
        else
         none
       else
        some (.inr s5.1)) (s3.1,0)).bind λ(p12:(List yy2)) =>
     some (.inl (p12,w64 (s3.2+1)))
    else
     some (.inr s3.1)) (x1,0)).bind λ(p13:(List yy2)) =>
  some p13
 else
  none
def qbI:Entry:=⟨143,[.ty I,.ty I,.fn 202 []],[((.sl yt1),2)],λx=>qbb x.1 x.2.1⟩
def qgD:TH:=qbM [([],143,.block 0,{lv:=[⟨none,7,0⟩],ps:=[((.sl yt1),2)],D:=⟨68719467392⟩}),
 ([],143,.loop 0,{lv:=[⟨none,7,0⟩,⟨none,14,0⟩],ps:=[((.sl yt1),2),(I,0)],D:=⟨68719467392⟩}),
 ([],143,.block 2,{lv:=[⟨none,7,0⟩],ps:=[((.sl yt1),2)],D:=⟨34359476864⟩}),
 ([],143,.loop 2,{lv:=[⟨none,7,0⟩,⟨none,18,0⟩],ps:=[((.sl yt1),2),(I,0)],D:=⟨34359476864⟩})] []
theorem qgE:KT qbI qgD [qhO] 40:=λx=>by kernel_rfl
theorem qgG:OT qbI:=entK (qo qsC qt) hJ qgE
def qhZ(a0:Int):Option (List yy2) :=
 (qbb a0 a0).bind λx1 =>
 some x1
def qhv:Entry:=⟨140,[.ty I],[((.sl yt1),2)],λx=>qhZ x⟩
def qwk:TH:=qbM [] []
theorem qwp:KT qhv qwk [qbI] 40:=λx=>by kernel_rfl
theorem qpb:OT qhv:=entK (qo qgG qt) hJ qwp
def qbt(a0:Int)(a1:Int)(a2:(List yy2))(a3:Int):Option yy4 :=
 (qao a2 a0 a1).bind λx1 =>
 (qal x1 (a3,0,())).bind λx2 =>
 some x2
def qcO:Entry:=⟨203,[.ty I,.ty I,.ptr (.sl yt1),.ptr I],[(yt3,0)],λx=>qbt x.1 x.2.1 x.2.2.1 x.2.2.2⟩
def qiP:TH:=qbM [] []
theorem qiR:KT qcO qiP [qbg,qak] 40:=λx=>by kernel_rfl
theorem qi3:OT qcO:=entK (qo qcz (qo qaL qt)) hJ qiR
def qai(a0:Int)(a1:Int)(a2:(List yy2))(a3:Int):Option (List yy2) :=
 (mkS ([]:yy2) a0).bind λx1 =>
 bif decide (a0=a0)then
  (qF (λ(s3:yy8) =>
    bif decide (s3.2<(x1.length:Int))then
     (qF (λ(s5:yy8) =>
       bif decide (s5.2<a1)then
        (idx s5.1 s3.2).bind λx6 =>
        (qbt s3.2 s5.2 a2 a3).bind λx7 =>
        (idx s5.1 s3.2).bind λx8 =>
        (app x8 ([x7])).bind λx9 =>
        (idx s5.1 s3.2).bind λx10 =>
        bif decide (s3.2=s3.2)then
         let l11:(List yy2):=List.set s5.1 s3.2.toNat x9
         some (.inl (l11,w64 (s5.2+1)))
        else
         none
       else
        some (.inr s5.1)) (s3.1,0)).bind λ(p12:(List yy2)) =>
     some (.inl (p12,w64 (s3.2+1)))
    else
     some (.inr s3.1)) (x1,0)).bind λ(p13:(List yy2)) =>
  some p13
 else
  none
def qaB:Entry:=⟨143,[.ty I,.ty I,.fn 203 [.p (.sl yt1),.p I]],[((.sl yt1),2)],λx=>qai x.1 x.2.1 x.2.2.1 x.2.2.2⟩
def qdS:TH:=qbM [([],143,.block 0,{lv:=[⟨none,7,0⟩],ps:=[((.sl yt1),2)],D:=⟨68719467392⟩}),
 ([],143,.loop 0,{lv:=[⟨none,7,0⟩,⟨none,14,0⟩],ps:=[((.sl yt1),2),(I,0)],D:=⟨68719467392⟩}),
 ([],143,.block 2,{lv:=[⟨none,7,0⟩],ps:=[((.sl yt1),2)],D:=⟨34359476864⟩}),
 ([],143,.loop 2,{lv:=[⟨none,7,0⟩,⟨none,18,0⟩],ps:=[((.sl yt1),2),(I,0)],D:=⟨34359476864⟩})] []
theorem qdU:KT qaB qdS [qcO] 40:=λx=>by kernel_rfl
theorem qdW:OT qaB:=entK (qo qi3 qt) hJ qdU
def qaH(a0:(List yy2))(a1:Int):Option (List yy2) :=
 (idx a0 0).bind λx1 =>
 (qai (a0.length:Int) (x1.length:Int) a0 a1).bind λx2 =>
 some x2
def qb8:Entry:=⟨141,[.ty (.sl yt1),.ty I],[((.sl yt1),2)],λx=>qaH x.1 x.2⟩
def qjR:TH:=qbM [] []
theorem qjW:KT qb8 qjR [qaB] 40:=λx=>by kernel_rfl
theorem qf9:OT qb8:=entK (qo qdW qt) hJ qjW
def qan(a0:yy2)(a1:yy2):Option Bool :=
 bif !(decide ((a0.length:Int)=(a1.length:Int)))then
  some false
 else
  (qF (λ(s2:Int) =>
    bif decide (s2<(a0.length:Int))then
     (idx a0 s2).bind λx3 =>
     (idx a1 s2).bind λx4 =>
     let v5:Bool:=!(bif decide (x3.1=x4.1)then (bif decide (x3.2.1=x4.2.1)then true else false)else false)
     bif v5 then
      some (.inr (.inr false))
     else
      some (.inl (w64 (s2+1)))
    else
     some (.inr (.inl ()))) 0).bind (Sum.elim (λ(p6:Unit) =>
  some true) some)
def qaJ:Entry:=⟨201,[.ty yt1,.ty yt1],[(.bool,0)],λx=>qan x.1 x.2⟩
def qex:TH:=qbM [([],201,.block 0,{lv:=[],ps:=[],abn:=true,D:=⟨67100704⟩}),
 ([],201,.loop 0,{lv:=[⟨none,13,0⟩],ps:=[(I,0)],D:=⟨67100704⟩})] []
theorem qey:KT qaJ qex [] 40:=λx=>by kernel_rfl
theorem qez:OT qaJ:=entK qt hJ qey
def qgy(a0:(List yy2))(a1:(List yy2)):Option (Int×Bool) :=
 (qF (λ(s2:Int) =>
   bif decide (s2<(a0.length:Int))then
    (idx a0 s2).bind λx3 =>
    (idx a1 s2).bind λx4 =>
    (qan x3 x4).bind λx5 =>
    bif !x5 then
     some (.inr (.inr (s2,true)))
    else
     some (.inl (w64 (s2+1)))
   else
    some (.inr (.inl ()))) 0).bind (Sum.elim (λ(p6:Unit) =>
 some (0,false)) some)
def qgV:Entry:=⟨139,[.ty (.sl yt1),.ty (.sl yt1)],[(I,0),(.bool,0)],λx=>qgy x.1 x.2⟩
def qqT:TH:=qbM [([],139,.block 0,{lv:=[],ps:=[],abn:=true,D:=⟨16776384⟩}),
 ([],139,.loop 0,{lv:=[⟨none,10,0⟩],ps:=[(I,0)],D:=⟨16776384⟩})] []
theorem qq4:KT qgV qqT [qaJ] 40:=λx=>by kernel_rfl
theorem qrv:OT qgV:=entK (qo qez qt) hJ qq4
def qb7(a0:(List yy2))(a1:yy13):Option (Int×Int) :=
 (qaW a0).bind λx1 =>
 bif !(decide (x1=0))then
  some (0,x1)
 else
  (qdC a1 (a0.length:Int)).bind λx2 =>
  bif !(decide (x2=0))then
   some (0,x2)
  else
   (qbw a0 a1.2.1).bind λx3 =>
   (qhZ (a0.length:Int)).bind λx4 =>
   (qaH x4 a1.1).bind λx5 =>
   (qgy x3 x5).bind λx6 =>
   bif x6.2 then
    some (x6.1,19)
   else
    some (0,0)
def qdO:Entry:=⟨61,[.ty (.sl yt1),.ty (.pair I yt5)],[(I,0),(I,0)],λx=>qb7 x.1 x.2⟩
def qkY:TH:=qbM [] []
theorem qk2:KT qdO qkY [qgV,qbf,qb8,qbG,qes,qhv] 40:=λx=>by kernel_rfl
theorem qk7:OT qdO:=entK (qo qrv (qo qcy (qo qf9 (qo qdX (qo qlZ (qo qpb qt)))))) hJ qk2
def qcS(a0:yy9):Option yy9 :=
 (qP a0.1).bind λx1 =>
 (qP a0.2.1).bind λx2 =>
 some (x1,x2,a0.2.2.1,a0.2.2.2.1,a0.2.2.2.2.1,())
def qgW:Entry:=⟨12,[.ty yt10],[(yt10,0)],λx=>qcS x⟩
def qqY:TH:=qbM [] []
theorem qq9:KT qgW qqY [qbx] 40:=λx=>by kernel_rfl
theorem qrw:OT qgW:=entK (qo qdc qt) hJ qq9
def qcL(a0:yy9):Option (yy11×Int) :=
 (qaW a0.1).bind λx1 =>
 (qaW a0.2.1).bind λx2 =>
 (qp (decide ((a0.1.length:Int)=(a0.2.1.length:Int))) (13:Int)).bind λx3 =>
 (qx ([x1,x2,x3])).bind λx4 =>
 bif !(decide (x4=0))then
  some (([],[],0,0,0,0,[],()),x4)
 else
  (qcr a0.2.1).bind λx5 =>
  (bif decide (a0.2.2.2.1 > 0)then
    (qas ([a0.2.2.1,a0.2.2.2.1])).bind λx6 =>
    (qp (decide (x6=1)) (3:Int)).bind λx7 =>
    (qZ a0.2.2.1 (0:Int) a0.2.2.2.1).bind λx8 =>
    bif x8 then
     (qp (decide (a0.2.2.2.1<=100)) (2:Int)).bind λx9 =>
     (qZ a0.2.2.2.2.1 (0:Int) (1000:Int)).bind λx10 =>
     (qp x10 (2:Int)).bind λx11 =>
     (qx ([x5.2,x7,x9,x11])).bind λx12 =>
     some x12
    else
     (qp false (2:Int)).bind λx13 =>
     (qZ a0.2.2.2.2.1 (0:Int) (1000:Int)).bind λx14 =>
     (qp x14 (2:Int)).bind λx15 =>
     (qx ([x5.2,x7,x13,x15])).bind λx16 =>
     some x16
   else
    (qp false (3:Int)).bind λx17 =>
    (qZ a0.2.2.1 (0:Int) a0.2.2.2.1).bind λx18 =>
    bif x18 then
     (qp (decide (a0.2.2.2.1<=100)) (2:Int)).bind λx19 =>
     (qZ a0.2.2.2.2.1 (0:Int) (1000:Int)).bind λx20 =>
     (qp x20 (2:Int)).bind λx21 =>
     (qx ([x5.2,x17,x19,x21])).bind λx22 =>
     some x22
    else
     (qp false (2:Int)).bind λx23 =>
     (qZ a0.2.2.2.2.1 (0:Int) (1000:Int)).bind λx24 =>
     (qp x24 (2:Int)).bind λx25 =>
     (qx ([x5.2,x17,x23,x25])).bind λx26 =>
     some x26).bind λ(p27:Int) =>
  some ((a0.1,a0.2.1,a0.2.2.1,a0.2.2.2.1,a0.2.2.2.2.1,x5.1.1,x5.1.2.1,()),p27)
def qeP:Entry:=⟨142,[.ty yt10],[(yt7,2000),(I,0)],λx=>qcL x⟩
def qqX:TH:=qbM [([],142,.region 6,{lv:=[⟨none,6,0⟩],ps:=[(I,0)],D:=⟨147573952520956936256⟩,rs:=[⟨0,1⟩,⟨0,7⟩],Dn:=⟨145190411285615870016⟩})] []
theorem qq8:KT qeP qqX [qdE,qcs,qaX,qbf,qbo,qcf] 40:=λx=>by kernel_rfl
theorem qj6:OT qeP:=entK (qo qin (qo qe1 (qo qbJ (qo qcy (qo qci (qo qeb qt)))))) hJ qq8
def qbs(a0:Int)(a1:Int)(a2:(List yy2))(a3:(List yy2)):Option yy4 :=
 (qao a2 a0 a1).bind λx1 =>
 (qao a3 a0 a1).bind λx2 =>
 (qY x1 x2).bind λx3 =>
 some x3
def qcN:Entry:=⟨144,[.ty I,.ty I,.ptr (.sl yt1),.ptr (.sl yt1)],[(yt3,0)],λx=>qbs x.1 x.2.1 x.2.2.1 x.2.2.2⟩
def qiO:TH:=qbM [] []
theorem qiQ:KT qcN qiO [qbg,qaI] 40:=λx=>by kernel_rfl
theorem qi2:OT qcN:=entK (qo qcz (qo qbS qt)) hJ qiQ
def qah(a0:Int)(a1:Int)(a2:(List yy2))(a3:(List yy2)):Option (List yy2) :=
 (mkS ([]:yy2) a0).bind λx1 =>
 bif decide (a0=a0)then
  (qF (λ(s3:yy8) =>
    bif decide (s3.2<(x1.length:Int))then
     (qF (λ(s5:yy8) =>
       bif decide (s5.2<a1)then
        (idx s5.1 s3.2).bind λx6 =>
        (qbs s3.2 s5.2 a2 a3).bind λx7 =>
        (idx s5.1 s3.2).bind λx8 =>
        (app x8 ([x7])).bind λx9 =>
        (idx s5.1 s3.2).bind λx10 =>
        bif decide (s3.2=s3.2)then
         let l11:(List yy2):=List.set s5.1 s3.2.toNat x9
         some (.inl (l11,w64 (s5.2+1)))
        else
         none
       else
        some (.inr s5.1)) (s3.1,0)).bind λ(p12:(List yy2)) =>
     some (.inl (p12,w64 (s3.2+1)))
    else
     some (.inr s3.1)) (x1,0)).bind λ(p13:(List yy2)) =>
  some p13
 else
  none
def qaA:Entry:=⟨143,[.ty I,.ty I,.fn 144 [.p (.sl yt1),.p (.sl yt1)]],[((.sl yt1),2)],λx=>qah x.1 x.2.1 x.2.2.1 x.2.2.2⟩
def qdR:TH:=qbM [([],143,.block 0,{lv:=[⟨none,7,0⟩],ps:=[((.sl yt1),2)],D:=⟨68719467392⟩}),
 ([],143,.loop 0,{lv:=[⟨none,7,0⟩,⟨none,14,0⟩],ps:=[((.sl yt1),2),(I,0)],D:=⟨68719467392⟩}),
 ([],143,.block 2,{lv:=[⟨none,7,0⟩],ps:=[((.sl yt1),2)],D:=⟨34359476864⟩}),
 ([],143,.loop 2,{lv:=[⟨none,7,0⟩,⟨none,18,0⟩],ps:=[((.sl yt1),2),(I,0)],D:=⟨34359476864⟩})] []
theorem qdT:KT qaA qdR [qcN] 40:=λx=>by kernel_rfl
theorem qdV:OT qaA:=entK (qo qi2 qt) hJ qdT
def qeh(a0:yy4):Option Int :=
 some (w64 ((max a0.1 (w64 (0-a0.1)))+(max a0.2.1 (w64 (0-a0.2.1)))))
def qeT:Entry:=⟨204,[.ty yt3],[(I,0)],λx=>qeh x⟩
def qmT:TH:=qbM [] []
theorem qm5:KT qeT qmT [] 40:=λx=>by kernel_rfl
theorem qni:OT qeT:=entK qt hJ qm5
def qcK(a0:(List yy2)):Option Int :=
 (qF (λ(s2:(Int×Int)) =>
   bif decide (s2.2<(a0.length:Int))then
    (idx a0 s2.2).bind λx3 =>
    (qF (λ(s5:(Int×Int)) =>
      bif decide (s5.2<(x3.length:Int))then
       (qao a0 s2.2 s5.2).bind λx6 =>
       (qeh x6).bind λx7 =>
       some (.inl (w64 (s5.1+x7),w64 (s5.2+1)))
      else
       some (.inr s5.1)) (0,0)).bind λ(p8:Int) =>
    some (.inl (max s2.1 p8,w64 (s2.2+1)))
   else
    some (.inr s2.1)) (0,0)).bind λ(p9:Int) =>
 some p9
def qdl:Entry:=⟨147,[.ty (.sl yt1)],[(I,0)],λx=>qcK x⟩
def qjQ:TH:=qbM [([],147,.block 0,{lv:=[⟨none,3,0⟩],ps:=[(I,0)],D:=⟨4294966520⟩}),
 ([],147,.loop 0,{lv:=[⟨none,3,0⟩,⟨none,10,0⟩],ps:=[(I,0),(I,0)],D:=⟨4294966520⟩}),
 ([],147,.block 2,{lv:=[⟨none,6,0⟩],ps:=[(I,0)],D:=⟨268304608⟩}),
 ([],147,.loop 2,{lv:=[⟨none,6,0⟩,⟨none,17,0⟩],ps:=[(I,0),(I,0)],D:=⟨268304608⟩})] []
theorem qjV:KT qdl qjQ [qbg,qeT] 40:=λx=>by kernel_rfl
theorem qj5:OT qdl:=entK (qo qcz (qo qni qt)) hJ qjV
def qiF(a0:Int)(a1:Int):Option (yy4×Int) :=
 (qas ([a0,a1])).bind λx1 =>
 bif decide (x1=0)then
  none
 else
  bif decide (x1=0)then
   none
  else
   ((qdA (w64 (a0.tdiv x1)) (1000000000:Int)).bind λx2 =>
    bif !x2 then
     some true
    else
     some (decide (w64 (a1.tdiv x1) > 1000000000))).bind λ(p3:Bool) =>
   bif p3 then
    some ((0,0,()),8)
   else
    some ((w64 (a0.tdiv x1),w64 (a1.tdiv x1),()),0)
def qiK:Entry:=⟨146,[.ty I,.ty I],[(yt3,0),(I,0)],λx=>qiF x.1 x.2⟩
def qun:TH:=qbM [([],146,.region 3,{lv:=[⟨none,27,0⟩],ps:=[(.bool,0)],D:=⟨267911168⟩,rs:=[⟨0,7⟩],Dn:=⟨250609664⟩})] []
theorem qus:KT qiK qun [qcs,qeO] 40:=λx=>by kernel_rfl
theorem quD:OT qiK:=entK (qo qe1 (qo qj4 qt)) hJ qus
def qbO(a0:yy9):Option (yy4×Int) :=
 (qcL a0).bind λx1 =>
 bif !(decide (x1.2=0))then
  some ((0,0,()),x1.2)
 else
  (qhZ (a0.1.length:Int)).bind λx2 =>
  (qaH x2 (w64 (x1.1.2.2.2.1*x1.1.2.2.2.2.2.1))).bind λx3 =>
  (qbw a0.1 x1.1.2.2.2.2.2.2.1).bind λx4 =>
  (qaH x4 x1.1.2.2.1).bind λx5 =>
  (qah (x3.length:Int) (x3.length:Int) x3 x5).bind λx6 =>
  (qcK x6).bind λx7 =>
  (qiF x7 (w64 (x1.1.2.2.2.1*x1.1.2.2.2.2.2.1))).bind λx8 =>
  some (x8.1,x8.2)
def qdj:Entry:=⟨63,[.ty yt10],[(yt3,0),(I,0)],λx=>qbO x⟩
def qjP:TH:=qbM [] []
theorem qjU:KT qdj qjP [qaA,qdl,qb8,qbG,qeP,qiK,qhv] 40:=λx=>by kernel_rfl
theorem qj3:OT qdj:=entK (qo qdV (qo qj5 (qo qf9 (qo qdX (qo qj6 (qo quD (qo qpb qt))))))) hJ qjU
def qb1(a0:yy9)(a1:yy2)(a2:yy2):Option (yy11×Int) :=
 (qcL a0).bind λx1 =>
 (qcJ a1 (a0.1.length:Int)).bind λx2 =>
 (qcJ a2 (a0.1.length:Int)).bind λx3 =>
 (qx ([x1.2,x2,x3])).bind λx4 =>
 some (x1.1,x4)
def qc8:Entry:=⟨68,[.ty yt10,.ty yt1,.ty yt1],[(yt7,0),(I,0)],λx=>qb1 x.1 x.2.1 x.2.2⟩
def qmN:TH:=qbM [] []
theorem qmZ:KT qc8 qmN [qaX,qdk,qeP] 40:=λx=>by kernel_rfl
theorem qhD:OT qc8:=entK (qo qbJ (qo qhb (qo qj6 qt))) hJ qmZ
def qA(a0:yy2)(a1:yy2):Option yy15 :=
 (qF (λ(s2:(Int×yy15)) =>
   bif decide (s2.1<(a0.length:Int))then
    (idx a0 s2.1).bind λx3 =>
    (idx a1 s2.1).bind λx4 =>
    (app s2.2 ([(x3.1,x3.2.1,x4.1,x4.2.1,())])).bind λx5 =>
    some (.inl (w64 (s2.1+1),x5))
   else
    some (.inr s2.2)) (0,[])).bind λ(p6:yy15) =>
 some p6
def q4:Entry:=⟨80,[.fn 161 [.p yt1,.p yt1]],[((.sl (.pair I (.pair I yt3))),1)],λx=>qA x.1 x.2⟩
def qcg:TH:=qbM [([7,4],161,.block 0,{lv:=[⟨some 0,2,0⟩],ps:=[((.sl (.pair I (.pair I yt3))),1)],D:=⟨8388400⟩,wr:=[⟨0,2⟩,⟨1,5⟩]}),
 ([7,4],161,.loop 0,{lv:=[⟨none,8,0⟩,⟨some 0,2,0⟩],ps:=[(I,0),((.sl (.pair I (.pair I yt3))),1)],D:=⟨8388400⟩,wr:=[⟨0,2⟩,⟨1,5⟩],rs:=[⟨0,7⟩,⟨1,5⟩],Dn:=⟨8380176⟩})] [([],80,4)]
theorem qch:KT q4 qcg [] 40:=λx=>by kernel_rfl
theorem qcj:OT q4:=entK qt hJ qch
def qf2(n:Nat):Int->Int->Option Int :=
 Nat.rec (motive:=λ_=>Int->Int->Option Int) (λ_ _=>none) (λ_ ih a0 a1 =>
 bif decide (a0<0)then
  (ih (w64 (0-a0)) a1).bind λx1 =>
  some (w64 (0-x1))
 else
  bif decide (a1=0)then
   none
  else
   bif decide (a1=0)then
    none
   else
    (bif decide (a0.tmod a1 > w64 (a1-(a0.tmod a1)))then
      some (w64 ((w64 (a0.tdiv a1))+1))
     else
      some (w64 (a0.tdiv a1))).bind λ(p2:Int) =>
    some p2) n
def qkx:Int->Int->Option Int:=qf2 12
def qo2:Entry:=⟨206,[.ty I,.ty I],[(I,0)],λx=>qkx x.1 x.2⟩
def qwi:TH:=qbM [([],206,.cond 24,{lv:=[⟨none,5,0⟩],ps:=[(I,0)],D:=⟨100663328⟩})] []
def qc1(n:Nat):Entry:=⟨206,[.ty I,.ty I],[(I,0)],λx=>qf2 n x.1 x.2⟩
theorem qwn(n:Nat)(x:denP (qc1 (n+1)).ps):fnT Tryz.prog Hn.hints qwi (qz6 [(qc1 n)]) 40 206 (qhm (qc1 (n+1)).ps x) (qc1 (n+1)).rs=(qc1 (n+1)).F x:=by kernel_rfl
theorem qlq:∀n,qce Tryz.prog Hn.hints Lb (qc1 n)
 |0=>λx y h=>by cases (show none=some y from h)
 |n+1=>qpT (qo (qlq n) qt) hJ 40 _ _ _ _ (qwn n)
theorem qwD:qce Tryz.prog Hn.hints Lb qo2:=qlq 12
def qbe(a0:Int)(a1:yy11):Option Int :=
 (qkx (w64 (a0*a1.2.2.1)) (w64 (a1.2.2.2.2.2.1*a1.2.2.2.1))).bind λx1 =>
 some (min (max x1 (w64 (0-a1.2.2.2.2.1))) a1.2.2.2.2.1)
def qcu:Entry:=⟨205,[.ty I,.ptr yt7],[(I,0)],λx=>qbe x.1 x.2⟩
def qia:TH:=qbM [] []
theorem qid:KT qcu qia [qo2] 40:=λx=>by kernel_rfl
theorem qip:OT qcu:=entK (qo qwD qt) hJ qid
def qco(a0:yy11)(a1:yy2)(a2:yy2):Option yy2 :=
 (qbn a0.1 a2).bind λx1 =>
 (qF (λ(s3:(yy2×Int)) =>
   bif decide (s3.2<(a1.length:Int))then
    (idx a1 s3.2).bind λx4 =>
    (idx s3.1 s3.2).bind λx5 =>
    (qY x4 x5).bind λx6 =>
    (idx s3.1 s3.2).bind λx7 =>
    (idx s3.1 s3.2).bind λx8 =>
    let l9:yy2:=List.set s3.1 s3.2.toNat x6
    some (.inl (l9,w64 (s3.2+1)))
   else
    some (.inr s3.1)) (x1,0)).bind λ(p10:yy2) =>
 (qF (λ(s13:(yy2×Int)) =>
   bif decide (s13.2<(a0.2.2.2.2.2.2.1.length:Int))then
    (idx a0.2.2.2.2.2.2.1 s13.2).bind λx14 =>
    (qF (λ(s16:yy14) =>
      bif decide (s16.1<(x14.length:Int))then
       (idx x14 s16.1).bind λx17 =>
       (idx p10 s16.1).bind λx18 =>
       (qal x17 x18).bind λx19 =>
       (qa4 (s16.2.1,s16.2.2,()) x19).bind λx20 =>
       some (.inl (w64 (s16.1+1),x20.1,x20.2.1))
      else
       some (.inr (s16.2.1,s16.2.2))) (0,0,0)).bind λ(p21:(Int×Int)) =>
    (qbe p21.1 a0).bind λx22 =>
    (qbe p21.2 a0).bind λx23 =>
    (app s13.1 ([(x22,x23,())])).bind λx24 =>
    some (.inl (x24,w64 (s13.2+1)))
   else
    some (.inr s13.1)) ([],0)).bind λ(p25:yy2) =>
 some p25
def qc3:Entry:=⟨149,[.ty yt7,.ty yt1,.ty yt1],[(yt1,1)],λx=>qco x.1 x.2.1 x.2.2⟩
def qjr:TH:=qbM [([],149,.block 0,{lv:=[⟨none,7,0⟩],ps:=[(yt1,1)],D:=⟨549741225856⟩,wr:=[⟨0,9⟩]}),
 ([],149,.loop 0,{lv:=[⟨none,7,0⟩,⟨none,24,0⟩],ps:=[(yt1,1),(I,0)],D:=⟨549741225856⟩,wr:=[⟨0,9⟩],rs:=[⟨0,9⟩],Dn:=⟨549741225344⟩}),
 ([],149,.block 2,{lv:=[⟨none,10,0⟩],ps:=[(yt1,1)],D:=⟨151115727434236460918272⟩,wr:=[⟨0,9⟩,⟨0,14⟩,⟨0,16⟩]}),
 ([],149,.loop 2,{lv:=[⟨none,10,0⟩,⟨none,44,0⟩],ps:=[(yt1,1),(I,0)],D:=⟨151115727434236460918272⟩,wr:=[⟨0,9⟩,⟨0,14⟩,⟨0,16⟩],rs:=[⟨0,3⟩,⟨0,14⟩],Dn:=⟨149234159538718086637056⟩}),
 ([],149,.block 4,{lv:=[⟨some 0,14,0⟩,⟨some 0,14,1⟩],ps:=[(I,0),(I,0)],D:=⟨18445618173802816000⟩,wr:=[⟨0,14⟩,⟨0,16⟩]}),
 ([],149,.loop 4,{lv:=[⟨none,50,0⟩,⟨some 0,14,0⟩,⟨some 0,14,1⟩],ps:=[(I,0),(I,0),(I,0)],D:=⟨18445618173802816000⟩,wr:=[⟨0,14⟩,⟨0,16⟩],rs:=[⟨0,16⟩],Dn:=⟨18445618173802750464⟩})] []
theorem qjv:KT qc3 qjr [qcY,qcu,qaI,qaY,qak] 40:=λx=>by kernel_rfl
theorem qjx:OT qc3:=entK (qo qgo (qo qip (qo qbS (qo qcb (qo qaL qt))))) hJ qjv
def qbP(a0:yy11)(a1:yy2)(a2:yy2):Option (yy2×Int) :=
 (qco a0 a1 a2).bind λx1 =>
 (qF (λ(s3:(yy2×Int)) =>
   bif decide (s3.2<(a2.length:Int))then
    (idx a2 s3.2).bind λx4 =>
    (idx s3.1 s3.2).bind λx5 =>
    (qa4 x5 x4).bind λx6 =>
    (idx s3.1 s3.2).bind λx7 =>
    (idx s3.1 s3.2).bind λx8 =>
    let l9:yy2:=List.set s3.1 s3.2.toNat x6
    some (.inl (l9,w64 (s3.2+1)))
   else
    some (.inr s3.1)) (x1,0)).bind λ(p10:yy2) =>
 (qcJ p10 (p10.length:Int)).bind λx11 =>
 bif !(decide (x11=0))then
  some ([],22)
 else
  some (p10,0)
def qdF:Entry:=⟨72,[.ty yt7,.ty yt1,.ty yt1],[(yt1,1),(I,0)],λx=>qbP x.1 x.2.1 x.2.2⟩
def qod:TH:=qbM [([],72,.block 0,{lv:=[⟨none,8,0⟩],ps:=[(yt1,1)],D:=⟨4294854400⟩,wr:=[⟨0,10⟩]}),
 ([],72,.loop 0,{lv:=[⟨none,8,0⟩,⟨none,17,0⟩],ps:=[(yt1,1),(I,0)],D:=⟨4294854400⟩,wr:=[⟨0,10⟩],rs:=[⟨0,10⟩],Dn:=⟨4294853376⟩})] []
theorem qom:KT qdF qod [qdk,qc3,qaY] 40:=λx=>by kernel_rfl
theorem qiq:OT qdF:=entK (qo qhb (qo qjx (qo qcb qt))) hJ qom
def qdh(a0:yy9)(a1:yy2)(a2:yy2)(a3:Int):Option (Int×Int) :=
 (qb1 a0 a1 a2).bind λx1 =>
 (qZ a3 (0:Int) (10000:Int)).bind λx2 =>
 (qp x2 (2:Int)).bind λx3 =>
 (qx ([x1.2,x3])).bind λx4 =>
 bif !(decide (x4=0))then
  some (0,x4)
 else
  (qF (λ(s7:(yy2×Int)) =>
    (qbn a0.1 s7.1).bind λx8 =>
    (qA a1 x8).bind λx9 =>
    ((qF (λ(s11:Int) =>
       bif decide (s11<(x9.length:Int))then
        (idx x9 s11).bind λx12 =>
        (qY (x12.1,x12.2.1,()) (x12.2.2.1,x12.2.2.2.1,())).bind λx13 =>
        (qaj x13 a3).bind λx14 =>
        bif !x14 then
         some (.inr (.inr s11))
        else
         some (.inl (w64 (s11+1)))
       else
        some (.inr (.inl ()))) 0).bind (Sum.elim (λ(p15:Unit) =>
     some (-1)) some)).bind λ(p16:Int) =>
    bif !(decide (p16>=0))then
     some (.inr (.inr (s7.2,0)))
    else
     bif decide (s7.2=20)then
      some (.inr (.inr (0,12)))
     else
      (qbP x1.1 a1 s7.1).bind λx17 =>
      bif !(decide (x17.2=0))then
       some (.inr (.inr (0,x17.2)))
      else
       some (.inl (x17.1,w64 (s7.2+1)))) (a2,0)).bind (Sum.elim (λ(p18:Unit) =>
  some (0,0)) some)
def qfx:Entry:=⟨20,[.ty yt10,.ty yt1,.ty yt1,.ty I],[(I,0),(I,0)],λx=>qdh x.1 x.2.1 x.2.2.1 x.2.2.2⟩
def qn9:TH:=qbM [([],20,.block 0,{lv:=[],ps:=[],abn:=true,D:=⟨0⟩}),
 ([],20,.loop 0,{lv:=[⟨none,2,0⟩,⟨none,12,0⟩],ps:=[(yt1,2000),(I,0)],D:=⟨1152921502459394052⟩,rs:=[⟨0,4⟩,⟨0,7⟩],Dn:=⟨1152919294846203908⟩}),
 ([7,42],159,.inl 0,{lv:=[⟨none,4,0⟩],ps:=[(I,0)],D:=⟨524272⟩,rs:=[⟨0,7⟩],Dn:=⟨522224⟩}),
 ([7,42],159,.block 0,{lv:=[],ps:=[],abn:=true,D:=⟨524064⟩}),
 ([7,42],159,.loop 0,{lv:=[⟨none,8,0⟩],ps:=[(I,0)],D:=⟨524064⟩,rs:=[⟨0,7⟩],Dn:=⟨522016⟩})] [([],20,39)]
theorem qoi:KT qfx qn9 [qaX,qc8,qcY,qdF,qbo,qaq,qaI,qcf,q4] 40:=λx=>by kernel_rfl
theorem qos:OT qfx:=entK (qo qbJ (qo qhD (qo qgo (qo qiq (qo qci (qo qbu (qo qbS (qo qeb (qo qcj qt))))))))) hJ qoi
def qfK(a0:yy9)(a1:yy2)(a2:yy2)(a3:Int):Option yy8 :=
 (qb1 a0 a1 a2).bind λx1 =>
 (qZ a3 (0:Int) (20:Int)).bind λx2 =>
 (qp x2 (2:Int)).bind λx3 =>
 (qx ([x1.2,x3])).bind λx4 =>
 bif !(decide (x4=0))then
  some ([],x4)
 else
  (qF (λ(s7:(yy2×(List yy2)×Int)) =>
    bif decide (s7.2.2<a3)then
     (qbP x1.1 a1 s7.1).bind λx8 =>
     bif !(decide (x8.2=0))then
      some (.inr (.inr ([],x8.2)))
     else
      (app s7.2.1 ([x8.1])).bind λx9 =>
      some (.inl (x8.1,x9,w64 (s7.2.2+1)))
    else
     some (.inr (.inl s7.2.1))) (a2,[],0)).bind (Sum.elim (λ(p10:(List yy2)) =>
  some (p10,0)) some)
def qgj:Entry:=⟨11,[.ty yt10,.ty yt1,.ty yt1,.ty I],[((.sl yt1),1),(I,0)],λx=>qfK x.1 x.2.1 x.2.2.1 x.2.2.2⟩
def qpq:TH:=qbM [([],11,.block 0,{lv:=[⟨none,12,0⟩],ps:=[((.sl yt1),1)],abn:=true,D:=⟨140736414619652⟩}),
 ([],11,.loop 0,{lv:=[⟨none,2,0⟩,⟨none,12,0⟩,⟨none,30,0⟩],ps:=[(yt1,2000),((.sl yt1),1),(I,0)],D:=⟨140736414619652⟩})] []
theorem qpw:KT qgj qpq [qaX,qc8,qdF,qbo,qcf] 40:=λx=>by kernel_rfl
theorem qpE:OT qgj:=entK (qo qbJ (qo qhD (qo qiq (qo qci (qo qeb qt))))) hJ qpw
def qc5(a0:(List yy2))(a1:yy6)(a2:(yy2×yy2×Unit)):Option Bool :=
 (qhT).bind λx1 =>
 bif !x1 then
  some false
 else
  (bif decide ((a0.length:Int) > 3)then
    some true
   else
    (qen a0).bind λx2 =>
    bif !(decide (x2=0))then
     some true
    else
     bif decide ((a1.1.length:Int) > 6)then
      some true
     else
      (qcB a1).bind λx3 =>
      bif !(decide (x3=0))then
       some true
      else
       (idx a1.1 0).bind λx4 =>
       bif !(decide ((x4.length:Int)=(a0.length:Int)))then
        some true
       else
        (qcd a2.1 (a0.length:Int)).bind λx5 =>
        bif !(decide (x5=0))then
         some true
        else
         (qcd a2.2.1 (a0.length:Int)).bind λx6 =>
         some (!(decide (x6=0)))).bind λ(p7:Bool) =>
  bif p7 then
   some true
  else
   (qed a1).bind λx8 =>
   (qF (λ(s10:(Int×(List yy2)×(List yy2))) =>
     bif decide (s10.1<(a1.1.length:Int))then
      (qP a0).bind λx11 =>
      (idx a1.1 s10.1).bind λx12 =>
      (qS x12).bind λx13 =>
      (qbB x11 x13).bind λx14 =>
      (bif !(decide (x14.2=0))then
        some true
       else
        some (!(decide ((x14.1.length:Int)=(a0.length:Int))))).bind λ(p15:Bool) =>
      bif p15 then
       some (.inr (.inr false))
      else
       (idx s10.2.2 s10.1).bind λx16 =>
       (idx s10.2.2 s10.1).bind λx17 =>
       let l18:(List yy2):=List.set s10.2.2 s10.1.toNat x14.1
       some (.inl (w64 (s10.1+1),s10.2.1,l18))
     else
      some (.inr (.inl (s10.2.1,s10.2.2)))) (0,x8.1,x8.2.1)).bind (Sum.elim (λ(p19:((List yy2)×(List yy2))) =>
   (qcB (p19.1,p19.2,())).bind λx20 =>
   bif !(decide (x20=0))then
    some true
   else
    (qed (p19.1,p19.2,())).bind λx21 =>
    (qeL x21).bind λx22 =>
    (bif !(decide (x22.2=0))then
      some true
     else
      bif !(decide (x22.1.1=1))then
       some true
      else
       (qb4 x22.1.2.1 a0).bind λx23 =>
       some (!x23)).bind λ(p24:Bool) =>
    bif p24 then
     some false
    else
     (qP x22.1.2.1).bind λx25 =>
     (qc6 x25).bind λx26 =>
     (qdz x26).bind λx27 =>
     (bif !(decide (x27.2=0))then
       some true
      else
       (qb4 x27.1 a0).bind λx28 =>
       some (!x28)).bind λ(p29:Bool) =>
     bif p29 then
      some false
     else
      (qP x27.1).bind λx30 =>
      (qcr x30).bind λx31 =>
      bif !(decide (x31.2=0))then
       some false
      else
       (qP a0).bind λx32 =>
       (qcc x31.1).bind λx33 =>
       (qb7 x32 x33).bind λx34 =>
       (bif !(decide (x34.2=0))then
         some true
        else
         some (!(decide (x34.1=0)))).bind λ(p35:Bool) =>
       bif p35 then
        some false
       else
        (qP a0).bind λx36 =>
        (qcS (x36,x27.1,1,1,1000,())).bind λx37 =>
        (qbO x37).bind λx38 =>
        (bif !(decide (x38.2=0))then
          some true
         else
          let v39:Bool:=!(bif decide (x38.1.1=0)then (bif decide (x38.1.2.1=1)then true else false)else false)
          some v39).bind λ(p40:Bool) =>
        bif p40 then
         some false
        else
         (qP a0).bind λx41 =>
         (qS a2.1).bind λx42 =>
         (qbB x41 x42).bind λx43 =>
         (bif !(decide (x43.2=0))then
           some true
          else
           some (!(decide ((x43.1.length:Int)=(a0.length:Int))))).bind λ(p44:Bool) =>
         bif p44 then
          some false
         else
          (qcd x43.1 (a0.length:Int)).bind λx45 =>
          bif !(decide (x45=0))then
           some true
          else
           (qF (λ(s47:Int) =>
             bif decide (s47<(a0.length:Int))then
              (idx a2.1 s47).bind λx48 =>
              (idx a2.2.1 s47).bind λx49 =>
              (qhV x48 x49).bind λx50 =>
              ((qdf x50.1 (-1000:Int) (1000:Int)).bind λx51 =>
               bif !x51 then
                some true
               else
                (qdf x50.2.1 (-1000:Int) (1000:Int)).bind λx52 =>
                some (!x52)).bind λ(p53:Bool) =>
              bif p53 then
               some (.inr (.inr true))
              else
               some (.inl (w64 (s47+1)))
             else
              some (.inr (.inl ()))) 0).bind (Sum.elim (λ(p54:Unit) =>
           (qcS (x36,x27.1,1,1,1000,())).bind λx55 =>
           (qS x43.1).bind λx56 =>
           (qS a2.2.1).bind λx57 =>
           (qdh x55 x56 x57 (0:Int)).bind λx58 =>
           (qcS (x36,x27.1,1,1,1000,())).bind λx59 =>
           (qS x43.1).bind λx60 =>
           (qS a2.2.1).bind λx61 =>
           (qfK x59 x60 x61 (1:Int)).bind λx62 =>
           (bif decide (x58.2=0)then
             (qdf x58.1 (0:Int) (1:Int)).bind λx63 =>
             bif x63 then
              bif decide (x62.2=0)then
               bif decide ((x62.1.length:Int)=1)then
                (idx x62.1 0).bind λx64 =>
                (qeB x64 a2.1).bind λx65 =>
                some x65
               else
                some false
              else
               some false
             else
              some false
            else
             some false).bind λ(p66:Bool) =>
           some p66) some)) some)
def qby:Entry:=⟨7,[.ty (.sl yt1),.ty yt12,.ty (.pair yt1 (.pair yt1 .unit))],[(.bool,0)],λx=>qc5 x.1 x.2.1 x.2.2⟩
def qib:TH:=qbM [([],7,.region 3,{lv:=[⟨none,76,0⟩],ps:=[(.bool,0)],D:=⟨151115727451824351870976⟩,rs:=[⟨0,4⟩,⟨0,5⟩],Dn:=⟨149930519639289862553600⟩}),
 ([],7,.block 0,{lv:=[⟨some 0,7,0⟩,⟨some 0,7,1⟩],ps:=[((.sl yt1),2),((.sl yt1),2)],abn:=true,D:=⟨5192296858232596173626839039747840⟩,wr:=[⟨0,7⟩],rs:=[⟨0,4⟩],Dn:=⟨5192296857023670354012209865041664⟩}),
 ([],7,.loop 0,{lv:=[⟨none,8,0⟩,⟨some 0,7,0⟩,⟨some 0,7,1⟩],ps:=[(I,0),((.sl yt1),2),((.sl yt1),2)],D:=⟨5192296858232596173626839039747840⟩,wr:=[⟨0,7⟩],rs:=[⟨0,4⟩,⟨0,7⟩],Dn:=⟨5030036961224437347930494405191424⟩}),
 ([],7,.region 10,{lv:=[⟨none,106,0⟩],ps:=[(.bool,0)],D:=⟨161942364179156306041203834486784⟩}),
 ([],7,.region 16,{lv:=[⟨none,134,0⟩],ps:=[(.bool,0)],D:=⟨43553484509888553491566142137145770377216⟩,rs:=[⟨0,11⟩],Dn:=⟨42851652128114117910672932009317748441088⟩}),
 ([],7,.region 19,{lv:=[⟨none,150,0⟩],ps:=[(.bool,0)],D:=⟨2843345012812654450545804079762666092012503040⟩}),
 ([],7,.region 25,{lv:=[⟨none,172,0⟩],ps:=[(.bool,0)],D:=⟨11785549203436401132394514491024106270505440026558464⟩}),
 ([],7,.region 29,{lv:=[⟨none,190,0⟩],ps:=[(.bool,0)],D:=⟨3114030939039486160184161159169428261113277896277079621632⟩}),
 ([],7,.region 32,{lv:=[⟨none,208,0⟩],ps:=[(.bool,0)],D:=⟨821145340616344030801942629186334089888845729823007138839003136⟩}),
 ([],7,.block 2,{lv:=[],ps:=[],abn:=true,D:=⟨3618502788639803034069453984847017613493769412721543852382912222433757897216⟩,wr:=[⟨0,25⟩]}),
 ([],7,.loop 2,{lv:=[⟨none,24,0⟩],ps:=[(I,0)],D:=⟨3618502788639803034069453984847017613493769412721543852382912222433757897216⟩,wr:=[⟨0,25⟩],rs:=[⟨0,5⟩,⟨0,19⟩,⟨0,25⟩],Dn:=⟨3487628367933896967252027850307870901373676994460152525840712114563734053376⟩}),
 ([],7,.region 40,{lv:=[⟨none,250,0⟩],ps:=[(.bool,0)],D:=⟨3618499337792957711704699564143565981901960795246781541039771918985173401600⟩,rs:=[⟨0,19⟩,⟨0,25⟩],Dn:=⟨3487624972691941645885468006105137886759856641362000585987502553391379251200⟩}),
 ([],7,.region 44,{lv:=[⟨none,6,0⟩],ps:=[(.bool,0)],D:=⟨127314733343804659878269488967289988006975316460317585569918768304864380150018815970771008⟩,rs:=[⟨0,5⟩],Dn:=⟨119357561561248073603783372996940854565368018047560022090871344674573828197818281962242112⟩})] []
theorem qie:KT qby qib [qc7,qiJ,qfN,qgz,qdO,qdj,qfw,qdP,qdE,qer,qfx,qeN,qgj,qbx,qdQ,qgW,qgm,qev,qeU,qgY,qeV,qej] 40:=λx=>by kernel_rfl
theorem qir:OT qby:=entK (qo qhC (qo qru (qo qlp (qo qnd (qo qk7 (qo qj3 (qo qor (qo qk8 (qo qin (qo qlY (qo qos (qo qne (qo qpE (qo qdc (qo qk9 (qo qrw (qo qpH (qo ql1 (qo qnj (qo qry (qo qnk (qo qpI qt)))))))))))))))))))))) hJ qie
end
end
end Go.Proofs.YteiciemjanhdcaaGreatDoor
end
section
namespace Go.Proofs.YteiciemjanhdcaaGreatDoor.Mat
open Go Go.Ab Go.Tx Go.Proofs.YteiciemjanhdcaaGreatDoor
theorem wid{n:Int}(h1 : -9223372036854775808<=n)(h2:n<=9223372036854775807):w64 n=n:=qmm h1 h2
theorem qjC(a b c:Int):qdf a b c=some (decide (b<=a/\a<=c)):=by
 unfold qdf;by_cases h:b<=a<;>simp [h]
theorem qko(a b c:Int):qZ a b c=some (decide (b<=a/\a<=c)):=by
 unfold qZ;by_cases h:b<=a<;>simp [h]
theorem qn6(a k:Int)(h0:0<=k)(h1:k<=4611686018427387904):qdA a k=some (decide (-k<=a/\a<=k)):=by
 unfold qdA;rw [qko,wid (by omega) (by omega)];simp
theorem qeg(b:Bool)(e:Int):qp b e=some (if b then 0 else e):=by cases b<;>rfl
theorem qmB(l:List Int)(h:l.length<=1000000000):qx l=some (qxk l):=by
 unfold qx;rw [qCe l h]
instance (B:Int) (z:G):Decidable (Bd B z):=inferInstanceAs (Decidable (_/\_))
theorem qc0(z:G)(k:Int)(h0:0<=k)(h1:k<=4611686018427387904):qaj z k=some (decide (Bd k z)):=by
 unfold qaj;rw [qn6 _ _ h0 h1,qn6 _ _ h0 h1];unfold Bd;by_cases c : -k<=z.1/\z.1<=k<;>simp [c]
theorem qgH(z:G)(k:Int)(h0:0<=k)(h1:k<=4611686018427387904):qbK z k=some (decide (Bd k z)):=by
 unfold qbK;rw [wid (by omega) (by omega),qjC,qjC];unfold Bd;have e:(0:Int)-k = -k:=by omega
 rw [e];by_cases c : -k<=z.1/\z.1<=k<;>simp [c]
def qeI(B:Int)(z:G):Bool:=!(decide (Bd B z))
def qDC(n:Nat)(i:Nat)(r:List G):Option (Int×Int):=if r.length=n then (if r.any (qeI 20)then some ((i:Int),2)else none)else some ((i:Int),10)
def qH8(m:Mx):Int×Int:=if m.length=0 then (0,10)else if 3<m.length then (0,8)else (qfB (qDC m.length) 0 m).getD (0,0)
def qg8(m:Mx):Int:=(qH8 m).2
theorem qxz(r:List G)(h:r.length<=1000000000):qw r=some (r.any (qeI 20)):=by
 unfold qw qJ;refine qxP r qcI (qeI 20) (λx _=>?_) h;unfold qcI;rw [qc0 _ _ (by omega) (by omega)];rfl
theorem qsm{m:Mx}(h:m.length<=1000000000)(hr:∀r∈m,r.length<=1000000000):qdx m=some (qH8 m):=by
 unfold qdx qH8;simp only [qeg,qa];rw [qmB _ (by simp)];simp only [qa];by_cases h0:m.length=0
 ·have h0':¬ ((m.length:Int) > 0):=by omega
  simp [h0,qxk]
 ·have h0':(m.length:Int) > 0:=by omega
  by_cases h4:3<m.length
  ·have h4':¬ ((m.length:Int)<=3):=by omega
   simp [h0,h0',h4,h4',qxk]
  ·have h4':(m.length:Int)<=3:=by omega
   simp only [h0,h0',h4,h4',decide_true,if_true,if_false,qxk,Bool.not_true,cond_false];rw [qgB m _ (qDC m.length) (λi r hi=>?_),qdG]
   ·cases qfB (qDC m.length) 0 m<;>rfl
   ·have hlt:=qgr hi;rw [qaO hi];simp only [qa];rw [qxz r (hr r (List.mem_of_getElem? hi))];simp only [qa];rw [qmB _ (by simp),wid (by omega) (by omega)];simp only [qa];unfold qDC;by_cases c:r.length=m.length
    ·have c':(r.length:Int)=(m.length:Int):=by omega
     cases hb:r.any (qeI 20)
     ·simp [c,c',hb,qxk,stp]
     ·simp [c,c',hb,qxk,stp]
    ·have c':¬ (r.length:Int)=(m.length:Int):=by omega
     simp [c,c',qxk,stp]
theorem qoC{m:Mx}:qdM m=some (qH8 m):=by
 unfold qdM qH8;by_cases h0:m.length=0
 ·simp [h0]
 have h0':¬ ((m.length:Int)=0):=by omega
 by_cases h4:3<m.length
 ·have h4':(m.length:Int) > 3:=by omega
  simp [h0,h0',h4,h4']
 have h4':¬ ((m.length:Int) > 3):=by omega
 simp only [h0,h0',h4,h4',decide_false,cond_false,if_false];rw [qgB m _ (qDC m.length) (λi r hi=>?_),qdG]
 ·cases qfB (qDC m.length) 0 m<;>rfl
 ·have hlt:=qgr hi;rw [qaO hi];simp only [qa];unfold qDC;by_cases c:r.length=m.length
  case neg =>
   have c':¬ (r.length:Int)=(m.length:Int):=by omega
   simp [c,c',stp]
  have c':decide ((r.length:Int)=(m.length:Int))=true:=decide_eq_true (by omega);simp only [c',Bool.not_true,cond_false];rw [if_pos c];rw [qgB r _ (λ_ z=>if qeI 20 z then some (Sum.inr (Sum.inr ((i:Int),(2:Int))):Int⊕(Unit⊕(Int×Int)))else none) (λk z hk=>?_),qdG]
  ·cases hf:qfB (λ_ z=>if qeI 20 z then some (Sum.inr (Sum.inr ((i:Int),(2:Int))):Int⊕(Unit⊕(Int×Int)))else none) 0 r with
   |none =>
    rw [qeC]at hf;have hb:r.any (qeI 20)=false:=by
     rw [List.any_eq_false];intro x hx;obtain ⟨k,hk⟩:=List.mem_iff_getElem?.1 hx;have:=hf k x hk;simpa using this
    simp only [hb,qf,if_false,stp];rw [wid (by omega) (by omega)]
   |some q =>
    obtain ⟨k,z,h1,h2,_⟩:=qfC hf;have hp:qeI 20 z=true:=by
     cases hp:qeI 20 z
     ·simp [hp]at h2
     ·rfl
    have hb:r.any (qeI 20)=true:=List.any_eq_true.2 ⟨z,List.mem_of_getElem? h1,hp⟩;simp only [hp,if_true,qb]at h2;simp only [hb,if_true,stp,<- h2]
  ·have hlk:=qgr hk;simp only [qa,qaO hk];rw [qgH _ _ (by omega) (by omega)];simp only [qa];rw [wid (by omega) (by omega)];unfold qeI;by_cases d:Bd 20 z<;>simp [d,stp]
theorem qeD{m:Mx}(h:m.length<=1000000000)(hr:∀r∈m,r.length<=1000000000):qaW m=some (qg8 m):=by
 unfold qaW;rw [qsm h hr];rfl
theorem qvt{m:Mx}:qe8 m=some (qg8 m):=by
 unfold qe8;rw [qoC];rfl
theorem qpa{m:Mx}(h:qg8 m=0):1<=m.length/\m.length<=3/\qH6 m.length m.length m/\BdM 20 m:=by
 unfold qg8 qH8 at h;split at h
 ·cases h
 ·rename_i h1;split at h
  ·cases h
  ·rename_i h2;have hn:qfB (qDC m.length) 0 m=none:=by
    cases hf:qfB (qDC m.length) 0 m with
    |none=>rfl
    |some r =>
     exfalso
     rw [hf]at h;obtain ⟨i,a,_,h3,_⟩:=qfC hf;unfold qDC at h3;split at h3
     ·split at h3
      ·cases h3;cases h
      ·cases h3
     ·cases h3;cases h
   rw [qeC]at hn;have key:∀r∈m,r.length=m.length/\r.any (qeI 20)=false:=λr hr=>by
    obtain ⟨i,hi⟩:=List.mem_iff_getElem?.1 hr;have:=hn i r hi;unfold qDC at this;split at this
    ·rename_i c;split at this
     ·cases this
     ·rename_i d;exact ⟨c,by simpa using d⟩
    ·cases this
   refine ⟨by omega,by omega,⟨rfl,λr hr=>(key r hr).1⟩,λr hr z hz=>?_⟩;have:=List.any_eq_false.1 (key r hr).2 z hz;unfold qeI at this;simpa using this
theorem qxt{n c i k:Nat}(f:Nat->Nat->G)(hi:i<n)(hk:k<c):qao (mx n c f) (i:Int) (k:Int)=some (f i k):=by
 unfold qao;rw [qaO (qpD f hi),qa,qaO (qbR (λk=>f i k) hk)];rfl
theorem qhh{A B:Int}{a b:G}(h:Bd A a)(h':Bd B b)(hb:2*(A*B)<=9000000000000000000):qal a b=some (qK a b):=congrArg some (qIO h h' hb)
theorem qoy{A B:Int}{a b:G}(h:Bd A a)(h':Bd B b)(hb:A+B<=9000000000000000000):qa4 a b=some (qcP a b):=congrArg some (qIi h h' hb)
theorem qBG{A B:Int}{a b:G}(h:Bd A a)(h':Bd B b)(hb:2*(A*B)<=9000000000000000000):qjE a b=some (qK a b):=congrArg some (qIO h h' hb)
theorem qBF{A B:Int}{a b:G}(h:Bd A a)(h':Bd B b)(hb:A+B<=9000000000000000000):qjD a b=some (qcP a b):=congrArg some (qIi h h' hb)
theorem le_next{i n:Nat}{A:Int}(hA:0<=A)(h:i<n)(hb:(n:Int)*A<=9000000000000000000):(i:Int)*A+A<=9000000000000000000:=by
 have:((i+1:Nat):Int)*A<=(n:Int)*A:=Int.mul_le_mul_of_nonneg_right (by omega) hA;have e:((i+1:Nat):Int)*A=(i:Int)*A+A:=by rw [Int.natCast_add,Int.add_mul];simp
 omega
theorem qD9{a b c i k:Nat}{A B:Int}{f h:Nat->Nat->G}(hA:0<=A)(hB:0<=B)(hf:BdF A a b f)(hh:BdF B b c h)(hb:b<=1000)(hbd:(b:Int)*(2*(A*B))<=9000000000000000000)(hb1:2*(A*B)<=9000000000000000000)(hi:i<a)(hk:k<c) :
  qbF (i:Int) (k:Int) (mx b c h) (mx a b f)=some (qbi b f h i k):=by
 unfold qbF;rw [qd9];have h0:0<=2*(A*B):=by have:=Int.mul_nonneg hA hB;omega
 rw [qkT b hb h0 hbd (λj=>qK (f i j) (h j k)) (λj hj=>(hf i j hi hj).mul (hh j k hj hk)) (λj hj x y hxy=>?_) (λx y=>?_)]
 ·rfl
 ·have e0:decide ((j:Int)<(b:Int))=true:=decide_eq_true (by omega);simp only [e0,cond_true];rw [qxt f hi hj,qxt h hj hk];simp only [qa];rw [qhh (hf i j hi hj) (hh j k hj hk) hb1];simp only [qa];rw [qoy hxy ((hf i j hi hj).mul (hh j k hj hk)) (le_next h0 hj hbd)];rfl
 ·have e0:decide ((b:Int)<(b:Int))=false:=by simp
  simp only [e0,cond_false]
theorem qvd{a b c:Nat}{A B:Int}{f h:Nat->Nat->G}(hA:0<=A)(hB:0<=B)(hf:BdF A a b f)(hh:BdF B b c h)(ha:a<=1000)(hb:b<=1000)(hb1:1<=b)(hc:c<=1000)(hbd:(b:Int)*(2*(A*B))<=9000000000000000000) :
  qbw (mx a b f) (mx b c h)=some (mx a c (qbi b f h)):=by
 unfold qbw qaQ;rw [qp1,qpD h (by omega),qa,qX,qd9];have h0:0<=2*(A*B):=by have:=Int.mul_nonneg hA hB;omega
 have h1:2*(A*B)<=9000000000000000000:=by
  have:=Int.mul_le_mul_of_nonneg_right (show (1:Int)<=b by omega) h0;omega
 have:=qg7 a c ha hc (λi k=>qbF i k (mx b c h) (mx a b f)) (qbi b f h) (λi k hi hk=>qD9 hA hB hf hh hb hbd h1 hi hk);show Option.bind _ _=_;rw [this];rfl
theorem qBx{n c:Nat}(hn:n<=1000)(f:Nat->Nat->G)(hc:c<n+1):qam (mx (n+1) (n+1) f) 0 (c:Int)=some (mx n n (minor f 0 c)):=by
 unfold qam;rw [qd9];refine Ok.eq ?_;rw [qfG];refine (qaZ (n+1) (λi (s:Mx×Int)=>s=(mkL (i-1) (λj=>mkL n λk=>minor f 0 c j k),(i:Int))) (λr=>r=mx n n (minor f 0 c)) rfl ?_).mono (λa ha=>by rw [ha];exact qbT.2 rfl);rintro i s hi rfl;by_cases hlt:i<n+1
 ·have e0:decide ((i:Int)<((n+1:Nat):Int))=true:=decide_eq_true (by omega);simp only [e0,cond_true];rw [qaO (qpD f hlt)];simp only [qa];by_cases hz:i=0
  ·subst hz;simp only [Int.ofNat_eq_natCast,Int.natCast_zero,decide_true,Bool.not_true,cond_false,qa];rw [wid (by omega) (by omega),qaw];exact ⟨by omega,rfl⟩
  ·have e1:decide ((i:Int)=0)=false:=decide_eq_false (by omega);simp only [e1,Bool.not_false,cond_true];rw [qtD (by rw [qX];omega)];simp only [qa,decide_true,cond_true];rw [wid (n:=(c:Int)+1) (by omega) (by omega),qtD (by rw [qX];omega)];simp only [qa,qX];have e2:((c:Int)+1).toNat=c+1:=by omega
   have e3:((n+1:Nat):Int).toNat=n+1:=by omega
   have e4:(0:Int).toNat=0:=rfl;rw [e2,e3,e4,Int.toNat_natCast,qBO (by simp [qX];omega)];simp only [qa];rw [qC1 (λk=>f i k) hc,qcG (by rw [qX];omega)];simp only [qa];rw [wid (by omega) (by omega),qaw];refine ⟨hlt,?_⟩;have e5:i+1-1=(i-1)+1:=by omega
   rw [e5,qhA];congr 1
   congr 2
   refine qbQ λk hk=>?_;unfold minor;congr 1
   all_goals (unfold skip;rw [if_neg (by omega)];omega)
 ·have:i=n+1:=by omega
  subst this;have e0:decide (((n+1:Nat):Int)<((n+1:Nat):Int))=false:=by simp
  simp only [e0,cond_false];rw [qag];rfl
theorem quT{n c:Nat}(hn:n<=1000)(f:Nat->Nat->G)(hc:c<n+1):qfa (mx (n+1) (n+1) f) 0 (c:Int)=some (mx n n (minor f 0 c)):=by
 unfold qfa;rw [qd9];refine Ok.eq ?_;rw [qfG];refine (qaZ (n+1) (λi (s:Mx×Int)=>s=(mkL (i-1) (λj=>mkL n λk=>minor f 0 c j k),(i:Int))) (λr=>r=mx n n (minor f 0 c)) rfl ?_).mono (λa ha=>by rw [ha];exact qbT.2 rfl);rintro i s hi rfl;by_cases hlt:i<n+1
 ·have e0:decide ((i:Int)<((n+1:Nat):Int))=true:=decide_eq_true (by omega);simp only [e0,cond_true];by_cases hz:i=0
  ·subst hz;simp only [Int.ofNat_eq_natCast,Int.natCast_zero,decide_true,cond_true,qa];rw [wid (by omega) (by omega),qaw];exact ⟨by omega,rfl⟩
  ·have e1:decide ((i:Int)=0)=false:=decide_eq_false (by omega);simp only [e1,cond_false];rw [qqd,qfG];refine (qaZ (n+1) (λk (s:List G×Int)=>s=(mkL (if k<=c then k else k-1) (λk=>f i (skip c k)),(k:Int))) (λr=>r=mkL n λk=>f i (skip c k)) ?_ ?_).mono ?_
   ·simp [qzx]
   ·rintro k s hk rfl;by_cases hlt2:k<n+1
    ·have e2:decide ((k:Int)<((n+1:Nat):Int))=true:=decide_eq_true (by omega);simp only [e2,cond_true];by_cases hkc:k=c
     ·subst hkc;simp only [decide_true,Bool.not_true,cond_false,qa];rw [wid (by omega) (by omega),qaw];refine ⟨hlt2,?_⟩;rw [if_pos (by omega),if_neg (by omega)];rfl
     ·have e3:decide ((k:Int)=(c:Int))=false:=decide_eq_false (by omega);simp only [e3,Bool.not_false,cond_true];rw [qaO (qpD f hlt)];simp only [qa];rw [qaO (qbR (λk=>f i k) hlt2)];simp only [qa];rw [qcG (by rw [qX];split<;>omega)];simp only [qa];rw [wid (by omega) (by omega),qaw];refine ⟨hlt2,?_⟩;congr 1
      by_cases hkl:k<c
      ·rw [if_pos (by omega),if_pos (by omega),qhA];congr 3
       unfold skip;rw [if_pos hkl]
      ·rw [if_neg (by omega),if_neg (by omega)];have e5:k+1-1=(k-1)+1:=by omega
       rw [e5,qhA];congr 3
       unfold skip;rw [if_neg (by omega)];omega
    ·have:k=n+1:=by omega
     subst this;have e2:decide (((n+1:Nat):Int)<((n+1:Nat):Int))=false:=by simp
     simp only [e2,cond_false];rw [qag,if_neg (by omega)];rfl
   ·rintro r rfl;rw [qcG (by rw [qX];omega)];simp only [qa];rw [qbT,wid (by omega) (by omega),qaw];refine ⟨hlt,?_⟩;have e5:i+1-1=(i-1)+1:=by omega
    rw [e5,qhA];congr 1
    congr 2
    refine qbQ λk hk=>?_;unfold minor;congr 1
    all_goals (unfold skip;rw [if_neg (by omega)];omega)
 ·have:i=n+1:=by omega
  subst this;have e0:decide (((n+1:Nat):Int)<((n+1:Nat):Int))=false:=by simp
  simp only [e0,cond_false];rw [qag];rfl
theorem qB3{B:Int}(hB:1<=B)(n:Nat):dB B n<=dB B (n+1):=by
 have e:dB B (n+1)=((n+1:Nat):Int)*(2*(B*dB B n)):=rfl;rw [e];have h0:=qmv (show 0<=B by omega) n;have h1:dB B n<=B*dB B n:=by
  have:=Int.mul_le_mul_of_nonneg_right hB h0;omega
 have h2:(1:Int)*(2*(B*dB B n))<=((n+1:Nat):Int)*(2*(B*dB B n)):=Int.mul_le_mul_of_nonneg_right (by omega) (by omega);omega
theorem qGo{B:Int}(hB:1<=B):∀(k n:Nat) (f:Nat->Nat->G),n<=100->n<k->BdF B n n f->dB B n<=9000000000000000000->qaz k (mx n n f)=some (qeK n f)
 |0,n,f,_,h,_,_=>by omega
 |k+1,0,f,_,_,_,_=>rfl
 |k+1,n+1,f,hn,hk,hf,hb=>by
  have hB0:0<=B:=by omega
  have hD0:=qmv hB0 n;have h0:0<=2*(B*dB B n):=by have:=Int.mul_nonneg hB0 hD0;omega
  have hDn:dB B n<=9000000000000000000:=by have:=qB3 hB n;omega
  have hb1:2*(B*dB B n)<=9000000000000000000:=by
   have h9:(1:Int)*(2*(B*dB B n))<=((n+1:Nat):Int)*(2*(B*dB B n)):=Int.mul_le_mul_of_nonneg_right (by omega) h0;simp only [dB]at hb;omega
  have hunf:qaz (k+1) (mx (n+1) (n+1) f)=(bif decide (((mx (n+1) (n+1) f).length:Int)=0)then some (1,0,())else
   (qF (λ(s2:(Int×Int×Int)) =>
    bif decide (s2.1<((mx (n+1) (n+1) f).length:Int))then
     (qao (mx (n+1) (n+1) f) (0:Int) s2.1).bind λx3 =>
     (qam (mx (n+1) (n+1) f) (0:Int) s2.1).bind λx4 =>
     (qaz k x4).bind λx5 =>
     (qal x3 x5).bind λx6 =>
     (bif decide (s2.1.tmod 2=1)then
       (qY (0,0,()) x6).bind λx7 =>
       some (x7.1,x7.2.1)
      else
       some (x6.1,x6.2.1)).bind λ(p8:(Int×Int)) =>
     (qa4 (s2.2.1,s2.2.2,()) (p8.1,p8.2,())).bind λx9 =>
     some (.inl (w64 (s2.1+1),x9.1,x9.2.1))
    else
     some (.inr (s2.2.1,s2.2.2))) (0,0,0)).bind λ(p10:(Int×Int)) =>
   some (p10.1,p10.2,())):=rfl
  rw [hunf,qd9];have e0:decide (((n+1:Nat):Int)=0)=false:=decide_eq_false (by omega);rw [e0,cond_false];have htb:∀j,j<n+1->Bd (2*(B*dB B n)) (qK (f 0 j) (qeK n (minor f 0 j))):=λj hj=>(hf 0 j (by omega) hj).mul (qqt hB0 n _ (qe0 hf));rw [qkT (n+1) (by omega) h0 hb (λj=>if j % 2=1 then qjy (qK (f 0 j) (qeK n (minor f 0 j)))else qK (f 0 j) (qeK n (minor f 0 j)))
   (λj hj=>by
           split;· exact (htb j hj).neg
           ·exact htb j hj) (λj hj x y hxy=>?_) (λx y=>?_)]
  ·rfl
  ·have e1:decide ((j:Int)<((n+1:Nat):Int))=true:=decide_eq_true (by omega);simp only [e1,cond_true];have hat:=qxt (n:=n+1) (c:=n+1) f (i:=0) (k:=j) (by omega) hj;simp only [Int.natCast_zero]at hat;rw [hat];simp only [qa];rw [qBx (by omega) f hj];simp only [qa];rw [qGo hB k n _ (by omega) (by omega) (qe0 hf) hDn];simp only [qa];rw [qhh (hf 0 j (by omega) hj) (qqt hB0 n _ (qe0 (r:=0) (c:=j) hf)) hb1];simp only [qa];have htm:(j:Int).tmod 2=((j % 2:Nat):Int):=by rw [Int.tmod_eq_emod_of_nonneg (by omega)];omega
   rw [htm];by_cases hp:j % 2=1
   ·have e2:decide (((j % 2:Nat):Int)=1)=true:=decide_eq_true (by omega);rw [e2,cond_true,if_pos hp];have hm:qY (0,0,()) (qK (f 0 j) (qeK n (minor f 0 j)))=some (qjy (qK (f 0 j) (qeK n (minor f 0 j)))):=by
     have:=qDU (a:=g0) (qt1 (B:=0) (by omega)) (htb j hj) (by omega);rw [qv2]at this;exact congrArg some this
    rw [hm];simp only [qa,qJ0];rw [qoy hxy (htb j hj).neg (le_next h0 hj hb)];rfl
   ·have e2:decide (((j % 2:Nat):Int)=1)=false:=decide_eq_false (by omega);rw [e2,cond_false,if_neg hp];simp only [qa,qJ0];rw [qoy hxy (htb j hj) (le_next h0 hj hb)];rfl
  ·have e1:decide (((n+1:Nat):Int)<((n+1:Nat):Int))=false:=by simp
   simp only [e1,cond_false]
theorem qGQ(n:Nat)(h:n<=1000000000):qmu (n:Int) 2=some ((n % 2:Nat):Int):=by
 unfold qmu;have e:((n:Int).tmod 2)=((n % 2:Nat):Int):=by rw [Int.tmod_eq_emod_of_nonneg (by omega)];omega
 rw [e];have e1:decide ((2:Int)=0)=false:=by decide
 have e2:decide (((n % 2:Nat):Int)<0)=false:=decide_eq_false (by omega);simp only [e1,e2,cond_false,qa]
theorem qwR{B:Int}(hB:1<=B):∀(k n:Nat) (f:Nat->Nat->G),n<=100->n<k->BdF B n n f->dB B n<=9000000000000000000->qbU k (mx n n f)=some (qeK n f)
 |0,n,f,_,h,_,_=>by omega
 |k+1,0,f,_,_,_,_=>rfl
 |k+1,n+1,f,hn,hk,hf,hb=>by
  have hB0:0<=B:=by omega
  have hD0:=qmv hB0 n;have h0:0<=2*(B*dB B n):=by have:=Int.mul_nonneg hB0 hD0;omega
  have hDn:dB B n<=9000000000000000000:=by have:=qB3 hB n;omega
  have hb1:2*(B*dB B n)<=9000000000000000000:=by
   have h9:(1:Int)*(2*(B*dB B n))<=((n+1:Nat):Int)*(2*(B*dB B n)):=Int.mul_le_mul_of_nonneg_right (by omega) h0;simp only [dB]at hb;omega
  have hunf:qbU (k+1) (mx (n+1) (n+1) f)=(bif decide (((mx (n+1) (n+1) f).length:Int)=0)then some (1,0,())else
   (qF (λ(s2:(Int×Int×Int)) =>
    bif decide (s2.1<((mx (n+1) (n+1) f).length:Int))then
     (idx (mx (n+1) (n+1) f) 0).bind λx3 =>
     (idx x3 s2.1).bind λx4 =>
     (qfa (mx (n+1) (n+1) f) (0:Int) s2.1).bind λx5 =>
     (qbU k x5).bind λx6 =>
     (qjE x4 x6).bind λx7 =>
     (qmu s2.1 (2:Int)).bind λx8 =>
     (bif decide (x8=0)then
       (qjD (s2.2.1,s2.2.2,()) x7).bind λx9 =>
       some (x9.1,x9.2.1)
      else
       (qhV (s2.2.1,s2.2.2,()) x7).bind λx10 =>
       some (x10.1,x10.2.1)).bind λ(p11:(Int×Int)) =>
     some (.inl (w64 (s2.1+1),p11.1,p11.2))
    else
     some (.inr (s2.2.1,s2.2.2))) (0,0,0)).bind λ(p12:(Int×Int)) =>
   some (p12.1,p12.2,())):=rfl
  rw [hunf,qd9];have e0:decide (((n+1:Nat):Int)=0)=false:=decide_eq_false (by omega);rw [e0,cond_false];have htb:∀j,j<n+1->Bd (2*(B*dB B n)) (qK (f 0 j) (qeK n (minor f 0 j))):=λj hj=>(hf 0 j (by omega) hj).mul (qqt hB0 n _ (qe0 hf));rw [qkT (n+1) (by omega) h0 hb (λj=>if j % 2=1 then qjy (qK (f 0 j) (qeK n (minor f 0 j)))else qK (f 0 j) (qeK n (minor f 0 j)))
   (λj hj=>by
           split;· exact (htb j hj).neg
           ·exact htb j hj) (λj hj x y hxy=>?_) (λx y=>?_)]
  ·rfl
  ·have e1:decide ((j:Int)<((n+1:Nat):Int))=true:=decide_eq_true (by omega);simp only [e1,cond_true];rw [qp1,qpD f (by omega)];simp only [qa];rw [qaO (qbR (λk=>f 0 k) hj)];simp only [qa];rw [quT (by omega) f hj];simp only [qa];rw [qwR hB k n _ (by omega) (by omega) (qe0 hf) hDn];simp only [qa];rw [qBG (hf 0 j (by omega) hj) (qqt hB0 n _ (qe0 (r:=0) (c:=j) hf)) hb1];simp only [qa];rw [qGQ j (by omega)];simp only [qa];by_cases hp:j % 2=1
   ·have e2:decide (((j % 2:Nat):Int)=0)=false:=decide_eq_false (by omega);rw [e2,cond_false,if_pos hp];have hm:qhV (x,y,()) (qK (f 0 j) (qeK n (minor f 0 j)))=some (qcP (x,y,()) (qjy (qK (f 0 j) (qeK n (minor f 0 j))))):=by
     have:=qDU hxy (htb j hj) (le_next h0 hj hb);rw [qxX]at this;exact congrArg some this
    rw [hm];rfl
   ·have e2:decide (((j % 2:Nat):Int)=0)=true:=decide_eq_true (by omega);rw [e2,cond_true,if_neg hp];rw [qBF hxy (htb j hj) (le_next h0 hj hb)];rfl
  ·have e1:decide (((n+1:Nat):Int)<((n+1:Nat):Int))=false:=by simp
   simp only [e1,cond_false]
theorem qd1{l:List G}(h:l.length<=1000000000):qS l=some l:=by
 unfold qS;rw [qxq (by omega)];rfl
theorem qdv{m:Mx}(h:m.length<=1000000000)(hr:∀r∈m,r.length<=1000000000):qP m=some m:=by
 unfold qP;rw [qxQ m (λr=>r) (λi a out hi ho=>?_) (λout ho=>?_)]
 ·simp
 ·have hlt:=qgr hi;have e0:decide ((i:Int)<(m.length:Int))=true:=decide_eq_true (by omega);simp only [e0,cond_true,qaO hi,qa];rw [qd1 (hr a (List.mem_of_getElem? hi))];simp only [qa];rw [qcG (by omega)];simp only [qa];rw [wid (by omega) (by omega)]
 ·have e0:decide ((m.length:Int)<(m.length:Int))=false:=by simp
  simp only [e0,cond_false]
theorem qt7(a b:G):(bif decide (a.1=b.1)then (bif decide (a.2.1=b.2.1)then true else false)else false)=decide (a=b):=by
 rw [Bool.eq_iff_iff];rw [decide_eq_true_iff,qEJ];by_cases h1:a.1=b.1<;>by_cases h2:a.2.1=b.2.1<;>simp [h1,h2]
theorem qnO{l m:List G}(hl:l.length<=1000000000):qeB l m=some (decide (l=m)):=by
 unfold qeB;by_cases h:l.length=m.length
 case neg =>
  have d:decide ((l.length:Int)=(m.length:Int))=false:=decide_eq_false (by omega);rw [d];have:decide (l=m)=false:=decide_eq_false (λe=>h (by rw [e]));rw [this];rfl
 have d:decide ((l.length:Int)=(m.length:Int))=true:=decide_eq_true (by omega);rw [d];simp only [Bool.not_true,cond_false];refine qv9 g0 h hl (λa b=>decide (a=b)) (λa b _ _=>by simp) (K:=_) (λi hi=>?_);rw [qfp g0 (by omega) (by omega),qfp g0 (l:=m) (by omega) (by omega)];simp only [qa,Int.toNat_natCast];rw [qt7,wid (by omega) (by omega)];by_cases c:l.getD i g0=m.getD i g0
 ·simp only [c,decide_true,Bool.not_true,cond_false,if_true]
 ·simp only [c,decide_false,Bool.not_false,cond_true,qf,if_false]
theorem qmt{l m:Mx}(hl:l.length<=1000000000)(hr:∀r∈l,r.length<=1000000000):qb4 l m=some (decide (l=m)):=by
 unfold qb4;by_cases h:l.length=m.length
 case neg =>
  have d:decide ((l.length:Int)=(m.length:Int))=false:=decide_eq_false (by omega);rw [d];have:decide (l=m)=false:=decide_eq_false (λe=>h (by rw [e]));rw [this];rfl
 have d:decide ((l.length:Int)=(m.length:Int))=true:=decide_eq_true (by omega);rw [d];simp only [Bool.not_true,cond_false];refine qv9 [] h hl (λa b=>decide (a=b)) (λa b _ _=>by simp) (K:=_) (λi hi=>?_);rw [qfp [] (by omega) (by omega),qfp [] (l:=m) (by omega) (by omega)];simp only [qa,Int.toNat_natCast];rw [qnO (hr _ (qaG hi)),wid (by omega) (by omega)];simp only [qa];by_cases c:l.getD i []=m.getD i []
 ·simp only [c,decide_true,Bool.not_true,cond_false,if_true]
 ·simp only [c,decide_false,Bool.not_false,cond_true,qf,if_false]
end Go.Proofs.YteiciemjanhdcaaGreatDoor.Mat
end
section
namespace Go.Tx
open Go
section
set_option maxRecDepth 1000000
def dd(a b c d e f g h i:G):G:=qcP (qdZ (qK a (qdZ (qK e i) (qK f h))) (qK b (qdZ (qK d i) (qK f g)))) (qK c (qdZ (qK d h) (qK e g)))
theorem qlA(f:Nat->Nat->G):qeK 1 f=f 0 0:=by
 simp only [qeK,qeJ];exact qiN (by simp [qK,g1,g0,qcP]) (by simp [qK,g1,g0,qcP])
theorem qlB(f:Nat->Nat->G):qeK 2 f=qdZ (qK (f 0 0) (f 1 1)) (qK (f 0 1) (f 1 0)):=by
 have e0:qeK 1 (minor f 0 0)=f 1 1:=by rw [qlA];rfl
 have e1:qeK 1 (minor f 0 1)=f 1 0:=by rw [qlA];rfl
 have e:qeK 2 f=qcP (qcP g0 (qK (f 0 0) (qeK 1 (minor f 0 0)))) (qjy (qK (f 0 1) (qeK 1 (minor f 0 1)))):=rfl;rw [e,e0,e1,qh5,<- qxX]
theorem qxC(f:Nat->Nat->G):qeK 3 f=dd (f 0 0) (f 0 1) (f 0 2) (f 1 0) (f 1 1) (f 1 2) (f 2 0) (f 2 1) (f 2 2):=by
 have e0:qeK 2 (minor f 0 0)=qdZ (qK (f 1 1) (f 2 2)) (qK (f 1 2) (f 2 1)):=by rw [qlB];rfl
 have e1:qeK 2 (minor f 0 1)=qdZ (qK (f 1 0) (f 2 2)) (qK (f 1 2) (f 2 0)):=by rw [qlB];rfl
 have e2:qeK 2 (minor f 0 2)=qdZ (qK (f 1 0) (f 2 1)) (qK (f 1 1) (f 2 0)):=by rw [qlB];rfl
 have e:qeK 3 f=qcP (qcP (qcP g0 (qK (f 0 0) (qeK 2 (minor f 0 0)))) (qjy (qK (f 0 1) (qeK 2 (minor f 0 1))))) (qK (f 0 2) (qeK 2 (minor f 0 2))):=rfl;rw [e,e0,e1,e2,qh5,<- qxX];rfl
theorem qIX(f h:Nat->Nat->G)(i k:Nat):qbi 1 f h i k=qK (f i 0) (h 0 k):=by simp only [qbi,qeJ,qh5]
theorem qIY(f h:Nat->Nat->G)(i k:Nat):qbi 2 f h i k=qcP (qK (f i 0) (h 0 k)) (qK (f i 1) (h 1 k)):=by simp only [qbi,qeJ,qh5]
theorem qIZ(f h:Nat->Nat->G)(i k:Nat):qbi 3 f h i k=qcP (qcP (qK (f i 0) (h 0 k)) (qK (f i 1) (h 1 k))) (qK (f i 2) (h 2 k)):=by simp only [qbi,qeJ,qh5]
end
end Go.Tx
end
section
namespace Go.Proofs.YteiciemjanhdcaaGreatDoor.Mat
open Go Go.Ab Go.Tx Go.Proofs.YteiciemjanhdcaaGreatDoor
theorem qsM(l:List Int)(hl:l.length<=1000000000)(hb:∀x∈l,x.natAbs<=4611686018427387904):qas l=some (qxU l:Int):=by
 unfold qas;exact qvL l hl hb
theorem qyT{n r c:Nat}(hn:n<=1000)(f:Nat->Nat->G)(hr:r<n+1)(hc:c<n+1):qam (mx (n+1) (n+1) f) (r:Int) (c:Int)=some (mx n n (minor f r c)):=by
 unfold qam;rw [qd9];refine Ok.eq ?_;rw [qfG];refine (qaZ (n+1) (λi (s:Mx×Int)=>s=(mkL (if i<=r then i else i-1) (λj=>mkL n λk=>minor f r c j k),(i:Int))) (λq=>q=mx n n (minor f r c)) (by simp [qzx]) ?_).mono (λa ha=>by rw [ha];exact qbT.2 rfl);rintro i s hi rfl;by_cases hlt:i<n+1
 ·have e0:decide ((i:Int)<((n+1:Nat):Int))=true:=decide_eq_true (by omega);simp only [e0,cond_true];rw [qaO (qpD f hlt)];simp only [qa];by_cases hz:i=r
  ·subst hz;simp only [decide_true,Bool.not_true,cond_false,qa];rw [wid (by omega) (by omega),qaw];refine ⟨hlt,?_⟩;rw [if_pos (Nat.le_refl _),if_neg (by omega)];rfl
  ·have e1:decide ((i:Int)=(r:Int))=false:=decide_eq_false (by omega);simp only [e1,Bool.not_false,cond_true];rw [qtD (by rw [qX];omega)];simp only [qa,decide_true,cond_true];rw [wid (n:=(c:Int)+1) (by omega) (by omega),qtD (by rw [qX];omega)];simp only [qa,qX];have e2:((c:Int)+1).toNat=c+1:=by omega
   have e3:((n+1:Nat):Int).toNat=n+1:=by omega
   have e4:(0:Int).toNat=0:=rfl;rw [e2,e3,e4,Int.toNat_natCast,qBO (by simp [qX];omega)];simp only [qa];rw [qC1 (λk=>f i k) hc,qcG (by rw [qX];split<;>omega)];simp only [qa];rw [wid (by omega) (by omega),qaw];refine ⟨hlt,?_⟩;congr 1
   by_cases hir:i<r
   ·rw [if_pos (by omega),if_pos (by omega),qhA];congr 2
    refine qbQ λk hk=>?_;unfold minor;rw [show skip r i=i by unfold skip;rw [if_pos hir]]
   ·rw [if_neg (by omega),if_neg (by omega)];have e5:i+1-1=(i-1)+1:=by omega
    rw [e5,qhA];congr 2
    refine qbQ λk hk=>?_;unfold minor;rw [show skip r (i-1)=i by unfold skip;rw [if_neg (by omega)];omega]
 ·have:i=n+1:=by omega
  subst this;have e0:decide (((n+1:Nat):Int)<((n+1:Nat):Int))=false:=by simp
  simp only [e0,cond_false];rw [qag,if_neg (by omega)];rfl
def parts(l:List G):List Int:=l.flatMap λz=>[z.1,z.2.1]
def qe5(m:Mx):List Int:=m.flatMap parts
theorem qcA(l:List G)(z:G):parts (l++[z])=parts l++[z.1]++[z.2.1]:=by simp [parts]
theorem qtl(m:Mx)(r:List G):qe5 (m++[r])=qe5 m++parts r:=by simp [qe5]
theorem qt6:∀(l m:List Int) (g:Nat),qkX g (l++m)=qkX (qkX g l) m
 |[],m,g=>rfl
 |x::l,m,g=>by simp only [List.cons_append,qkX];exact qt6 l m _
def qg(den:Int)(m:Mx):Nat:=qkX den.natAbs (qe5 m)
def qlc(g:Int)(f:Nat->Nat->G)(i k:Nat):G:=((f i k).1.tdiv g,(f i k).2.1.tdiv g,())
theorem quM{B:Int}{l:List G}(h:∀z∈l,Bd B z){x:Int}(hx:x∈parts l) : -B<=x/\x<=B:=by
 unfold parts at hx;obtain ⟨z,hz,hx⟩:=List.mem_flatMap.1 hx;have:=h z hz;unfold Bd at this;simp only [qm,List.not_mem_nil,or_false]at hx;rcases hx with rfl|rfl<;>omega
theorem qDh{B:Int}{m:Mx}(h:BdM B m){x:Int}(hx:x∈qe5 m) : -B<=x/\x<=B:=by
 unfold qe5 at hx;obtain ⟨r,hr,hx⟩:=List.mem_flatMap.1 hx;exact quM (h r hr) hx
theorem qI0{B:Int}{den:Int}{m:Mx}(h0:0<=den)(hd:den<=B)(h:BdM B m):(qg den m:Int)<=B:=by
 have:qg den m<=B.toNat:=qqH (by omega) λx hx=>by have:=qDh h hx;omega
 omega
theorem qzN{den:Int}{m:Mx}(h:den≠0):0<qg den m:=by
 rcases Nat.eq_zero_or_pos (qg den m)with h0|h0
 ·have:=(qvZ.1 h0).1;omega
 ·exact h0
theorem qHJ{B:Int}(hB:B<=4611686018427387904){r:List G}(hl:r.length<=1000000)(h:∀z∈r,Bd B z){g:Nat}(hg:(g:Int)<=B){K:Nat×Int->Prop} :
  Ok (qF (λ(s5:(Int×Int)) =>
      bif decide (s5.1<(r.length:Int))then
       (idx r s5.1).bind λx6 =>
       (qas ([s5.2,x6.1,x6.2.1])).bind λx7 =>
       some (.inl (w64 (s5.1+1),x7))
      else
       some (.inr s5.2)) (0,(g:Int))) λx=>x=(qkX g (parts r):Int):=by
 refine qaZ r.length (λi (s:Int×Int)=>s=((i:Int),(qkX g (parts (r.take i)):Int))) _ rfl ?_;rintro i s hi rfl;by_cases hlt:i<r.length
 ·have e0:decide ((i:Int)<(r.length:Int))=true:=decide_eq_true (by omega);have hz:r[i]?=some (r.getD i g0):=qhL _ hlt;have hb:=h _ (qaG (d:=g0) hlt);have hgb:qkX g (parts (r.take i))<=B.toNat:=qqH (by omega) λx hx=>by
   have:=quM (λz hz=>h z (List.mem_of_mem_take hz)) hx;omega
  unfold Bd at hb;simp only [e0,cond_true];rw [qaO hz];simp only [qa];rw [qsM _ (by simp) (by
   intro x hx;simp only [qm,List.not_mem_nil,or_false]at hx;rcases hx with rfl|rfl|rfl<;>omega)]
  simp only [qa];rw [wid (by omega) (by omega),qaw];refine ⟨hlt,?_⟩;congr 2
  rw [qfg g0 hlt,qcA,qh2,qh2,qsZ];rfl
 ·have:i=r.length:=by omega
  subst this;have e0:decide ((r.length:Int)<(r.length:Int))=false:=by simp
  simp only [e0,cond_false];rw [qag,List.take_length]
theorem qGT{B den:Int}(hB:B<=4611686018427387904){m:Mx}(hl:m.length<=1000000)(hr:∀r∈m,r.length<=1000000)(h:BdM B m)(h0:0<=den)(hd:den<=B) :
  qF (λ(s2:(Int×Int)) =>
   bif decide (s2.1<(m.length:Int))then
    (idx m s2.1).bind λx3 =>
    (qF (λ(s5:(Int×Int)) =>
      bif decide (s5.1<(x3.length:Int))then
       (idx x3 s5.1).bind λx6 =>
       (qas ([s5.2,x6.1,x6.2.1])).bind λx7 =>
       some (.inl (w64 (s5.1+1),x7))
      else
       some (.inr s5.2)) (0,s2.2)).bind λ(p8:Int) =>
    some (.inl (w64 (s2.1+1),p8))
   else
    some (.inr s2.2)) (0,den)=some (qg den m:Int):=by
 refine Ok.eq (qaZ m.length (λi (s:Int×Int)=>s=((i:Int),(qg den (m.take i):Int))) _ (by
  have:((qg den (m.take 0):Nat):Int)=den:=by simp [qg,qe5,qkX]<;>omega
  rw [this];rfl) ?_)
 rintro i s hi rfl;by_cases hlt:i<m.length
 ·have e0:decide ((i:Int)<(m.length:Int))=true:=decide_eq_true (by omega);have hz:m[i]?=some (m.getD i []):=qhL _ hlt;have hmem:=qaG (d:=([]:List G)) hlt;simp only [e0,cond_true];rw [qaO hz];simp only [qa];rw [qqd];refine (qHJ hB (hr _ hmem) (h _ hmem) (qI0 h0 hd (λr hr=>h r (List.mem_of_mem_take hr))) (K:=λ_=>True)).mono ?_;rintro x rfl;rw [wid (by omega) (by omega),qaw];refine ⟨hlt,?_⟩;congr 2
  rw [qfg [] hlt];unfold qg;rw [qtl,qt6]
 ·have:i=m.length:=by omega
  subst this;have e0:decide ((m.length:Int)<(m.length:Int))=false:=by simp
  simp only [e0,cond_false];rw [qag,List.take_length]
theorem qkl{x g B:Int}(h : -B<=x/\x<=B) : -B<=x.tdiv g/\x.tdiv g<=B:=by
 have h1:(x.tdiv g).natAbs<=x.natAbs:=by rw [Int.natAbs_tdiv];exact Nat.div_le_self _ _
 omega
def qld(n c:Nat)(f:Nat->Nat->G)(den:Int):Int×Mx×Unit:=(den.tdiv (qg den (mx n c f)),mx n c (qlc (qg den (mx n c f)) f),())
theorem qIJ{n c:Nat}(hn:n<=1000)(hc:c<=1000)(m:Mx)(g:Int)(f:Nat->Nat->G)(h:∀i k:Nat,i<n->k<c->qcX i k m g=some (f i k)):qaC (n:Int) (c:Int) m g=some (mx n c f):=by
 unfold qaC;exact qg7 n c hn hc (λi k=>qcX i k m g) f h
theorem qrO{n c:Nat}{B den:Int}{f:Nat->Nat->G}(hB:B<=4611686018427387904)(hn:1<=n)(hn2:n<=1000)(hc:c<=1000)(h:BdF B n c f)(h0:0<den)(hd:den<=B) :
  qd3 (mx n c f) den=some (qld n c f den):=by
 unfold qd3;rw [qGT hB (by rw [qd9];omega) (λr hr=>by rw [(quC n c f).2 r hr];omega) (qGm.2 h) (by omega) hd];simp only [qa];rw [qp1,qpD f (by omega),qa,qX,qd9];have hg:0<qg den (mx n c f):=qzN (by omega);have hgne:decide ((qg den (mx n c f):Int)=0)=false:=decide_eq_false (by omega);have hm:=qIJ hn2 hc (mx n c f) (qg den (mx n c f)) (qlc (qg den (mx n c f)) f) (λi k hi hk=>by
  unfold qcX;rw [qaO (qpD f hi)];simp only [qa];rw [qaO (qbR (λk=>f i k) hk)];simp only [qa,hgne,cond_false];have hb:=h i k hi hk;unfold Bd at hb;have t1:=qkl (g:=(qg den (mx n c f):Int)) hb.1;have t2:=qkl (g:=(qg den (mx n c f):Int)) hb.2;rw [wid (by omega) (by omega),wid (by omega) (by omega)];rfl)
 rw [hm];simp only [qa,hgne,cond_false];have t3:=qkl (g:=(qg den (mx n c f):Int)) (B:=B) (x:=den) (by omega);rw [wid (by omega) (by omega)];rfl
def dC(B:Int):Nat->Int
 |0=>1
 |1=>B
 |n+2=>((n+2:Nat):Int)*(2*(B*dC B (n+1)))
theorem qpR{B:Int}(hB:0<=B):∀(n:Nat) (f:Nat->Nat->G),BdF B n n f->Bd (dC B n) (qeK n f)
 |0,f,_=>qGn (by simp [dC])
 |1,f,h=>by rw [qlA];exact h 0 0 (by omega) (by omega)
 |n+2,f,h=>by
  simp only [qeK,dC];refine Bd.sum λk hk=>?_;have h1:=(h 0 k (by omega) hk).mul (qpR hB (n+1) _ (qe0 (r:=0) (c:=k) h));split
  ·exact h1.neg
  ·exact h1
def qG1(n:Nat)(f:Nat->Nat->G)(i k:Nat):G:=qeK n (minor f k i)
def qvv(n:Nat)(f:Nat->Nat->G)(i k:Nat):G:=if (i+k) % 2=1 then qjy (qG1 n f i k)else qG1 n f i k
def qlj(n:Nat)(f:Nat->Nat->G)(d:G)(i k:Nat):G:=qK (qvv n f i k) (qau d)
def norm(d:G):Int:=d.1*d.1+d.2.1*d.2.1
theorem qzA(d:G):qK d (qau d)=(norm d,0,()):=qiN (by simp only [qK,qau,norm];grind) (by simp only [qK,qau];grind)
theorem qp8{d:G}(h:d≠g0):0<norm d:=by
 unfold norm;have h1:=sq_nonneg d.1;have h2:=sq_nonneg d.2.1;rcases Int.lt_or_le 0 (d.1*d.1+d.2.1*d.2.1)with h3|h3
 ·exact h3
 ·exfalso
  have e1:=qu8 (show d.1*d.1=0 by omega);have e2:=qu8 (show d.2.1*d.2.1=0 by omega);exact h (qiN e1 e2)
theorem qxy{B:Int}{d:G}(h:Bd B d)(hB:B<=9000000000000000000):qb3 d=some (qau d):=by
 unfold qb3 qau;unfold Bd at h;rw [wid (by omega) (by omega)];have e:(0:Int)-d.2.1 = -d.2.1:=by omega
 rw [e]
theorem qEo{B:Int}{d:G}(h:Bd B d)(hB:B<=9000000000000000000):qkt d=some (qau d):=by
 unfold qkt qau;unfold Bd at h;rw [wid (by omega) (by omega)];have e:(0:Int)-d.2.1 = -d.2.1:=by omega
 rw [e]
theorem neg_mul(a b:G):qK (qjy a) b=qjy (qK a b):=qiN (by simp only [qK,qjy];grind) (by simp only [qK,qjy];grind)
theorem qC0{B:Int}{a:G}(h:Bd B a)(hB:B<=9000000000000000000):qY (0,0,()) a=some (qjy a):=by
 have:=qDU (a:=g0) (qt1 (B:=0) (by omega)) h (by omega);rw [qv2]at this;exact congrArg some this
theorem qJU(j:Nat):(j:Int).tmod 2=((j % 2:Nat):Int):=by rw [Int.tmod_eq_emod_of_nonneg (by omega)];omega
theorem qE8{n c:Nat}(hn:n<=1000)(hc:c<=1000)(m:Mx)(d:G)(f:Nat->Nat->G)(h:∀i k:Nat,i<n->k<c->qbd i k m d=some (f i k)):qae (n:Int) (c:Int) m d=some (mx n c f):=by
 unfold qae;exact qg7 n c hn hc (λi k=>qbd i k m d) f h
structure InvB (n:Nat) (f:Nat->Nat->G) (d:G) (B M D Q:Int):Prop where
 hB:1<=B
 hf:BdF B (n+1) (n+1) f
 crude:dB B n<=9000000000000000000
 minor:∀i k,i<n+1->k<n+1->Bd M (qG1 n f i k)
 hd:Bd D d
 md:2*(M*D)<=Q
 dd:2*(D*D)<=9000000000000000000
 hQ:Q<=4611686018427387904
 M0:M<=9000000000000000000
 D0:D<=9000000000000000000
 nq:norm d<=Q
 nz:d≠g0
theorem InvB.adj{n:Nat}{f:Nat->Nat->G}{d:G}{B M D Q:Int}(h:InvB n f d B M D Q){i k:Nat}(hi:i<n+1)(hk:k<n+1):Bd M (qvv n f i k):=by
 unfold qvv;split
 ·exact (h.minor i k hi hk).neg
 ·exact h.minor i k hi hk
theorem InvB.t{n:Nat}{f:Nat->Nat->G}{d:G}{B M D Q:Int}(h:InvB n f d B M D Q):BdF Q (n+1) (n+1) (qlj n f d):=λi k hi hk=>((h.adj hi hk).mul h.hd.qEk).mono h.md
theorem qG5{n:Nat}{f:Nat->Nat->G}{B:Int}(hB:1<=B)(hn:n<=10)(hf:BdF B n n f)(hb:dB B n<=9000000000000000000):qW (mx n n f)=some (qeK n f):=by
 unfold qW;exact qGo hB 12 n f (by omega) (by omega) hf hb
theorem qzP{n:Nat}{f:Nat->Nat->G}{B:Int}(hB:1<=B)(hn:n<=10)(hf:BdF B n n f)(hb:dB B n<=9000000000000000000):qbj (mx n n f)=some (qeK n f):=by
 unfold qbj;exact qwR hB 12 n f (by omega) (by omega) hf hb
theorem qs5{n:Nat}{f:Nat->Nat->G}{d:G}{B M D Q:Int}(hn:n<=5)(h:InvB n f d B M D Q) :
  qbE (mx (n+1) (n+1) f) d=some (qld (n+1) (n+1) (qlj n f d) (norm d)):=by
 unfold qbE;rw [qd9];have h2Q:2*(M*D)<=9000000000000000000:=by have:=h.md;have:=h.hQ;omega
 rw [qE8 (by omega) (by omega) _ d (qlj n f d) (λi k hi hk=>by
  unfold qbd;rw [qyT (by omega) f hk hi];simp only [qa];rw [qG5 h.hB (by omega) (qe0 h.hf) h.crude];simp only [qa];rw [qxy h.hd h.D0];simp only [qa];have hb:=h.minor i k hi hk;unfold qG1 at hb;rw [qhh hb h.hd.qEk h2Q];simp only [qa];rw [wid (by omega) (by omega)];have e0:((i:Int)+(k:Int))=((i+k:Nat):Int):=by omega
  rw [e0,qJU];unfold qlj qvv qG1;by_cases hp:(i+k) % 2=1
  ·have e2:decide ((((i+k) % 2:Nat):Int)=1)=true:=decide_eq_true (by omega);rw [e2,cond_true,if_pos hp,qC0 (hb.mul h.hd.qEk) h2Q,neg_mul];rfl
  ·have e2:decide ((((i+k) % 2:Nat):Int)=1)=false:=decide_eq_false (by omega);rw [e2,cond_false,if_neg hp])]
 simp only [qa];rw [qxy h.hd h.D0];simp only [qa];rw [qhh h.hd h.hd.qEk h.dd,qzA];simp only [qa];rw [qrO h.hQ (by omega) (by omega) (by omega) h.t (qp8 h.nz) h.nq];rfl
def qqJ(z:G):Int:=(z.1.natAbs:Int)+(z.2.1.natAbs:Int)
def qDV:Nat->(Nat->Int)->Int
 |0,_=>0
 |n+1,f=>qDV n f+f n
def qFd:Nat->(Nat->Int)->Int
 |0,_=>0
 |n+1,f=>max (qFd n f) (f n)
def qId(n c:Nat)(f:Nat->Nat->G):Int:=qFd n λi=>qDV c λk=>qqJ (f i k)
theorem qub{B:Int}{z:G}(h:Bd B z):0<=qqJ z/\qqJ z<=2*B:=by unfold qqJ;unfold Bd at h;omega
theorem qyF{B:Int}{f:Nat->Int}:∀{n:Nat},(∀k,k<n->0<=f k/\f k<=B)->0<=qDV n f/\qDV n f<=n*B
 |0,_=>by simp [qDV]
 |n+1,h=>by
  have h1:=qyF (n:=n) λk hk=>h k (by omega);have h2:=h n (by omega);have e:((n+1:Nat):Int)*B=n*B+B:=by rw [Int.natCast_add,Int.add_mul];simp
  simp only [qDV]<;>omega
theorem qCU{B:Int}(hB:0<=B){f:Nat->Int}:∀{n:Nat},(∀k,k<n->f k<=B)->0<=qFd n f/\qFd n f<=B
 |0,_=>by simp [qFd,hB]
 |n+1,h=>by
  have h1:=qCU hB (n:=n) λk hk=>h k (by omega);have h2:=h n (by omega);simp only [qFd]<;>omega
theorem qHR{B:Int}{z:G}(h:Bd B z)(hB:B<=4000000000000000000):qeh z=some (qqJ z):=by
 unfold qeh qqJ;unfold Bd at h;rw [wid (n:=0-z.1) (by omega) (by omega),wid (n:=0-z.2.1) (by omega) (by omega),wid (by omega) (by omega)];congr 1;omega
theorem qI9{c k:Nat}{B:Int}(hB:0<=B)(h:k<=c):(k:Int)*(2*B)<=c*(2*B):=Int.mul_le_mul_of_nonneg_right (by omega) (by omega)
theorem qDE{n c:Nat}{B:Int}{f:Nat->Nat->G}(hB0:0<=B)(hf:BdF B n c f)(hn:n<=1000)(hc:c<=1000)(hb:(c:Int)*(2*B)<=4000000000000000000)(hB:B<=4000000000000000000):qcK (mx n c f)=some (qId n c f):=by
 unfold qcK;rw [qd9];refine Ok.eq ?_;rw [qfG];refine (qaZ n (λi (s:Int×Int)=>s=(qFd i (λi=>qDV c λk=>qqJ (f i k)),(i:Int))) (λr=>r=qId n c f) rfl ?_).mono (λa ha=>by rw [ha];exact qbT.2 rfl);rintro i s hi rfl;by_cases hlt:i<n
 ·have e0:decide ((i:Int)<(n:Int))=true:=decide_eq_true (by omega);simp only [e0,cond_true];rw [qaO (qpD f hlt)];simp only [qa,qX];rw [qqd];refine (qaZ c (λk (s:Int×Int)=>s=(qDV k (λk=>qqJ (f i k)),(k:Int))) (λr=>r=qDV c λk=>qqJ (f i k)) rfl ?_).mono ?_
  ·rintro k s hk rfl;by_cases hlt2:k<c
   ·have e1:decide ((k:Int)<(c:Int))=true:=decide_eq_true (by omega);simp only [e1,cond_true];rw [qxt f hlt hlt2];simp only [qa];rw [qHR (hf i k hlt hlt2) hB];simp only [qa];have hs:=qyF (B:=2*B) (f:=λk=>qqJ (f i k)) (n:=k) λj hj=>qub (hf i j hlt (by omega));have hz:=qub (hf i k hlt hlt2);have hle:=qI9 hB0 (show k+1<=c by omega);have e:((k+1:Nat):Int)*(2*B)=k*(2*B)+2*B:=by rw [Int.natCast_add,Int.add_mul];simp
    rw [wid (by omega) (by omega),wid (by omega) (by omega),qaw];exact ⟨hlt2,rfl⟩
   ·have:k=c:=by omega
    subst this;have e1:decide ((k:Int)<(k:Int))=false:=by simp
    simp only [e1,cond_false];rw [qag]
  ·rintro r rfl;rw [wid (by omega) (by omega),qaw];exact ⟨hlt,rfl⟩
 ·have:i=n:=by omega
  subst this;have e0:decide ((i:Int)<(i:Int))=false:=by simp
  simp only [e0,cond_false];rw [qag];rfl
def qdw(s:Int)(i k:Nat):G:=if i=k then (s,0,())else g0
theorem qIL{n c:Nat}(hn:n<=1000)(hc:c<=1000)(f:Nat->Nat->G)(h:∀i k:Nat,i<n->k<c->qf4 i k=some (f i k)):qbb (n:Int) (c:Int)=some (mx n c f):=by
 unfold qbb;exact qg7 n c hn hc (λi k=>qf4 i k) f h
theorem qEg{n:Nat}(hn:n<=1000):qhZ (n:Int)=some (mx n n (qdw 1)):=by
 unfold qhZ;rw [qIL hn hn (qdw 1) (λi k hi hk=>by
  unfold qf4 qdw;by_cases h:i=k
  ·rw [if_pos h,decide_eq_true (show (i:Int)=(k:Int) by omega)];rfl
  ·rw [if_neg h,decide_eq_false (show ¬ (i:Int)=(k:Int) by omega)];rfl)]
 rfl
theorem qIK{n c:Nat}(hn:n<=1000)(hc:c<=1000)(m:Mx)(s:Int)(f:Nat->Nat->G)(h:∀i k:Nat,i<n->k<c->qbt i k m s=some (f i k)):qai (n:Int) (c:Int) m s=some (mx n c f):=by
 unfold qai;exact qg7 n c hn hc (λi k=>qbt i k m s) f h
theorem qw4{n c:Nat}{A B s:Int}{f:Nat->Nat->G}(hn1:1<=n)(hn:n<=1000)(hc:c<=1000)(hf:BdF A n c f)(hs : -B<=s/\s<=B)(hb:2*(A*B)<=9000000000000000000) :
  qaH (mx n c f) s=some (mx n c λi k=>qK (f i k) (s,0,())):=by
 unfold qaH;rw [qp1,qpD f (by omega),qa,qX,qd9];rw [qIK hn hc _ s (λi k=>qK (f i k) (s,0,())) (λi k hi hk=>by
  unfold qbt;rw [qxt f hi hk];simp only [qa];rw [qhh (hf i k hi hk) (B:=B) (by unfold Bd;simp only;omega) hb];rfl)]
 rfl
theorem qxE(s:Int)(i k:Nat):qK (qdw 1 i k) (s,0,())=qdw s i k:=by
 unfold qdw;by_cases h:i=k
 ·rw [if_pos h,if_pos h];exact qzj _
 ·rw [if_neg h,if_neg h];exact qh6 _
theorem qxD{s B:Int}(h0:0<=B)(h : -B<=s/\s<=B)(n c:Nat):BdF B n c (qdw s):=λi k _ _=>by
 unfold qdw;split
 ·unfold Bd;simp only<;>omega
 ·exact qt1 h0
theorem qly{n:Nat}{s:Int}(hn1:1<=n)(hn:n<=1000)(hs : -4000000000000000000<=s/\s<=4000000000000000000) :
  qaH (mx n n (qdw 1)) s=some (mx n n (qdw s)):=by
 rw [qw4 (A:=1) (B:=4000000000000000000) hn1 hn hn (qxD (by omega) (by omega) n n) hs (by omega)];congr 1
 exact qkH λi k _ _=>qxE s i k
def qIa(a b:Mx):Option Nat:=qfB (λi r=>if r=b.getD i []then none else some i) 0 a
theorem qEB{l m:List G}(hl:l.length<=1000000000):qan l m=some (decide (l=m)):=by
 have h:=qnO (l:=l) (m:=m) hl;unfold qeB at h;unfold qan;exact h
theorem qAs{a b:Mx}(ha:a.length<=1000000000)(hb:a.length<=b.length)(har:∀r∈a,r.length<=1000000000):qgy a b=some (match qIa a b with
  |some i=>((i:Int),true)
  |none=>(0,false)):=by
 unfold qgy qIa;rw [qgB a _ (λi r=>if r=b.getD i []then none else some ((i:Int),true)) (λi r hi=>?_),qdG]
 ·have key:∀(l:Mx) (k:Nat),qfB (λi r=>if r=b.getD i []then none else some ((i:Int),true)) k l=(qfB (λi r=>if r=b.getD i []then none else some i) k l).map λ(i:Nat)=>((i:Int),true):=by
   intro l;induction l with
   |nil=>intro k;rfl
   |cons r l ih =>
    intro k;simp only [qfB];by_cases c:r=b.getD k []
    ·simp only [c,if_true];exact ih (k+1)
    ·simp only [c,if_false]<;>rfl
  rw [key];cases qfB (λi r=>if r=b.getD i []then none else some i) 0 a<;>rfl
 ·have hlt:=qgr hi;rw [qaO hi];simp only [qa];rw [qfp [] (by omega) (by omega),qa,qEB (har r (List.mem_of_getElem? hi))];simp only [qa,Int.toNat_natCast];rw [wid (by omega) (by omega)];by_cases c:r=b.getD i []
  ·rw [decide_eq_true c,if_pos c];rfl
  ·rw [decide_eq_false c,if_neg c];rfl
abbrev Qt:=Int×Mx×Unit
def qbN:Int:=100000000000
instance (B:Int) (m:Mx):Decidable (BdM B m):=inferInstanceAs (Decidable (∀r∈m,∀z∈r,Bd B z))
def qtE(x:Qt)(n:Nat):Int :=
 if ¬ (1<=x.1/\x.1<=qbN)then 2 else if x.2.1.length≠n then 10 else if ¬ (∀r∈x.2.1,r.length=n)then 10
 else if ¬ BdM qbN x.2.1 then 2 else if qg x.1 x.2.1=1 then 0 else 3
theorem qqC(a b:Int):qx [a,b]=some (if a=0 then b else a):=by
 rw [qmB _ (by simp)];by_cases h:a=0<;>by_cases h2:b=0<;>simp [qxk,h,h2]
theorem qFB{x:Qt}{n:Nat}(hl:x.2.1.length<=1000)(hr:∀r∈x.2.1,r.length<=1000)(hn:n<=1000):qdC x (n:Int)=some (qtE x n):=by
 obtain ⟨den,m,u⟩:=x;simp only at hl hr;unfold qdC;simp only
 rw [qko];simp only [qeg,qa];rw [qqC];simp only [qa];have hden:(decide (1<=den/\den<=100000000000)=true)↔(1<=den/\den<=qbN):=by simp [qbN]
 let e0:Int:=if (if decide (1<=den/\den<=100000000000)=true then (0:Int)else 2)=0 then (if decide ((m.length:Int)=(n:Int))=true then 0 else 10)else (if decide (1<=den/\den<=100000000000)=true then 0 else 2)
 have hloop:qF (λ(s6:(Int×Int)) =>
   bif decide (s6.2<(m.length:Int))then
    (idx m s6.2).bind λx7 =>
    (qx ([s6.1,if decide ((x7.length:Int)=(n:Int))=true then (0:Int)else 10])).bind λx9 =>
    some (.inl (x9,w64 (s6.2+1)))
   else
    some (.inr s6.1)) (e0,0)=some (if e0≠0 then e0 else if ∀r∈m,r.length=n then 0 else 10):=by
  refine Ok.eq (qaZ m.length (λi (s:Int×Int)=>s=(if e0≠0 then e0 else if ∀r∈m.take i,r.length=n then 0 else 10,(i:Int))) _ ?_ ?_)
  ·by_cases h:e0=0<;>simp [h]
  ·rintro i s hi rfl;by_cases hlt:i<m.length
   ·have d0:decide ((i:Int)<(m.length:Int))=true:=decide_eq_true (by omega);have hz:m[i]?=some (m.getD i []):=qhL _ hlt;simp only [d0,cond_true];rw [qaO hz];simp only [qa];rw [qqC];simp only [qa];rw [wid (by omega) (by omega),qaw];refine ⟨hlt,?_⟩;congr 1
    rw [qfg [] hlt];by_cases h:e0=0
    ·have hc:¬ e0≠0:=by simp [h]
     rw [if_neg hc,if_neg hc];by_cases ha:∀r∈m.take i,r.length=n
     ·rw [if_pos ha,if_pos rfl];by_cases hq:(m.getD i []).length=n
      ·rw [decide_eq_true (show ((m.getD i []).length:Int)=(n:Int) by omega),if_pos rfl,if_pos];intro r hr';rcases qk.1 hr' with h1|h1
       ·exact ha r h1
       ·rw [List.mem_singleton]at h1;rw [h1];exact hq
      ·rw [decide_eq_false (show ¬ ((m.getD i []).length:Int)=(n:Int) by omega),if_neg (by simp),if_neg];intro h9;exact hq (h9 _ (by simp))
     ·rw [if_neg ha,if_neg (by omega),if_neg];intro h9;exact ha λr hr'=>h9 r (by simp [hr'])
    ·rw [if_pos h,if_pos h,if_neg h]
   ·have:i=m.length:=by omega
    subst this;have d0:decide ((m.length:Int)<(m.length:Int))=false:=by simp
    simp only [d0,cond_false];rw [qag,List.take_length]
 have hgoal:(if (if decide (1<=den/\den<=100000000000)=true then (0:Int)else 2)=0 then (if decide ((m.length:Int)=(n:Int))=true then (0:Int)else 10)else (if decide (1<=den/\den<=100000000000)=true then 0 else 2))=e0:=rfl;rw [hgoal,hloop];simp only [qa];by_cases c1:1<=den/\den<=qbN
 case neg =>
  have he:e0=2:=by
   show (if (if decide (1<=den/\den<=100000000000)=true then (0:Int)else 2)=0 then _ else _)=_;rw [if_neg (λh=>c1 (hden.1 h)),if_neg (by omega)]
  have hv:qtE (den,m,u) n=2:=by unfold qtE;rw [if_pos c1]
  rw [he,if_pos (show (2:Int)≠0 by omega),hv];rfl
 by_cases c2:m.length=n
 case neg =>
  have he:e0=10:=by
   show (if (if decide (1<=den/\den<=100000000000)=true then (0:Int)else 2)=0 then _ else _)=_;rw [if_pos (hden.2 c1),if_pos rfl,if_neg (by simp;omega)]
  have hv:qtE (den,m,u) n=10:=by unfold qtE;rw [if_neg (λh=>h c1),if_pos c2]
  rw [he,if_pos (show (10:Int)≠0 by omega),hv];rfl
 have he:e0=0:=by
  show (if (if decide (1<=den/\den<=100000000000)=true then (0:Int)else 2)=0 then _ else _)=_;rw [if_pos (hden.2 c1),if_pos rfl,if_pos (by simp;omega)]
 rw [he,if_neg (show ¬ (0:Int)≠0 by omega)];by_cases c3:∀r∈m,r.length=n
 case neg =>
  have hv:qtE (den,m,u) n=10:=by unfold qtE;rw [if_neg (λh=>h c1),if_neg (λh=>h c2),if_pos c3]
  rw [if_neg c3,hv];rfl
 have hv:qtE (den,m,u) n=if ¬ BdM qbN m then 2 else if qg den m=1 then 0 else 3:=by unfold qtE;rw [if_neg (λh=>h c1),if_neg (λh=>h c2),if_neg (λh=>h c3)]
 rw [if_pos c3,hv];simp only [decide_true,Bool.not_true,cond_false]
 have hden1:den.natAbs<=qbN.toNat:=by unfold qbN at *;omega
 have hqb:∀i,BdM qbN (m.take i)->(qg den (m.take i):Int)<=qbN:=λi h=>qI0 (by omega) c1.2 h;refine Ok.eq (qrB.2 ?_);refine (qaZ m.length (λi (s:Int×Int)=>s=((qg den (m.take i):Int),(i:Int))/\BdM qbN (m.take i))
  (λr=>(r=.inl (qg den m:Int)/\BdM qbN m)\/(r=.inr 2/\¬ BdM qbN m)) ⟨by
   have:((qg den (m.take 0):Nat):Int)=den:=by simp [qg,qe5,qkX]<;>omega
   rw [this];rfl,by intro r hr;simp at hr⟩ ?_).mono ?_
 ·rintro i s hi ⟨rfl,hI⟩;by_cases hlt:i<m.length
  ·have d0:decide ((i:Int)<(m.length:Int))=true:=decide_eq_true (by omega);have hz:m[i]?=some (m.getD i []):=qhL _ hlt;have hmem:=qaG (d:=([]:List G)) hlt;have hrl:=hr _ hmem;simp only [d0,cond_true];rw [qaO hz];simp only [qa];generalize hrow:m.getD i []=r at *;rw [qFJ];have hq:=hqb i hI;refine (qaZ r.length (λk (s:Int×Int)=>s=((qkX (qg den (m.take i)) (parts (r.take k)):Int),(k:Int))/\∀z∈r.take k,Bd qbN z)
    (λx=>(x=.inl (qkX (qg den (m.take i)) (parts r):Int)/\∀z∈r,Bd qbN z)\/(x=.inr (.inr (.inr 2))/\¬ ∀z∈r,Bd qbN z)) ⟨rfl,by simp⟩ ?_).mono ?_
   ·rintro k s hk ⟨rfl,hK⟩;by_cases hlt2:k<r.length
    ·have d1:decide ((k:Int)<(r.length:Int))=true:=decide_eq_true (by omega);have hz2:r[k]?=some (r.getD k g0):=qhL _ hlt2;simp only [d1,cond_true];rw [qaO hz2];simp only [qa];rw [qc0 _ _ (by omega) (by omega)];simp only [qa];by_cases hb:Bd 100000000000 (r.getD k g0)
     ·rw [decide_eq_true hb,Bool.not_true,cond_false];have hgb:qkX (qg den (m.take i)) (parts (r.take k))<=qbN.toNat:=qqH (by unfold qbN at *;omega) λx hx=>by
       have:=quM hK hx;unfold qbN at *;omega
      have hb':=hb;unfold Bd at hb;rw [qsM _ (by simp) (by
       intro x hx;unfold qbN at *;simp only [qm,List.not_mem_nil,or_false]at hx;rcases hx with rfl|rfl|rfl<;>omega)]
      simp only [qa];rw [wid (by omega) (by omega),qaw];refine ⟨hlt2,?_,λz hz3=>?_⟩
      ·congr 2
       rw [qfg g0 hlt2,qcA,qh2,qh2,qsZ];rfl
      ·rw [qfg g0 hlt2]at hz3;rcases qk.1 hz3 with h1|h1
       ·exact hK z h1
       ·rw [List.mem_singleton]at h1;rw [h1];exact hb'
     ·rw [decide_eq_false hb,Bool.not_false,cond_true,qag];exact .inr ⟨rfl,λh=>hb (h _ (qaG hlt2))⟩
    ·have:k=r.length:=by omega
     subst this;have d1:decide ((r.length:Int)<(r.length:Int))=false:=by simp
     simp only [d1,cond_false];rw [qag];rw [List.take_length]at hK ⊢;exact .inl ⟨rfl,hK⟩
   ·rintro x (⟨rfl,h⟩|⟨rfl,h⟩)
    ·simp only
     rw [wid (by omega) (by omega),qaw];have e:m.take (i+1)=m.take i++[r]:=by rw [qfg [] hlt,hrow]
     refine ⟨hlt,?_,?_⟩
     ·rw [e];unfold qg;rw [qtl,qt6];rfl
     ·rw [e];intro q hq2;rcases qk.1 hq2 with h1|h1
      ·exact hI q h1
      ·rw [List.mem_singleton]at h1;rw [h1];exact h
    ·simp only
     exact .inr ⟨(by trivial),λhh=>h (hh r hmem)⟩
  ·have:i=m.length:=by omega
   subst this;have d0:decide ((m.length:Int)<(m.length:Int))=false:=by simp
   simp only [d0,cond_false];rw [qag];rw [List.take_length]at hI ⊢;exact .inl ⟨rfl,hI⟩
 ·rintro x (⟨rfl,h⟩|⟨rfl,h⟩)
  ·simp only
   rw [if_neg (show ¬ ¬ BdM qbN m from λhh=>hh h)];by_cases hq:qg den m=1
   ·rw [if_pos hq,decide_eq_true (show (qg den m:Int)=1 by omega)];exact qbT.2 rfl
   ·rw [if_neg hq,decide_eq_false (show ¬ (qg den m:Int)=1 by omega)];exact qbT.2 rfl
  ·simp only
   rw [if_pos h]
end Go.Proofs.YteiciemjanhdcaaGreatDoor.Mat
end
section
namespace Go.Proofs.YteiciemjanhdcaaGreatDoor.Mat
open Go Go.Ab Go.Tx Go.Proofs.YteiciemjanhdcaaGreatDoor
theorem qIu{B:Int}(hB:0<=B)(h20:B<=20):∀n,n<=3->dC B n<=192000/\(n<=2->dC B n<=1600):=λn hn=>by
 have h1:B*B<=20*20:=Int.mul_le_mul h20 h20 hB (by omega);have h2:B*(2*(2*(B*B)))<=20*(2*(2*(20*20))):=Int.mul_le_mul h20 (by omega) (by have:=Int.mul_nonneg hB hB;omega) (by omega)
 match n,hn with
 |0,_=>simp [dC]
 |1,_=>simp only [dC]<;>omega
 |2,_=>simp only [dC]<;>omega
 |3,_ =>
  have e:dC B 3=3*(2*(B*(2*(2*(B*B))))):=rfl;rw [e];omega
theorem qJq:∀n,n<=3->dB 20 n<=9000000000000000000:=λn hn=>by
 match n,hn with
 |0,_=>decide
 |1,_=>decide
 |2,_=>decide
 |3,_=>decide
def qgh(m:Mx):G:=qeK m.length (ent m)
theorem qG6{n:Nat}{f:Nat->Nat->G}(hn:n<=3)(h:BdF 20 n n f):Bd 192000 (qeK n f):=(qpR (by omega) n f h).mono (qIu (by omega) (by omega) n hn).1
theorem norm_le{D:Int}{d:G}(h:Bd D d):norm d<=2*(D*D):=by
 have:=(qaM h.1 h.1).2;have:=(qaM h.2 h.2).2;unfold norm;omega
theorem qGw{n:Nat}{f:Nat->Nat->G}(hn:n+1<=3)(h:BdF 20 (n+1) (n+1) f)(hz:qeK (n+1) f≠g0):InvB n f (qeK (n+1) f) 20 1600 192000 73728000000 where
 hB:=by omega
 hf:=h
 crude:=qJq n (by omega)
 minor:=λi k hi hk=>(qpR (by omega) n _ (qe0 h)).mono ((qIu (by omega) (by omega) n (by omega)).2 (by omega))
 hd:=qG6 hn h
 md:=by omega
 dd:=by omega
 hQ:=by omega
 M0:=by omega
 D0:=by omega
 nq:=norm_le (qG6 hn h)
 nz:=hz
def qzm(m:Mx):Qt:=qld m.length m.length (qlj (m.length-1) (ent m) (qgh m)) (norm (qgh m))
def qh7(m:Mx):Int:=if qg8 m≠0 then qg8 m else if qgh m=g0 then 11 else 0
def noQ:Qt:=(0,[],())
theorem qf8{m:Mx}(h:qg8 m=0):∃n,m.length=n+1/\n+1<=3/\m=mx (n+1) (n+1) (ent m)/\BdF 20 (n+1) (n+1) (ent m):=by
 obtain ⟨h1,h3,hR,hB⟩:=qpa h;refine ⟨m.length-1,by omega,by omega,?_,?_⟩
 ·have e:m.length-1+1=m.length:=by omega
  rw [e];exact qoB hR
 ·have e:m.length-1+1=m.length:=by omega
  rw [e];exact qnR hB hR
theorem qG7{m:Mx}(h:qg8 m=0):qW m=some (qgh m):=by
 obtain ⟨n,hl,h3,hm,hB⟩:=qf8 h;unfold qgh;rw [hl];conv=>lhs;rw [hm]
 exact qG5 (by omega) (by omega) hB (qJq _ h3)
theorem qBc{m:Mx}(h:qg8 m=0):qbj m=some (qgh m):=by
 obtain ⟨n,hl,h3,hm,hB⟩:=qf8 h;unfold qgh;rw [hl];conv=>lhs;rw [hm]
 exact qzP (by omega) (by omega) hB (qJq _ h3)
theorem qoX{m:Mx}(h:m.length<=1000000000)(hr:∀r∈m,r.length<=1000000000):qcr m=some (if qh7 m=0 then qzm m else noQ,qh7 m):=by
 unfold qcr;rw [qeD h hr];simp only [qa];unfold qh7;by_cases hE:qg8 m=0
 case neg =>
  rw [if_pos hE,decide_eq_false hE,Bool.not_false,cond_true,if_neg hE];rfl
 rw [if_neg (show ¬ qg8 m≠0 from λhh=>hh hE),decide_eq_true hE,Bool.not_true,cond_false,qG7 hE];simp only [qa];have hgz:(bif decide ((qgh m).1=0)then (bif decide ((qgh m).2.1=0)then true else false)else false)=decide (qgh m=g0):=qt7 (qgh m) g0;rw [hgz];by_cases hz:qgh m=g0
 ·rw [decide_eq_true hz,cond_true,if_pos hz];rfl
 ·rw [decide_eq_false hz,cond_false,if_neg hz,if_pos rfl];obtain ⟨n,hl,h3,hm,hB⟩:=qf8 hE;have hd:qgh m=qeK (n+1) (ent m):=by unfold qgh;rw [hl]
  have hz':qeK (n+1) (ent m)≠g0:=by rw [<- hd];exact hz
  have:=qs5 (by omega) (qGw h3 hB hz');rw [<- hm,<- hd]at this;rw [this];unfold qzm;rw [hl,show n+1-1=n by omega];rfl
theorem qtR{m:Mx}:qen m=some (qh7 m):=by
 unfold qen;rw [qvt];simp only [qa];unfold qh7;by_cases hE:qg8 m=0
 case neg =>
  rw [if_pos hE,decide_eq_false hE,Bool.not_false,cond_true]
 rw [if_neg (show ¬ qg8 m≠0 from λhh=>hh hE),decide_eq_true hE,Bool.not_true,cond_false,qBc hE];simp only [qa];have hgz:(bif decide ((qgh m).1=0)then (bif decide ((qgh m).2.1=0)then true else false)else false)=decide (qgh m=g0):=qt7 (qgh m) g0;rw [hgz];by_cases hz:qgh m=g0
 ·rw [decide_eq_true hz,cond_true,if_pos hz]
 ·rw [decide_eq_false hz,cond_false,if_neg hz]
theorem qjM{m:Mx}(h:qh7 m=0):qg8 m=0/\qgh m≠g0:=by
 unfold qh7 at h;by_cases hE:qg8 m=0
 ·rw [if_neg (show ¬ qg8 m≠0 from λhh=>hh hE)]at h;by_cases hz:qgh m=g0
  ·rw [if_pos hz]at h;cases h
  ·exact ⟨hE,hz⟩
 ·rw [if_pos hE]at h;exact absurd h hE
def qjm(m:Mx):Nat->Nat->G:=qlc (qg (norm (qgh m)) (mx m.length m.length (qlj (m.length-1) (ent m) (qgh m)))) (qlj (m.length-1) (ent m) (qgh m))
def qhU(m:Mx):Int:=(norm (qgh m)).tdiv (qg (norm (qgh m)) (mx m.length m.length (qlj (m.length-1) (ent m) (qgh m))))
theorem qCx(m:Mx):qzm m=(qhU m,mx m.length m.length (qjm m),()):=rfl
theorem qHg{m:Mx}(h:qh7 m=0):BdF 614400000 m.length m.length (qlj (m.length-1) (ent m) (qgh m)):=by
 obtain ⟨hE,hz⟩:=qjM h;obtain ⟨n,hl,h3,hm,hB⟩:=qf8 hE;have hd:qgh m=qeK (n+1) (ent m):=by unfold qgh;rw [hl]
 have hz':qeK (n+1) (ent m)≠g0:=by rw [<- hd];exact hz
 rw [hd,hl,show n+1-1=n by omega];have hI:=qGw h3 hB hz';intro i k hi hk;exact ((hI.adj hi hk).mul hI.hd.qEk).mono (by omega)
theorem qud{m:Mx}(h:qh7 m=0):BdF 614400000 m.length m.length (qjm m):=λi k hi hk=>by
 have hb:=qHg h i k hi hk;exact ⟨qkl hb.1,qkl hb.2⟩
theorem qxY{m:Mx}(h:qh7 m=0):0<=qhU m/\qhU m<=73728000000:=by
 obtain ⟨hE,hz⟩:=qjM h;obtain ⟨n,hl,h3,hm,hB⟩:=qf8 hE;have hd:qgh m=qeK (n+1) (ent m):=by unfold qgh;rw [hl]
 have hn:=qp8 hz;have hb:=norm_le (qG6 h3 hB);rw [<- hd]at hb;unfold qhU;have:=qkl (x:=norm (qgh m)) (g:=(qg (norm (qgh m)) (mx m.length m.length (qlj (m.length-1) (ent m) (qgh m))):Int)) (B:=73728000000) (by omega);exact ⟨Int.tdiv_nonneg (by omega) (Int.natCast_nonneg _),this.2⟩
def qy5(m:Mx)(x:Qt):Int×Int:=if qg8 m≠0 then (0,qg8 m)else if qtE x m.length≠0 then (0,qtE x m.length)else
 match qIa (mx m.length m.length (qbi m.length (ent m) (ent x.2.1))) (mx m.length m.length (qdw x.1))with
 |some i=>((i:Int),19)
 |none=>(0,0)
theorem qJI{x:Qt}{n:Nat}(h:qtE x n=0):(1<=x.1/\x.1<=qbN)/\qH6 n n x.2.1/\BdM qbN x.2.1/\qg x.1 x.2.1=1:=by
 unfold qtE at h;by_cases c1:1<=x.1/\x.1<=qbN
 ·rw [if_neg (λh=>h c1)]at h;by_cases c2:x.2.1.length=n
  ·rw [if_neg (λh=>h c2)]at h;by_cases c3:∀r∈x.2.1,r.length=n
   ·rw [if_neg (λh=>h c3)]at h;by_cases c4:BdM qbN x.2.1
    ·rw [if_neg (λh=>h c4)]at h;by_cases c5:qg x.1 x.2.1=1
     ·exact ⟨c1,⟨c2,c3⟩,c4,c5⟩
     ·rw [if_neg c5]at h;cases h
    ·rw [if_pos c4]at h;cases h
   ·rw [if_pos c3]at h;cases h
  ·rw [if_pos c2]at h;cases h
 ·rw [if_pos c1]at h;cases h
theorem qqi{m:Mx}{x:Qt}(h:m.length<=1000000000)(hr:∀r∈m,r.length<=1000000000)(hl:x.2.1.length<=1000)(hxr:∀r∈x.2.1,r.length<=1000):qb7 m x=some (qy5 m x):=by
 unfold qb7 qy5;rw [qeD h hr];simp only [qa];by_cases hE:qg8 m=0
 case neg=>rw [decide_eq_false hE,Bool.not_false,cond_true,if_pos hE]
 rw [decide_eq_true hE,Bool.not_true,cond_false,if_neg (show ¬ qg8 m≠0 from λhh=>hh hE)];obtain ⟨n,hn,h3,hm,hB⟩:=qf8 hE;rw [qFB hl hxr (by omega)];simp only [qa];by_cases hq:qtE x m.length=0
 case neg=>rw [decide_eq_false hq,Bool.not_false,cond_true,if_pos hq]
 rw [decide_eq_true hq,Bool.not_true,cond_false,if_neg (show ¬ qtE x m.length≠0 from λhh=>hh hq)];obtain ⟨hd,hR,hxB,_⟩:=qJI hq;have hx:=qoB hR;have hxb:=qnR hxB hR;rw [hn]at hx hxb ⊢;have htimes:=qvd (A:=20) (B:=qbN) (by omega) (by unfold qbN;omega) hB hxb (by omega) (by omega) (by omega) (by omega) (by unfold qbN;omega);rw [<- hm,<- hx]at htimes;rw [htimes,qEg (by omega)];simp only [qa];rw [qly (by omega) (by omega) (by unfold qbN at hd;omega)];simp only [qa];rw [qAs (by rw [qd9];omega) (by rw [qd9,qd9];omega) (λr hr=>by rw [(quC _ _ _).2 r hr];omega)];simp only [qa];cases qIa (mx (n+1) (n+1) (qbi (n+1) (ent m) (ent x.2.1))) (mx (n+1) (n+1) (qdw x.1))<;>rfl
theorem qqj{x:Qt}(hl:x.2.1.length<=1000000000)(hr:∀r∈x.2.1,r.length<=1000000000):qcc x=some x:=by
 unfold qcc;rw [qdv hl hr];rfl
end Go.Proofs.YteiciemjanhdcaaGreatDoor.Mat
namespace Go.Proofs.YteiciemjanhdcaaGreatDoor
open Go Go.Ab Go.Tx
end Go.Proofs.YteiciemjanhdcaaGreatDoor
end
section
namespace Go.Proofs.YteiciemjanhdcaaGreatDoor.Mat
open Go Go.Ab Go.Tx Go.Proofs.YteiciemjanhdcaaGreatDoor
theorem qkS{n:Nat}{f:Nat->G}(c:G):qeJ n (λk=>qK (f k) c)=qK (qeJ n f) c:=by
 induction n with
 |zero=>exact (qh6 c).symm
 |succ n ih=>simp only [qeJ,ih,qEH]
theorem qCg(a b c d:G):qcP (qcP a b) (qcP c d)=qcP (qcP a c) (qcP b d):=qiN (by simp only [qcP];omega) (by simp only [qcP];omega)
theorem qz1{n:Nat}(f h:Nat->G):qeJ n (λk=>qcP (f k) (h k))=qcP (qeJ n f) (qeJ n h):=by
 induction n with
 |zero=>exact (qvX g0).symm
 |succ n ih=>simp only [qeJ,ih];exact qCg _ _ _ _
theorem qnG:∀n,qeJ n (λ_=>g0)=g0
 |0=>rfl
 |n+1=>by simp only [qeJ,qnG n]<;>rfl
theorem qxa{n c:Nat}(f:Nat->Nat->G):qeJ n (λi=>qeJ c (λk=>f i k))=qeJ c (λk=>qeJ n (λi=>f i k)):=by
 induction n with
 |zero=>exact (qnG c).symm
 |succ n ih=>simp only [qeJ,ih];exact (qz1 _ _).symm
theorem qz2{n:Nat}{f:Nat->G}{i:Nat}(hi:i<n)(h:∀j,j<n->j≠i->f j=g0):qeJ n f=f i:=by
 induction n with
 |zero=>omega
 |succ n ih =>
  simp only [qeJ];by_cases e:i=n
  ·subst e;rw [qbz (h:=λ_=>g0) (λk hk=>h k (by omega) (by omega)),qnG,qh5]
  ·rw [ih (by omega) (λj hj hne=>h j (by omega) hne),h n (by omega) (by omega),qvX]
theorem qdt{n i k:Nat}{f f' h h':Nat->Nat->G}(e1:∀j,j<n->f i j=f' i j)(e2:∀j,j<n->h j k=h' j k):qbi n f h i k=qbi n f' h' i k:=by
 unfold qbi;exact qbz λj hj=>by rw [e1 j hj,e2 j hj]
theorem qkM(n:Nat)(f h:Nat->Nat->G)(c:G)(i k:Nat):qbi n f (λi k=>qK (h i k) c) i k=qK (qbi n f h i k) c:=by
 unfold qbi;rw [<- qkS];exact qbz λj hj=>(qh3 _ _ _).symm
theorem qrF(n:Nat)(f g h:Nat->Nat->G)(i k:Nat):qbi n f (qbi n g h) i k=qbi n (qbi n f g) h i k:=by
 unfold qbi;have e1:qeJ n (λj=>qK (f i j) (qeJ n λl=>qK (g j l) (h l k)))=qeJ n (λj=>qeJ n λl=>qK (qK (f i j) (g j l)) (h l k)):=qbz λj hj=>by
  rw [qh4,<- qkS];exact qbz λl hl=>by rw [qh4,qh3]
 rw [e1,qxa];exact qbz λl hl=>qkS _
theorem qrG{n:Nat}(s:Int)(h:Nat->Nat->G){i k:Nat}(hk:k<n):qbi n h (qdw s) i k=qK (h i k) (s,0,()):=by
 unfold qbi;rw [qz2 hk (λj hj hne=>by unfold qdw;rw [if_neg hne];exact qv0 _)];unfold qdw;rw [if_pos rfl]
theorem qJX(f:Nat->Nat->G)(i k:Nat):qvv 1 f i k=if (i+k) % 2=1 then qjy (f (skip k 0) (skip i 0))else f (skip k 0) (skip i 0):=by
 unfold qvv qG1;rw [qlA];rfl
def mm(f:Nat->Nat->G)(a b c d:Nat):G:=qdZ (qK (f a c) (f b d)) (qK (f a d) (f b c))
theorem qJY(f:Nat->Nat->G)(i k:Nat):qvv 2 f i k=if (i+k) % 2=1 then qjy (mm f (skip k 0) (skip k 1) (skip i 0) (skip i 1))else mm f (skip k 0) (skip k 1) (skip i 0) (skip i 1):=by
 unfold qvv qG1;rw [qlB];rfl
set_option maxHeartbeats 4000000 in
theorem qvw{n:Nat}(hn:n+1<=3)(f:Nat->Nat->G){i k:Nat}(hi:i<n+1)(hk:k<n+1):qbi (n+1) f (qvv n f) i k=if i=k then qeK (n+1) f else g0:=by
 match n,hn with
 |0,_ =>
  obtain rfl:i=0:=by omega
  obtain rfl:k=0:=by omega
  rw [qIX,qlA];exact qzh _
 |1,_ =>
  rw [qIY,qlB];have hi':i=0\/i=1:=by omega
  have hk':k=0\/k=1:=by omega
  rcases hi' with rfl|rfl<;>rcases hk' with rfl|rfl<;>simp only [qJX]<;>simp [skip]<;>refine qiN ?_ ?_<;>simp only [qcP,qK,qdZ,qjy,g0]<;>grind
 |2,_ =>
  rw [qIZ,qxC];have hi':i=0\/i=1\/i=2:=by omega
  have hk':k=0\/k=1\/k=2:=by omega
  rcases hi' with rfl|rfl|rfl<;>rcases hk' with rfl|rfl|rfl<;>simp only [qJY]<;>simp [skip]<;>refine qiN ?_ ?_<;>simp only [dd,mm,qcP,qK,qdZ,qjy,g0]<;>grind
set_option maxHeartbeats 4000000 in
theorem qyW{n:Nat}(hn:n+1<=3)(f:Nat->Nat->G){i k:Nat}(hi:i<n+1)(hk:k<n+1):qbi (n+1) (qvv n f) f i k=if i=k then qeK (n+1) f else g0:=by
 match n,hn with
 |0,_ =>
  obtain rfl:i=0:=by omega
  obtain rfl:k=0:=by omega
  rw [qIX,qlA];exact qzj _
 |1,_ =>
  rw [qIY,qlB];have hi':i=0\/i=1:=by omega
  have hk':k=0\/k=1:=by omega
  rcases hi' with rfl|rfl<;>rcases hk' with rfl|rfl<;>simp only [qJX]<;>simp [skip]<;>refine qiN ?_ ?_<;>simp only [qcP,qK,qdZ,qjy,g0]<;>grind
 |2,_ =>
  rw [qIZ,qxC];have hi':i=0\/i=1\/i=2:=by omega
  have hk':k=0\/k=1\/k=2:=by omega
  rcases hi' with rfl|rfl|rfl<;>rcases hk' with rfl|rfl|rfl<;>simp only [qJY]<;>simp [skip]<;>refine qiN ?_ ?_<;>simp only [dd,mm,qcP,qK,qdZ,qjy,g0]<;>grind
theorem qCy(n:Nat)(f:Nat->Nat->G)(d:G):qlj n f d=λi k=>qK (qvv n f i k) (qau d):=rfl
theorem qzr(d:G)(i k:Nat):qK (if i=k then d else g0) (qau d)=qdw (norm d) i k:=by
 unfold qdw;by_cases h:i=k
 ·rw [if_pos h,if_pos h];exact qzA d
 ·rw [if_neg h,if_neg h];exact qh6 _
theorem qAH{n:Nat}(hn:n+1<=3)(f:Nat->Nat->G){i k:Nat}(hi:i<n+1)(hk:k<n+1):qbi (n+1) f (qlj n f (qeK (n+1) f)) i k=qdw (norm (qeK (n+1) f)) i k:=by
 rw [qCy,qkM,qvw hn f hi hk,qzr]
theorem qcx{n c:Nat}{f:Nat->Nat->G}{x:Int}:x∈qe5 (mx n c f)↔∃i k,i<n/\k<c/\(x=(f i k).1\/x=(f i k).2.1):=by
 unfold qe5;rw [List.mem_flatMap];constructor
 ·rintro ⟨r,hr,hx⟩;obtain ⟨i,hi,rfl⟩:=qrk hr;unfold parts at hx;obtain ⟨z,hz,hx⟩:=List.mem_flatMap.1 hx;obtain ⟨k,hk,rfl⟩:=qrk hz;exact ⟨i,k,hi,hk,by simpa using hx⟩
 ·rintro ⟨i,k,hi,hk,hx⟩;refine ⟨mkL c λk=>f i k,quA (f:=λi=>mkL c λk=>f i k) hi,?_⟩;unfold parts;exact List.mem_flatMap.2 ⟨f i k,quA (f:=λk=>f i k) hk,by simpa using hx⟩
theorem qo1{d c:Nat}:∀{l:List Int} {g:Nat},d ∣ c*g->(∀x∈l,d ∣ c*x.natAbs)->d ∣ c*qkX g l
 |[],g,hg,_=>hg
 |n::l,g,hg,h=>by
  simp only [qkX];refine qo1 (l:=l) ?_ λx hx=>h x (by simp [hx]);rw [<- Nat.gcd_mul_left];exact Nat.dvd_gcd hg (h n (by simp))
theorem qhx(a:G)(s:Int):qK a (s,0,())=(a.1*s,a.2.1*s,()):=qiN (by simp [qK]) (by simp [qK])
theorem qCh{a b:G}{s:Int}(hs:s≠0)(h:qK a (s,0,())=qK b (s,0,())):a=b:=by
 rw [qhx,qhx]at h;have h1:=congrArg (λz:G=>z.1) h;have h2:=congrArg (λz:G=>z.2.1) h;exact qiN (Int.eq_of_mul_eq_mul_right hs h1) (Int.eq_of_mul_eq_mul_right hs h2)
def qxZ(m:Mx):Nat:=qg (norm (qgh m)) (mx m.length m.length (qlj (m.length-1) (ent m) (qgh m)))
theorem quf{m:Mx}(h:qh7 m=0):0<qxZ m:=by
 have:=qp8 (qjM h).2;exact qzN (by omega)
theorem qEV{m:Mx}{i k:Nat}(hi:i<m.length)(hk:k<m.length):(qxZ m:Int) ∣ (qlj (m.length-1) (ent m) (qgh m) i k).1/\(qxZ m:Int) ∣ (qlj (m.length-1) (ent m) (qgh m) i k).2.1 :=
 ⟨qfQ (qcx.2 ⟨i,k,hi,hk,.inl rfl⟩),qfQ (qcx.2 ⟨i,k,hi,hk,.inr rfl⟩)⟩
theorem que{m:Mx}{i k:Nat}(hi:i<m.length)(hk:k<m.length):qK (qjm m i k) ((qxZ m:Int),0,())=qlj (m.length-1) (ent m) (qgh m) i k:=by
 obtain ⟨h1,h2⟩:=qEV hi hk;rw [qhx];exact qiN (Int.tdiv_mul_cancel h1) (Int.tdiv_mul_cancel h2)
theorem qCw(m:Mx):(qxZ m:Int) ∣ norm (qgh m):=by
 have h:=qbL (qe5 (mx m.length m.length (qlj (m.length-1) (ent m) (qgh m)))) (norm (qgh m)).natAbs;exact Int.ofNat_dvd_left.2 h
theorem qp2(m:Mx):qhU m*(qxZ m:Int)=norm (qgh m):=Int.tdiv_mul_cancel (qCw m)
theorem qmG{m:Mx}(h:qh7 m=0):1<=qhU m:=by
 have h1:=qp8 (qjM h).2;have h2:=qp2 m;have h3:=(qxY h).1;false_or_by_contra
 have:qhU m=0:=by omega
 rw [this,Int.zero_mul]at h2;omega
theorem qwa{m:Mx}(h:qh7 m=0){i k:Nat}(hi:i<m.length)(hk:k<m.length):qbi m.length (ent m) (qjm m) i k=qdw (qhU m) i k:=by
 obtain ⟨n,hl,h3,hm,hB⟩:=qf8 (qjM h).1;have hg:=quf h;refine qCh (s:=(qxZ m:Int)) (by omega) ?_;rw [<- qkM,qdt (f':=ent m) (h':=qlj (m.length-1) (ent m) (qgh m)) (λj hj=>rfl) (λj hj=>que hj hk)];have hd:qgh m=qeK (n+1) (ent m):=by unfold qgh;rw [hl]
 have e:=qp2 m;have hi':i<n+1:=by omega
 have hk':k<n+1:=by omega
 rw [hd]at e;rw [hd,hl,show n+1-1=n by omega,qAH h3 _ hi' hk'];unfold qdw;by_cases c:i=k
 ·rw [if_pos c,if_pos c,qhx];exact qiN e.symm (by simp)
 ·rw [if_neg c,if_neg c,qh6]
theorem qHh{m:Mx}{i k:Nat}(hi:i<m.length)(hk:k<m.length):ent (qzm m).2.1 i k=qjm m i k:=qIw (qjm m) hi hk
theorem qAI{m:Mx}(h:qh7 m=0):qg (qhU m) (mx m.length m.length (qjm m))=1:=by
 have hg:=quf h;have hall:qxZ m*qg (qhU m) (mx m.length m.length (qjm m)) ∣ qxZ m:=by
  have e:qxZ m=qkX (norm (qgh m)).natAbs (qe5 (mx m.length m.length (qlj (m.length-1) (ent m) (qgh m)))):=rfl;conv=>rhs;rw [e]
  have hp:∀x:Int,((qg (qhU m) (mx m.length m.length (qjm m)):Nat):Int) ∣ x->((qxZ m*qg (qhU m) (mx m.length m.length (qjm m)):Nat):Int) ∣ x*(qxZ m:Int):=λx hx=>by
   rw [Int.natCast_mul,Int.mul_comm x];exact Int.mul_dvd_mul_left _ hx
  refine qpS ?_ λx hx=>?_
  ·have h1:=hp (qhU m) (Int.ofNat_dvd_left.2 (qbL _ _));rw [qp2]at h1;exact Int.ofNat_dvd_left.1 h1
  ·obtain ⟨i,k,hi,hk,hx⟩:=qcx.1 hx;have e2:=que hi hk;rw [qhx]at e2;rcases hx with rfl|rfl
   ·rw [<- e2];exact hp _ (qfQ (qcx.2 ⟨i,k,hi,hk,.inl rfl⟩))
   ·rw [<- e2];exact hp _ (qfQ (qcx.2 ⟨i,k,hi,hk,.inr rfl⟩))
 have h1:qxZ m*qg (qhU m) (mx m.length m.length (qjm m))<=qxZ m*1:=by rw [Nat.mul_one];exact Nat.le_of_dvd hg hall
 have h2:=Nat.le_of_mul_le_mul_left h1 hg;have h3:=qzN (m:=mx m.length m.length (qjm m)) (show qhU m≠0 by have:=qmG h;omega);omega
theorem qB7(a:Mx):qIa a a=none:=by
 unfold qIa;rw [qeC];intro i r hr;have:a.getD i []=r:=by rw [List.getD_eq_getElem?_getD,hr];rfl
 simp only [Nat.zero_add];rw [if_pos this.symm]
theorem qHi{m:Mx}(h:qh7 m=0):qtE (qzm m) m.length=0:=by
 have h1:=qmG h;have h2:=(qxY h).2;unfold qtE;rw [qCx];simp only
 rw [if_neg (λhh=>hh ⟨h1,by unfold qbN;omega⟩),if_neg (λhh=>hh (qd9 _ _ _)),if_neg (λhh=>hh (quC _ _ _).2),if_neg (λhh=>hh (qGm.2 λi k hi hk=>(qud h i k hi hk).mono (by unfold qbN;omega))),if_pos (qAI h)]
theorem qEx{m:Mx}(h:qh7 m=0):qy5 m (qzm m)=(0,0):=by
 unfold qy5;rw [if_neg (λhh=>hh (qjM h).1),if_neg (λhh=>hh (qHi h))];have e:mx m.length m.length (qbi m.length (ent m) (ent (qzm m).2.1))=mx m.length m.length (qdw (qzm m).1):=qkH λi k hi hk=>by
  rw [qdt (f':=ent m) (h':=qjm m) (λj hj=>rfl) (λj hj=>qHh hj hk)];exact qwa h hi hk
 rw [e,qB7]
end Go.Proofs.YteiciemjanhdcaaGreatDoor.Mat
end
section
namespace Go.Tx
open Go
section
set_option maxRecDepth 1000000
def nrm(a:G):Int:=a.1*a.1+a.2.1*a.2.1
theorem qgO(a:G):0<=nrm a:=by
 have:=sq_nonneg a.1;have:=sq_nonneg a.2.1;unfold nrm;omega
def gr(N:Nat)(f h:Nat->G):G:=qeJ N λj=>qK (f j) (qau (h j))
def grn(N:Nat)(f:Nat->G):Int:=match N with
 |0=>0
 |n+1=>grn n f+nrm (f n)
theorem qCk:∀(N:Nat) (f:Nat->G),gr N f f=(grn N f,0,())
 |0,f=>rfl
 |n+1,f=>by
  have h:=qCk n f;unfold gr at h ⊢;simp only [qeJ,h,grn];exact qiN (by simp only [qcP,qK,qau,nrm];grind) (by simp only [qcP,qK,qau,nrm];grind)
theorem qCj:∀(N:Nat) (f h:Nat->G),gr N h f=qau (gr N f h)
 |0,f,h=>rfl
 |n+1,f,h=>by
  have e:=qCj n f h;unfold gr at e ⊢;simp only [qeJ,e];exact qiN (by simp only [qcP,qK,qau];grind) (by simp only [qcP,qK,qau];grind)
def qkW(a b c:Int)(x y z p q r:G):Int :=
 a*nrm p+b*nrm q+c*nrm r+2*(qK (qau p) (qK x q)).1+2*(qK (qau p) (qK y r)).1+2*(qK (qau q) (qK z r)).1
set_option maxHeartbeats 4000000 in
theorem qAz(a b c:Int)(x y z p q r u v t:G) :
  qkW (a+nrm u) (b+nrm v) (c+nrm t) (qcP x (qK u (qau v))) (qcP y (qK u (qau t))) (qcP z (qK v (qau t))) p q r =
   qkW a b c x y z p q r+nrm (qcP (qcP (qK (qau p) u) (qK (qau q) v)) (qK (qau r) t)):=by
 obtain ⟨u1,u2,_⟩:=u;obtain ⟨v1,v2,_⟩:=v;obtain ⟨t1,t2,_⟩:=t;obtain ⟨p1,p2,_⟩:=p;obtain ⟨q1,q2,_⟩:=q;obtain ⟨r1,r2,_⟩:=r;obtain ⟨x1,x2,_⟩:=x;obtain ⟨y1,y2,_⟩:=y;obtain ⟨z1,z2,_⟩:=z;simp only [qkW,nrm,qcP,qK,qau];grind
theorem qo5(p q r:G)(u v t:Nat->G):∀N,0<=qkW (grn N u) (grn N v) (grn N t) (gr N u v) (gr N u t) (gr N v t) p q r
 |0=>by simp [qkW,grn,gr,qeJ,g0,qK,qau,nrm]
 |n+1=>by
  have h:=qo5 p q r u v t n;have e:=qAz (grn n u) (grn n v) (grn n t) (gr n u v) (gr n u t) (gr n v t) p q r (u n) (v n) (t n);have:=qgO (qcP (qcP (qK (qau p) (u n)) (qK (qau q) (v n))) (qK (qau r) (t n)));have e2:qkW (grn (n+1) u) (grn (n+1) v) (grn (n+1) t) (gr (n+1) u v) (gr (n+1) u t) (gr (n+1) v t) p q r=qkW (grn n u+nrm (u n)) (grn n v+nrm (v n)) (grn n t+nrm (t n)) (qcP (gr n u v) (qK (u n) (qau (v n)))) (qcP (gr n u t) (qK (u n) (qau (t n)))) (qcP (gr n v t) (qK (v n) (qau (t n)))) p q r:=rfl;rw [e2,e];omega
def qh1(a c:Int)(x p q:G):Int:=a*nrm p+c*nrm q+2*(qK (qau p) (qK x q)).1
theorem qpY{a c:Int}{x:G}(h:∀p q,0<=qh1 a c x p q):0<=a/\0<=c/\nrm x<=a*c:=by
 have ha:0<=a:=by
  have:=h (1,0,()) (0,0,());simp [qh1,nrm,qK,qau]at this;exact this
 have hc:0<=c:=by
  have:=h (0,0,()) (1,0,());simp [qh1,nrm,qK,qau]at this;exact this
 refine ⟨ha,hc,?_⟩;by_cases h0:a=0
 ·subst h0;have h1:=h (-((c+1)*x.1),-((c+1)*x.2.1),()) (1,0,());have e:qh1 0 c x (-((c+1)*x.1),-((c+1)*x.2.1),()) (1,0,())=c-2*((c+1)*nrm x):=by
   simp only [qh1,nrm,qK,qau];grind
  rw [e]at h1;have hn:=qgO x;rw [Int.zero_mul];false_or_by_contra
  have h2:(c+1)*1<=(c+1)*nrm x:=Int.mul_le_mul_of_nonneg_left (by omega) (by omega);omega
 ·have h1:=h (qjy x) (a,0,());have e:qh1 a c x (qjy x) (a,0,())=a*(a*c-nrm x):=by
   simp only [qh1,nrm,qK,qau,qjy];grind
  rw [e]at h1;have:0<=a*c-nrm x:=by
   false_or_by_contra
   have h3:a*(a*c-nrm x)<=a*(-1):=Int.mul_le_mul_of_nonneg_left (by omega) ha;omega
  omega
def qCs(a b c:Int)(x y z:G):Int:=a*b*c+2*(qK (qK x z) (qau y)).1-a*nrm z-b*nrm y-c*nrm x
set_option maxHeartbeats 4000000 in
theorem qxR(a b c:Int)(x y z q r:G) :
  qkW a b c x y z (qjy (qcP (qK x q) (qK y r))) (a*q.1,a*q.2.1,()) (a*r.1,a*r.2.1,()) =
   a*qh1 (a*b-nrm x) (a*c-nrm y) (qdZ (a*z.1,a*z.2.1,()) (qK (qau x) y)) q r:=by
 obtain ⟨q1,q2,_⟩:=q;obtain ⟨r1,r2,_⟩:=r;obtain ⟨x1,x2,_⟩:=x;obtain ⟨y1,y2,_⟩:=y;obtain ⟨z1,z2,_⟩:=z;simp only [qkW,qh1,nrm,qcP,qK,qau,qjy,qdZ];grind
set_option maxHeartbeats 4000000 in
theorem qDJ(a b c:Int)(x y z:G):(a*b-nrm x)*(a*c-nrm y)-nrm (qdZ (a*z.1,a*z.2.1,()) (qK (qau x) y))=a*qCs a b c x y z:=by
 obtain ⟨x1,x2,_⟩:=x;obtain ⟨y1,y2,_⟩:=y;obtain ⟨z1,z2,_⟩:=z;simp only [qCs,nrm,qcP,qK,qau,qjy,qdZ];grind
theorem qzC{x:G}(h:nrm x<=0):x=g0:=by
 have h1:=sq_nonneg x.1;have h2:=sq_nonneg x.2.1;unfold nrm at h;exact qiN (qu8 (by omega)) (qu8 (by omega))
theorem qCf{a b c:Int}{x y z:G}(h:∀p q r,0<=qkW a b c x y z p q r):0<=a/\0<=b/\0<=c/\nrm x<=a*b/\nrm y<=a*c/\nrm z<=b*c/\0<=qCs a b c x y z/\qCs a b c x y z<=a*b*c:=by
 have hx:∀p q,0<=qh1 a b x p q:=λp q=>by
  have:=h p q g0;have e:qkW a b c x y z p q g0=qh1 a b x p q:=by simp [qkW,qh1,nrm,qK,qau,g0]
  rw [e]at this;exact this
 have hy:∀p q,0<=qh1 a c y p q:=λp q=>by
  have:=h p g0 q;have e:qkW a b c x y z p g0 q=qh1 a c y p q:=by simp [qkW,qh1,nrm,qK,qau,g0]
  rw [e]at this;exact this
 have hz:∀p q,0<=qh1 b c z p q:=λp q=>by
  have:=h g0 p q;have e:qkW a b c x y z g0 p q=qh1 b c z p q:=by simp [qkW,qh1,nrm,qK,qau,g0]
  rw [e]at this;exact this
 obtain ⟨a0,b0,x1⟩:=qpY hx;obtain ⟨_,c0,y1⟩:=qpY hy;obtain ⟨_,_,z1⟩:=qpY hz;refine ⟨a0,b0,c0,x1,y1,z1,?_⟩;by_cases ha:a=0
 ·subst ha;rw [Int.zero_mul]at x1 y1;have ex:=qzC x1;have ey:=qzC y1;subst ex ey;have e:qCs 0 b c g0 g0 z=0:=by simp [qCs,nrm,qK,qau,g0]
  rw [e];simp
 ·have hk:∀q r,0<=qh1 (a*b-nrm x) (a*c-nrm y) (qdZ (a*z.1,a*z.2.1,()) (qK (qau x) y)) q r:=λq r=>by
   have h1:=h (qjy (qcP (qK x q) (qK y r))) (a*q.1,a*q.2.1,()) (a*r.1,a*r.2.1,());rw [qxR]at h1;false_or_by_contra
   have h3:a*qh1 (a*b-nrm x) (a*c-nrm y) (qdZ (a*z.1,a*z.2.1,()) (qK (qau x) y)) q r<=a*(-1):=Int.mul_le_mul_of_nonneg_left (by omega) a0;omega
  obtain ⟨k1,k2,k3⟩:=qpY hk;have hd:=qDJ a b c x y z;have hn:=qgO (qdZ (a*z.1,a*z.2.1,()) (qK (qau x) y));have m1:=Int.mul_le_mul (show a*b-nrm x<=a*b by have:=qgO x;omega) (show a*c-nrm y<=a*c by have:=qgO y;omega) k2 (Int.mul_nonneg a0 b0);have e1:a*b*(a*c)=a*(a*b*c):=by grind
  constructor
  ·false_or_by_contra
   have h3:a*qCs a b c x y z<=a*(-1):=Int.mul_le_mul_of_nonneg_left (by omega) a0;omega
  ·false_or_by_contra
   have h3:a*(a*b*c+1)<=a*qCs a b c x y z:=Int.mul_le_mul_of_nonneg_left (by omega) a0;rw [Int.mul_add,Int.mul_one]at h3;omega
set_option maxHeartbeats 4000000 in
theorem qG4(a b c:Int)(x y z:G):dd (a,0,()) x y (qau x) (b,0,()) z (qau y) (qau z) (c,0,())=(qCs a b c x y z,0,()):=by
 obtain ⟨x1,x2,_⟩:=x;obtain ⟨y1,y2,_⟩:=y;obtain ⟨z1,z2,_⟩:=z;exact qiN (by simp only [dd,qCs,nrm,qcP,qK,qau,qjy,qdZ];grind) (by simp only [dd,qCs,nrm,qcP,qK,qau,qjy,qdZ];grind)
def qxW(N:Nat)(v:Nat->Nat->G)(i k:Nat):G:=gr N (λj=>v j i) (λj=>v j k)
theorem qEL{N n:Nat}(hn:n<=3){v:Nat->Nat->G}{B:Int}(hB:1<=B)(hd:∀i,i<n->grn N (λj=>v j i)<=B):∃w:Int,qeK n (qxW N v)=(w,0,())/\0<=w/\w<=B*B*B:=by
 have b0:0<=B:=by omega
 have bb:B*1<=B*B:=Int.mul_le_mul_of_nonneg_left hB b0;have bbb:B*B*1<=B*B*B:=Int.mul_le_mul_of_nonneg_left hB (by omega);have hg:∀i k,qxW N v k i=qau (qxW N v i k):=λi k=>qCj N _ _;have hs:∀i,qxW N v i i=(grn N (λj=>v j i),0,()):=λi=>qCk N _;have hq:=λp q r=>qo5 p q r (λj=>v j 0) (λj=>v j 1) (λj=>v j 2) N;obtain ⟨a0,c0,d0,x1,y1,z1,hd0,hd1⟩:=qCf hq
 match n,hn,hd with
 |0,_,_=>exact ⟨1,rfl,by omega,by omega⟩
 |1,_,hd =>
  have:=hd 0 (by omega);refine ⟨grn N (λj=>v j 0),?_,a0,by omega⟩;rw [qlA,hs]
 |2,_,hd =>
  have h0:=hd 0 (by omega);have h1:=hd 1 (by omega);have m:=Int.mul_le_mul h0 h1 c0 b0;have:=qgO (qxW N v 0 1);refine ⟨grn N (λj=>v j 0)*grn N (λj=>v j 1)-nrm (qxW N v 0 1),?_,?_,by omega⟩
  ·rw [qlB,hs 0,hs 1,hg 0 1];exact qiN (by simp only [qdZ,qK,qau,nrm];grind) (by simp only [qdZ,qK,qau,nrm];grind)
  ·have e:nrm (qxW N v 0 1)<=grn N (λj=>v j 0)*grn N (λj=>v j 1):=x1;omega
 |3,_,hd =>
  have h0:=hd 0 (by omega);have h1:=hd 1 (by omega);have h2:=hd 2 (by omega);have m1:=Int.mul_le_mul h0 h1 c0 b0;have m2:=Int.mul_le_mul m1 h2 d0 (by omega);refine ⟨_,?_,hd0,by omega⟩;rw [qxC,hs 0,hs 1,hs 2,hg 0 1,hg 0 2,hg 1 2,qG4];rfl
end
end Go.Tx
end
section
namespace Go.Proofs.YteiciemjanhdcaaGreatDoor.Mat
open Go Go.Ab Go.Tx Go.Proofs.YteiciemjanhdcaaGreatDoor
abbrev Rn:=Mx×Mx×Unit
def qGG(n0:Nat)(d r:List G):Int:=if ¬ d.length=0/\d.length=n0/\r.length=d.length then (if 3<d.length then 8 else if (d.any (qeI 9)||r.any (qeI 9))=true then 2 else 0)else 10
def qpJ(ρ:Rn):Nat->Int
 |0=>0
 |i+1=>if qpJ ρ i=0 then qGG (ρ.1.getD 0 []).length (ρ.1.getD i []) (ρ.2.1.getD i [])else qpJ ρ i
def qsl(ρ:Rn):Int:=if ρ.1.length=0\/¬ ρ.2.1.length=ρ.1.length then 10 else if 6<ρ.1.length then 8 else qpJ ρ ρ.1.length
theorem qnm{ρ:Rn}{i j:Nat}(h:qpJ ρ i≠0)(hij:i<=j):qpJ ρ j=qpJ ρ i:=by
 induction j with
 |zero=>rw [show i=0 by omega]
 |succ j ih =>
  by_cases c:i=j+1
  ·rw [c]
  ·have:=ih (by omega);simp only [qpJ];rw [this,if_neg h]
theorem qDj{ρ:Rn}{n:Nat}(h:qpJ ρ n=0){i:Nat}(hi:i<n):qGG (ρ.1.getD 0 []).length (ρ.1.getD i []) (ρ.2.1.getD i [])=0:=by
 have h1:qpJ ρ (i+1)=0:=by
  false_or_by_contra
  rename_i h9;have:=qnm h9 (show i+1<=n by omega);omega
 simp only [qpJ]at h1;by_cases c:qpJ ρ i=0
 ·rw [if_pos c]at h1;exact h1
 ·rw [if_neg c]at h1;exact absurd h1 c
theorem qDD{n0:Nat}{d r:List G}(h:qGG n0 d r=0):d.length=n0/\r.length=n0/\1<=n0/\n0<=3/\(∀z∈d,Bd 9 z)/\∀z∈r,Bd 9 z:=by
 unfold qGG at h;by_cases c:¬ d.length=0/\d.length=n0/\r.length=d.length
 case neg=>rw [if_neg c]at h;cases h
 rw [if_pos c]at h;by_cases c2:3<d.length
 ·rw [if_pos c2]at h;cases h
 rw [if_neg c2]at h;cases hb:(d.any (qeI 9)||r.any (qeI 9))with
 |true=>rw [hb,if_pos rfl]at h;cases h
 |false =>
  rw [Bool.or_eq_false_iff]at hb;refine ⟨c.2.1,by omega,by omega,by omega,λz hz=>?_,λz hz=>?_⟩
  ·have:=List.any_eq_false.1 hb.1 z hz;unfold qeI at this;simpa using this
  ·have:=List.any_eq_false.1 hb.2 z hz;unfold qeI at this;simpa using this
structure RunB (ρ:Rn) (n:Nat):Prop where
 len:ρ.2.1.length=ρ.1.length
 l1:1<=ρ.1.length
 l6:ρ.1.length<=6
 n1:1<=n
 n3:n<=3
 hn:(ρ.1.getD 0 []).length=n
 dl:∀j,j<ρ.1.length->(ρ.1.getD j []).length=n
 rl:∀j,j<ρ.1.length->(ρ.2.1.getD j []).length=n
 dB:∀j i,j<ρ.1.length->i<n->Bd 9 (ent ρ.1 j i)
 rB:∀j i,j<ρ.1.length->i<n->Bd 9 (ent ρ.2.1 j i)
theorem qI3{ρ:Rn}(h:qsl ρ=0):RunB ρ (ρ.1.getD 0 []).length:=by
 unfold qsl at h;by_cases c:ρ.1.length=0\/¬ ρ.2.1.length=ρ.1.length
 ·rw [if_pos c]at h;cases h
 rw [if_neg c]at h;by_cases c2:6<ρ.1.length
 ·rw [if_pos c2]at h;cases h
 rw [if_neg c2]at h;have hz:=λj hj=>qDD (qDj h (i:=j) hj);have h0:=hz 0 (by omega);refine ⟨by omega,by omega,by omega,h0.2.2.1,h0.2.2.2.1,rfl,λj hj=>(hz j hj).1,λj hj=>(hz j hj).2.1,λj i hj hi=>(hz j hj).2.2.2.2.1 _ (qaG (by rw [(hz j hj).1];exact hi)),λj i hj hi=>(hz j hj).2.2.2.2.2 _ (qaG (by rw [(hz j hj).2.1];exact hi))⟩
theorem qFK{d r:List G}(hl:r.length=d.length)(hd:d.length<=1000000000)(v:Int)(K2:Unit->Option (Int⊕(Unit⊕Int))) :
  ((qF (λ(s9:Int) =>
   bif decide (s9<(d.length:Int))then
    ((idx d s9).bind λx10 =>
     (qbK x10 (9:Int)).bind λx11 =>
     bif !x11 then
      some true
     else
      (idx r s9).bind λx12 =>
      (qbK x12 (9:Int)).bind λx13 =>
      some (!x13)).bind λ(p14:Bool) =>
    bif p14 then
     some (.inr (.inr (.inr (.inr v))))
    else
     some (.inl (w64 (s9+1)))
   else
    some (.inr (.inl ()))) 0):Option (Unit⊕(Int⊕(Unit⊕Int)))).bind (Sum.elim K2 some)=if (d.any (qeI 9)||r.any (qeI 9))=true then some (.inr (.inr v))else K2 ():=by
 rw [qgB d _ (λi z=>if (qeI 9 z||qeI 9 (r.getD i g0))=true then some (Sum.inr (Sum.inr v):Int⊕(Unit⊕Int))else none) (λi z hi=>?_),qdG]
 ·cases hf:qfB (λi z=>if (qeI 9 z||qeI 9 (r.getD i g0))=true then some (Sum.inr (Sum.inr v):Int⊕(Unit⊕Int))else none) 0 d with
  |none =>
   rw [qeC]at hf;have h1:(d.any (qeI 9)||r.any (qeI 9))=false:=by
    rw [Bool.or_eq_false_iff];refine ⟨List.any_eq_false.2 λx hx=>?_,List.any_eq_false.2 λx hx=>?_⟩
    ·obtain ⟨k,hk⟩:=List.mem_iff_getElem?.1 hx;have:=hf k x hk;intro hb;rw [hb]at this;simp at this
    ·obtain ⟨k,hk⟩:=List.mem_iff_getElem?.1 hx;have hlt:=qgr hk;have:=hf k (d.getD k g0) (qhL g0 (by omega));intro hb;rw [Nat.zero_add,getD_at hk,hb,Bool.or_true]at this;simp at this
   rw [h1];simp
  |some q =>
   obtain ⟨k,z,h1,h2,_⟩:=qfC hf;by_cases hp:(qeI 9 z||qeI 9 (r.getD (0+k) g0))=true
   case neg=>rw [if_neg hp]at h2;cases h2
   rw [if_pos hp]at h2;cases h2;have hlt:=qgr h1;have hb:(d.any (qeI 9)||r.any (qeI 9))=true:=by
    rw [Bool.or_eq_true]at hp ⊢;rcases hp with hp|hp
    ·exact .inl (List.any_eq_true.2 ⟨z,List.mem_of_getElem? h1,hp⟩)
    ·exact .inr (List.any_eq_true.2 ⟨_,qaG (by omega),hp⟩)
   rw [hb];simp
 ·have hlt:=qgr hi;rw [qaO hi,qa,qgH _ _ (by omega) (by omega),qa,qfp g0 (l:=r) (by omega) (by omega),qa,qgH _ _ (by omega) (by omega),qa,wid (by omega) (by omega),Int.toNat_natCast];unfold qeI;generalize r.getD i g0=y;by_cases c1:Bd 9 z<;>by_cases c2:Bd 9 y<;>simp [c1,c2,stp]
theorem qAg{ρ:Rn}:qe9 ρ=some (qsl ρ):=by
 unfold qe9 qsl;have e1:(bif decide ((ρ.1.length:Int)=0)then some true else some (!(decide ((ρ.2.1.length:Int)=(ρ.1.length:Int)))))=some (decide (ρ.1.length=0\/¬ ρ.2.1.length=ρ.1.length)):=by
  by_cases c:ρ.1.length=0
  ·rw [decide_eq_true (show (ρ.1.length:Int)=0 by omega),cond_true,decide_eq_true (show ρ.1.length=0\/¬ ρ.2.1.length=ρ.1.length from .inl c)]
  ·rw [decide_eq_false (show ¬ (ρ.1.length:Int)=0 by omega),cond_false];by_cases c2:ρ.2.1.length=ρ.1.length
   ·rw [decide_eq_true (show (ρ.2.1.length:Int)=(ρ.1.length:Int) by omega),decide_eq_false (show ¬ (ρ.1.length=0\/¬ ρ.2.1.length=ρ.1.length) by omega)];rfl
   ·rw [decide_eq_false (show ¬ (ρ.2.1.length:Int)=(ρ.1.length:Int) by omega),decide_eq_true (show ρ.1.length=0\/¬ ρ.2.1.length=ρ.1.length from .inr c2)];rfl
 rw [e1,qa];by_cases c:ρ.1.length=0\/¬ ρ.2.1.length=ρ.1.length
 ·rw [decide_eq_true c,cond_true,if_pos c]
 rw [decide_eq_false c,cond_false,if_neg c];by_cases c2:6<ρ.1.length
 ·rw [decide_eq_true (show (ρ.1.length:Int) > 6 by omega),cond_true,if_pos c2]
 rw [decide_eq_false (show ¬ (ρ.1.length:Int) > 6 by omega),cond_false,if_neg c2];refine Ok.eq ?_;refine qrB.2 ?_;refine (qaZ ρ.1.length (λi (s:Int)=>s=(i:Int)/\qpJ ρ i=0) (λq:Unit⊕Int=>match q with
  |.inl _=>qpJ ρ ρ.1.length=0
  |.inr e=>e=qpJ ρ ρ.1.length) ⟨rfl,rfl⟩ ?_).mono ?_
 ·rintro i s hi ⟨rfl,hz⟩;by_cases hlt:i<ρ.1.length
  ·have e2:decide ((i:Int)<(ρ.1.length:Int))=true:=decide_eq_true (by omega);have f1:idx ρ.1 (i:Int)=some (ρ.1.getD i []):=by rw [qfp [] (by omega) (by omega),Int.toNat_natCast]
   have f2:idx ρ.2.1 (i:Int)=some (ρ.2.1.getD i []):=by rw [qfp [] (by omega) (by omega),Int.toNat_natCast]
   have f3:idx ρ.1 0=some (ρ.1.getD 0 []):=by rw [qfp [] (by omega) (by omega)];rfl
   have hnext:qpJ ρ (i+1)=qGG (ρ.1.getD 0 []).length (ρ.1.getD i []) (ρ.2.1.getD i []):=by simp only [qpJ];rw [if_pos hz]
   simp only [e2,cond_true,f1,f2,f3,qa];generalize ρ.1.getD i []=d at *;generalize ρ.2.1.getD i []=r at *;generalize (ρ.1.getD 0 []).length=n0 at *;have e3:(bif decide ((d.length:Int)=0)then some true else bif !(decide ((d.length:Int)=(n0:Int)))then some true else some (!(decide ((r.length:Int)=(d.length:Int)))))=some (!(decide (¬ d.length=0/\d.length=n0/\r.length=d.length))):=by
    by_cases b1:d.length=0
    ·rw [decide_eq_true (show (d.length:Int)=0 by omega),cond_true,decide_eq_false (show ¬ (¬ d.length=0/\d.length=n0/\r.length=d.length)from λh=>h.1 b1)];rfl
    rw [decide_eq_false (show ¬ (d.length:Int)=0 by omega),cond_false];by_cases b2:d.length=n0
    case neg=>rw [decide_eq_false (show ¬ (d.length:Int)=(n0:Int) by omega),Bool.not_false,cond_true,decide_eq_false (show ¬ (¬ d.length=0/\d.length=n0/\r.length=d.length)from λh=>b2 h.2.1)];rfl
    rw [decide_eq_true (show (d.length:Int)=(n0:Int) by omega),Bool.not_true,cond_false];by_cases b3:r.length=d.length
    ·rw [decide_eq_true (show (r.length:Int)=(d.length:Int) by omega),decide_eq_true (show ¬ d.length=0/\d.length=n0/\r.length=d.length from ⟨b1,b2,b3⟩)]
    ·rw [decide_eq_false (show ¬ (r.length:Int)=(d.length:Int) by omega),decide_eq_false (show ¬ (¬ d.length=0/\d.length=n0/\r.length=d.length)from λh=>b3 h.2.2)]
   rw [e3,qa];unfold qGG at hnext;by_cases b:¬ d.length=0/\d.length=n0/\r.length=d.length
   case neg =>
    rw [decide_eq_false b,Bool.not_false,cond_true,qag];rw [if_neg b]at hnext;show (10:Int)=_;rw [qnm (i:=i+1) (by omega) (by omega),hnext]
   rw [decide_eq_true b,Bool.not_true,cond_false];rw [if_pos b]at hnext;by_cases b4:3<d.length
   ·rw [decide_eq_true (show (d.length:Int) > 3 by omega),cond_true,qag];rw [if_pos b4]at hnext;show (8:Int)=_;rw [qnm (i:=i+1) (by omega) (by omega),hnext]
   rw [decide_eq_false (show ¬ (d.length:Int) > 3 by omega),cond_false];rw [if_neg b4]at hnext;rw [qFK b.2.2 (by omega) 2 (λ_=>some (.inl (w64 ((i:Int)+1))))];by_cases b5:(d.any (qeI 9)||r.any (qeI 9))=true
   ·rw [if_pos b5,qag];rw [if_pos b5]at hnext;show (2:Int)=_;rw [qnm (i:=i+1) (by omega) (by omega),hnext]
   ·rw [if_neg b5,wid (by omega) (by omega),qaw];rw [if_neg b5]at hnext;exact ⟨hlt,by simp,hnext⟩
  ·have:i=ρ.1.length:=by omega
   subst this;have e2:decide ((ρ.1.length:Int)<(ρ.1.length:Int))=false:=by simp
   simp only [e2,cond_false];rw [qag];exact hz
 ·rintro (_|e) hq
  ·exact qbT.2 hq.symm
  ·exact hq
end Go.Proofs.YteiciemjanhdcaaGreatDoor.Mat
end
