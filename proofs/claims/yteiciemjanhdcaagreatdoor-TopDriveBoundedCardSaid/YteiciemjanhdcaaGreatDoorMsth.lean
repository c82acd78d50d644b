/-
  ONE LAW OF A CHAPTER: its program side is run by an interpreter that is proved sound; what it computes is shown to be what the law says. No conditions. Part 8 of 9.
-/
import Derived.Test.YteiciemjanhdcaaGreatDoorMstg
import Derived.Test.YteiciemjanhdcaaGreatDoorRows
import Derived.WalkKit
import Derived.Test.YteiciemjanhdcaaGreatDoorProg
import Derived.KernelRfl
import Derived.ProofKit
import Derived.LaidMore
import Derived.OpenShut
import Derived.Stop.Joined
import Derived.Stop.LaidErr
import Derived.Lib.LaidTab
import Derived.Shelf.Vars
import Derived.ChangeArms
import Derived.HandedShaped
import Derived.Lib.AtoiAll
import Derived.Lib.ItoaNum
import Derived.Lib.Strings
import Derived.Lib.Join
import Derived.Lib.IndexMore
set_option linter.unusedSimpArgs false
set_option linter.unusedVariables false
set_option linter.unnecessarySimpa false
section
namespace Go.Tx
open Go Go.Ab Go.RowKit Go.ChangeShapes Go.WideShapes Go.Deep
section
variable {H:Type} {enc:TypeId × Value->H} {P:Program}
theorem qr3 {f:Func} {s:ChangeSpec} {apart fresh handsOn again:Bool} {W W':World} {args:Array Value} {v:Value} {ds gs:List (DataW H)} {before pa pv:List MemPlace}
  (hW:DataW.Whole enc P f.params.toList s.vars apart W args.toList ds gs before)
  (hres:∀ (b:Nat) (sp:Nat->Bool) (hd:Bool),DataW.TrodAll enc P W' b sp hd f.resultTypes.toList (v.resultList f.resultTypes.size) (s.fn H (ds ++ gs)).results [])
  (hargs:∀ sp:Nat->Bool,(∀ p ∈ before,sp p.block = true)->DataW.TrodAll enc P W' 0 sp true f.params.toList args.toList (s.fn H (ds ++ gs)).args pa)
  (hvars:∀ sp:Nat->Bool,(∀ p ∈ before,sp p.block = true)->DataW.TrodVars enc P W' sp s.vars (s.fn H (ds ++ gs)).vars pv)
  (hps:before = pa ++ pv) (hb:Below W.heap.size W W')
  (hok:∀ (j:Nat) (t:TypeId) (r:Value),f.resultTypes[j]? = some t->(v.resultList f.resultTypes.size)[j]? = some r->Value.okWide P W' .any 0 t r) :
  s.post enc P f apart fresh handsOn again W args v W':=by
 have hlt:∀ p ∈ before,p.block < W.heap.size:=λp hp=>hW.lt p hp;have hold:∀ p ∈ before,(λb=>decide (b < W.heap.size)) p.block = true:=λp hp=>by simpa using hlt p hp
 refine ⟨ds,gs,before,[],pa,pv,hW,hres _ _ _,hargs _ hold,hvars _ hold,World.keptBut_mono (λp hp=>⟨hp,?_⟩) (hb.frame (· ∈ before)),λ_=>?_⟩
 ·rw [hps,qo] at hp;exact Or.inr hp
 ·obtain ⟨_,_,_,_,_,hz,hn⟩:=hW;refine ⟨hok,_,_,([] ++ pa) ++ pv,⟨[] ++ pa,pv,trodAll_append (hargs _ (λ_ _=>rfl)) (hres _ _ _),hvars _ (λ_ _=>rfl),rfl,?_,?_⟩,?_⟩
  ·intro b off hp;have hin:MemPlace.cell b off ∈ before:=by rw [hps]; simpa using hp
   rw [hb.frozen (hlt _ hin)];exact hz b off hin
  ·intro ha;have:=hn ha;rw [hps] at this;simpa using this
  ·intro p hp _;rw [hps];simpa using hp
theorem qoe:∀ {ts:List TypeId} {vs:List Value} {ds:List (DataW H)} {ps:List MemPlace} {w:World} {b:Nat} {sp:Nat->Bool} {hd:Bool},DataW.TrodAll enc P w b sp hd ts vs ds ps->ds.length = ts.length
 | [],[],[],_,_,_,_,_,_=>rfl
 | [],[],d :: ds,_,_,_,_,_,h=>h.elim
 | [],v :: vs,_,_,_,_,_,_,h=>by cases h
 | t :: ts,[],_,_,_,_,_,_,h=>by cases h
 | t :: ts,v :: vs,[],_,_,_,_,_,h=>by cases h
 | t :: ts,v :: vs,d :: ds,ps,w,b,sp,hd,⟨p,q,h1,h2,e⟩=>by simp [qoe h2]
end
theorem qFe {H:Type}:Sm (H:=H) maxLen (λ_=>True) where
 slice:=λes sp _ h=>⟨h,λ_ _=>trivial⟩
 agg:=λ_ _ _ _=>trivial
 str:=λ_ _ h=>h
theorem qt4 {P:Program} {H0:Hints} {lib:FuncId->Option (List V->Option V)} (hm:P.follows .mixedOrders = true) (qdC:qkp P H0)
  (qya:∀ g h args r,lib g = some h->h args = some r->qa9 P g args [] r []) (hl:laidOutB P = true) {k:FuncId} {fn:Func} (hfn:P.funcs[k]? = some fn) (hbody:fn.body.isSome = true)
  {ts:List TypeId} {τs:List Ty} (hps:fn.params.toList = ts) (hts:ts.mapM (qCR P) = some τs) (hok:ts.all (okT P 10) = true) (hrd:ts.all (λt=>P.readableRec t && decide (t < P.types.size)) = true)
  {tb:TypeId} (hres:fn.resultTypes = #[tb]) (htb:P.underlying tb = some .bool) {F:denP (τs.map .ty)->Option Bool}
  (he:qbz P H0 lib ⟨k,τs.map .ty,[(.bool,0)],F⟩) (hF:∀ x,qE0 maxLen τs x->F x = some true)
  {s:ChangeSpec} (hv:s.vars = []) (hs:∀ (H:Type) (ds:List (DataW H)),ds.length = ts.length->s.fn H ds = { results:=[.lit (.bool true)],args:=ds })
  (H:Type) (enc:TypeId × Value->H) (W:World) (base:Nat) (args:Array Value) (ds gs:List (DataW H)) (before:List MemPlace)
  (hval:∀ (j:Nat) t v,fn.params[j]? = some t->args[j]? = some v->Value.okWide P W .any base t v)
  (hW:DataW.Whole enc P fn.params.toList s.vars false W args.toList ds gs before) (hgl:qh5 W (cx0 W)) :
  Calls P k args W λe W'=>∃ v,e = .returned v/\s.post enc P fn false true false false W args v W':=by
 have hW':=hW;have hlt:∀ p ∈ before,p.block < W.heap.size:=λp hp=>hW.lt p hp;obtain ⟨p,q,hA,hV,rfl,hfz,hnd⟩:=hW;rw [hv] at hV;obtain ⟨rfl,rfl⟩:=trodVars_none hV;rw [hps] at hA;have hlen:=qoe hA;have hval':∀ (j:Nat) t v,ts[j]? = some t->args.toList[j]? = some v->Value.okWide P W .any base t v:=λj t v h1 h2 =>
  hval j t v (by rw [<- hps] at h1; simpa using h1) (by simpa using h2)
 refine (qyG hm qdC qya hl qFe hfn hbody hts hok he hF hval' hA (λ_ _=>trivial) hgl).mono λe W' ⟨h1,hb⟩=>?_;subst h1;have hfs:s.fn H (ds ++ []) = { results:=[.lit (.bool true)],args:=ds }:=by rw [List.append_nil]; exact hs H ds hlen
 refine ⟨_,rfl,qr3 (pa:=p) (pv:=[]) hW' ?_ ?_ ?_ rfl hb ?_⟩
 ·intro b sp hd;rw [hfs,hres];exact trodAll_mk1 (shut_bool htb true)
 ·intro sp hsp;rw [hfs,hps];exact qkR hl hb hrd hA (λx hx=>hlt x (by simpa using hx)) sp (λx hx=>hsp x (by simpa using hx))
 ·intro sp _;rw [hfs,hv];rfl
 ·exact ok_one hres rfl (okWide_bool_mk htb true)
end Go.Tx
namespace Go.Proofs.YteiciemjanhdcaaGreatDoor
open Go Go.Ab Go.Tx
theorem own:ownKnob Tryz.prog.godebug = none:=by kernel_rfl
theorem qA7:laidOutB Tryz.prog = true:=by kernel_rfl
end Go.Proofs.YteiciemjanhdcaaGreatDoor
end
section
set_option maxRecDepth 100000
namespace Go.Proofs.YteiciemjanhdcaaGreatDoor
open Go Go.Ab Go.Tx
noncomputable section
@[reducible] def I:Ty:=.int .i64
@[reducible] def w64 (n:Int):Int:=IntKind.wrap .i64 n
def qBj:List (List Tmp × FuncId × Kind × Join)->List Tmp->FuncId->Kind->Option Join
 | [],_,_,_=>none
 | (c,f,k,j) :: l,c',f',k'=>if f = f' then (if k = k' then (if c = c' then some j else qBj l c' f' k') else qBj l c' f' k') else qBj l c' f' k'
def strconv_Itoa (n:Int):Option (List UInt8):=if -9223372036854775808<=n/\n<=9223372036854775807 then some (Lib.itoa n) else none
def qDr (s:List UInt8):Int × Bool:=match Lib.atoiAll s with
 | .ok v=>(v,true)
 | .«syntax»=>(0,false)
 | .range=>(Lib.atoiSat s,false)
def strconv_Atoi (s:List UInt8):Option (Int × Bool):=if s.length<=281474976710656 then some (qDr s) else none
def strings_Join (l:List (List UInt8)) (sep:List UInt8):Option (List UInt8):=if l.length<=140737488355328/\(Lib.join l sep).length<=140737488355328 then some (Lib.join l sep) else none
def strings_TrimPrefix (s p:List UInt8):Option (List UInt8):=some (Lib.trimPrefix s p)
def strings_Index (s p:List UInt8):Option Int:=if s.length < 4294967281 then some (Lib.index s p) else none
def strings_Cut (s p:List UInt8):Option (List UInt8 × List UInt8 × Bool):=if s.length < 4294967281 then some (Lib.cut s p) else none
def qzk:List V->Option V
 | [.val (.int .i64 n)]=>(strconv_Itoa n).map λs=>.val (.string ⟨s.toArray⟩)
 | _=>none
def qAs:List V->Option V
 | [.val (.string s)]=>if s.size<=281474976710656 then some (qzf 323 s.data.toList) else none
 | _=>none
def qyM:List V->Option V
 | [.sl _ _ l,.val (.string sep)]=>(qgt l).bind λxs=>(strings_Join xs sep.data.toList).map λs=>.val (.string ⟨s.toArray⟩)
 | _=>none
def qCE:List V->Option V
 | [.val (.string s),.val (.string p)]=>some (.val (.string ⟨(Lib.trimPrefix s.data.toList p.data.toList).toArray⟩))
 | _=>none
def qt5:List V->Option V
 | [.val (.string s),.val (.string p)]=>if s.size < 4294967281 then some (.val (.int .i64 (Lib.index s.data.toList p.data.toList))) else none
 | _=>none
def qEX:List V->Option V
 | [.val (.string s),.val (.string p)]=>if s.size < 4294967281 then some (.tuple [.val (.string ⟨(Lib.cut s.data.toList p.data.toList).1.toArray⟩),.val (.string ⟨(Lib.cut s.data.toList p.data.toList).2.1.toArray⟩),.val (.bool (Lib.cut s.data.toList p.data.toList).2.2)]) else none
 | _=>none
def qCO:List V->Option V
 | []=>some (.val (.bool true))
 | _=>none
def qGb:List (FuncId × (List V->Option V)):=[(8,qCO),(75,qzk),(168,qAs),(76,qyM),(169,qCE),(239,qt5),(151,qEX)]
def qA3:List (FuncId × (List V->Option V))->FuncId->Option (List V->Option V)
 | [],_=>none
 | (k,h) :: l,g=>if g = k then some h else qA3 l g
def Lb:FuncId->Option (List V->Option V):=qA3 qGb
def qcU (js:List (List Tmp × FuncId × Kind × Join)) (inl:List (List Tmp × FuncId × Tmp)):TH where
 lib:=λg=>(Lb g).isSome
 join:=qBj js
 inl:=λc f d=>inl.any λ(c',f',d')=>decide (f = f') && decide (d = d') && decide (c = c')
theorem hJ {js:List (List Tmp × FuncId × Kind × Join)} {inl:List (List Tmp × FuncId × Tmp)}:∀ g,(qcU js inl).lib g = false->Lb g = none:=λg h=>by
 simpa [qcU] using h
theorem qfs {e:Entry} {h:List V->Option V} (hl:Lb e.g = some h) (hx:∀ x y,e.F x = some y->∀ vs,RVL (qfP e.ps x) vs->∃ v,h vs = some v/\RV (qi1 e.rs y) v):qbz Tryz.prog Hn.hints Lb e:=λx y hy vs hv=>by
 obtain ⟨v,h1,h2⟩:=hx x y hy vs hv;refine ⟨v,⟨1,λm hm=>?_⟩,h2⟩;obtain ⟨m',rfl⟩:∃ m',m = m' + 1:=⟨m - 1,by omega⟩
 simp [qsh,hl,h1]
def qc9:Entry:=⟨75,[.ty I],[(.str,0)],λx=>strconv_Itoa x⟩
theorem qjg:qbz Tryz.prog Hn.hints Lb qc9:=qfs (h:=qzk) rfl λx y hy vs hv=>by
 simp only [qc9] at hy hv x y;simp only [qfP,qA0,ofTy,RVL,RV,RTy] at hv;obtain ⟨v,l,rfl,rfl,rfl⟩:=hv;exact ⟨.val (.string ⟨y.toArray⟩),by simp [qzk,hy],by simp [qi1,qc9,ofL,qbC,ofTy,RV,RTy]⟩
def qew:Entry:=⟨168,[.ty .str],[(I,0),(.err,0)],λx=>strconv_Atoi x⟩
theorem qpj:qbz Tryz.prog Hn.hints Lb qew:=qfs (h:=qAs) rfl λx y hy vs hv=>by
 simp only [qew] at hy hv x y;simp only [qfP,qA0,ofTy,RVL,RV,RTy] at hv;obtain ⟨v,l,rfl,rfl,rfl⟩:=hv;unfold strconv_Atoi at hy;split at hy
 ·rename_i hl;cases hy;refine ⟨qzf 323 x,?_,?_⟩
  ·have:(⟨x.toArray⟩:ByteArray).size<=281474976710656:=by simpa [ByteArray.size] using hl
   simp only [qAs];rw [if_pos this]
  ·unfold qzf qDr;cases Lib.atoiAll x <;> simp [qi1,qew,ofL,qbC,ofTy,RV,RTy,RVL]
   all_goals exact ⟨_,_,⟨rfl,rfl⟩,rfl,_,rfl,_,rfl⟩
 ·cases hy
theorem qzi {τ:Nat}:∀ {l:List (List UInt8)} {l':List V},All2 (RTy .str τ) l l'->qgt l' = some l:=by
 intro l l' h;induction h with
 | nil=>rfl
 | cons h1 _ ih=>simp only [RTy] at h1; subst h1; simp [qgt,ih]
def qeC:Entry:=⟨76,[.ty (.sl .str),.ty .str],[(.str,0)],λx=>strings_Join x.1 x.2⟩
theorem qpk:qbz Tryz.prog Hn.hints Lb qeC:=qfs (h:=qyM) rfl λx y hy vs hv=>by
 simp only [qeC] at hy hv x y;simp only [qfP,qA0,ofTy,RVL,RV,RTy] at hv;obtain ⟨v,l,rfl,⟨f,c,l',rfl,_,hall⟩,v2,l2,rfl,rfl,rfl⟩:=hv;have hs:qgt l' = some x.1:=qzi (τ:=0) (hall.mono λa b h=>by simpa only [RTy] using h);exact ⟨.val (.string ⟨y.toArray⟩),by simp [qyM,hs,hy],by simp [qi1,qeC,ofL,qbC,ofTy,RV,RTy]⟩
def qbH:Entry:=⟨169,[.ty .str,.ty .str],[(.str,0)],λx=>strings_TrimPrefix x.1 x.2⟩
theorem qi3:qbz Tryz.prog Hn.hints Lb qbH:=qfs (h:=qCE) rfl λx y hy vs hv=>by
 simp only [qbH] at hy hv x y;simp only [qfP,qA0,ofTy,RVL,RV,RTy] at hv;obtain ⟨v,l,rfl,rfl,v2,l2,rfl,rfl,rfl⟩:=hv;obtain rfl:Lib.trimPrefix x.1 x.2 = y:=Option.some.inj hy;exact ⟨.val (.string ⟨(Lib.trimPrefix x.1 x.2).toArray⟩),rfl,by simp [qi1,qbH,ofL,qbC,ofTy,RV,RTy]⟩
def qdL:Entry:=⟨239,[.ty .str,.ty .str],[(I,0)],λx=>strings_Index x.1 x.2⟩
theorem qoB:qbz Tryz.prog Hn.hints Lb qdL:=qfs (h:=qt5) rfl λx y hy vs hv=>by
 simp only [qdL] at hy hv x y;simp only [qfP,qA0,ofTy,RVL,RV,RTy] at hv;obtain ⟨v,l,rfl,rfl,v2,l2,rfl,rfl,rfl⟩:=hv;unfold strings_Index at hy;split at hy
 ·rename_i hl;cases hy;refine ⟨.val (.int .i64 (Lib.index x.1 x.2)),?_,by simp [qi1,qdL,ofL,qbC,ofTy,RV,RTy]⟩;have:(⟨x.1.toArray⟩:ByteArray).size < 4294967281:=by simpa [ByteArray.size] using hl
  simp only [qt5];rw [if_pos this]
 ·cases hy
def qfc:Entry:=⟨151,[.ty .str,.ty .str],[(.str,0),(.str,0),(.bool,0)],λx=>strings_Cut x.1 x.2⟩
theorem qr7:qbz Tryz.prog Hn.hints Lb qfc:=qfs (h:=qEX) rfl λx y hy vs hv=>by
 simp only [qfc] at hy hv x y;simp only [qfP,qA0,ofTy,RVL,RV,RTy] at hv;obtain ⟨v,l,rfl,rfl,v2,l2,rfl,rfl,rfl⟩:=hv;unfold strings_Cut at hy;split at hy
 ·rename_i hl;cases hy;refine ⟨.tuple [.val (.string ⟨(Lib.cut x.1 x.2).1.toArray⟩),.val (.string ⟨(Lib.cut x.1 x.2).2.1.toArray⟩),.val (.bool (Lib.cut x.1 x.2).2.2)],?_,by simp [qi1,qfc,ofL,qbC,ofTy,RV,RTy,RVL]⟩;have:(⟨x.1.toArray⟩:ByteArray).size < 4294967281:=by simpa [ByteArray.size] using hl
  simp only [qEX];rw [if_pos this]
 ·cases hy
def qgf:Option Bool:=some true
def qdc:Entry:=⟨8,[],[(.bool,0)],λ_=>qgf⟩
theorem qm2:qbz Tryz.prog Hn.hints Lb qdc:=qfs (h:=qCO) rfl λx y hy vs hv=>by
 obtain rfl:true = y:=Option.some.inj hy;simp only [qdc,qfP,RVL] at hv;subst hv;exact ⟨.val (.bool true),rfl,by simp [qi1,qdc,ofL,qbC,ofTy,RV,RTy]⟩
end
end Go.Proofs.YteiciemjanhdcaaGreatDoor
end
section
namespace Go.Proofs.YteiciemjanhdcaaGreatDoor
open Go Go.Ab Go.RowKit Go.Shelf
def qAN:Go.Shelf.Ren:=⟨λ| 171=>75 | 243=>155 | 246=>209 | 283=>245 | 284=>246 | 285=>247 | 286=>248 | 129=>271 | 317=>270 | 318=>272 | 319=>273 | 320=>274 | 337=>280 | 338=>281 | n=>n,λ| 3=>3 | 9=>9 | 2=>2 | 4=>4 | 171=>308 | 0=>0 | 53=>309 | 37=>235 | 5=>5 | 173=>312 | 212=>333 | 51=>334 | 20=>20 | 213=>335 | 46=>331 | 232=>354 | 233=>355 | n=>n,λ| 17=>1 | 18=>6 | 19=>7 | n=>n⟩
theorem qFM:LaysM.n171 Tryz.prog qAN where
 mixed:=by kernel_rfl
 f129:=Tryz.func271.trans (congrArg some (by kernel_rfl))
 f171:=Tryz.func75.trans (congrArg some (by kernel_rfl))
 f243:=Tryz.func155.trans (congrArg some (by kernel_rfl))
 f246:=Tryz.func209.trans (congrArg some (by kernel_rfl))
 f283:=Tryz.func245.trans (congrArg some (by kernel_rfl))
 f284:=Tryz.func246.trans (congrArg some (by kernel_rfl))
 f285:=Tryz.func247.trans (congrArg some (by kernel_rfl))
 f286:=Tryz.func248.trans (congrArg some (by kernel_rfl))
 f317:=Tryz.func270.trans (congrArg some (by kernel_rfl))
 f318:=Tryz.func272.trans (congrArg some (by kernel_rfl))
 f319:=Tryz.func273.trans (congrArg some (by kernel_rfl))
 f320:=Tryz.func274.trans (congrArg some (by kernel_rfl))
 f337:=Tryz.func280.trans (congrArg some (by kernel_rfl))
 f338:=Tryz.func281.trans (congrArg some (by kernel_rfl))
 t0:=Tryz.underlying0
 a0:=Tryz.isAgg0
 z0:=Tryz.sizeOf0
 v0:=Tryz.zeroValue0
 t2:=Tryz.underlying2
 a2:=Tryz.isAgg2
 z2:=Tryz.sizeOf2
 v2:=Tryz.zeroValue2
 t3:=Tryz.underlying3
 a3:=Tryz.isAgg3
 z3:=Tryz.sizeOf3
 v3:=Tryz.zeroValue3
 t4:=Tryz.underlying4
 a4:=Tryz.isAgg4
 z4:=Tryz.sizeOf4
 v4:=Tryz.zeroValue4
 t5:=Tryz.underlying5
 a5:=Tryz.isAgg5
 z5:=Tryz.sizeOf5
 v5:=Tryz.zeroValue5
 t9:=Tryz.underlying9
 a9:=Tryz.isAgg9
 z9:=Tryz.sizeOf9
 v9:=Tryz.zeroValue9
 t20:=Tryz.underlying20
 a20:=Tryz.isAgg20
 z20:=Tryz.sizeOf20
 v20:=Tryz.zeroValue20
 t37:=Tryz.underlying235
 a37:=Tryz.isAgg235
 z37:=Tryz.sizeOf235
 v37:=Tryz.zeroValue235
 t46:=Tryz.underlying331
 a46:=Tryz.isAgg331
 z46:=Tryz.sizeOf331
 v46:=Tryz.zeroValue331
 t51:=Tryz.underlying334
 a51:=Tryz.isAgg334
 z51:=Tryz.sizeOf334
 v51:=Tryz.zeroValue334
 t53:=Tryz.underlying309
 a53:=Tryz.isAgg309
 z53:=Tryz.sizeOf309
 v53:=Tryz.zeroValue309
 t171:=Tryz.underlying308
 a171:=Tryz.isAgg308
 z171:=Tryz.sizeOf308
 v171:=Tryz.zeroValue308
 t173:=Tryz.underlying312
 a173:=Tryz.isAgg312
 z173:=Tryz.sizeOf312
 v173:=Tryz.zeroValue312
 t212:=Tryz.underlying333
 a212:=Tryz.isAgg333
 z212:=Tryz.sizeOf333
 v212:=Tryz.zeroValue333
 t213:=Tryz.underlying335
 a213:=Tryz.isAgg335
 z213:=Tryz.sizeOf335
 t232:=Tryz.underlying354
 a232:=Tryz.isAgg354
 z232:=Tryz.sizeOf354
 v232:=Tryz.zeroValue354
 t233:=Tryz.underlying355
 a233:=Tryz.isAgg355
 z233:=Tryz.sizeOf355
 v233:=Tryz.zeroValue355
 g17:=by kernel_rfl
 g18:=by kernel_rfl
 g19:=by kernel_rfl
 i0:=by kernel_rfl
 i2:=by kernel_rfl
 i3:=by kernel_rfl
 i4:=by kernel_rfl
 i5:=by kernel_rfl
 i9:=by kernel_rfl
 i20:=by kernel_rfl
 i37:=by kernel_rfl
 i46:=by kernel_rfl
 i51:=by kernel_rfl
 i53:=by kernel_rfl
 i171:=by kernel_rfl
 i173:=by kernel_rfl
 i212:=by kernel_rfl
 i232:=by kernel_rfl
 i233:=by kernel_rfl
 m17:=by kernel_rfl
 m18:=by kernel_rfl
 m19:=by kernel_rfl
def qoh:Go.Shelf.Ren:=⟨λ| 172=>168 | 244=>223 | 245=>224 | 247=>256 | 279=>257 | 280=>258 | 281=>259 | 282=>260 | 287=>275 | 316=>276 | 171=>75 | 205=>277 | 321=>282 | 322=>283 | 243=>155 | 246=>209 | 283=>245 | 284=>246 | 285=>247 | 286=>248 | 129=>271 | 317=>270 | 318=>272 | 319=>273 | 320=>274 | 337=>280 | 338=>281 | n=>n,λ| 9=>9 | 3=>3 | 75=>240 | 76=>241 | 4=>4 | 5=>5 | 167=>320 | 37=>235 | 0=>0 | 85=>321 | 2=>2 | 168=>323 | 53=>309 | 175=>337 | 46=>331 | 210=>341 | 127=>283 | 145=>353 | 143=>351 | 21=>21 | 171=>308 | 173=>312 | 212=>333 | 51=>334 | 20=>20 | 213=>335 | 232=>354 | 233=>355 | 80=>243 | n=>n,λ| 15=>2 | 16=>3 | 17=>1 | 18=>6 | 19=>7 | n=>n⟩
theorem qFT:LaysC.n172 Tryz.prog qoh where
 mixed:=by kernel_rfl
 f129:=Tryz.func271.trans (congrArg some (by kernel_rfl))
 f171:=Tryz.func75.trans (congrArg some (by kernel_rfl))
 f172:=Tryz.func168.trans (congrArg some (by kernel_rfl))
 f205:=Tryz.func277.trans (congrArg some (by kernel_rfl))
 f243:=Tryz.func155.trans (congrArg some (by kernel_rfl))
 f244:=Tryz.func223.trans (congrArg some (by kernel_rfl))
 f245:=Tryz.func224.trans (congrArg some (by kernel_rfl))
 f246:=Tryz.func209.trans (congrArg some (by kernel_rfl))
 f247:=Tryz.func256.trans (congrArg some (by kernel_rfl))
 f279:=Tryz.func257.trans (congrArg some (by kernel_rfl))
 f280:=Tryz.func258.trans (congrArg some (by kernel_rfl))
 f281:=Tryz.func259.trans (congrArg some (by kernel_rfl))
 f282:=Tryz.func260.trans (congrArg some (by kernel_rfl))
 f283:=Tryz.func245.trans (congrArg some (by kernel_rfl))
 f284:=Tryz.func246.trans (congrArg some (by kernel_rfl))
 f285:=Tryz.func247.trans (congrArg some (by kernel_rfl))
 f286:=Tryz.func248.trans (congrArg some (by kernel_rfl))
 f287:=Tryz.func275.trans (congrArg some (by kernel_rfl))
 f316:=Tryz.func276.trans (congrArg some (by kernel_rfl))
 f317:=Tryz.func270.trans (congrArg some (by kernel_rfl))
 f318:=Tryz.func272.trans (congrArg some (by kernel_rfl))
 f319:=Tryz.func273.trans (congrArg some (by kernel_rfl))
 f320:=Tryz.func274.trans (congrArg some (by kernel_rfl))
 f321:=Tryz.func282.trans (congrArg some (by kernel_rfl))
 f322:=Tryz.func283.trans (congrArg some (by kernel_rfl))
 f337:=Tryz.func280.trans (congrArg some (by kernel_rfl))
 f338:=Tryz.func281.trans (congrArg some (by kernel_rfl))
 t0:=Tryz.underlying0
 a0:=Tryz.isAgg0
 z0:=Tryz.sizeOf0
 v0:=Tryz.zeroValue0
 t2:=Tryz.underlying2
 a2:=Tryz.isAgg2
 z2:=Tryz.sizeOf2
 v2:=Tryz.zeroValue2
 t3:=Tryz.underlying3
 a3:=Tryz.isAgg3
 z3:=Tryz.sizeOf3
 v3:=Tryz.zeroValue3
 t4:=Tryz.underlying4
 a4:=Tryz.isAgg4
 z4:=Tryz.sizeOf4
 v4:=Tryz.zeroValue4
 t5:=Tryz.underlying5
 a5:=Tryz.isAgg5
 z5:=Tryz.sizeOf5
 v5:=Tryz.zeroValue5
 t9:=Tryz.underlying9
 a9:=Tryz.isAgg9
 z9:=Tryz.sizeOf9
 v9:=Tryz.zeroValue9
 t20:=Tryz.underlying20
 a20:=Tryz.isAgg20
 z20:=Tryz.sizeOf20
 v20:=Tryz.zeroValue20
 t21:=Tryz.underlying21
 a21:=Tryz.isAgg21
 z21:=Tryz.sizeOf21
 v21:=Tryz.zeroValue21
 t37:=Tryz.underlying235
 a37:=Tryz.isAgg235
 z37:=Tryz.sizeOf235
 v37:=Tryz.zeroValue235
 t46:=Tryz.underlying331
 a46:=Tryz.isAgg331
 z46:=Tryz.sizeOf331
 v46:=Tryz.zeroValue331
 t51:=Tryz.underlying334
 a51:=Tryz.isAgg334
 z51:=Tryz.sizeOf334
 v51:=Tryz.zeroValue334
 t53:=Tryz.underlying309
 a53:=Tryz.isAgg309
 z53:=Tryz.sizeOf309
 v53:=Tryz.zeroValue309
 t75:=Tryz.underlying240
 a75:=Tryz.isAgg240
 z75:=Tryz.sizeOf240
 v75:=Tryz.zeroValue240
 t76:=Tryz.underlying241
 a76:=Tryz.isAgg241
 z76:=Tryz.sizeOf241
 v76:=Tryz.zeroValue241
 t85:=Tryz.underlying321
 a85:=Tryz.isAgg321
 z85:=Tryz.sizeOf321
 v85:=Tryz.zeroValue321
 t127:=Tryz.underlying283
 a127:=Tryz.isAgg283
 z127:=Tryz.sizeOf283
 v127:=Tryz.zeroValue283
 t143:=Tryz.underlying351
 a143:=Tryz.isAgg351
 z143:=Tryz.sizeOf351
 v143:=Tryz.zeroValue351
 t145:=Tryz.underlying353
 a145:=Tryz.isAgg353
 z145:=Tryz.sizeOf353
 v145:=Tryz.zeroValue353
 t167:=Tryz.underlying320
 a167:=Tryz.isAgg320
 z167:=Tryz.sizeOf320
 v167:=Tryz.zeroValue320
 t168:=Tryz.underlying323
 a168:=Tryz.isAgg323
 z168:=Tryz.sizeOf323
 v168:=Tryz.zeroValue323
 t171:=Tryz.underlying308
 a171:=Tryz.isAgg308
 z171:=Tryz.sizeOf308
 v171:=Tryz.zeroValue308
 t173:=Tryz.underlying312
 a173:=Tryz.isAgg312
 z173:=Tryz.sizeOf312
 v173:=Tryz.zeroValue312
 t175:=Tryz.underlying337
 a175:=Tryz.isAgg337
 z175:=Tryz.sizeOf337
 v175:=Tryz.zeroValue337
 t210:=Tryz.underlying341
 a210:=Tryz.isAgg341
 z210:=Tryz.sizeOf341
 v210:=Tryz.zeroValue341
 t212:=Tryz.underlying333
 a212:=Tryz.isAgg333
 z212:=Tryz.sizeOf333
 v212:=Tryz.zeroValue333
 t213:=Tryz.underlying335
 a213:=Tryz.isAgg335
 z213:=Tryz.sizeOf335
 t232:=Tryz.underlying354
 a232:=Tryz.isAgg354
 z232:=Tryz.sizeOf354
 v232:=Tryz.zeroValue354
 t233:=Tryz.underlying355
 a233:=Tryz.isAgg355
 z233:=Tryz.sizeOf355
 v233:=Tryz.zeroValue355
 g15:=by kernel_rfl
 g16:=by kernel_rfl
 g17:=by kernel_rfl
 g18:=by kernel_rfl
 g19:=by kernel_rfl
 t80:=Tryz.underlying243
 a80:=Tryz.isAgg243
 z80:=Tryz.sizeOf243
 v80:=Tryz.zeroValue243
 i0:=by kernel_rfl
 i2:=by kernel_rfl
 i3:=by kernel_rfl
 i4:=by kernel_rfl
 i5:=by kernel_rfl
 i9:=by kernel_rfl
 i20:=by kernel_rfl
 i21:=by kernel_rfl
 i37:=by kernel_rfl
 i46:=by kernel_rfl
 i51:=by kernel_rfl
 i53:=by kernel_rfl
 i75:=by kernel_rfl
 i76:=by kernel_rfl
 i80:=by kernel_rfl
 i85:=by kernel_rfl
 i127:=by kernel_rfl
 i143:=by kernel_rfl
 i145:=by kernel_rfl
 i167:=by kernel_rfl
 i168:=by kernel_rfl
 i171:=by kernel_rfl
 i173:=by kernel_rfl
 i175:=by kernel_rfl
 i210:=by kernel_rfl
 i212:=by kernel_rfl
 i232:=by kernel_rfl
 i233:=by kernel_rfl
 m15:=by kernel_rfl
 m16:=by kernel_rfl
 m17:=by kernel_rfl
 m18:=by kernel_rfl
 m19:=by kernel_rfl
 c0:=by kernel_rfl
 c2:=by kernel_rfl
 c3:=by kernel_rfl
 c4:=by kernel_rfl
 c5:=by kernel_rfl
 c9:=by kernel_rfl
 c20:=by kernel_rfl
 c21:=by kernel_rfl
 c37:=by kernel_rfl
 c46:=by kernel_rfl
 c51:=by kernel_rfl
 c53:=by kernel_rfl
 c75:=by kernel_rfl
 c76:=by kernel_rfl
 c80:=by kernel_rfl
 c85:=by kernel_rfl
 c127:=by kernel_rfl
 c143:=by kernel_rfl
 c145:=by kernel_rfl
 c167:=by kernel_rfl
 c168:=by kernel_rfl
 c171:=by kernel_rfl
 c173:=by kernel_rfl
 c175:=by kernel_rfl
 c210:=by kernel_rfl
 c212:=by kernel_rfl
 c213:=by kernel_rfl
 c232:=by kernel_rfl
 c233:=by kernel_rfl
def qte:Go.Shelf.Ren:=⟨λ| 156=>76 | 165=>156 | 166=>157 | 169=>158 | 240=>210 | 241=>211 | 276=>249 | 277=>250 | n=>n,λ| 31=>131 | 9=>9 | 3=>3 | 4=>4 | 0=>0 | 20=>20 | 72=>237 | 76=>241 | 70=>234 | 37=>235 | 75=>240 | 127=>283 | 164=>314 | 5=>5 | 80=>243 | n=>n,λn=>n⟩
theorem qF6:Lays.n156 Tryz.prog qte where
 mixed:=by kernel_rfl
 f156:=Tryz.func76.trans (congrArg some (by kernel_rfl))
 f165:=Tryz.func156.trans (congrArg some (by kernel_rfl))
 f166:=Tryz.func157.trans (congrArg some (by kernel_rfl))
 f169:=Tryz.func158.trans (congrArg some (by kernel_rfl))
 f240:=Tryz.func210.trans (congrArg some (by kernel_rfl))
 f241:=Tryz.func211.trans (congrArg some (by kernel_rfl))
 f276:=Tryz.func249.trans (congrArg some (by kernel_rfl))
 f277:=Tryz.func250.trans (congrArg some (by kernel_rfl))
 t0:=Tryz.underlying0
 a0:=Tryz.isAgg0
 z0:=Tryz.sizeOf0
 v0:=Tryz.zeroValue0
 t3:=Tryz.underlying3
 a3:=Tryz.isAgg3
 z3:=Tryz.sizeOf3
 v3:=Tryz.zeroValue3
 t4:=Tryz.underlying4
 a4:=Tryz.isAgg4
 z4:=Tryz.sizeOf4
 v4:=Tryz.zeroValue4
 t9:=Tryz.underlying9
 a9:=Tryz.isAgg9
 z9:=Tryz.sizeOf9
 v9:=Tryz.zeroValue9
 t20:=Tryz.underlying20
 a20:=Tryz.isAgg20
 z20:=Tryz.sizeOf20
 v20:=Tryz.zeroValue20
 t31:=Tryz.underlying131
 a31:=Tryz.isAgg131
 z31:=Tryz.sizeOf131
 v31:=Tryz.zeroValue131
 t37:=Tryz.underlying235
 a37:=Tryz.isAgg235
 z37:=Tryz.sizeOf235
 v37:=Tryz.zeroValue235
 t70:=Tryz.underlying234
 a70:=Tryz.isAgg234
 z70:=Tryz.sizeOf234
 v70:=Tryz.zeroValue234
 t72:=Tryz.underlying237
 a72:=Tryz.isAgg237
 z72:=Tryz.sizeOf237
 v72:=Tryz.zeroValue237
 t75:=Tryz.underlying240
 a75:=Tryz.isAgg240
 z75:=Tryz.sizeOf240
 v75:=Tryz.zeroValue240
 t76:=Tryz.underlying241
 a76:=Tryz.isAgg241
 z76:=Tryz.sizeOf241
 v76:=Tryz.zeroValue241
 t127:=Tryz.underlying283
 a127:=Tryz.isAgg283
 z127:=Tryz.sizeOf283
 v127:=Tryz.zeroValue283
 t164:=Tryz.underlying314
 a164:=Tryz.isAgg314
 z164:=Tryz.sizeOf314
 v164:=Tryz.zeroValue314
def qAt:Go.Shelf.Ren:=⟨λ| 101=>169 | 208=>225 | 206=>261 | n=>n,λ| 9=>9 | 4=>4 | 3=>3 | n=>n,λn=>n⟩
theorem qFU:Lays.n101 Tryz.prog qAt where
 mixed:=by kernel_rfl
 f101:=Tryz.func169.trans (congrArg some (by kernel_rfl))
 f206:=Tryz.func261.trans (congrArg some (by kernel_rfl))
 f208:=Tryz.func225.trans (congrArg some (by kernel_rfl))
 t3:=Tryz.underlying3
 a3:=Tryz.isAgg3
 z3:=Tryz.sizeOf3
 v3:=Tryz.zeroValue3
 t4:=Tryz.underlying4
 a4:=Tryz.isAgg4
 z4:=Tryz.sizeOf4
 v4:=Tryz.zeroValue4
 t9:=Tryz.underlying9
 a9:=Tryz.isAgg9
 z9:=Tryz.sizeOf9
 v9:=Tryz.zeroValue9
def qxY:Go.Shelf.Ren:=⟨λ| 143=>239 | 219=>244 | 217=>266 | 225=>267 | 224=>268 | 267=>269 | 266=>278 | 314=>279 | n=>n,λ| 9=>9 | 3=>3 | 4=>4 | 5=>5 | 46=>331 | 146=>347 | 51=>334 | n=>n,λ| 1=>0 | n=>n⟩
theorem qFs:Lays.n143 Tryz.prog qxY where
 mixed:=by kernel_rfl
 f143:=Tryz.func239.trans (congrArg some (by kernel_rfl))
 f217:=Tryz.func266.trans (congrArg some (by kernel_rfl))
 f219:=Tryz.func244.trans (congrArg some (by kernel_rfl))
 f224:=Tryz.func268.trans (congrArg some (by kernel_rfl))
 f225:=Tryz.func267.trans (congrArg some (by kernel_rfl))
 f266:=Tryz.func278.trans (congrArg some (by kernel_rfl))
 f267:=Tryz.func269.trans (congrArg some (by kernel_rfl))
 f314:=Tryz.func279.trans (congrArg some (by kernel_rfl))
 t3:=Tryz.underlying3
 a3:=Tryz.isAgg3
 z3:=Tryz.sizeOf3
 v3:=Tryz.zeroValue3
 t4:=Tryz.underlying4
 a4:=Tryz.isAgg4
 z4:=Tryz.sizeOf4
 v4:=Tryz.zeroValue4
 t5:=Tryz.underlying5
 a5:=Tryz.isAgg5
 z5:=Tryz.sizeOf5
 v5:=Tryz.zeroValue5
 t9:=Tryz.underlying9
 a9:=Tryz.isAgg9
 z9:=Tryz.sizeOf9
 v9:=Tryz.zeroValue9
 t46:=Tryz.underlying331
 a46:=Tryz.isAgg331
 z46:=Tryz.sizeOf331
 v46:=Tryz.zeroValue331
 t51:=Tryz.underlying334
 a51:=Tryz.isAgg334
 z51:=Tryz.sizeOf334
 v51:=Tryz.zeroValue334
 t146:=Tryz.underlying347
 a146:=Tryz.isAgg347
 z146:=Tryz.sizeOf347
 v146:=Tryz.zeroValue347
 g1:=by kernel_rfl
def qB0:Go.Shelf.Ren:=⟨λ| 145=>151 | 220=>207 | 219=>244 | 217=>266 | 225=>267 | 224=>268 | 267=>269 | 266=>278 | 314=>279 | n=>n,λ| 9=>9 | 4=>4 | 59=>229 | 3=>3 | 5=>5 | 46=>331 | 146=>347 | 51=>334 | n=>n,λ| 1=>0 | n=>n⟩
theorem qGh:Lays.n145 Tryz.prog qB0 where
 mixed:=by kernel_rfl
 f145:=Tryz.func151.trans (congrArg some (by kernel_rfl))
 f217:=Tryz.func266.trans (congrArg some (by kernel_rfl))
 f219:=Tryz.func244.trans (congrArg some (by kernel_rfl))
 f220:=Tryz.func207.trans (congrArg some (by kernel_rfl))
 f224:=Tryz.func268.trans (congrArg some (by kernel_rfl))
 f225:=Tryz.func267.trans (congrArg some (by kernel_rfl))
 f266:=Tryz.func278.trans (congrArg some (by kernel_rfl))
 f267:=Tryz.func269.trans (congrArg some (by kernel_rfl))
 f314:=Tryz.func279.trans (congrArg some (by kernel_rfl))
 t3:=Tryz.underlying3
 a3:=Tryz.isAgg3
 z3:=Tryz.sizeOf3
 v3:=Tryz.zeroValue3
 t4:=Tryz.underlying4
 a4:=Tryz.isAgg4
 z4:=Tryz.sizeOf4
 v4:=Tryz.zeroValue4
 t5:=Tryz.underlying5
 a5:=Tryz.isAgg5
 z5:=Tryz.sizeOf5
 v5:=Tryz.zeroValue5
 t9:=Tryz.underlying9
 a9:=Tryz.isAgg9
 z9:=Tryz.sizeOf9
 v9:=Tryz.zeroValue9
 t46:=Tryz.underlying331
 a46:=Tryz.isAgg331
 z46:=Tryz.sizeOf331
 v46:=Tryz.zeroValue331
 t51:=Tryz.underlying334
 a51:=Tryz.isAgg334
 z51:=Tryz.sizeOf334
 v51:=Tryz.zeroValue334
 t59:=Tryz.underlying229
 a59:=Tryz.isAgg229
 z59:=Tryz.sizeOf229
 v59:=Tryz.zeroValue229
 t146:=Tryz.underlying347
 a146:=Tryz.isAgg347
 z146:=Tryz.sizeOf347
 v146:=Tryz.zeroValue347
 g1:=by kernel_rfl
theorem qET:Builder.Extra Tryz.prog qte where
 sizeBuilder:=by kernel_rfl
 liesBuilder:=by kernel_rfl
 t5:=Tryz.underlying5
 a5:=Tryz.isAgg5
 z5:=Tryz.sizeOf5
 v5:=Tryz.zeroValue5
 infoByte:=by kernel_rfl
 cellsByte:=by kernel_rfl
 sizeByte:=by kernel_rfl
 neB5:=by decide
theorem qFV {w : World} {X : Cx} (h : qh5 w X) : Lib.TabIs Tryz.prog w "internal/strconv.uint64pow10" .u64 Lib.pow10Tab := qEz h (b := 1) (by simp [qyj]) (by kernel_rfl)
theorem qwG {w:World} {X:Cx} (h:qh5 w X) {b:Nat} (hm:(b,quw) ∈ qyj):∃ ev,w.cell? ⟨b,0,none⟩ = some ev/\(ev = .nilIface\/∃ te pe,ev = .iface te pe):=by
 obtain ⟨arr,t,fr,h1,ev,h2,h3⟩:=qzX h hm;exact ⟨ev,by simp [World.cell?,h1,h2],h3⟩
theorem qvP {w:World} {X:Cx} (h:qh5 w X):∃ m,w.cell? ⟨0,0,none⟩ = some (.int .i64 m):=by
 obtain ⟨arr,t,fr,h1,m,h2⟩:=qzX h (b:=0) (p:=qy7) (by simp [qyj]);exact ⟨m,by simp [World.cell?,h1,h2]⟩
theorem qBZ {args:List V} {r:V} (h:qzk args = some r):qa9 Tryz.prog 75 args [] r []:=by
 unfold qzk at h;split at h
 ·rename_i n;obtain ⟨s,hs,rfl⟩:=qf.1 h;unfold strconv_Itoa at hs;split at hs
  ·rename_i hn;cases hs;exact qDy qFM (λ_ _=>enters Tryz.func75 (by kernel_rfl) (by kernel_rfl) _ _) (λw X hg=>qFV hg) n hn.1 hn.2
  ·cases hs
 ·cases h
theorem qCj {args:List V} {r:V} (h:qAs args = some r):qa9 Tryz.prog 168 args [] r []:=by
 unfold qAs at h;split at h
 ·rename_i s;split at h
  ·rename_i hs;cases h;exact qDc qFT (λ_ _=>enters Tryz.func168 (by kernel_rfl) (by kernel_rfl) _ _) (λw X hg=>qwG hg (by simp [qyj,qoh])) (λw X hg=>qwG hg (by simp [qyj,qoh])) s hs
  ·cases h
 ·cases h
theorem qBn {args:List V} {r:V} (h:qyM args = some r):qa9 Tryz.prog 76 args [] r []:=by
 unfold qyM at h;split at h
 ·rename_i f c l sep;obtain ⟨xs,hxs,h⟩:=qh.1 h;obtain ⟨s,hs,rfl⟩:=qf.1 h;unfold strings_Join at hs;split at hs
  ·rename_i hc;cases hs;exact qDx qF6 qET (λ_ _=>enters Tryz.func76 (by kernel_rfl) (by kernel_rfl) _ _) f c l xs sep hxs hc.1 hc.2
  ·cases hs
 ·cases h
theorem qBa {args:List V} {r:V} (h:qCE args = some r):qa9 Tryz.prog 169 args [] r []:=by
 unfold qCE at h;split at h
 ·cases h;exact qq3 qFU (λ_ _=>enters Tryz.func169 (by kernel_rfl) (by kernel_rfl) _ _) _ _
 ·cases h
theorem qAK {args:List V} {r:V} (h:qt5 args = some r):qa9 Tryz.prog 239 args [] r []:=by
 unfold qt5 at h;split at h
 ·split at h
  ·rename_i hs;cases h;exact qBt qFs (λ_ _=>enters Tryz.func239 (by kernel_rfl) (by kernel_rfl) _ _) (λw X hg=>qvP hg) _ _ hs
  ·cases h
 ·cases h
theorem qDl {args:List V} {r:V} (h:qEX args = some r):qa9 Tryz.prog 151 args [] r []:=by
 unfold qEX at h;split at h
 ·split at h
  ·rename_i hs;cases h;exact qEB qGh (λ_ _=>enters Tryz.func151 (by kernel_rfl) (by kernel_rfl) _ _) (λw X hg=>qvP hg) _ _ hs
  ·cases h
 ·cases h
theorem qsH:∀ {l:List (FuncId × (List V->Option V))} {g:FuncId} {h:List V->Option V},qA3 l g = some h->(g,h) ∈ l
 | [],_,_,h=>by cases h
 | (k,f) :: l,g,h,hh=>by
  unfold qA3 at hh;split at hh
  ·rename_i e; subst e; cases hh; exact List.mem_cons_self
  ·exact List.mem_cons_of_mem _ (qsH hh)
theorem qya:∀ g h args r,Lb g = some h->h args = some r->qa9 Tryz.prog g args [] r []:=λg h args r hg hr=>by
 have hm:=qsH hg;simp only [qGb,qp,Prod.mk.injEq,List.mem_nil_iff,or_false] at hm;rcases hm with ⟨rfl,rfl⟩ | ⟨rfl,rfl⟩ | ⟨rfl,rfl⟩ | ⟨rfl,rfl⟩ | ⟨rfl,rfl⟩ | ⟨rfl,rfl⟩ | ⟨rfl,rfl⟩
 ·cases args with
  | nil=>cases hr; exact qBd
  | cons a l=>cases hr
 ·exact qBZ hr
 ·exact qCj hr
 ·exact qBn hr
 ·exact qBa hr
 ·exact qAK hr
 ·exact qDl hr
end Go.Proofs.YteiciemjanhdcaaGreatDoor
end
section
namespace Go
variable {H:Type} {enc:TypeId × Value->H}
theorem qeN {a:Assume} {C:Checked} {os:Os} {f:FuncId} {fn:Func} {s:ChangeSpec} {conds:List PathCond} {apart fresh handsOn again:Bool} {X:World->Array Value->Prop}
  (hX:∀ (w w':World) (args:Array Value),w.heap = w'.heap->X w args->X w' args)
  (own:ownKnob C.prog.godebug = none) (started:os.Started) (noInit:C.prog.inits.idxOf? f = none) (hfn:C.prog.funcs[f]? = some fn)
  (witness:∃ (w:World) (tape:Tape) (i:Input),w.os = os/\(w.forCall tape i).Shaped C.prog/\i.vars = []/\Input.okWide C.prog (w.forCall tape i) .any w.heap.size f i /\
   ((s.pre enc C.prog fn conds apart (w.forCall tape i).memory i.args/\X (w.forCall tape i).memory i.args)/\sizedMet enc C.prog fn (OpenSpec.ofChange s) apart (w.forCall tape i).memory i.args)/\a.holds C.prog (lone (Frame.enter C.prog f i.args .normal) [] (w.forCall tape i)))
  (contract:∀ (W:World) (base:Nat) (args:Array Value) (ds gs:List (DataW H)) (before:List MemPlace),
   (∀ (j:Nat) t v,fn.params[j]? = some t->args[j]? = some v->Value.okWide C.prog W .any base t v) ->
   DataW.Whole enc C.prog fn.params.toList s.vars apart W args.toList ds gs before ->
   W.ShapedOpen C.prog->X W args ->
   Calls C.prog f args W λe W'=>∃ v,e = .returned v/\s.post enc C.prog fn apart fresh handsOn again W args v W') :
  ReturnsInHanded a C os f .any (λw args=>(s.pre enc C.prog fn conds apart w args/\X w args)/\sizedMet enc C.prog fn (OpenSpec.ofChange s) apart w args) (s.post enc C.prog fn apart fresh handsOn again):=by
 refine returnsInHanded_of_calls own started noInit witness ?_;intro w tape i _ hsh _ hok hpre hholds;obtain ⟨_,_,_,fn',hfn',_,_,_,_,hval⟩:=hok;have e:fn' = fn:=Option.some.inj (hfn'.symm.trans hfn);subst e;obtain ⟨⟨⟨ds,gs,before,hw,hc⟩,hx⟩,hz⟩:=hpre;have hw':=DataW.Whole.of_heap (w':=w.forCall tape i) (by rfl) hw;refine (contract (w.forCall tape i) w.heap.size i.args ds gs before hval hw' hsh (hX _ _ _ (by rfl) hx)).mono λe W' ⟨v,he,hp⟩=>?_;subst he;exact ChangeSpec.post_blind hp
end Go
namespace Go.Proofs.YteiciemjanhdcaaGreatDoor
open Go Go.Ab Go.Tx Go.ChangeShapes Go.WideShapes Go.ChangeAt Go.WideMaps Go.WideElems Go.RowKit
def qmR : List (String × DataW Unit) := [("math/bits.deBruijn32tab", Rows.laid_math_bits_deBruijn32tab), ("math/bits.deBruijn64tab", Rows.laid_math_bits_deBruijn64tab), ("internal/strconv.uint64pow10", Rows.laid_internal_strconv_uint64pow10), ("unicode/utf8.acceptRanges", Rows.laid_unicode_utf8_acceptRanges), ("strconv.ErrRange", Rows.laid_strconv_ErrRange), ("strconv.ErrSyntax", Rows.laid_strconv_ErrSyntax), ("unicode/utf8.first", Rows.laid_unicode_utf8_first)]
theorem g1 : Tryz.prog.globalNamed "internal/strconv.uint64pow10" = some 1 := by kernel_rfl
theorem g2 : Tryz.prog.globalNamed "strconv.ErrSyntax" = some 2 := by kernel_rfl
theorem g3 : Tryz.prog.globalNamed "strconv.ErrRange" = some 3 := by kernel_rfl
theorem star : "*" ++ "errors.errorString" = "*errors.errorString" := by decide
theorem qC1 (u : TypeId) (h : Tryz.prog.typeName? 3 u = some "*errors.errorString") : u = 351 :=
 typeName_ptr_named (nm := "errors.errorString") (by rw [star]; kernel_rfl) (by kernel_rfl) (by decide) u (by rw [star]; exact h)
theorem glE {W:World} {b n:Nat} {c:Array Value} {P:Program} {nm:String} (hg:P.globalNamed nm = some b) (h:W.var? P nm = some c):∃ t fr,W.heap[b]? = some (.cells c t fr):=by
 simp only [World.var?,hg,qb] at h;cases hb:W.heap[b]? with
 | none=>rw [hb] at h; cases h
 | some o =>
  cases o with
  | cells a t fr=>rw [hb] at h; simp only [qe] at h; subst h; exact ⟨t,fr,rfl⟩
  | _=>rw [hb] at h; cases h
theorem glC {W:World} {b:Nat} {v:Value} (h:W.cell? ⟨b,0,none⟩ = some v):∃ c t fr,W.heap[b]? = some (.cells c t fr)/\c[0]? = some v:=by
 simp only [World.cell?] at h;cases hb:W.heap[b]? with
 | none=>rw [hb] at h; cases h
 | some o =>
  cases o with
  | cells a t fr=>rw [hb] at h; exact ⟨a,t,fr,rfl,h⟩
  | _=>rw [hb] at h; cases h
theorem qxN {W:World} (h:laidMetH Tryz.prog qmR W):laidMet Tryz.prog qmR W:=by
 rwa [MakeChecks.laidMetH_plain _ _ _ (by kernel_rfl)] at h
set_option maxRecDepth 100000 in
theorem qF4 {W : World} (h : laidMet Tryz.prog qmR W) : Lib.TabIs Tryz.prog W "internal/strconv.uint64pow10" .u64 Lib.pow10Tab :=
 Lib.tabIs_of_head (t := 333) (e := 309) (n := 20) (rest := qmR.drop 3) g1 (by kernel_rfl) Tryz.underlying333 Tryz.underlying309 (by kernel_rfl) (by kernel_rfl) (show laidMet Tryz.prog (("internal/strconv.uint64pow10", Lib.tabData .u64 Lib.pow10Tab) :: qmR.drop 3) W from h.tail.tail)
theorem qBU {W : World} (h : laidMet Tryz.prog qmR W) : ∃ a, W.var? Tryz.prog "strconv.ErrRange" = some #[.iface 351 (.pointer (some a))] := by
 obtain ⟨a,s,hv,-,-,-⟩:=laid_sentinel h.tail.tail.tail.tail g3 (show (Tryz.prog.globals[3]?).map (·.type) = some 240 by kernel_rfl) Tryz.underlying240 qC1 Tryz.underlying351 Tryz.underlying353 rfl rfl Tryz.underlying9 (by kernel_rfl) (by kernel_rfl);exact ⟨a,hv⟩
theorem qAU {W : World} (h : laidMet Tryz.prog qmR W) : ∃ a, W.var? Tryz.prog "strconv.ErrSyntax" = some #[.iface 351 (.pointer (some a))] := by
 obtain ⟨a,s,hv,-,-,-⟩:=laid_sentinel h.tail.tail.tail.tail.tail g2 (show (Tryz.prog.globals[2]?).map (·.type) = some 240 by kernel_rfl) Tryz.underlying240 qC1 Tryz.underlying351 Tryz.underlying353 rfl rfl Tryz.underlying9 (by kernel_rfl) (by kernel_rfl);exact ⟨a,hv⟩
theorem qx2 {W:World} (h:W.ShapedOpen Tryz.prog):∃ m,W.cell? ⟨0,0,none⟩ = some (.int .i64 m):=by
 have hr:((begin Tryz.prog (λ_ _=>0) default).world.heap[0]?).bind Obj.row? = some (#[.int .i64 0],3):=by kernel_rfl
 exact cell_of_shapedOpen_int (t:=3) (zero:=#[.int .i64 0]) h (of_decide_eq_true (by kernel_rfl)) hr rfl (by kernel_rfl) (by kernel_rfl) Tryz.underlying3
theorem qD3 {W:World} (hs:W.ShapedOpen Tryz.prog) (hL:laidMetH Tryz.prog qmR W):qh5 W (cx0 W):=by
 have h:=qxN hL;obtain ⟨m,hm⟩:=qx2 hs;obtain ⟨a3,h3⟩:=qBU h;obtain ⟨a2,h2⟩:=qAU h;have h1:=qF4 h;unfold Lib.TabIs at h1;intro x hx;simp only [qyj,qp,List.mem_nil_iff,or_false] at hx;have om:∀ {b:Nat} {c:Array Value} {t:TypeId} {fr:Nat × Nat},W.heap[b]? = some (.cells c t fr)->∃ e,(cx0 W).ω b = some (e,true):=λ{b c t fr} hb=>⟨c.size,by simp [cx0,hb]⟩
 rcases hx with rfl | rfl | rfl | rfl
 ·obtain ⟨c,t,fr,hb,hc⟩:=glC hm;exact ⟨om hb,c,t,fr,hb,m,hc⟩
 ·obtain ⟨t,fr,hb⟩:=glE (n:=0) g1 h1;exact ⟨om hb,_,t,fr,hb,rfl⟩
 ·obtain ⟨t,fr,hb⟩:=glE (n:=0) g2 h2;exact ⟨om hb,_,t,fr,hb,_,rfl,Or.inr ⟨_,_,rfl⟩⟩
 ·obtain ⟨t,fr,hb⟩:=glE (n:=0) g3 h3;exact ⟨om hb,_,t,fr,hb,_,rfl,Or.inr ⟨_,_,rfl⟩⟩
end Go.Proofs.YteiciemjanhdcaaGreatDoor
end
section
namespace Go.Tx
open Go
theorem qjr {n:Int} (h1 : -9223372036854775808<=n) (h2:n<=9223372036854775807):IntKind.wrap .i64 n = n:=by
 rw [IntKind.wrap_i64]; omega
theorem qwA {α:Type} (l:List α):idx l 0 = l[0]?:=by simp [idx]
theorem qaB {α:Type} {l:List α} {i:Nat} {a:α} (h:l[i]? = some a):idx l (i:Int) = some a:=by simp [idx,h]
theorem qAl {α:Type} {l l2:List α} (h:l.length + l2.length<=4294967296):app l l2 = some (l ++ l2):=by simp [app,h]
section
variable {σ ρ:Type} {f:σ->Option (σ ⊕ ρ)}
theorem qlM:∀ {n m:Nat} {s:σ} {r:ρ},qi2 f n s = some r->n<=m->qi2 f m s = some r
 | 0,m,s,r,h,_=>by simp [qi2] at h
 | n + 1,0,s,r,h,hm=>by omega
 | n + 1,m + 1,s,r,h,hm=>by
  simp only [qi2] at h ⊢;cases hf:f s with
  | none=>rw [hf] at h; cases h
  | some x =>
   rw [hf] at h;cases x with
   | inl s'=>exact qlM h (by omega)
   | inr r'=>exact h
theorem qr1 {n:Nat} {s:σ} {r:ρ} (h:qi2 f n s = some r):qab f s = some r:=by
 have hex:∃ n r,qi2 f n s = some r:=⟨n,r,h⟩
 cases hl:qab f s with
 | none=>exfalso; unfold qab at hl; rw [dif_pos hex] at hl; cases hl
 | some r' =>
  obtain ⟨m,hm⟩:=qiR hl;have h1:=qlM h (Nat.le_max_left n m);have h2:=qlM hm (Nat.le_max_right n m);rw [<- h1,<- h2]
theorem qkO {s s':σ} (h:f s = some (.inl s')):qab f s = qab f s':=by
 cases hl:qab f s' with
 | some r =>
  obtain ⟨n,hn⟩:=qiR hl;exact qr1 (n:=n + 1) (by simp [qi2,h,hn])
 | none =>
  cases hl2:qab f s with
  | none=>rfl
  | some r =>
   obtain ⟨n,hn⟩:=qiR hl2;cases n with
   | zero=>simp [qi2] at hn
   | succ n =>
    simp only [qi2,h] at hn;rw [qr1 hn] at hl;cases hl
theorem qeG {s:σ} {r:ρ} (h:f s = some (.inr r)):qab f s = some r:=qr1 (n:=1) (by simp [qi2,h])
theorem qCB (n:Nat) (I:Nat->σ->Prop) (Q:ρ->Prop)
  (hs:∀ i s,i<=n->I i s->(∃ s',f s = some (.inl s')/\i < n/\I (i + 1) s')\/(∃ r,f s = some (.inr r)/\Q r)) {s:σ} (h0:I 0 s):∃ r,qab f s = some r/\Q r:=by
 have h:∀ k i s,n - i = k->i<=n->I i s->∃ r,qab f s = some r/\Q r:=by
  intro k;induction k with
  | zero =>
   intro i s hk hi hI;rcases hs i s hi hI with ⟨s',_,h,_⟩ | ⟨r,h,hq⟩
   ·omega
   ·exact ⟨r,qeG h,hq⟩
  | succ k ih =>
   intro i s hk hi hI;rcases hs i s hi hI with ⟨s',h,hlt,hI'⟩ | ⟨r,h,hq⟩
   ·obtain ⟨r,hr,hq⟩:=ih (i + 1) s' (by omega) (by omega) hI';exact ⟨r,by rw [qkO h,hr],hq⟩
   ·exact ⟨r,qeG h,hq⟩
 exact h n 0 s (by omega) (by omega) h0
end
def qgb {α ρ:Type} (g:Nat->α->Option ρ):Nat->List α->Option ρ
 | _,[]=>none
 | k,a :: l=>match g k a with
  | some r=>some r
  | none=>qgb g (k + 1) l
def qBB {ρ:Type}:Option ρ->Unit ⊕ ρ
 | some r=>.inr r
 | none=>.inl ()
def stp {ρ:Type} (i:Nat):Option ρ->Int ⊕ (Unit ⊕ ρ)
 | some r=>.inr (.inr r)
 | none=>.inl ((i:Int) + 1)
theorem qAa {α ρ:Type} (l:List α) {f:Int->Option (Int ⊕ (Unit ⊕ ρ))} (g:Nat->α->Option ρ)
  (h:∀ (i:Nat) (a:α),l[i]? = some a->f i = some (stp i (g i a)))
  (he:f l.length = some (.inr (.inl ()))):qab f 0 = some (qBB (qgb g 0 l)):=by
 have key:∀ (l2 l1:List α),l1 ++ l2 = l->qab f (l1.length:Nat) = some (qBB (qgb g l1.length l2)):=by
  intro l2;induction l2 with
  | nil =>
   intro l1 e;have:l1 = l:=by simpa using e
   subst this;rw [qeG he]; rfl
  | cons a l2 ih =>
   intro l1 e;have hi:l[l1.length]? = some a:=by rw [<- e]; simp
   have hf:=h _ _ hi;simp only [qgb];cases hg:g l1.length a with
   | some r=>rw [hg] at hf; rw [qeG hf]; rfl
   | none =>
    rw [hg] at hf;rw [qkO hf];have:=ih (l1 ++ [a]) (by simp [e]);simpa using this
 simpa using key l [] rfl
end Go.Tx
end
section
namespace Go.Tx
open Go
def Ok {α:Type} (o:Option α) (Q:α->Prop):Prop:=∃ a,o = some a/\Q a
section
variable {α β σ ρ τ:Type}
theorem qc1 {a:α} {Q:α->Prop}:Ok (some a) Q ↔ Q a:=⟨λ⟨_,h,hq⟩=>by cases h; exact hq,λh=>⟨a,rfl,h⟩⟩
theorem ok_none {Q:α->Prop}:Ok (none:Option α) Q ↔ False:=⟨λ⟨_,h,_⟩=>(by cases h),λh=>h.elim⟩
theorem ok_eq {o:Option α} {a:α}:Ok o (λr=>r = a) ↔ o = some a:=⟨λ⟨_,h,hq⟩=>by rw [h,hq],λh=>⟨a,h,rfl⟩⟩
theorem Ok.eq {o:Option α} {a:α} (h:Ok o (λr=>r = a)):o = some a:=ok_eq.1 h
theorem Ok.mono {o:Option α} {P Q:α->Prop} (h:Ok o P) (hq:∀ a,P a->Q a):Ok o Q:=by obtain ⟨a,h1,h2⟩:=h; exact ⟨a,h1,hq a h2⟩
theorem Ok.bind {o:Option α} {k:α->Option β} {P:α->Prop} {Q:β->Prop} (h:Ok o P) (hk:∀ a,P a->Ok (k a) Q):Ok (o.bind k) Q:=by
 obtain ⟨a,h1,h2⟩:=h; rw [h1]; exact hk a h2
theorem qeb {o:Option α} {k:α->Option β} {Q:β->Prop}:Ok (o.bind k) Q ↔ Ok o λa=>Ok (k a) Q:=by
 cases o with
 | none=>simp [ok_none]
 | some a=>simp [qc1]
theorem qvT {l:List α} {n:Int} (d:α) (h0:0<=n) (h1:n < l.length):idx l n = some (l.getD n.toNat d):=by
 unfold idx;rw [if_pos h0];have:n.toNat < l.length:=by omega
 simp [this]
theorem qyE {l l2:List α} (h:l.length + l2.length<=4294967296):app l l2 = some (l ++ l2):=qAl h
theorem qdZ {l:List α} {a:α} (h:l.length<=4294967295):app l [a] = some (l ++ [a]):=qAl (by simp; omega)
theorem qDW {l2:List α} (h:l2.length<=4294967296):app [] l2 = some l2:=by rw [qAl (by simpa using h)]; rfl
theorem qpJ {l:List α} {a b:Int} (h:0<=a/\a<=b/\b<=l.length):slc l a b = some ((l.take b.toNat).drop a.toNat):=by unfold slc; rw [if_pos h]
theorem qEZ {z:α} {n:Int} (h:0<=n/\n<=4294967296):mkS z n = some (List.replicate n.toNat z):=by unfold mkS; rw [if_pos h]
def Rnd (o:Option (σ ⊕ ρ)) (I:σ->Prop) (Q:ρ->Prop):Prop:=Ok o λx=>match x with
 | .inl s=>I s
 | .inr r=>Q r
theorem qaE {s:σ} {I:σ->Prop} {Q:ρ->Prop}:Rnd (some (.inl s)) I Q ↔ I s:=qc1
theorem qaq {r:ρ} {I:σ->Prop} {Q:ρ->Prop}:Rnd (some (.inr r):Option (σ ⊕ ρ)) I Q ↔ Q r:=qc1
theorem qrv {o:Option α} {k:α->Option (σ ⊕ ρ)} {I:σ->Prop} {Q:ρ->Prop}:Rnd (o.bind k) I Q ↔ Ok o λa=>Rnd (k a) I Q:=qeb
theorem qDS {f:σ->Option (σ ⊕ ρ)} (μ:σ->Nat) (I:σ->Prop) (Q:ρ->Prop) {s:σ} (h0:I s)
  (hs:∀ s,I s->Rnd (f s) (λs'=>I s'/\μ s' < μ s) Q):Ok (qab f s) Q:=by
 have key:∀ n s,μ s<=n->I s->Ok (qab f s) Q:=by
  intro n;induction n with
  | zero =>
   intro s hn hI;obtain ⟨x,hx,h⟩:=hs s hI;cases x with
   | inl s'=>exact absurd h.2 (by omega)
   | inr r=>exact ⟨r,qeG hx,h⟩
  | succ n ih =>
   intro s hn hI;obtain ⟨x,hx,h⟩:=hs s hI;cases x with
   | inl s'=>rw [qkO hx]; exact ih s' (by have:=h.2; omega) h.1
   | inr r=>exact ⟨r,qeG hx,h⟩
 exact key _ s (Nat.le_refl _) h0
theorem qbc {f:σ->Option (σ ⊕ ρ)} (n:Nat) (I:Nat->σ->Prop) (Q:ρ->Prop) {s:σ} (h0:I 0 s)
  (hs:∀ i s,i<=n->I i s->Rnd (f s) (λs'=>i < n/\I (i + 1) s') Q):Ok (qab f s) Q:=by
 obtain ⟨r,h1,h2⟩:=qCB n I Q (λi s hi hI=>by
  obtain ⟨x,hx,h⟩:=hs i s hi hI;cases x with
  | inl s'=>exact .inl ⟨s',hx,h⟩
  | inr r=>exact .inr ⟨r,hx,h⟩) h0
 exact ⟨r,h1,h2⟩
theorem qAZ {o:Option (α ⊕ β)} {k:α->Option β} {Q:β->Prop}:Ok (o.bind (Sum.elim k some)) Q ↔ Ok o λx=>match x with
  | .inl a=>Ok (k a) Q
  | .inr b=>Q b:=by
 rw [qeb];cases o with
 | none=>simp [ok_none]
 | some x=>cases x <;> simp [qc1]
end
theorem getD_at {α:Type} {l:List α} {i:Nat} {a d:α} (h:l[i]? = some a):l.getD i d = a:=by simp [h]
theorem qhS {α:Type} {l:List α} {i:Nat} (d:α) (h:i < l.length):l.take (i + 1) = l.take i ++ [l.getD i d]:=by
 rw [List.take_add_one]; simp [h]
end Go.Tx
end
section
namespace Go.Tx
open Go
section
variable {α β ρ τ:Type}
theorem qik {l:List α} {i:Nat} {a:α} (h:l[i]? = some a):i < l.length:=(qq.1 h).1
theorem qgY (l:List α) (K:Int->Option (Int ⊕ (Unit ⊕ ρ))) (g:Nat->α->Option ρ) (h:∀ (i:Nat) (a:α),l[i]? = some a->K i = some (stp i (g i a))) :
  qab (λs=>bif decide (s < (l.length:Int)) then K s else some (.inr (.inl ()))) 0 = some (qBB (qgb g 0 l)):=by
 refine qAa l g (λi a hi=>?_) ?_
 ·have:=qik hi;have e:decide ((i:Int) < (l.length:Int)) = true:=by simp <;> omega
  simp only [e,cond_true];exact h i a hi
 ·simp
theorem qeq {o:Option ρ} {k:Unit->Option ρ}:(some (qBB o)).bind (Sum.elim k some) = (match o with
  | some r=>some r
  | none=>k ()):=by cases o <;> rfl
theorem qfn {g:Nat->α->Option ρ}:∀ {l:List α} {k:Nat},qgb g k l = none ↔ ∀ i a,l[i]? = some a->g (k + i) a = none
 | [],k=>by simp [qgb]
 | a :: l,k=>by
  simp only [qgb];cases hg:g k a with
  | some r =>
   simp only [reduceCtorEq,false_iff];intro h;have:=h 0 a rfl;simp [hg] at this
  | none =>
   simp only
   rw [qfn (l:=l) (k:=k + 1)];constructor
   ·intro h i b hb;cases i with
    | zero=>simp at hb; subst hb; simpa using hg
    | succ i=>have:=h i b (by simpa using hb); rw [<- this]; congr 1; omega
   ·intro h i b hb;have:=h (i + 1) b (by simpa using hb);rw [<- this]; congr 1; omega
theorem qfm {g:Nat->α->Option ρ} {r:ρ}:∀ {l:List α} {k:Nat},qgb g k l = some r->∃ i a,l[i]? = some a/\g (k + i) a = some r/\∀ j b,j < i->l[j]? = some b->g (k + j) b = none
 | [],k,h=>by simp [qgb] at h
 | a :: l,k,h=>by
  simp only [qgb] at h;cases hg:g k a with
  | some r' =>
   rw [hg] at h;simp only [qe] at h;subst h;exact ⟨0,a,rfl,by simpa using hg,λj b hj=>by omega⟩
  | none =>
   rw [hg] at h;obtain ⟨i,b,h1,h2,h3⟩:=qfm (l:=l) (k:=k + 1) h;refine ⟨i + 1,b,by simpa using h1,by rw [<- h2]; congr 1; omega,λj c hj hc=>?_⟩;cases j with
   | zero=>simp at hc; subst hc; simpa using hg
   | succ j=>have:=h3 j c (by omega) (by simpa using hc); rw [<- this]; congr 1; omega
theorem qu7 (l:List α) (pf:α->Option Bool) (p:α->Bool) (h:∀ x ∈ l,pf x = some (p x)) (hl:l.length<=1000000000) :
  ((qab (λ(s2:Int) =>
   bif decide (s2 < (l.length:Int)) then
    (idx l s2).bind λx3 =>
    (pf x3).bind λx4 =>
    bif x4 then
     some (.inr (.inr s2))
    else
     some (.inl (IntKind.wrap .i64 (s2 + 1)))
   else
    some (.inr (.inl ()))) 0).bind (Sum.elim (λ(p5:Unit) =>
  some (-1)) some)).bind (λx1=>some (decide (x1>=0))) = some (l.any p):=by
 rw [qgY l _ (λi a=>if p a then some (i:Int) else none) (λi a hi=>by
  have:=qik hi;rw [qaB hi];simp only [qb];rw [h a (List.mem_of_getElem? hi)];simp only [qb];cases hp:p a
  ·simp only [cond_false,qj,if_false,stp]; rw [qjr (by omega) (by omega)]
  ·simp [stp]),qeq]
 cases hf:qgb (λi a=>if p a then some (i:Int) else none) 0 l with
 | none =>
  rw [qfn] at hf;have:l.any p = false:=by
   rw [List.any_eq_false];intro x hx;obtain ⟨i,hi⟩:=List.mem_iff_getElem?.1 hx;have:=hf i x hi;simpa using this
  rw [this]; rfl
 | some r =>
  obtain ⟨i,a,h1,h2,_⟩:=qfm hf;have hp:p a = true:=by
   cases hp:p a
   ·simp [hp] at h2
   ·rfl
  have:l.any p = true:=List.any_eq_true.2 ⟨a,List.mem_of_getElem? h1,hp⟩;rw [this];simp only [hp,if_true,qe] at h2;simp only [qb];have:decide (r>=0) = true:=by simp <;> omega
  rw [this]
def qsl:List Int->Int
 | []=>0
 | e :: l=>if e = 0 then qsl l else e
theorem qqa:∀ (l:List Int) (k:Nat),qgb (λ_ e=>if e = 0 then none else some e) k l = if qsl l = 0 then none else some (qsl l)
 | [],k=>rfl
 | e :: l,k=>by
  simp only [qgb,qsl];by_cases h:e = 0
  ·simp only [h,if_true]; exact qqa l (k + 1)
  ·simp [h]
theorem qy9 (l:List Int) (hl:l.length<=1000000000) :
  (qab (λ(s2:Int) =>
   bif decide (s2 < (l.length:Int)) then
    (idx l s2).bind λx3 =>
    bif !(decide (x3 = 0)) then
     some (.inr (.inr x3))
    else
     some (.inl (IntKind.wrap .i64 (s2 + 1)))
   else
    some (.inr (.inl ()))) 0).bind (Sum.elim (λ(p4:Unit)=>some 0) some) = some (qsl l):=by
 rw [qgY l _ (λ_ e=>if e = 0 then none else some e) (λi a hi=>by
  have:=qik hi;rw [qaB hi];simp only [qb];by_cases h:a = 0
  ·simp only [h,decide_true,Bool.not_true,cond_false,if_true,stp]; rw [qjr (by omega) (by omega)]
  ·simp [h,stp]),qeq,qqa]
 by_cases h:qsl l = 0
 ·simp [h]
 ·simp [h]
end
end Go.Tx
end
section
namespace Go.Tx
open Go
theorem qjn {f:Int × Int->Option ((Int × Int) ⊕ Int)} (hf:∀ s,f s = if s.2 = 0 then some (.inr s.1) else some (.inl (s.2,s.1.tmod s.2))):∀ (n:Nat) (a b:Int),b.natAbs<=n->∃ r,qab f (a,b) = some r/\r.natAbs = Int.gcd a b:=by
 intro n;induction n with
 | zero =>
  intro a b hb;have:b = 0:=by omega
  subst this;exact ⟨a,qeG (by rw [hf]; simp),by simp⟩
 | succ n ih =>
  intro a b hb;by_cases h0:b = 0
  ·subst h0;exact ⟨a,qeG (by rw [hf]; simp),by simp⟩
  ·have hlt:(a.tmod b).natAbs < b.natAbs:=by
    rw [Int.natAbs_tmod]; exact Nat.mod_lt _ (by omega)
   obtain ⟨r,h1,h2⟩:=ih b (a.tmod b) (by omega);refine ⟨r,by rw [qkO (s':=(b,a.tmod b)) (by rw [hf]; simp [h0])]; exact h1,?_⟩;rw [h2];unfold Int.gcd;rw [Int.natAbs_tmod,Nat.gcd_comm,<- Nat.gcd_rec,Nat.gcd_comm]
def qpe:Nat->List Int->Nat
 | g,[]=>g
 | g,n :: l=>qpe (Nat.gcd g n.natAbs) l
def quk (l:List Int):Nat:=qpe 0 l
theorem qj9 (g:Nat) (n:Int):∀ (l:List Int),qpe g (l ++ [n]) = Nat.gcd (qpe g l) n.natAbs:=by
 intro l;induction l generalizing g with
 | nil=>rfl
 | cons m l ih=>simp only [List.cons_append,qpe]; exact ih _
theorem qwp (a b:Int):quk [a,b] = Int.gcd a b:=by simp [quk,qpe,Int.gcd]
theorem qxO (a b c:Int):quk [a,b,c] = Nat.gcd (Int.gcd a b) c.natAbs:=by simp [quk,qpe,Int.gcd]
theorem qrh {B:Nat}:∀ {l:List Int} {g:Nat},g<=B->(∀ x ∈ l,x.natAbs<=B)->qpe g l<=B
 | [],g,hg,_=>hg
 | n :: l,g,hg,h=>by
  simp only [qpe];refine qrh ?_ λx hx=>h x (by simp [hx]);have h1:=h n (by simp);by_cases hg0:g = 0
  ·subst hg0; simpa using h1
  ·exact Nat.le_trans (Nat.le_of_dvd (by omega) (Nat.gcd_dvd_left g n.natAbs)) hg
theorem qtf:∀ {l:List Int} {g:Nat},qpe g l = 0 ↔ g = 0/\∀ x ∈ l,x = 0
 | [],g=>by simp [qpe]
 | n :: l,g=>by
  simp only [qpe,qtf (l:=l),Nat.gcd_eq_zero_iff,qp,forall_eq_or_imp];constructor
  ·rintro ⟨⟨h1,h2⟩,h3⟩; exact ⟨h1,by omega,h3⟩
  ·rintro ⟨h1,h2,h3⟩; exact ⟨⟨h1,by omega⟩,h3⟩
theorem qi7:∀ (l:List Int) (g:Nat),qpe g l ∣ g
 | [],g=>Nat.dvd_refl g
 | n :: l,g=>Nat.dvd_trans (qi7 l _) (Nat.gcd_dvd_left ..)
theorem qsV (l:List Int) (hl:l.length<=1000000000) (hb:∀ x ∈ l,x.natAbs<=4611686018427387904) :
  (qab (λ(s2:(Int × Int)) =>
   bif decide (s2.2 < (l.length:Int)) then
    (idx l s2.2).bind λx3 =>
    (qab (λ(s5:(Int × Int)) =>
      bif !(decide (s5.2 = 0)) then
       bif decide (s5.2 = 0) then
        none
       else
        some (.inl (s5.2,s5.1.tmod s5.2))
      else
       some (.inr s5.1)) (s2.1,x3)).bind λ(p6:Int) =>
    some (.inl (p6,IntKind.wrap .i64 (s2.2 + 1)))
   else
    some (.inr s2.1)) (0,0)).bind (λ(p7:Int)=>some (max p7 (IntKind.wrap .i64 (0 - p7)))) = some (quk l:Int):=by
 refine Ok.eq ?_;rw [qeb];refine (qbc l.length (λi (s:Int × Int)=>s.2 = (i:Int)/\s.1.natAbs = quk (l.take i)) (λr:Int=>r.natAbs = quk l) ⟨rfl,rfl⟩ ?_).mono ?_
 ·rintro i ⟨g,s⟩ hi ⟨h1,h2⟩;simp only at h1 h2;subst h1;by_cases hlt:i < l.length
  ·have e0:decide ((i:Int) < (l.length:Int)) = true:=by simp <;> omega
   simp only [e0,cond_true];rw [qvT 0 (by omega) (by omega)];simp only [qb,Int.toNat_natCast];obtain ⟨r,h3,h4⟩:=qjn (f:=λ(s5:(Int × Int))=>bif !(decide (s5.2 = 0)) then bif decide (s5.2 = 0) then none else some (.inl (s5.2,s5.1.tmod s5.2)) else some (.inr s5.1)) (λs=>by
    by_cases h:s.2 = 0 <;> simp [h]) (l.getD i 0).natAbs g (l.getD i 0) (Nat.le_refl _)
   rw [h3];simp only [qb];rw [qjr (by omega) (by omega),qaE];refine ⟨hlt,by simp,?_⟩;rw [h4,qhS 0 hlt];unfold quk at h2 ⊢;rw [qj9,<- h2];rfl
  ·have:i = l.length:=by omega
   subst this;have e0:decide ((l.length:Int) < (l.length:Int)) = false:=by simp
   simp only [e0,cond_false];rw [qaq];simpa using h2
 ·intro r hr;have hle:quk l<=4611686018427387904:=qrh (by omega) hb;rw [qjr (by omega) (by omega),qc1];omega
end Go.Tx
end
section
namespace Go.Tx
open Go
section
variable {α:Type}
theorem sq_nonneg (z:Int):0<=z * z:=by
 rcases Int.le_total 0 z with hz | hz
 ·exact Int.mul_nonneg hz hz
 ·have:=Int.mul_nonneg (show 0 <= -z by omega) (show 0 <= -z by omega); rwa [Int.neg_mul_neg] at this
theorem qAR {z:Int} (h:z * z = 0):z = 0:=by
 rcases Int.mul_eq_zero.1 h with h | h <;> exact h
theorem qaU {a b A B:Int} (h1 : -A<=a/\a<=A) (h2 : -B<=b/\b<=B) : -(A * B)<=a * b/\a * b<=A * B:=by
 have hA:0<=A:=by omega
 have hB:0<=B:=by omega
 have e:(a * b).natAbs = a.natAbs * b.natAbs:=Int.natAbs_mul a b;have h3:a.natAbs * b.natAbs<=A.natAbs * B.natAbs:=Nat.mul_le_mul (by omega) (by omega);have h4:((A.natAbs * B.natAbs:Nat):Int) = A * B:=by
  rw [Int.natCast_mul]; congr 1 <;> omega
 omega
end
end Go.Tx
end
section
namespace Go.Tx
open Go
section
variable {α β:Type}
def mkL (n:Nat) (f:Nat->α):List α:=(List.range n).map f
theorem qad (n:Nat) (f:Nat->α):(mkL n f).length = n:=by simp [mkL]
theorem qbb {n:Nat} (f:Nat->α) {k:Nat} (h:k < n):(mkL n f)[k]? = some (f k):=by simp [mkL,h]
theorem qrq {n:Nat} (f:Nat->α) {k:Nat} (d:α) (h:k < n):(mkL n f).getD k d = f k:=getD_at (qbb f h)
theorem qvR (f:Nat->α):mkL 0 f = []:=rfl
theorem qfW (n:Nat) (f:Nat->α):mkL (n + 1) f = mkL n f ++ [f n]:=by simp [mkL,List.range_succ]
theorem qcc {n:Nat} {f g:Nat->α} (h:∀ k,k < n->f k = g k):mkL n f = mkL n g:=List.map_congr_left λk hk=>h k (by simpa using hk)
theorem quF {n:Nat} {f:Nat->α} {x:α} (h:x ∈ mkL n f):∃ k,k < n/\x = f k:=by
 obtain ⟨k,hk,rfl⟩:=List.mem_map.1 h;exact ⟨k,by simpa using hk,rfl⟩
theorem qy1 {n:Nat} {f:Nat->α} {k:Nat} (h:k < n):f k ∈ mkL n f:=List.mem_map.2 ⟨k,by simpa using h,rfl⟩
theorem qfa (l:List α) (d:α):l = mkL l.length λk=>l.getD k d:=by
 apply List.ext_getElem?;intro k;by_cases h:k < l.length
 ·rw [qbb _ h]; simp [h]
 ·rw [List.getElem?_eq_none (by omega),List.getElem?_eq_none (by rw [qad]; omega)]
theorem qqm {l:List α} {n:Nat} {f:Nat->α} (hl:l.length = n) (h:∀ k,k < n->l[k]? = some (f k)):l = mkL n f:=by
 apply List.ext_getElem?;intro k;by_cases hk:k < n
 ·rw [qbb _ hk,h k hk]
 ·rw [List.getElem?_eq_none (by omega),List.getElem?_eq_none (by rw [qad]; omega)]
theorem qbj {l:List α} {i:Nat} {d:α} (h:i < l.length):l.getD i d ∈ l:=by
 have:l[i]? = some (l.getD i d):=by simp [h]
 exact List.mem_of_getElem? this
theorem qgi {l:List α} {i:Nat} (d:α) (h:i < l.length):l[i]? = some (l.getD i d):=by simp [h]
theorem qC2 {K:List β × Int->Option ((List β × Int) ⊕ List β)} (n:Nat) (f:Nat->β)
  (h:∀ i,i < n->K (mkL i f,(i:Int)) = some (.inl (mkL i f ++ [f i],(i:Int) + 1))) (he:K (mkL n f,(n:Int)) = some (.inr (mkL n f))):qab K ([],0) = some (mkL n f):=by
 refine Ok.eq (qbc n (λi (s:List β × Int)=>s = (mkL i f,(i:Int))) (λr=>r = mkL n f) rfl ?_);rintro i s hi rfl;by_cases hlt:i < n
 ·rw [h i hlt,qaE];exact ⟨hlt,by rw [qfW]; rfl⟩
 ·have:i = n:=by omega
  subst this;rw [he,qaq]
theorem qAW {K:List β × Int->Option ((List β × Int) ⊕ List β)} (l:List α) (f:α->β)
  (h:∀ (i:Nat) a out,l[i]? = some a->out.length = i->K (out,(i:Int)) = some (.inl (out ++ [f a],(i:Int) + 1))) (he:∀ out,out.length = l.length->K (out,(l.length:Int)) = some (.inr out)):qab K ([],0) = some (l.map f):=by
 refine Ok.eq (qbc l.length (λi (s:List β × Int)=>s = ((l.take i).map f,(i:Int))) (λr=>r = l.map f) (by simp) ?_);rintro i s hi rfl;by_cases hlt:i < l.length
 ·have ha:l[i]? = some l[i]:=by simp [hlt]
  rw [h i _ _ ha (by simp; omega),qaE];refine ⟨hlt,?_⟩;have e:(l.take (i + 1)).map f = (l.take i).map f ++ [f l[i]]:=by rw [List.take_add_one,ha]; simp only [List.map_append,Option.toList_some,qm,List.map_nil]
  rw [e]; rfl
 ·have:i = l.length:=by omega
  subst this;rw [he _ (by simp),qaq];simp
theorem qCy {l m:List α} (d:α):(l.length = m.length/\∀ i,i < l.length->l.getD i d = m.getD i d) ↔ l = m:=by
 constructor
 ·rintro ⟨h1,h2⟩;rw [qfa l d,qfa m d,h1];exact qcc λk hk=>h2 k (by omega)
 ·rintro rfl; exact ⟨rfl,λ_ _=>rfl⟩
theorem qzE [DecidableEq α] {l m:List α} (d:α) (hl:l.length = m.length) (hb:l.length<=1000000000) (e:α->α->Bool) (he:∀ a b,a ∈ l->b ∈ m->(e a b = true ↔ a = b)) {K:Int->Option (Int ⊕ (Unit ⊕ Bool))}
  (h:∀ i,i < l.length->K (i:Int) = some (if e (l.getD i d) (m.getD i d) = true then .inl ((i:Int) + 1) else .inr (.inr false))) :
  (qab (λs=>bif decide (s < (l.length:Int)) then K s else some (.inr (.inl ()))) 0).bind (Sum.elim (λ(p5:Unit)=>some true) some) = some (decide (l = m)):=by
 refine Ok.eq (qAZ.2 ?_);refine (qbc l.length (λi (s:Int)=>s = (i:Int)/\∀ j,j < i->l.getD j d = m.getD j d) (λr=>(r = .inl ()/\∀ j,j < l.length->l.getD j d = m.getD j d)\/(r = .inr false/\∃ j,j < l.length/\l.getD j d ≠ m.getD j d)) ⟨rfl,by simp⟩ ?_).mono ?_
 ·rintro i s hi ⟨rfl,hI⟩;by_cases hlt:i < l.length
  ·have e0:decide ((i:Int) < (l.length:Int)) = true:=by simp <;> omega
   simp only [e0,cond_true];rw [h i hlt];have hm:=he (l.getD i d) (m.getD i d) (qbj hlt) (qbj (by omega));by_cases c:e (l.getD i d) (m.getD i d) = true
   ·rw [if_pos c,qaE];refine ⟨hlt,by simp,λj hj=>?_⟩;by_cases hji:j < i
    ·exact hI j hji
    ·have:j = i:=by omega
     subst this; exact hm.1 c
   ·rw [if_neg c,qaq];exact .inr ⟨rfl,i,hlt,λh=>c (hm.2 h)⟩
  ·have:i = l.length:=by omega
   subst this;have e0:decide ((l.length:Int) < (l.length:Int)) = false:=by simp
   simp only [e0,cond_false];rw [qaq];exact .inl ⟨rfl,hI⟩
 ·rintro r (⟨rfl,h1⟩ | ⟨rfl,j,hj,hne⟩)
  ·simp only [qc1]; rw [eq_comm,decide_eq_true_iff]; exact (qCy d).1 ⟨hl,h1⟩
  ·simp only; rw [eq_comm,decide_eq_false_iff_not]
   exact λh=>hne (by rw [h])
end
end Go.Tx
end
section
namespace Go.Tx
open Go
abbrev G:=Int × Int × Unit
def g0:G:=(0,0,())
def g1:G:=(1,0,())
def qpz (a b:G):G:=(a.1 + b.1,a.2.1 + b.2.1,())
def qrN (a b:G):G:=(a.1 - b.1,a.2.1 - b.2.1,())
def qd6 (a b:G):G:=(a.1 * b.1 - a.2.1 * b.2.1,a.1 * b.2.1 + a.2.1 * b.1,())
def qr9 (a:G):G:=(-a.1,-a.2.1,())
def qtN (a:G):G:=(a.1,-a.2.1,())
theorem qDu {a b:G} (h1:a.1 = b.1) (h2:a.2.1 = b.2.1):a = b:=by
 obtain ⟨x,y,_⟩:=a; obtain ⟨x',y',_⟩:=b; simp only at h1 h2; rw [h1,h2]
theorem qB2 {a b:G}:a = b ↔ a.1 = b.1/\a.2.1 = b.2.1:=⟨λh=>by rw [h]; exact ⟨rfl,rfl⟩,λh=>qDu h.1 h.2⟩
theorem qGg (a:G):(a.1,a.2.1,()) = a:=rfl
def Bd (B:Int) (a:G):Prop:=(-B<=a.1/\a.1<=B)/\(-B<=a.2.1/\a.2.1<=B)
theorem Bd.mono {A B:Int} {a:G} (h:Bd A a) (hAB:A<=B):Bd B a:=by unfold Bd at *; omega
theorem qrF {B:Int} (h:0<=B):Bd B g0:=by unfold Bd g0; simp <;> omega
theorem qCZ {B:Int} (h:1<=B):Bd B g1:=by unfold Bd g1; simp <;> omega
theorem Bd.add {A B:Int} {a b:G} (h:Bd A a) (h':Bd B b):Bd (A + B) (qpz a b):=by unfold Bd qpz at *; simp only <;> omega
theorem Bd.sub {A B:Int} {a b:G} (h:Bd A a) (h':Bd B b):Bd (A + B) (qrN a b):=by unfold Bd qrN at *; simp only <;> omega
theorem Bd.neg {A:Int} {a:G} (h:Bd A a):Bd A (qr9 a):=by unfold Bd qr9 at *; simp only <;> omega
theorem Bd.qEM {A:Int} {a:G} (h:Bd A a):Bd A (qtN a):=by unfold Bd qtN at *; simp only <;> omega
theorem Bd.mul {A B:Int} {a b:G} (h:Bd A a) (h':Bd B b):Bd (2 * (A * B)) (qd6 a b):=by
 obtain ⟨h1,h2⟩:=h;obtain ⟨h3,h4⟩:=h';have p1:=qaU h1 h3;have p2:=qaU h2 h4;have p3:=qaU h1 h4;have p4:=qaU h2 h3;unfold Bd qd6;simp only
 generalize A * B = Q at *;omega
theorem qw6 {n:Int} (h1 : -9223372036854775808<=n) (h2:n<=9223372036854775807):IntKind.wrap .i64 n = n:=qjr h1 h2
theorem qFa {A B:Int} {a b:G} (h:Bd A a) (h':Bd B b) (hb:2 * (A * B)<=9000000000000000000) :
  ((IntKind.wrap .i64 (IntKind.wrap .i64 (a.1 * b.1) - IntKind.wrap .i64 (a.2.1 * b.2.1)),IntKind.wrap .i64 (IntKind.wrap .i64 (a.1 * b.2.1) + IntKind.wrap .i64 (a.2.1 * b.1)),()):G) = qd6 a b:=by
 obtain ⟨h1,h2⟩:=h;obtain ⟨h3,h4⟩:=h';have p1:=qaU h1 h3;have p2:=qaU h2 h4;have p3:=qaU h1 h4;have p4:=qaU h2 h3;unfold qd6;generalize A * B = Q at *;rw [qw6 (n:=a.1 * b.1) (by omega) (by omega),qw6 (n:=a.2.1 * b.2.1) (by omega) (by omega),qw6 (n:=a.1 * b.2.1) (by omega) (by omega),qw6 (n:=a.2.1 * b.1) (by omega) (by omega),qw6 (by omega) (by omega),qw6 (by omega) (by omega)]
theorem qE7 {A B:Int} {a b:G} (h:Bd A a) (h':Bd B b) (hb:A + B<=9000000000000000000) :
  ((IntKind.wrap .i64 (a.1 + b.1),IntKind.wrap .i64 (a.2.1 + b.2.1),()):G) = qpz a b:=by
 unfold Bd at h h';unfold qpz;rw [qw6 (by omega) (by omega),qw6 (by omega) (by omega)]
theorem qBI {A B:Int} {a b:G} (h:Bd A a) (h':Bd B b) (hb:A + B<=9000000000000000000) :
  ((IntKind.wrap .i64 (a.1 - b.1),IntKind.wrap .i64 (a.2.1 - b.2.1),()):G) = qrN a b:=by
 unfold Bd at h h';unfold qrN;rw [qw6 (by omega) (by omega),qw6 (by omega) (by omega)]
theorem qDU (a b:G):qrN a b = qpz a (qr9 b):=qDu (by simp only [qrN,qpz,qr9]; omega) (by simp only [qrN,qpz,qr9]; omega)
theorem qsY (a:G):qrN g0 a = qr9 a:=qDu (by simp [qrN,qr9,g0]) (by simp [qrN,qr9,g0])
def qpf:Nat->(Nat->G)->G
 | 0,_=>g0
 | n + 1,f=>qpz (qpf n f) (f n)
theorem Bd.sum {B:Int} {f:Nat->G}:∀ {n:Nat},(∀ k,k < n->Bd B (f k))->Bd (n * B) (qpf n f)
 | 0,_=>qrF (by simp)
 | n + 1,h=>by
  have h1:=Bd.sum (n:=n) λk hk=>h k (by omega);have e:((n + 1:Nat):Int) * B = n * B + B:=by rw [Int.natCast_add,Int.add_mul]; simp
  rw [e];exact h1.add (h n (by omega))
theorem qq8 (n:Nat) (hn:n<=1000) {A:Int} (hA:0<=A) (hAn:n * A<=9000000000000000000) (f:Nat->G) (hf:∀ k,k < n->Bd A (f k)) {K:Int × Int × Int->Option ((Int × Int × Int) ⊕ (Int × Int))}
  (h:∀ k,k < n->∀ a b:Int,Bd (k * A) (a,b,())->K ((k:Int),a,b) = some (.inl (IntKind.wrap .i64 ((k:Int) + 1),(qpz (a,b,()) (f k)).1,(qpz (a,b,()) (f k)).2.1)))
  (he:∀ a b:Int,K ((n:Int),a,b) = some (.inr (a,b))):qab K (0,0,0) = some ((qpf n f).1,(qpf n f).2.1):=by
 refine Ok.eq (qbc n (λi (s:Int × Int × Int)=>s = ((i:Int),(qpf i f).1,(qpf i f).2.1)) (λr=>r = ((qpf n f).1,(qpf n f).2.1)) rfl ?_);rintro i s hi rfl;by_cases hlt:i < n
 ·have hb:Bd (i * A) (qpf i f):=Bd.sum λk hk=>hf k (by omega);rw [h i hlt _ _ hb,qw6 (by omega) (by omega),qaE];exact ⟨hlt,rfl⟩
 ·have:i = n:=by omega
  subst this;rw [he,qaq]
abbrev Mx:=List (List G)
def mx (n c:Nat) (f:Nat->Nat->G):Mx:=mkL n λi=>mkL c λk=>f i k
def ent (m:Mx) (i k:Nat):G:=(m.getD i []).getD k g0
def qFz (n c:Nat) (m:Mx):Prop:=m.length = n/\∀ r ∈ m,r.length = c
theorem qh1 (n c:Nat) (f:Nat->Nat->G):(mx n c f).length = n:=qad _ _
theorem qqR {n c i:Nat} (f:Nat->Nat->G) (h:i < n):(mx n c f)[i]? = some (mkL c λk=>f i k):=qbb _ h
theorem qDp (n c:Nat) (f:Nat->Nat->G):qFz n c (mx n c f):=⟨qh1 _ _ _,λr hr=>by obtain ⟨i,hi,rfl⟩:=quF hr; exact qad _ _⟩
theorem quG {n c:Nat} {m:Mx} (h:qFz n c m):m = mx n c (ent m):=by
 refine qqm h.1 λi hi=>?_;rw [qgi [] (by rw [h.1]; exact hi)];congr 1
 refine qqm (h.2 _ (qbj (by rw [h.1]; exact hi))) λk hk=>?_;rw [qgi g0 (by rw [h.2 _ (qbj (by rw [h.1]; exact hi))]; exact hk)];rfl
def BdM (B:Int) (m:Mx):Prop:=∀ r ∈ m,∀ z ∈ r,Bd B z
def BdF (B:Int) (n c:Nat) (f:Nat->Nat->G):Prop:=∀ i k,i < n->k < c->Bd B (f i k)
theorem qr4 {B:Int} {n c:Nat} {m:Mx} (h:BdM B m) (hr:qFz n c m):BdF B n c (ent m):=λi k hi hk=>by
 have h1:m.getD i [] ∈ m:=qbj (by rw [hr.1]; exact hi);exact h _ h1 _ (qbj (by rw [hr.2 _ h1]; exact hk))
theorem qFl {B:Int} {n c:Nat} {f:Nat->Nat->G}:BdM B (mx n c f) ↔ BdF B n c f:=by
 constructor
 ·intro h i k hi hk;exact h _ (qy1 (f:=λi=>mkL c λk=>f i k) hi) _ (qy1 (f:=λk=>f i k) hk)
 ·intro h r hr z hz;obtain ⟨i,hi,rfl⟩:=quF hr;obtain ⟨k,hk,rfl⟩:=quF hz;exact h i k hi hk
theorem qtR (n c:Nat) (hn:n<=1000) (hc:c<=1000) (ask:Int->Int->Option G) (f:Nat->Nat->G) (h:∀ i k,i < n->k < c->ask i k = some (f i k)) :
  ((mkS ([]:List G) (n:Int)).bind λx1 =>
   bif decide ((n:Int) = (n:Int)) then
    (qab (λ(s3:(Mx × Int)) =>
      bif decide (s3.2 < (x1.length:Int)) then
       (qab (λ(s5:(Mx × Int)) =>
         bif decide (s5.2 < (c:Int)) then
          (idx s5.1 s3.2).bind λx6 =>
          (ask s3.2 s5.2).bind λx7 =>
          (idx s5.1 s3.2).bind λx8 =>
          (app x8 ([x7])).bind λx9 =>
          (idx s5.1 s3.2).bind λx10 =>
          bif decide (s3.2 = s3.2) then
           let l11:Mx:=List.set s5.1 s3.2.toNat x9
           some (.inl (l11,IntKind.wrap .i64 (s5.2 + 1)))
          else
           none
         else
          some (.inr s5.1)) (s3.1,0)).bind λ(p12:Mx) =>
       some (.inl (p12,IntKind.wrap .i64 (s3.2 + 1)))
      else
       some (.inr s3.1)) (x1,0)).bind λ(p13:Mx) =>
    some p13
   else
    none) = some (mx n c f):=by
 have e1:decide ((n:Int) = (n:Int)) = true:=by simp
 rw [qEZ (by omega),qb,e1,cond_true];have hlen:(List.replicate ((n:Int).toNat) ([]:List G)).length = n:=by simp
 rw [hlen];let row (i:Nat):List G:=mkL c λk=>f i k
 refine Ok.eq ?_;rw [qeb];refine (qbc n (λi (s:Mx × Int)=>s = (mkL n λj=>if j < i then row j else [],(i:Int))) (λr=>r = mx n c f) ?_ ?_).mono (λa ha=>by rw [ha]; exact qc1.2 rfl)
 ·congr 1
  refine (qqm (by simp) λk hk=>?_);simp [hk]
 ·rintro i s hi rfl;by_cases hlt:i < n
  ·have e0:decide ((i:Int) < (n:Int)) = true:=by simp <;> omega
   simp only [e0,cond_true];rw [qrv];refine (qbc c (λk (s:Mx × Int)=>s = (mkL n λj=>if j < i then row j else if j = i then (row i).take k else [],(k:Int))) (λr=>r = mkL n λj=>if j < i + 1 then row j else []) ?_ ?_).mono ?_
   ·congr 1
    refine qcc λj hj=>?_;by_cases c1:j < i
    ·rw [if_pos c1,if_pos c1]
    ·rw [if_neg c1,if_neg c1]; simp
   ·rintro k s hk rfl;by_cases hlt2:k < c
    ·have e2:decide ((k:Int) < (c:Int)) = true:=by simp <;> omega
     have hat:idx (mkL n λj=>if j < i then row j else if j = i then (row i).take k else []) (i:Int) = some ((row i).take k):=by
      rw [qaB (qbb _ hlt)];simp
     simp only [e2,cond_true,hat,qb,h i k hlt hlt2,decide_true,Int.toNat_natCast];have hrl:(row i).length = c:=qad _ _;rw [qdZ (by simp [hrl]; omega)];simp only [qb];rw [qw6 (by omega) (by omega),qaE];refine ⟨hlt2,?_⟩;congr 1
     refine qqm (by simp [qad]) λj hj=>?_;rw [List.getElem?_set,qad];by_cases c1:i = j
     ·subst c1;rw [if_pos rfl,if_pos hj];simp only [Nat.lt_irrefl,if_false,if_true];rw [qhS g0 (by rw [hrl]; exact hlt2)];have:(row i).getD k g0 = f i k:=qrq _ _ hlt2;rw [this]
     ·rw [if_neg c1,qbb _ hj];have:¬ j = i:=λe=>c1 e.symm;simp [this]
    ·have:k = c:=by omega
     subst this;have e2:decide ((k:Int) < (k:Int)) = false:=by simp
     simp only [e2,cond_false];rw [qaq];refine qcc λj hj=>?_;by_cases c1:j < i
     ·rw [if_pos c1,if_pos (by omega)]
     ·rw [if_neg c1];by_cases c2:j = i
      ·subst c2;rw [if_pos rfl,if_pos (by omega),List.take_of_length_le (by rw [show (row j).length = k from qad _ _]; omega)]
      ·rw [if_neg c2,if_neg (by omega)]
   ·rintro r rfl;rw [qw6 (by omega) (by omega),qaE];exact ⟨hlt,rfl⟩
  ·have:i = n:=by omega
   subst this;have e0:decide ((i:Int) < (i:Int)) = false:=by simp
   simp only [e0,cond_false];rw [qaq];exact qcc λj hj=>by rw [if_pos hj]
def skip (r i:Nat):Nat:=if i < r then i else i + 1
def minor (f:Nat->Nat->G) (r c i k:Nat):G:=f (skip r i) (skip c k)
theorem qzx {α:Type} {n c:Nat} (f:Nat->α) (h:c < n):((mkL n f).take c).drop 0 ++ ((mkL n f).take n).drop (c + 1) = mkL (n - 1) λk=>f (skip c k):=by
 refine qqm (by simp [qad]; omega) λk hk=>?_;have hl:(mkL n f).length = n:=qad _ _;rw [List.drop_zero,List.take_of_length_le (l:=mkL n f) (i:=n) (by omega)];unfold skip;by_cases c1:k < c
 ·rw [qk (by rw [List.length_take]; omega),List.getElem?_take_of_lt c1,qbb f (by omega),if_pos c1]
 ·rw [List.getElem?_append_right (by rw [List.length_take]; omega),List.length_take,hl,Nat.min_eq_left (by omega),List.getElem?_drop,if_neg c1];rw [show c + 1 + (k - c) = k + 1 by omega,qbb f (by omega)]
def qjh:Nat->(Nat->Nat->G)->G
 | 0,_=>g1
 | n + 1,f=>qpf (n + 1) λk=>if k % 2 = 1 then qr9 (qd6 (f 0 k) (qjh n (minor f 0 k))) else qd6 (f 0 k) (qjh n (minor f 0 k))
theorem qey {B:Int} {n:Nat} {f:Nat->Nat->G} {r c:Nat} (h:BdF B (n + 1) (n + 1) f):BdF B n n (minor f r c):=λi k hi hk=>h _ _ (by unfold skip; split <;> omega) (by unfold skip; split <;> omega)
def dB (B:Int):Nat->Int
 | 0=>1
 | n + 1=>((n + 1:Nat):Int) * (2 * (B * dB B n))
theorem qkH {B:Int} (h:0<=B):∀ n,0<=dB B n
 | 0=>by simp [dB]
 | n + 1=>by
  simp only [dB];have:=Int.mul_nonneg h (qkH h n);exact Int.mul_nonneg (by omega) (by omega)
theorem qoV {B:Int} (hB:0<=B):∀ (n:Nat) (f:Nat->Nat->G),BdF B n n f->Bd (dB B n) (qjh n f)
 | 0,f,_=>qCZ (by simp [dB])
 | n + 1,f,h=>by
  simp only [qjh,dB];refine Bd.sum λk hk=>?_;have h1:=(h 0 k (by omega) hk).mul (qoV hB n _ (qey (r:=0) (c:=k) h));split
  ·exact h1.neg
  ·exact h1
def qAA (n:Nat) (f h:Nat->Nat->G) (i k:Nat):G:=qpf n λj=>qd6 (f i j) (h j k)
end Go.Tx
end
section
set_option maxRecDepth 100000
namespace Go.Proofs.YteiciemjanhdcaaGreatDoor
open Go Go.Ab Go.Tx
noncomputable section
def KT (e:Entry) (j:TH) (l:List Entry) (n:Nat):Prop:=∀ x:denP e.ps,fnT Tryz.prog Hn.hints j (qvO l) n e.g (qfP e.ps x) e.rs = e.F x
abbrev OT (e:Entry):Prop:=qbz Tryz.prog Hn.hints Lb e
theorem entK {e:Entry} {j:TH} {l:List Entry} {n:Nat} (h:TOk Tryz.prog Hn.hints Lb (qvO l)) (hj:∀ g,j.lib g = false->Lb g = none) (k:KT e j l n):OT e:=qnm h hj n e.g e.ps e.rs e.F k
abbrev gT:Ty:=.pair I (.pair I .unit)
def qar (a0:Int) (a1:Int) (a2:Int):Option Bool :=
 (bif decide (a1<=a0) then
   some (decide (a0<=a2))
  else
   some false).bind λ(p1:Bool) =>
 some p1
def qcJ:Entry:=⟨10,[.ty I,.ty I,.ty I],[(.bool,0)],λx=>qar x.1 x.2.1 x.2.2⟩
def qry:TH:=qcU [([],10,.region 1,{ lv:=[⟨none,6,0⟩],ps:=[(.bool,0)],D:=⟨32704⟩ })] []
theorem qrn:KT qcJ qry [] 40:=λx=>by kernel_rfl
theorem qff:OT qcJ:=entK qE hJ qrn
def qdU (a0:(Int × Int × Unit)) (a1:Int):Option Bool :=
 ((qar a0.1 (w64 (0 - a1)) a1).bind λx1 =>
  bif x1 then
   (qar a0.2.1 (w64 (0 - a1)) a1).bind λx2 =>
   some x2
  else
   some false).bind λ(p3:Bool) =>
 some p3
def qdV:Entry:=⟨77,[.ty gT,.ty I],[(.bool,0)],λx=>qdU x.1 x.2⟩
def qnZ:TH:=qcU [([],77,.region 1,{ lv:=[⟨none,4,0⟩],ps:=[(.bool,0)],D:=⟨524272⟩,rs:=[⟨0,2⟩],Dn:=⟨520144⟩ })] []
theorem qoU:KT qdV qnZ [qcJ] 40:=λx=>by kernel_rfl
theorem qin:OT qdV:=entK (qt qff qE) hJ qoU
def qcI (a0:(List (List (Int × Int × Unit)))):Option (Int × Int) :=
 bif decide ((a0.length:Int) = 0) then
  some (0,10)
 else
  bif decide ((a0.length:Int) > 3) then
   some (0,8)
  else
   (qab (λ(s2:Int) =>
     bif decide (s2 < (a0.length:Int)) then
      (idx a0 s2).bind λx3 =>
      bif !(decide ((x3.length:Int) = (a0.length:Int))) then
       some (.inr (.inr (s2,10)))
      else
       (qab (λ(s5:Int) =>
         (idx a0 s2).bind λx6 =>
         bif decide (s5 < (x6.length:Int)) then
          (idx a0 s2).bind λx7 =>
          (idx x7 s5).bind λx8 =>
          (qdU x8 (20:Int)).bind λx9 =>
          bif !x9 then
           some (.inr (.inr (.inr (.inr (s2,2)))))
          else
           some (.inl (w64 (s5 + 1)))
         else
          some (.inr (.inl ()))) 0).bind (Sum.elim (λ(p10:Unit) =>
       some (.inl (w64 (s2 + 1)))) some)
     else
      some (.inr (.inl ()))) 0).bind (Sum.elim (λ(p11:Unit) =>
   some (0,0)) some)
def qdj:Entry:=⟨129,[.ty (.sl (.sl gT))],[(I,0),(I,0)],λx=>qcI x⟩
def qjz:TH:=qcU [([],129,.block 0,{ lv:=[],ps:=[],abn:=true,D:=⟨70368744173616⟩ }),
 ([],129,.loop 0,{ lv:=[⟨none,4,0⟩],ps:=[(I,0)],D:=⟨70368744173616⟩ }),
 ([],129,.block 2,{ lv:=[],ps:=[],abn:=true,D:=⟨70368609959968⟩ }),
 ([],129,.loop 2,{ lv:=[⟨none,5,0⟩],ps:=[(I,0)],D:=⟨70368609959968⟩ })] []
theorem qjE:KT qdj qjz [qdV] 40:=λx=>by kernel_rfl
theorem qjA:OT qdj:=entK (qt qin qE) hJ qjE
def qbO (a0:(List (List (Int × Int × Unit)))):Option Int :=
 (qcI a0).bind λx1 =>
 some x1.2
def qcP:Entry:=⟨54,[.ty (.sl (.sl gT))],[(I,0)],λx=>qbO x⟩
def qlv:TH:=qcU [] []
theorem qmi:KT qcP qlv [qdj] 40:=λx=>by kernel_rfl
theorem qgo:OT qcP:=entK (qt qjA qE) hJ qmi
def qdx (a0:(List (List (Int × Int × Unit)))) (a1:Int) (a2:Int):Option (List (List (Int × Int × Unit))) :=
 (qab (λ(s2:((List (List (Int × Int × Unit))) × Int)) =>
   bif decide (s2.2 < (a0.length:Int)) then
    (bif decide (s2.2 = a1) then
      some s2.1
     else
      (qab (λ(s4:((List (Int × Int × Unit)) × Int)) =>
        bif decide (s4.2 < (a0.length:Int)) then
         (bif !(decide (s4.2 = a2)) then
           (idx a0 s2.2).bind λx5 =>
           (idx x5 s4.2).bind λx6 =>
           (app s4.1 ([x6])).bind λx7 =>
           some x7
          else
           some s4.1).bind λ(p8:(List (Int × Int × Unit))) =>
         some (.inl (p8,w64 (s4.2 + 1)))
        else
         some (.inr s4.1)) ([],0)).bind λ(p9:(List (Int × Int × Unit))) =>
      (app s2.1 ([p9])).bind λx10 =>
      some x10).bind λ(p11:(List (List (Int × Int × Unit)))) =>
    some (.inl (p11,w64 (s2.2 + 1)))
   else
    some (.inr s2.1)) ([],0)).bind λ(p12:(List (List (Int × Int × Unit)))) =>
 some p12
def qfx:Entry:=⟨190,[.ty (.sl (.sl gT)),.ty I,.ty I],[((.sl (.sl gT)),2)],λx=>qdx x.1 x.2.1 x.2.2⟩
def qn2:TH:=qcU [([],190,.block 0,{ lv:=[⟨none,7,0⟩],ps:=[((.sl (.sl gT)),2)],D:=⟨8796093022080⟩ }),
 ([],190,.loop 0,{ lv:=[⟨none,7,0⟩,⟨none,8,0⟩],ps:=[((.sl (.sl gT)),2),(I,0)],D:=⟨8796093022080⟩ }),
 ([],190,.block 1,{ lv:=[⟨none,7,0⟩],ps:=[((.sl (.sl gT)),2)],D:=⟨8796092892800⟩ }),
 ([],190,.block 2,{ lv:=[⟨none,9,0⟩],ps:=[((.sl gT),1)],D:=⟨549754766848⟩ }),
 ([],190,.loop 2,{ lv:=[⟨none,9,0⟩,⟨none,10,0⟩],ps:=[((.sl gT),1),(I,0)],D:=⟨549754766848⟩ }),
 ([],190,.cond 28,{ lv:=[⟨none,9,0⟩],ps:=[((.sl gT),1)],D:=⟨549218943488⟩ })] []
theorem qn4:KT qfx qn2 [] 40:=λx=>by kernel_rfl
theorem qot:OT qfx:=entK qE hJ qn4
def qkr (a0:(Int × Int × Unit)) (a1:(Int × Int × Unit)):Option (Int × Int × Unit) :=
 some (w64 ((w64 (a0.1 * a1.1)) - (w64 (a0.2.1 * a1.2.1))),w64 ((w64 (a0.1 * a1.2.1)) + (w64 (a0.2.1 * a1.1))),())
def qjX:Entry:=⟨189,[.ty gT,.ty gT],[(gT,0)],λx=>qkr x.1 x.2⟩
def qut:TH:=qcU [] []
theorem quy:KT qjX qut [] 40:=λx=>by kernel_rfl
theorem quV:OT qjX:=entK qE hJ quy
def qku (a0:Int) (a1:Int):Option Int :=
 bif decide (a1 = 0) then
  none
 else
  (bif decide (a0.tmod a1 < 0) then
    some (w64 ((a0.tmod a1) + a1))
   else
    some (a0.tmod a1)).bind λ(p1:Int) =>
  some p1
def qlt:Entry:=⟨24,[.ty I,.ty I],[(I,0)],λx=>qku x.1 x.2⟩
def qxG:TH:=qcU [([],24,.cond 9,{ lv:=[⟨none,0,0⟩],ps:=[(I,0)],D:=⟨7169⟩ })] []
theorem qxI:KT qlt qxG [] 40:=λx=>by kernel_rfl
theorem qxj:OT qlt:=entK qE hJ qxI
def qj8 (a0:(Int × Int × Unit)) (a1:(Int × Int × Unit)):Option (Int × Int × Unit) :=
 some (w64 (a0.1 + a1.1),w64 (a0.2.1 + a1.2.1),())
def qjL:Entry:=⟨191,[.ty gT,.ty gT],[(gT,0)],λx=>qj8 x.1 x.2⟩
def quu:TH:=qcU [] []
theorem qu8:KT qjL quu [] 40:=λx=>by kernel_rfl
theorem quv:OT qjL:=entK qE hJ qu8
def qfq (a0:(Int × Int × Unit)) (a1:(Int × Int × Unit)):Option (Int × Int × Unit) :=
 some (w64 (a0.1 - a1.1),w64 (a0.2.1 - a1.2.1),())
def qhh:Entry:=⟨18,[.ty gT,.ty gT],[(gT,0)],λx=>qfq x.1 x.2⟩
def quE:TH:=qcU [] []
theorem qu4:KT qhh quE [] 40:=λx=>by kernel_rfl
theorem qoR:OT qhh:=entK qE hJ qu4
def qbf (n:Nat):(List (List (Int × Int × Unit)))->Option (Int × Int × Unit) :=
 Nat.rec (motive:=λ_=>(List (List (Int × Int × Unit)))->Option (Int × Int × Unit)) (λ_=>none) (λ_ ih a0 =>
 bif decide ((a0.length:Int) = 0) then
  some (1,0,())
 else
  (qab (λ(s2:(Int × Int × Int)) =>
    bif decide (s2.1 < (a0.length:Int)) then
     (idx a0 0).bind λx3 =>
     (idx x3 s2.1).bind λx4 =>
     (qdx a0 (0:Int) s2.1).bind λx5 =>
     (ih x5).bind λx6 =>
     (qkr x4 x6).bind λx7 =>
     (qku s2.1 (2:Int)).bind λx8 =>
     (bif decide (x8 = 0) then
       (qj8 (s2.2.1,s2.2.2,()) x7).bind λx9 =>
       some (x9.1,x9.2.1)
      else
       (qfq (s2.2.1,s2.2.2,()) x7).bind λx10 =>
       some (x10.1,x10.2.1)).bind λ(p11:(Int × Int)) =>
     some (.inl (w64 (s2.1 + 1),p11.1,p11.2))
    else
     some (.inr (s2.2.1,s2.2.2))) (0,0,0)).bind λ(p12:(Int × Int)) =>
  some (p12.1,p12.2,())) n
def qbM:(List (List (Int × Int × Unit)))->Option (Int × Int × Unit):=qbf 12
def qfD:Entry:=⟨130,[.ty (.sl (.sl gT))],[(gT,0)],λx=>qbM x⟩
def qjR:TH:=qcU [([],130,.block 0,{ lv:=[⟨some 0,3,0⟩,⟨some 0,3,1⟩],ps:=[(I,0),(I,0)],D:=⟨68719475760⟩,wr:=[⟨0,3⟩,⟨0,5⟩] }),
 ([],130,.loop 0,{ lv:=[⟨none,4,0⟩,⟨some 0,3,0⟩,⟨some 0,3,1⟩],ps:=[(I,0),(I,0),(I,0)],D:=⟨68719475760⟩,wr:=[⟨0,3⟩,⟨0,5⟩],rs:=[⟨0,5⟩],Dn:=⟨68719475728⟩ }),
 ([],130,.cond 29,{ lv:=[⟨some 0,3,0⟩,⟨some 0,3,1⟩],ps:=[(I,0),(I,0)],D:=⟨67645734912⟩,wr:=[⟨0,3⟩] })] []
def qax (n:Nat):Entry:=⟨130,[.ty (.sl (.sl gT))],[(gT,0)],λx=>qbf n x⟩
theorem qjU (n:Nat) (x:denP (qax (n + 1)).ps):fnT Tryz.prog Hn.hints qjR (qvO [(qax n),qjL,qjX,qhh,qlt,qfx]) 40 130 (qfP (qax (n + 1)).ps x) (qax (n + 1)).rs = (qax (n + 1)).F x:=by kernel_rfl
theorem qeS:∀ n,qbz Tryz.prog Hn.hints Lb (qax n)
 | 0=>λx y h=>by cases (show none = some y from h)
 | n + 1=>qnm (qt (qeS n) (qt quv (qt quV (qt qoR (qt qxj (qt qot qE)))))) hJ 40 _ _ _ _ (qjU n)
theorem qjI:qbz Tryz.prog Hn.hints Lb qfD:=qeS 12
def qdb (a0:(List (List (Int × Int × Unit)))):Option Int :=
 (qbO a0).bind λx1 =>
 bif !(decide (x1 = 0)) then
  some x1
 else
  (qbM a0).bind λx2 =>
  let v3:Bool:=(bif decide (x2.1 = 0) then (bif decide (x2.2.1 = 0) then true else false) else false)
  bif v3 then
   some 11
  else
   some 0
def qdu:Entry:=⟨55,[.ty (.sl (.sl gT))],[(I,0)],λx=>qdb x⟩
def qkZ:TH:=qcU [] []
theorem qlc:KT qdu qkZ [qfD,qcP] 40:=λx=>by kernel_rfl
theorem qkx:OT qdu:=entK (qt qjI (qt qgo qE)) hJ qlc
def qdR (a0:Int):Option Int :=
 some (max a0 (w64 (0 - a0)))
def qg5:Entry:=⟨19,[.ty I],[(I,0)],λx=>qdR x⟩
def quS:TH:=qcU [] []
theorem quQ:KT qg5 quS [] 40:=λx=>by kernel_rfl
theorem qoQ:OT qg5:=entK qE hJ quQ
def qne (a0:Int) (a1:Int):Option Int :=
 (qab (λ(s2:(Int × Int)) =>
   bif !(decide (s2.2 = 0)) then
    bif decide (s2.2 = 0) then
     none
    else
     some (.inl (s2.2,s2.1.tmod s2.2))
   else
    some (.inr s2.1)) (a0,a1)).bind λ(p3:Int) =>
 (qdR p3).bind λx4 =>
 some x4
def qmm:Entry:=⟨116,[.ty I,.ty I],[(I,0)],λx=>qne x.1 x.2⟩
def qyc:TH:=qcU [([],116,.block 0,{ lv:=[⟨none,0,0⟩],ps:=[(I,0)],D:=⟨2019⟩ }),
 ([],116,.loop 0,{ lv:=[⟨none,0,0⟩,⟨none,1,0⟩],ps:=[(I,0),(I,0)],D:=⟨2019⟩ })] []
theorem qyb:KT qmm qyc [qg5] 40:=λx=>by kernel_rfl
theorem qw9:OT qmm:=entK (qt qoQ qE) hJ qyb
def qe8 (a0:(Int × Int × Unit)):Option Bool :=
 (bif decide (a0.2.1 > 0) then
   (qne a0.1 a0.2.1).bind λx1 =>
   some (decide (x1 = 1))
  else
   some false).bind λ(p2:Bool) =>
 some p2
def qfw:Entry:=⟨148,[.ty gT],[(.bool,0)],λx=>qe8 x⟩
def qnB:TH:=qcU [([],148,.region 1,{ lv:=[⟨none,2,0⟩],ps:=[(.bool,0)],D:=⟨16380⟩,rs:=[⟨0,1⟩],Dn:=⟨15732⟩ })] []
theorem qob:KT qfw qnB [qmm] 40:=λx=>by kernel_rfl
theorem qoN:OT qfw:=entK (qt qw9 qE) hJ qob
def qfY (a0:((List (List (Int × Int × Unit))) × (List (List (Int × Int × Unit))) × Int × Int × Int × Unit)):Option Int :=
 (qbO a0.1).bind λx1 =>
 bif !(decide (x1 = 0)) then
  some x1
 else
  (qbO a0.2.1).bind λx2 =>
  bif !(decide (x2 = 0)) then
   some x2
  else
   bif !(decide ((a0.2.1.length:Int) = (a0.1.length:Int))) then
    some 13
   else
    (qdb a0.2.1).bind λx3 =>
    bif !(decide (x3 = 0)) then
     some x3
    else
     (qe8 (a0.2.2.1,a0.2.2.2.1,())).bind λx4 =>
     bif !x4 then
      some 3
     else
      ((qar a0.2.2.1 (0:Int) a0.2.2.2.1).bind λx5 =>
       bif !x5 then
        some true
       else
        bif decide (a0.2.2.2.1 > 100) then
         some true
        else
         (qar a0.2.2.2.2.1 (0:Int) (1000:Int)).bind λx6 =>
         some (!x6)).bind λ(p7:Bool) =>
      bif p7 then
       some 2
      else
       some 0
def qgg:Entry:=⟨67,[.ty (.pair (.sl (.sl gT)) (.pair (.sl (.sl gT)) (.pair I gT)))],[(I,0)],λx=>qfY x⟩
def qpv:TH:=qcU [([],67,.region 14,{ lv:=[⟨none,54,0⟩],ps:=[(.bool,0)],D:=⟨36028762659225600⟩,rs:=[⟨0,1⟩],Dn:=⟨34849158481313792⟩ })] []
theorem qpg:KT qgg qpv [qfw,qcJ,qdu,qcP] 40:=λx=>by kernel_rfl
theorem qpr:OT qgg:=entK (qt qoN (qt qff (qt qkx (qt qgo qE)))) hJ qpg
def qbv (a0:(List (Int × Int × Unit))) (a1:Int):Option Int :=
 bif !(decide ((a0.length:Int) = a1)) then
  some 10
 else
  (qab (λ(s2:Int) =>
    bif decide (s2 < (a0.length:Int)) then
     (idx a0 s2).bind λx3 =>
     (qdU x3 (10000:Int)).bind λx4 =>
     bif !x4 then
      some (.inr (.inr 2))
     else
      some (.inl (w64 (s2 + 1)))
    else
     some (.inr (.inl ()))) 0).bind (Sum.elim (λ(p5:Unit) =>
  some 0) some)
def qdP:Entry:=⟨17,[.ty (.sl gT),.ty I],[(I,0)],λx=>qbv x.1 x.2⟩
def qn9:TH:=qcU [([],17,.block 0,{ lv:=[],ps:=[],abn:=true,D:=⟨4193312⟩ }),
 ([],17,.loop 0,{ lv:=[⟨none,5,0⟩],ps:=[(I,0)],D:=⟨4193312⟩ })] []
theorem qoL:KT qdP qn9 [qdV] 40:=λx=>by kernel_rfl
theorem qic:OT qdP:=entK (qt qin qE) hJ qoL
def qez (a0:((List (List (Int × Int × Unit))) × (List (List (Int × Int × Unit))) × Int × Int × Int × Unit)) (a1:(List (Int × Int × Unit))) (a2:(List (Int × Int × Unit))):Option Int :=
 (qfY a0).bind λx1 =>
 bif !(decide (x1 = 0)) then
  some x1
 else
  (qbv a1 (a0.1.length:Int)).bind λx2 =>
  bif !(decide (x2 = 0)) then
   some x2
  else
   (qbv a2 (a0.1.length:Int)).bind λx3 =>
   some x3
def qe0:Entry:=⟨9,[.ty (.pair (.sl (.sl gT)) (.pair (.sl (.sl gT)) (.pair I gT))),.ty (.sl gT),.ty (.sl gT)],[(I,0)],λx=>qez x.1 x.2.1 x.2.2⟩
def qm1:TH:=qcU [] []
theorem qmW:KT qe0 qm1 [qdP,qgg] 40:=λx=>by kernel_rfl
theorem qmN:OT qe0:=entK (qt qic (qt qpr qE)) hJ qmW
def qO (a0:(List (Int × Int × Unit))):Option (List (Int × Int × Unit)) :=
 (app [] a0).bind λx1 =>
 some x1
def qbt:Entry:=⟨13,[.ty (.sl gT)],[((.sl gT),1)],λx=>qO x⟩
def qk8:TH:=qcU [] []
theorem qkG:KT qbt qk8 [] 40:=λx=>by kernel_rfl
theorem qdN:OT qbt:=entK qE hJ qkG
def qbq (a0:(List (List (Int × Int × Unit)))):Option (List (List (Int × Int × Unit))) :=
 (qab (λ(s3:((List (List (Int × Int × Unit))) × Int)) =>
   bif decide (s3.2 < (a0.length:Int)) then
    (idx a0 s3.2).bind λx4 =>
    (qO x4).bind λx5 =>
    (app s3.1 ([x5])).bind λx6 =>
    some (.inl (x6,w64 (s3.2 + 1)))
   else
    some (.inr s3.1)) ([],0)).bind λ(p7:(List (List (Int × Int × Unit)))) =>
 some p7
def qcr:Entry:=⟨47,[.ty (.sl (.sl gT))],[((.sl (.sl gT)),2)],λx=>qbq x⟩
def qkd:TH:=qcU [([],47,.block 0,{ lv:=[⟨none,3,0⟩],ps:=[((.sl (.sl gT)),2)],D:=⟨524280⟩ }),
 ([],47,.loop 0,{ lv:=[⟨none,3,0⟩,⟨none,4,0⟩],ps:=[((.sl (.sl gT)),2),(I,0)],D:=⟨524280⟩ })] []
theorem qkq:KT qcr qkd [qbt] 40:=λx=>by kernel_rfl
theorem qfT:OT qcr:=entK (qt qdN qE) hJ qkq
def qb6 (a0:((List (List (Int × Int × Unit))) × (List (List (Int × Int × Unit))) × Int × Int × Int × Unit)):Option ((List (List (Int × Int × Unit))) × (List (List (Int × Int × Unit))) × Int × Int × Int × Unit) :=
 (qbq a0.1).bind λx1 =>
 (qbq a0.2.1).bind λx2 =>
 some (x1,x2,a0.2.2.1,a0.2.2.2.1,a0.2.2.2.2.1,())
def qfv:Entry:=⟨12,[.ty (.pair (.sl (.sl gT)) (.pair (.sl (.sl gT)) (.pair I gT)))],[((.pair (.sl (.sl gT)) (.pair (.sl (.sl gT)) (.pair I gT))),0)],λx=>qb6 x⟩
def qnO:TH:=qcU [] []
theorem qop:KT qfv qnO [qcr] 40:=λx=>by kernel_rfl
theorem qor:OT qfv:=entK (qt qfT qE) hJ qop
def qz (a0:Bool) (a1:Int):Option Int :=
 bif a0 then
  some 0
 else
  some a1
def qbe:Entry:=⟨70,[.ty .bool,.ty I],[(I,0)],λx=>qz x.1 x.2⟩
def qpi:TH:=qcU [] []
theorem qpw:KT qbe qpi [] 40:=λx=>by kernel_rfl
theorem qcg:OT qbe:=entK qE hJ qpw
def qR (a0:(List Int)):Option Int :=
 (qab (λ(s2:Int) =>
   bif decide (s2 < (a0.length:Int)) then
    (idx a0 s2).bind λx3 =>
    bif !(decide (x3 = 0)) then
     some (.inr (.inr x3))
    else
     some (.inl (w64 (s2 + 1)))
   else
    some (.inr (.inl ()))) 0).bind (Sum.elim (λ(p4:Unit) =>
 some 0) some)
def qa4:Entry:=⟨69,[.ty (.sl I)],[(I,0)],λx=>qR x⟩
def qr6:TH:=qcU [([],69,.block 0,{ lv:=[],ps:=[],abn:=true,D:=⟨32656⟩ }),
 ([],69,.loop 0,{ lv:=[⟨none,7,0⟩],ps:=[(I,0)],D:=⟨32656⟩ })] []
theorem qrB:KT qa4 qr6 [] 40:=λx=>by kernel_rfl
theorem qbs:OT qa4:=entK qE hJ qrB
def q6 (a0:Int) (a1:Int) (a2:Int):Option Bool :=
 (bif decide (a1<=a0) then
   some (decide (a0<=a2))
  else
   some false).bind λ(p1:Bool) =>
 some p1
def qch:Entry:=⟨71,[.ty I,.ty I,.ty I],[(.bool,0)],λx=>q6 x.1 x.2.1 x.2.2⟩
def qpu:TH:=qcU [([],71,.region 1,{ lv:=[⟨none,6,0⟩],ps:=[(.bool,0)],D:=⟨32704⟩ })] []
theorem qpo:KT qch qpu [] 40:=λx=>by kernel_rfl
theorem qes:OT qch:=entK qE hJ qpo
def qdw (a0:Int) (a1:Int):Option Bool :=
 (q6 a0 (w64 (0 - a1)) a1).bind λx1 =>
 some x1
def qfH:Entry:=⟨162,[.ty I,.ty I],[(.bool,0)],λx=>qdw x.1 x.2⟩
def qnJ:TH:=qcU [] []
theorem qoC:KT qfH qnJ [qch] 40:=λx=>by kernel_rfl
theorem qoo:OT qfH:=entK (qt qes qE) hJ qoC
def qau (a0:(Int × Int × Unit)) (a1:Int):Option Bool :=
 ((qdw a0.1 a1).bind λx1 =>
  bif x1 then
   (qdw a0.2.1 a1).bind λx2 =>
   some x2
  else
   some false).bind λ(p3:Bool) =>
 some p3
def qa5:Entry:=⟨84,[.ty gT,.ty I],[(.bool,0)],λx=>qau x.1 x.2⟩
def qh3:TH:=qcU [([],84,.region 1,{ lv:=[⟨none,4,0⟩],ps:=[(.bool,0)],D:=⟨32752⟩,rs:=[⟨0,2⟩],Dn:=⟨31696⟩ })] []
theorem qhH:KT qa5 qh3 [qfH] 40:=λx=>by kernel_rfl
theorem qcB:OT qa5:=entK (qt qoo qE) hJ qhH
def qbX (a0:(Int × Int × Unit)):Option Bool :=
 (qau a0 (20:Int)).bind λx1 =>
 some (!x1)
def qcx:Entry:=⟨240,[.ty gT],[(.bool,0)],λx=>qbX x⟩
def qhY:TH:=qcU [] []
theorem qhG:KT qcx qhY [qa5] 40:=λx=>by kernel_rfl
theorem qhZ:OT qcx:=entK (qt qcB qE) hJ qhG
def qM (a0:(List (Int × Int × Unit))):Option Int :=
 (qab (λ(s2:Int) =>
   bif decide (s2 < (a0.length:Int)) then
    (idx a0 s2).bind λx3 =>
    (qbX x3).bind λx4 =>
    bif x4 then
     some (.inr (.inr s2))
    else
     some (.inl (w64 (s2 + 1)))
   else
    some (.inr (.inl ()))) 0).bind (Sum.elim (λ(p5:Unit) =>
 some (-1)) some)
def qJ:Entry:=⟨208,[.ty (.sl gT),.fn 240 []],[(I,0)],λx=>qM x.1⟩
def qaG:TH:=qcU [([],208,.block 0,{ lv:=[],ps:=[],abn:=true,D:=⟨524064⟩ }),
 ([],208,.loop 0,{ lv:=[⟨none,8,0⟩],ps:=[(I,0)],D:=⟨524064⟩ })] []
theorem qaH:KT qJ qaG [qcx] 40:=λx=>by kernel_rfl
theorem qaI:OT qJ:=entK (qt qhZ qE) hJ qaH
def qA (a0:(List (Int × Int × Unit))):Option Bool :=
 (qM a0).bind λx1 =>
 some (decide (x1>=0))
def qH:Entry:=⟨153,[.ty (.sl gT),.fn 240 []],[(.bool,0)],λx=>qA x.1⟩
def qaA:TH:=qcU [] []
theorem qay:KT qH qaA [qJ] 40:=λx=>by kernel_rfl
theorem qaz:OT qH:=entK (qt qaI qE) hJ qay
def qcG (a0:(List (List (Int × Int × Unit)))):Option (Int × Int) :=
 (qz (decide ((a0.length:Int) > 0)) (10:Int)).bind λx1 =>
 (qz (decide ((a0.length:Int)<=3)) (8:Int)).bind λx2 =>
 (qR ([x1,x2])).bind λx3 =>
 bif !(decide (x3 = 0)) then
  some (0,x3)
 else
  (qab (λ(s5:Int) =>
    bif decide (s5 < (a0.length:Int)) then
     (idx a0 s5).bind λx6 =>
     (qA x6).bind λx7 =>
     (qz (decide ((x6.length:Int) = (a0.length:Int))) (10:Int)).bind λx8 =>
     (qz (!x7) (2:Int)).bind λx9 =>
     (qR ([x8,x9])).bind λx10 =>
     bif !(decide (x10 = 0)) then
      some (.inr (.inr (s5,x10)))
     else
      some (.inl (w64 (s5 + 1)))
    else
     some (.inr (.inl ()))) 0).bind (Sum.elim (λ(p11:Unit) =>
  some (0,0)) some)
def qdo:Entry:=⟨188,[.ty (.sl (.sl gT))],[(I,0),(I,0)],λx=>qcG x⟩
def qjZ:TH:=qcU [([],188,.block 0,{ lv:=[],ps:=[],abn:=true,D:=⟨140737471578592⟩ }),
 ([],188,.loop 0,{ lv:=[⟨none,24,0⟩],ps:=[(I,0)],D:=⟨140737471578592⟩ })] []
theorem qjw:KT qdo qjZ [qa4,qbe,qH] 40:=λx=>by kernel_rfl
theorem qjJ:OT qdo:=entK (qt qbs (qt qcg (qt qaz qE))) hJ qjw
def qbg (a0:(List (List (Int × Int × Unit)))):Option Int :=
 (qcG a0).bind λx1 =>
 some x1.2
def qbN:Entry:=⟨125,[.ty (.sl (.sl gT))],[(I,0)],λx=>qbg x⟩
def ql8:TH:=qcU [] []
theorem qlC:KT qbN ql8 [qdo] 40:=λx=>by kernel_rfl
theorem qem:OT qbN:=entK (qt qjJ qE) hJ qlC
def qcz (a0:(List (List (Int × Int × Unit)))) (a1:Int) (a2:Int):Option (Int × Int × Unit) :=
 (idx a0 a1).bind λx1 =>
 (idx x1 a2).bind λx2 =>
 some x2
def qee:Entry:=⟨145,[.ty (.sl (.sl gT)),.ty I,.ty I],[(gT,0)],λx=>qcz x.1 x.2.1 x.2.2⟩
def qlK:TH:=qcU [] []
theorem qlI:KT qee qlK [] 40:=λx=>by kernel_rfl
theorem qlR:OT qee:=entK qE hJ qlI
def qaf (a0:(List (List (Int × Int × Unit)))) (a1:Int) (a2:Int):Option (List (List (Int × Int × Unit))) :=
 (qab (λ(s2:((List (List (Int × Int × Unit))) × Int)) =>
   bif decide (s2.2 < (a0.length:Int)) then
    (idx a0 s2.2).bind λx3 =>
    (bif !(decide (s2.2 = a1)) then
      (slc x3 0 a2).bind λx4 =>
      bif decide (a2 = a2) then
       (slc x3 (w64 (a2 + 1)) (x3.length:Int)).bind λx5 =>
       (app x4 x5).bind λx6 =>
       (app s2.1 ([x6])).bind λx7 =>
       some x7
      else
       none
     else
      some s2.1).bind λ(p8:(List (List (Int × Int × Unit)))) =>
    some (.inl (p8,w64 (s2.2 + 1)))
   else
    some (.inr s2.1)) ([],0)).bind λ(p9:(List (List (Int × Int × Unit)))) =>
 some p9
def qbi:Entry:=⟨197,[.ty (.sl (.sl gT)),.ty I,.ty I],[((.sl (.sl gT)),2001)],λx=>qaf x.1 x.2.1 x.2.2⟩
def qhC:TH:=qcU [([],197,.block 0,{ lv:=[⟨none,7,0⟩],ps:=[((.sl (.sl gT)),2001)],D:=⟨8589931392⟩ }),
 ([],197,.loop 0,{ lv:=[⟨none,7,0⟩,⟨none,12,0⟩],ps:=[((.sl (.sl gT)),2001),(I,0)],D:=⟨8589931392⟩ }),
 ([],197,.cond 19,{ lv:=[⟨none,7,0⟩],ps:=[((.sl (.sl gT)),2001)],D:=⟨4293918848⟩ })] []
theorem qhB:KT qbi qhC [] 40:=λx=>by kernel_rfl
theorem qd8:OT qbi:=entK qE hJ qhB
def qaQ (a0:(Int × Int × Unit)) (a1:(Int × Int × Unit)):Option (Int × Int × Unit) :=
 some (w64 ((w64 (a0.1 * a1.1)) - (w64 (a0.2.1 * a1.2.1))),w64 ((w64 (a0.1 * a1.2.1)) + (w64 (a0.2.1 * a1.1))),())
def qaR:Entry:=⟨179,[.ty gT,.ty gT],[(gT,0)],λx=>qaQ x.1 x.2⟩
def qjB:TH:=qcU [] []
theorem qjP:KT qaR qjB [] 40:=λx=>by kernel_rfl
theorem qb8:OT qaR:=entK qE hJ qjP
def qae (a0:(Int × Int × Unit)) (a1:(Int × Int × Unit)):Option (Int × Int × Unit) :=
 some (w64 (a0.1 - a1.1),w64 (a0.2.1 - a1.2.1),())
def qaS:Entry:=⟨83,[.ty gT,.ty gT],[(gT,0)],λx=>qae x.1 x.2⟩
def qjF:TH:=qcU [] []
theorem qju:KT qaS qjF [] 40:=λx=>by kernel_rfl
theorem qb7:OT qaS:=entK qE hJ qju
def qbr (a0:(Int × Int × Unit)) (a1:(Int × Int × Unit)):Option (Int × Int × Unit) :=
 some (w64 (a0.1 + a1.1),w64 (a0.2.1 + a1.2.1),())
def qbu:Entry:=⟨150,[.ty gT,.ty gT],[(gT,0)],λx=>qbr x.1 x.2⟩
def qkQ:TH:=qcU [] []
theorem qkL:KT qbu qkQ [] 40:=λx=>by kernel_rfl
theorem qdF:OT qbu:=entK qE hJ qkL
def qap (n:Nat):(List (List (Int × Int × Unit)))->Option (Int × Int × Unit) :=
 Nat.rec (motive:=λ_=>(List (List (Int × Int × Unit)))->Option (Int × Int × Unit)) (λ_=>none) (λ_ ih a0 =>
 bif decide ((a0.length:Int) = 0) then
  some (1,0,())
 else
  (qab (λ(s2:(Int × Int × Int)) =>
    bif decide (s2.1 < (a0.length:Int)) then
     (qcz a0 (0:Int) s2.1).bind λx3 =>
     (qaf a0 (0:Int) s2.1).bind λx4 =>
     (ih x4).bind λx5 =>
     (qaQ x3 x5).bind λx6 =>
     (bif decide (s2.1.tmod 2 = 1) then
       (qae (0,0,()) x6).bind λx7 =>
       some (x7.1,x7.2.1)
      else
       some (x6.1,x6.2.1)).bind λ(p8:(Int × Int)) =>
     (qbr (s2.2.1,s2.2.2,()) (p8.1,p8.2,())).bind λx9 =>
     some (.inl (w64 (s2.1 + 1),x9.1,x9.2.1))
    else
     some (.inr (s2.2.1,s2.2.2))) (0,0,0)).bind λ(p10:(Int × Int)) =>
  some (p10.1,p10.2,())) n
def qah:(List (List (Int × Int × Unit)))->Option (Int × Int × Unit):=qap 12
def qbm:Entry:=⟨137,[.ty (.sl (.sl gT))],[(gT,0)],λx=>qah x⟩
def qfQ:TH:=qcU [([],137,.block 0,{ lv:=[⟨some 0,3,0⟩,⟨some 0,3,1⟩],ps:=[(I,0),(I,0)],D:=⟨8589930544⟩,wr:=[⟨0,3⟩,⟨0,5⟩] }),
 ([],137,.loop 0,{ lv:=[⟨none,12,0⟩,⟨some 0,3,0⟩,⟨some 0,3,1⟩],ps:=[(I,0),(I,0),(I,0)],D:=⟨8589930544⟩,wr:=[⟨0,3⟩,⟨0,5⟩],rs:=[⟨0,5⟩],Dn:=⟨8589930512⟩ }),
 ([],137,.cond 25,{ lv:=[⟨some 0,5,0⟩,⟨some 0,5,1⟩],ps:=[(I,0),(I,0)],D:=⟨469762048⟩,wr:=[⟨0,5⟩] })] []
def q4 (n:Nat):Entry:=⟨137,[.ty (.sl (.sl gT))],[(gT,0)],λx=>qap n x⟩
theorem qfN (n:Nat) (x:denP (q4 (n + 1)).ps):fnT Tryz.prog Hn.hints qfQ (qvO [(q4 n),qee,qbi,qaS,qbu,qaR]) 40 137 (qfP (q4 (n + 1)).ps x) (q4 (n + 1)).rs = (q4 (n + 1)).F x:=by kernel_rfl
theorem qcs:∀ n,qbz Tryz.prog Hn.hints Lb (q4 n)
 | 0=>λx y h=>by cases (show none = some y from h)
 | n + 1=>qnm (qt (qcs n) (qt qlR (qt qd8 (qt qb7 (qt qdF (qt qb8 qE)))))) hJ 40 _ _ _ _ (qfN n)
theorem qcY:qbz Tryz.prog Hn.hints Lb qbm:=qcs 12
def qce (a0:(Int × Int × Unit)):Option (Int × Int × Unit) :=
 some (a0.1,w64 (0 - a0.2.1),())
def qcn:Entry:=⟨180,[.ty gT],[(gT,0)],λx=>qce x⟩
def qk7:TH:=qcU [] []
theorem qk9:KT qcn qk7 [] 40:=λx=>by kernel_rfl
theorem qga:OT qcn:=entK qE hJ qk9
def qaP (a0:Int) (a1:Int) (a2:(List (List (Int × Int × Unit)))) (a3:(Int × Int × Unit)):Option (Int × Int × Unit) :=
 (qaf a2 a1 a0).bind λx1 =>
 (qah x1).bind λx2 =>
 (qce a3).bind λx3 =>
 (qaQ x2 x3).bind λx4 =>
 bif decide ((w64 (a0 + a1)).tmod 2 = 1) then
  (qae (0,0,()) x4).bind λx5 =>
  some x5
 else
  some x4
def qbT:Entry:=⟨196,[.ty I,.ty I,.ptr (.sl (.sl gT)),.ptr gT],[(gT,0)],λx=>qaP x.1 x.2.1 x.2.2.1 x.2.2.2⟩
def qgq:TH:=qcU [] []
theorem qgB:KT qbT qgq [qbm,qbi,qcn,qaS,qaR] 40:=λx=>by kernel_rfl
theorem qgz:OT qbT:=entK (qt qcY (qt qd8 (qt qga (qt qb7 (qt qb8 qE))))) hJ qgB
def qac (a0:Int) (a1:Int) (a2:(List (List (Int × Int × Unit)))) (a3:(Int × Int × Unit)):Option (List (List (Int × Int × Unit))) :=
 (mkS ([]:(List (Int × Int × Unit))) a0).bind λx1 =>
 bif decide (a0 = a0) then
  (qab (λ(s3:((List (List (Int × Int × Unit))) × Int)) =>
    bif decide (s3.2 < (x1.length:Int)) then
     (qab (λ(s5:((List (List (Int × Int × Unit))) × Int)) =>
       bif decide (s5.2 < a1) then
        (idx s5.1 s3.2).bind λx6 =>
        (qaP s3.2 s5.2 a2 a3).bind λx7 =>
        (idx s5.1 s3.2).bind λx8 =>
        (app x8 ([x7])).bind λx9 =>
        (idx s5.1 s3.2).bind λx10 =>
        bif decide (s3.2 = s3.2) then
         let l11:(List (List (Int × Int × Unit))):=List.set s5.1 s3.2.toNat x9
         some (.inl (l11,w64 (s5.2 + 1)))
        else
         none
       else
        some (.inr s5.1)) (s3.1,0)).bind λ(p12:(List (List (Int × Int × Unit)))) =>
     some (.inl (p12,w64 (s3.2 + 1)))
    else
     some (.inr s3.1)) (x1,0)).bind λ(p13:(List (List (Int × Int × Unit)))) =>
  some p13
 else
  none
def qan:Entry:=⟨143,[.ty I,.ty I,.fn 196 [.p (.sl (.sl gT)),.p gT]],[((.sl (.sl gT)),2)],λx=>qac x.1 x.2.1 x.2.2.1 x.2.2.2⟩
def qcR:TH:=qcU [([],143,.block 0,{ lv:=[⟨none,7,0⟩],ps:=[((.sl (.sl gT)),2)],D:=⟨68719467392⟩ }),
 ([],143,.loop 0,{ lv:=[⟨none,7,0⟩,⟨none,14,0⟩],ps:=[((.sl (.sl gT)),2),(I,0)],D:=⟨68719467392⟩ }),
 ([],143,.block 2,{ lv:=[⟨none,7,0⟩],ps:=[((.sl (.sl gT)),2)],D:=⟨34359476864⟩ }),
 ([],143,.loop 2,{ lv:=[⟨none,7,0⟩,⟨none,18,0⟩],ps:=[((.sl (.sl gT)),2),(I,0)],D:=⟨34359476864⟩ })] []
theorem qcQ:KT qan qcR [qbT] 40:=λx=>by kernel_rfl
theorem qcH:OT qan:=entK (qt qgz qE) hJ qcQ
def qaF (a0:(List Int)):Option Int :=
 (qab (λ(s2:(Int × Int)) =>
   bif decide (s2.2 < (a0.length:Int)) then
    (idx a0 s2.2).bind λx3 =>
    (qab (λ(s5:(Int × Int)) =>
      bif !(decide (s5.2 = 0)) then
       bif decide (s5.2 = 0) then
        none
       else
        some (.inl (s5.2,s5.1.tmod s5.2))
      else
       some (.inr s5.1)) (s2.1,x3)).bind λ(p6:Int) =>
    some (.inl (p6,w64 (s2.2 + 1)))
   else
    some (.inr s2.1)) (0,0)).bind λ(p7:Int) =>
 some (max p7 (w64 (0 - p7)))
def qdB:Entry:=⟨198,[.ty (.sl I)],[(I,0)],λx=>qaF x⟩
def qol:TH:=qcU [([],198,.block 0,{ lv:=[⟨none,3,0⟩],ps:=[(I,0)],D:=⟨524072⟩ }),
 ([],198,.loop 0,{ lv:=[⟨none,3,0⟩,⟨none,8,0⟩],ps:=[(I,0),(I,0)],D:=⟨524072⟩ }),
 ([],198,.block 2,{ lv:=[⟨none,3,0⟩],ps:=[(I,0)],D:=⟨258088⟩ }),
 ([],198,.loop 2,{ lv:=[⟨none,3,0⟩,⟨none,5,0⟩],ps:=[(I,0),(I,0)],D:=⟨258088⟩ })] []
theorem qoq:KT qdB qol [] 40:=λx=>by kernel_rfl
theorem qis:OT qdB:=entK qE hJ qoq
def qcb (a0:Int) (a1:Int) (a2:(List (List (Int × Int × Unit)))) (a3:Int):Option (Int × Int × Unit) :=
 (idx a2 a0).bind λx1 =>
 (idx x1 a1).bind λx2 =>
 bif decide (a3 = 0) then
  none
 else
  (idx a2 a0).bind λx3 =>
  (idx x3 a1).bind λx4 =>
  bif decide (a3 = 0) then
   none
  else
   some (w64 (x2.1.tdiv a3),w64 (x4.2.1.tdiv a3),())
def qdX:Entry:=⟨199,[.ty I,.ty I,.ptr (.sl (.sl gT)),.ptr I],[(gT,0)],λx=>qcb x.1 x.2.1 x.2.2.1 x.2.2.2⟩
def qkE:TH:=qcU [] []
theorem qlb:KT qdX qkE [] 40:=λx=>by kernel_rfl
theorem qkC:OT qdX:=entK qE hJ qlb
def qat (a0:Int) (a1:Int) (a2:(List (List (Int × Int × Unit)))) (a3:Int):Option (List (List (Int × Int × Unit))) :=
 (mkS ([]:(List (Int × Int × Unit))) a0).bind λx1 =>
 bif decide (a0 = a0) then
  (qab (λ(s3:((List (List (Int × Int × Unit))) × Int)) =>
    bif decide (s3.2 < (x1.length:Int)) then
     (qab (λ(s5:((List (List (Int × Int × Unit))) × Int)) =>
       bif decide (s5.2 < a1) then
        (idx s5.1 s3.2).bind λx6 =>
        (qcb s3.2 s5.2 a2 a3).bind λx7 =>
        (idx s5.1 s3.2).bind λx8 =>
        (app x8 ([x7])).bind λx9 =>
        (idx s5.1 s3.2).bind λx10 =>
        bif decide (s3.2 = s3.2) then
         let l11:(List (List (Int × Int × Unit))):=List.set s5.1 s3.2.toNat x9
         some (.inl (l11,w64 (s5.2 + 1)))
        else
         none
       else
        some (.inr s5.1)) (s3.1,0)).bind λ(p12:(List (List (Int × Int × Unit)))) =>
     some (.inl (p12,w64 (s3.2 + 1)))
    else
     some (.inr s3.1)) (x1,0)).bind λ(p13:(List (List (Int × Int × Unit)))) =>
  some p13
 else
  none
def qaM:Entry:=⟨143,[.ty I,.ty I,.fn 199 [.p (.sl (.sl gT)),.p I]],[((.sl (.sl gT)),2)],λx=>qat x.1 x.2.1 x.2.2.1 x.2.2.2⟩
def qd1:TH:=qcU [([],143,.block 0,{ lv:=[⟨none,7,0⟩],ps:=[((.sl (.sl gT)),2)],D:=⟨68719467392⟩ }),
 ([],143,.loop 0,{ lv:=[⟨none,7,0⟩,⟨none,14,0⟩],ps:=[((.sl (.sl gT)),2),(I,0)],D:=⟨68719467392⟩ }),
 ([],143,.block 2,{ lv:=[⟨none,7,0⟩],ps:=[((.sl (.sl gT)),2)],D:=⟨34359476864⟩ }),
 ([],143,.loop 2,{ lv:=[⟨none,7,0⟩,⟨none,18,0⟩],ps:=[((.sl (.sl gT)),2),(I,0)],D:=⟨34359476864⟩ })] []
theorem qd4:KT qaM qd1 [qdX] 40:=λx=>by kernel_rfl
theorem qd3:OT qaM:=entK (qt qkC qE) hJ qd4
def qet (a0:(List (List (Int × Int × Unit)))) (a1:Int):Option (Int × (List (List (Int × Int × Unit))) × Unit) :=
 (qab (λ(s2:(Int × Int)) =>
   bif decide (s2.1 < (a0.length:Int)) then
    (idx a0 s2.1).bind λx3 =>
    (qab (λ(s5:(Int × Int)) =>
      bif decide (s5.1 < (x3.length:Int)) then
       (idx x3 s5.1).bind λx6 =>
       (qaF ([s5.2,x6.1,x6.2.1])).bind λx7 =>
       some (.inl (w64 (s5.1 + 1),x7))
      else
       some (.inr s5.2)) (0,s2.2)).bind λ(p8:Int) =>
    some (.inl (w64 (s2.1 + 1),p8))
   else
    some (.inr s2.2)) (0,a1)).bind λ(p9:Int) =>
 (idx a0 0).bind λx10 =>
 (qat (a0.length:Int) (x10.length:Int) a0 p9).bind λx11 =>
 bif decide (p9 = 0) then
  none
 else
  some (w64 (a1.tdiv p9),x11,())
def qeY:Entry:=⟨135,[.ty (.sl (.sl gT)),.ty I],[((.pair I (.pair (.sl (.sl gT)) .unit)),2)],λx=>qet x.1 x.2⟩
def qm0:TH:=qcU [([],135,.block 0,{ lv:=[⟨some 0,5,0⟩],ps:=[(I,0)],D:=⟨8589919872⟩,wr:=[⟨0,5⟩,⟨0,9⟩] }),
 ([],135,.loop 0,{ lv:=[⟨none,14,0⟩,⟨some 0,5,0⟩],ps:=[(I,0),(I,0)],D:=⟨8589919872⟩,wr:=[⟨0,5⟩,⟨0,9⟩] }),
 ([],135,.block 2,{ lv:=[⟨some 0,5,0⟩],ps:=[(I,0)],D:=⟨4293920384⟩,wr:=[⟨0,5⟩,⟨0,9⟩] }),
 ([],135,.loop 2,{ lv:=[⟨none,20,0⟩,⟨some 0,5,0⟩],ps:=[(I,0),(I,0)],D:=⟨4293920384⟩,wr:=[⟨0,5⟩,⟨0,9⟩],rs:=[⟨0,9⟩],Dn:=⟨4126147712⟩ })] []
theorem qmX:KT qeY qm0 [qdB,qaM] 40:=λx=>by kernel_rfl
theorem qmS:OT qeY:=entK (qt qis (qt qd3 qE)) hJ qmX
def qbG (a0:(List (List (Int × Int × Unit)))) (a1:(Int × Int × Unit)):Option (Int × (List (List (Int × Int × Unit))) × Unit) :=
 (qac (a0.length:Int) (a0.length:Int) a0 a1).bind λx1 =>
 (qce a1).bind λx2 =>
 (qaQ a1 x2).bind λx3 =>
 (qet x1 x3.1).bind λx4 =>
 some x4
def qck:Entry:=⟨134,[.ty (.sl (.sl gT)),.ty gT],[((.pair I (.pair (.sl (.sl gT)) .unit)),2)],λx=>qbG x.1 x.2⟩
def qhy:TH:=qcU [] []
theorem qhv:KT qck qhy [qan,qeY,qcn,qaR] 40:=λx=>by kernel_rfl
theorem qhA:OT qck:=entK (qt qcH (qt qmS (qt qga (qt qb8 qE)))) hJ qhv
def qdY (a0:(List (List (Int × Int × Unit)))):Option ((Int × (List (List (Int × Int × Unit))) × Unit) × Int) :=
 (qbg a0).bind λx1 =>
 bif !(decide (x1 = 0)) then
  some ((0,[],()),x1)
 else
  (qah a0).bind λx2 =>
  let v3:Bool:=(bif decide (x2.1 = 0) then (bif decide (x2.2.1 = 0) then true else false) else false)
  bif v3 then
   some ((0,[],()),11)
  else
   (qbG a0 x2).bind λx4 =>
   some (x4,0)
def qen:Entry:=⟨60,[.ty (.sl (.sl gT))],[((.pair I (.pair (.sl (.sl gT)) .unit)),2),(I,0)],λx=>qdY x⟩
def qlD:TH:=qcU [] []
theorem qlP:KT qen qlD [qbN,qbm,qck] 40:=λx=>by kernel_rfl
theorem qmn:OT qen:=entK (qt qem (qt qcY (qt qhA qE))) hJ qlP
def qdM (a0:((List (List (Int × Int × Unit))) × (List (List (Int × Int × Unit))) × Int × Int × Int × Unit)):Option (((List (List (Int × Int × Unit))) × (List (List (Int × Int × Unit))) × Int × Int × Int × Int × (List (List (Int × Int × Unit))) × Unit) × Int) :=
 (qbg a0.1).bind λx1 =>
 (qbg a0.2.1).bind λx2 =>
 (qz (decide ((a0.1.length:Int) = (a0.2.1.length:Int))) (13:Int)).bind λx3 =>
 (qR ([x1,x2,x3])).bind λx4 =>
 bif !(decide (x4 = 0)) then
  some (([],[],0,0,0,0,[],()),x4)
 else
  (qdY a0.2.1).bind λx5 =>
  (bif decide (a0.2.2.2.1 > 0) then
    (qaF ([a0.2.2.1,a0.2.2.2.1])).bind λx6 =>
    (qz (decide (x6 = 1)) (3:Int)).bind λx7 =>
    (q6 a0.2.2.1 (0:Int) a0.2.2.2.1).bind λx8 =>
    bif x8 then
     (qz (decide (a0.2.2.2.1<=100)) (2:Int)).bind λx9 =>
     (q6 a0.2.2.2.2.1 (0:Int) (1000:Int)).bind λx10 =>
     (qz x10 (2:Int)).bind λx11 =>
     (qR ([x5.2,x7,x9,x11])).bind λx12 =>
     some x12
    else
     (qz false (2:Int)).bind λx13 =>
     (q6 a0.2.2.2.2.1 (0:Int) (1000:Int)).bind λx14 =>
     (qz x14 (2:Int)).bind λx15 =>
     (qR ([x5.2,x7,x13,x15])).bind λx16 =>
     some x16
   else
    (qz false (3:Int)).bind λx17 =>
    (q6 a0.2.2.1 (0:Int) a0.2.2.2.1).bind λx18 =>
    bif x18 then
     (qz (decide (a0.2.2.2.1<=100)) (2:Int)).bind λx19 =>
     (q6 a0.2.2.2.2.1 (0:Int) (1000:Int)).bind λx20 =>
     (qz x20 (2:Int)).bind λx21 =>
     (qR ([x5.2,x17,x19,x21])).bind λx22 =>
     some x22
    else
     (qz false (2:Int)).bind λx23 =>
     (q6 a0.2.2.2.2.1 (0:Int) (1000:Int)).bind λx24 =>
     (qz x24 (2:Int)).bind λx25 =>
     (qR ([x5.2,x17,x23,x25])).bind λx26 =>
     some x26).bind λ(p27:Int) =>
  some ((a0.1,a0.2.1,a0.2.2.1,a0.2.2.2.1,a0.2.2.2.2.1,x5.1.1,x5.1.2.1,()),p27)
def qfu:Entry:=⟨142,[.ty (.pair (.sl (.sl gT)) (.pair (.sl (.sl gT)) (.pair I gT)))],[((.pair (.sl (.sl gT)) (.pair (.sl (.sl gT)) (.pair I (.pair I (.pair I (.pair I (.pair (.sl (.sl gT)) .unit))))))),2000),(I,0)],λx=>qdM x⟩
def qoJ:TH:=qcU [([],142,.region 6,{ lv:=[⟨none,6,0⟩],ps:=[(I,0)],D:=⟨147573952520956936256⟩,rs:=[⟨0,1⟩,⟨0,7⟩],Dn:=⟨145190411285615870016⟩ })] []
theorem qnA:KT qfu qoJ [qen,qdB,qa4,qbN,qbe,qch] 40:=λx=>by kernel_rfl
theorem qnL:OT qfu:=entK (qt qmn (qt qis (qt qbs (qt qem (qt qcg (qt qes qE)))))) hJ qnA
def qbR (a0:(Int × Int × Unit)):Option Bool :=
 (qau a0 (10000:Int)).bind λx1 =>
 some (!x1)
def qel:Entry:=⟨154,[.ty gT],[(.bool,0)],λx=>qbR x⟩
def qlm:TH:=qcU [] []
theorem qly:KT qel qlm [qa5] 40:=λx=>by kernel_rfl
theorem qln:OT qel:=entK (qt qcB qE) hJ qly
def qF (a0:(List (Int × Int × Unit))):Option Int :=
 (qab (λ(s2:Int) =>
   bif decide (s2 < (a0.length:Int)) then
    (idx a0 s2).bind λx3 =>
    (qbR x3).bind λx4 =>
    bif x4 then
     some (.inr (.inr s2))
    else
     some (.inl (w64 (s2 + 1)))
   else
    some (.inr (.inl ()))) 0).bind (Sum.elim (λ(p5:Unit) =>
 some (-1)) some)
def qP:Entry:=⟨208,[.ty (.sl gT),.fn 154 []],[(I,0)],λx=>qF x.1⟩
def qaZ:TH:=qcU [([],208,.block 0,{ lv:=[],ps:=[],abn:=true,D:=⟨524064⟩ }),
 ([],208,.loop 0,{ lv:=[⟨none,8,0⟩],ps:=[(I,0)],D:=⟨524064⟩ })] []
theorem qa2:KT qP qaZ [qel] 40:=λx=>by kernel_rfl
theorem qa3:OT qP:=entK (qt qln qE) hJ qa2
def qw (a0:(List (Int × Int × Unit))):Option Bool :=
 (qF a0).bind λx1 =>
 some (decide (x1>=0))
def qK:Entry:=⟨153,[.ty (.sl gT),.fn 154 []],[(.bool,0)],λx=>qw x.1⟩
def qaK:TH:=qcU [] []
theorem qaJ:KT qK qaK [qP] 40:=λx=>by kernel_rfl
theorem qaL:OT qK:=entK (qt qa3 qE) hJ qaJ
def qa0 (a0:(List (Int × Int × Unit))) (a1:Int):Option Int :=
 (qw a0).bind λx1 =>
 (qz (decide ((a0.length:Int) = a1)) (10:Int)).bind λx2 =>
 (qz (!x1) (2:Int)).bind λx3 =>
 (qR ([x2,x3])).bind λx4 =>
 some x4
def qbP:Entry:=⟨74,[.ty (.sl gT),.ty I],[(I,0)],λx=>qa0 x.1 x.2⟩
def qpc:TH:=qcU [] []
theorem qoM:KT qbP qpc [qa4,qbe,qK] 40:=λx=>by kernel_rfl
theorem qdK:OT qbP:=entK (qt qbs (qt qcg (qt qaL qE))) hJ qoM
def qa8 (a0:((List (List (Int × Int × Unit))) × (List (List (Int × Int × Unit))) × Int × Int × Int × Unit)) (a1:(List (Int × Int × Unit))) (a2:(List (Int × Int × Unit))):Option (((List (List (Int × Int × Unit))) × (List (List (Int × Int × Unit))) × Int × Int × Int × Int × (List (List (Int × Int × Unit))) × Unit) × Int) :=
 (qdM a0).bind λx1 =>
 (qa0 a1 (a0.1.length:Int)).bind λx2 =>
 (qa0 a2 (a0.1.length:Int)).bind λx3 =>
 (qR ([x1.2,x2,x3])).bind λx4 =>
 some (x1.1,x4)
def qco:Entry:=⟨68,[.ty (.pair (.sl (.sl gT)) (.pair (.sl (.sl gT)) (.pair I gT))),.ty (.sl gT),.ty (.sl gT)],[((.pair (.sl (.sl gT)) (.pair (.sl (.sl gT)) (.pair I (.pair I (.pair I (.pair I (.pair (.sl (.sl gT)) .unit))))))),0),(I,0)],λx=>qa8 x.1 x.2.1 x.2.2⟩
def qk1:TH:=qcU [] []
theorem qks:KT qco qk1 [qa4,qbP,qfu] 40:=λx=>by kernel_rfl
theorem qf3:OT qco:=entK (qt qbs (qt qdK (qt qnL qE))) hJ qks
def qa1 (a0:(List (List (Int × Int × Unit)))) (a1:(List (Int × Int × Unit))):Option (List (Int × Int × Unit)) :=
 (qab (λ(s3:((List (Int × Int × Unit)) × Int)) =>
   bif decide (s3.2 < (a0.length:Int)) then
    (idx a0 s3.2).bind λx4 =>
    (qab (λ(s6:((Int × Int) × Int)) =>
      bif decide (s6.2 < (x4.length:Int)) then
       (idx x4 s6.2).bind λx7 =>
       (flo x7.1).bind λx8 =>
       (flo x7.2.1).bind λx9 =>
       (idx a1 s6.2).bind λx10 =>
       (flo x10.1).bind λx11 =>
       (idx a1 s6.2).bind λx12 =>
       (flo x12.2.1).bind λx13 =>
       (flo (x8 * x11)).bind λx14 =>
       (flo (x9 * x13)).bind λx15 =>
       (flo (x14 - x15)).bind λx16 =>
       (flo (x8 * x13)).bind λx17 =>
       (flo (x9 * x11)).bind λx18 =>
       (flo (x17 + x18)).bind λx19 =>
       (flo (s6.1.1 + x16)).bind λx20 =>
       (flo (s6.1.2 + x19)).bind λx21 =>
       some (.inl ((x20,x21),w64 (s6.2 + 1)))
      else
       some (.inr s6.1)) ((0,0),0)).bind λ(p22:(Int × Int)) =>
    (flo p22.1).bind λx23 =>
    (flo p22.2).bind λx24 =>
    (app s3.1 ([(x23,x24,())])).bind λx25 =>
    some (.inl (x25,w64 (s3.2 + 1)))
   else
    some (.inr s3.1)) ([],0)).bind λ(p26:(List (Int × Int × Unit))) =>
 some p26
def qb9:Entry:=⟨78,[.ty (.sl (.sl gT)),.ty (.sl gT)],[((.sl gT),1)],λx=>qa1 x.1 x.2⟩
def qmT:TH:=qcU [([],78,.block 0,{ lv:=[⟨none,5,0⟩],ps:=[((.sl gT),1)],D:=⟨576460752303417248⟩,wr:=[⟨0,10⟩] }),
 ([],78,.loop 0,{ lv:=[⟨none,5,0⟩,⟨none,13,0⟩],ps:=[((.sl gT),1),(I,0)],D:=⟨576460752303417248⟩,wr:=[⟨0,10⟩] }),
 ([],78,.block 2,{ lv:=[⟨none,8,0⟩],ps:=[(.cx,0)],D:=⟨281474976188288⟩,wr:=[⟨0,10⟩] }),
 ([],78,.loop 2,{ lv:=[⟨none,8,0⟩,⟨none,19,0⟩],ps:=[(.cx,0),(I,0)],D:=⟨281474976188288⟩,wr:=[⟨0,10⟩],rs:=[⟨0,10⟩],Dn:=⟨281474674197376⟩ })] []
theorem qmQ:KT qb9 qmT [] 40:=λx=>by kernel_rfl
theorem qeX:OT qb9:=entK qE hJ qmQ
def qeL (n:Nat):Int->Int->Option Int :=
 Nat.rec (motive:=λ_=>Int->Int->Option Int) (λ_ _=>none) (λ_ ih a0 a1 =>
 bif decide (a0 < 0) then
  (ih (w64 (0 - a0)) a1).bind λx1 =>
  some (w64 (0 - x1))
 else
  bif decide (a1 = 0) then
   none
  else
   bif decide (a1 = 0) then
    none
   else
    (bif decide (a0.tmod a1 > w64 (a1 - (a0.tmod a1))) then
      some (w64 ((w64 (a0.tdiv a1)) + 1))
     else
      some (w64 (a0.tdiv a1))).bind λ(p2:Int) =>
    some p2) n
def qiy:Int->Int->Option Int:=qeL 12
def qmq:Entry:=⟨206,[.ty I,.ty I],[(I,0)],λx=>qiy x.1 x.2⟩
def qsZ:TH:=qcU [([],206,.cond 24,{ lv:=[⟨none,5,0⟩],ps:=[(I,0)],D:=⟨100663328⟩ })] []
def qcf (n:Nat):Entry:=⟨206,[.ty I,.ty I],[(I,0)],λx=>qeL n x.1 x.2⟩
theorem qtH (n:Nat) (x:denP (qcf (n + 1)).ps):fnT Tryz.prog Hn.hints qsZ (qvO [(qcf n)]) 40 206 (qfP (qcf (n + 1)).ps x) (qcf (n + 1)).rs = (qcf (n + 1)).F x:=by kernel_rfl
theorem qji:∀ n,qbz Tryz.prog Hn.hints Lb (qcf n)
 | 0=>λx y h=>by cases (show none = some y from h)
 | n + 1=>qnm (qt (qji n) qE) hJ 40 _ _ _ _ (qtH n)
theorem qsG:qbz Tryz.prog Hn.hints Lb qmq:=qji 12
def qaO (a0:Int) (a1:((List (List (Int × Int × Unit))) × (List (List (Int × Int × Unit))) × Int × Int × Int × Int × (List (List (Int × Int × Unit))) × Unit)):Option Int :=
 (qiy (w64 (a0 * a1.2.2.1)) (w64 (a1.2.2.2.2.2.1 * a1.2.2.2.1))).bind λx1 =>
 some (min (max x1 (w64 (0 - a1.2.2.2.2.1))) a1.2.2.2.2.1)
def qbS:Entry:=⟨205,[.ty I,.ptr (.pair (.sl (.sl gT)) (.pair (.sl (.sl gT)) (.pair I (.pair I (.pair I (.pair I (.pair (.sl (.sl gT)) .unit)))))))],[(I,0)],λx=>qaO x.1 x.2⟩
def qgC:TH:=qcU [] []
theorem qgH:KT qbS qgC [qmq] 40:=λx=>by kernel_rfl
theorem qgJ:OT qbS:=entK (qt qsG qE) hJ qgH
def qbF (a0:((List (List (Int × Int × Unit))) × (List (List (Int × Int × Unit))) × Int × Int × Int × Int × (List (List (Int × Int × Unit))) × Unit)) (a1:(List (Int × Int × Unit))) (a2:(List (Int × Int × Unit))):Option (List (Int × Int × Unit)) :=
 (qa1 a0.1 a2).bind λx1 =>
 (qab (λ(s3:((List (Int × Int × Unit)) × Int)) =>
   bif decide (s3.2 < (a1.length:Int)) then
    (idx a1 s3.2).bind λx4 =>
    (idx s3.1 s3.2).bind λx5 =>
    (qae x4 x5).bind λx6 =>
    (idx s3.1 s3.2).bind λx7 =>
    (idx s3.1 s3.2).bind λx8 =>
    let l9:(List (Int × Int × Unit)):=List.set s3.1 s3.2.toNat x6
    some (.inl (l9,w64 (s3.2 + 1)))
   else
    some (.inr s3.1)) (x1,0)).bind λ(p10:(List (Int × Int × Unit))) =>
 (qab (λ(s13:((List (Int × Int × Unit)) × Int)) =>
   bif decide (s13.2 < (a0.2.2.2.2.2.2.1.length:Int)) then
    (idx a0.2.2.2.2.2.2.1 s13.2).bind λx14 =>
    (qab (λ(s16:(Int × Int × Int)) =>
      bif decide (s16.1 < (x14.length:Int)) then
       (idx x14 s16.1).bind λx17 =>
       (idx p10 s16.1).bind λx18 =>
       (qaQ x17 x18).bind λx19 =>
       (qbr (s16.2.1,s16.2.2,()) x19).bind λx20 =>
       some (.inl (w64 (s16.1 + 1),x20.1,x20.2.1))
      else
       some (.inr (s16.2.1,s16.2.2))) (0,0,0)).bind λ(p21:(Int × Int)) =>
    (qaO p21.1 a0).bind λx22 =>
    (qaO p21.2 a0).bind λx23 =>
    (app s13.1 ([(x22,x23,())])).bind λx24 =>
    some (.inl (x24,w64 (s13.2 + 1)))
   else
    some (.inr s13.1)) ([],0)).bind λ(p25:(List (Int × Int × Unit))) =>
 some p25
def qcl:Entry:=⟨149,[.ty (.pair (.sl (.sl gT)) (.pair (.sl (.sl gT)) (.pair I (.pair I (.pair I (.pair I (.pair (.sl (.sl gT)) .unit))))))),.ty (.sl gT),.ty (.sl gT)],[((.sl gT),1)],λx=>qbF x.1 x.2.1 x.2.2⟩
def qhE:TH:=qcU [([],149,.block 0,{ lv:=[⟨none,7,0⟩],ps:=[((.sl gT),1)],D:=⟨549741225856⟩,wr:=[⟨0,9⟩] }),
 ([],149,.loop 0,{ lv:=[⟨none,7,0⟩,⟨none,24,0⟩],ps:=[((.sl gT),1),(I,0)],D:=⟨549741225856⟩,wr:=[⟨0,9⟩],rs:=[⟨0,9⟩],Dn:=⟨549741225344⟩ }),
 ([],149,.block 2,{ lv:=[⟨none,10,0⟩],ps:=[((.sl gT),1)],D:=⟨151115727434236460918272⟩,wr:=[⟨0,9⟩,⟨0,14⟩,⟨0,16⟩] }),
 ([],149,.loop 2,{ lv:=[⟨none,10,0⟩,⟨none,44,0⟩],ps:=[((.sl gT),1),(I,0)],D:=⟨151115727434236460918272⟩,wr:=[⟨0,9⟩,⟨0,14⟩,⟨0,16⟩],rs:=[⟨0,3⟩,⟨0,14⟩],Dn:=⟨149234159538718086637056⟩ }),
 ([],149,.block 4,{ lv:=[⟨some 0,14,0⟩,⟨some 0,14,1⟩],ps:=[(I,0),(I,0)],D:=⟨18445618173802816000⟩,wr:=[⟨0,14⟩,⟨0,16⟩] }),
 ([],149,.loop 4,{ lv:=[⟨none,50,0⟩,⟨some 0,14,0⟩,⟨some 0,14,1⟩],ps:=[(I,0),(I,0),(I,0)],D:=⟨18445618173802816000⟩,wr:=[⟨0,14⟩,⟨0,16⟩],rs:=[⟨0,16⟩],Dn:=⟨18445618173802750464⟩ })] []
theorem qhw:KT qcl qhE [qb9,qbS,qaS,qbu,qaR] 40:=λx=>by kernel_rfl
theorem qhD:OT qcl:=entK (qt qeX (qt qgJ (qt qb7 (qt qdF (qt qb8 qE))))) hJ qhw
def qbh (a0:((List (List (Int × Int × Unit))) × (List (List (Int × Int × Unit))) × Int × Int × Int × Int × (List (List (Int × Int × Unit))) × Unit)) (a1:(List (Int × Int × Unit))) (a2:(List (Int × Int × Unit))):Option ((List (Int × Int × Unit)) × Int) :=
 (qbF a0 a1 a2).bind λx1 =>
 (qab (λ(s3:((List (Int × Int × Unit)) × Int)) =>
   bif decide (s3.2 < (a2.length:Int)) then
    (idx a2 s3.2).bind λx4 =>
    (idx s3.1 s3.2).bind λx5 =>
    (qbr x5 x4).bind λx6 =>
    (idx s3.1 s3.2).bind λx7 =>
    (idx s3.1 s3.2).bind λx8 =>
    let l9:(List (Int × Int × Unit)):=List.set s3.1 s3.2.toNat x6
    some (.inl (l9,w64 (s3.2 + 1)))
   else
    some (.inr s3.1)) (x1,0)).bind λ(p10:(List (Int × Int × Unit))) =>
 (qa0 p10 (p10.length:Int)).bind λx11 =>
 bif !(decide (x11 = 0)) then
  some ([],22)
 else
  some (p10,0)
def qcO:Entry:=⟨72,[.ty (.pair (.sl (.sl gT)) (.pair (.sl (.sl gT)) (.pair I (.pair I (.pair I (.pair I (.pair (.sl (.sl gT)) .unit))))))),.ty (.sl gT),.ty (.sl gT)],[((.sl gT),1),(I,0)],λx=>qbh x.1 x.2.1 x.2.2⟩
def qlq:TH:=qcU [([],72,.block 0,{ lv:=[⟨none,8,0⟩],ps:=[((.sl gT),1)],D:=⟨4294854400⟩,wr:=[⟨0,10⟩] }),
 ([],72,.loop 0,{ lv:=[⟨none,8,0⟩,⟨none,17,0⟩],ps:=[((.sl gT),1),(I,0)],D:=⟨4294854400⟩,wr:=[⟨0,10⟩],rs:=[⟨0,10⟩],Dn:=⟨4294853376⟩ })] []
theorem qmc:KT qcO qlq [qbP,qcl,qbu] 40:=λx=>by kernel_rfl
theorem qgF:OT qcO:=entK (qt qdK (qt qhD (qt qdF qE))) hJ qmc
def qci (a0:((List (List (Int × Int × Unit))) × (List (List (Int × Int × Unit))) × Int × Int × Int × Unit)) (a1:(List (Int × Int × Unit))) (a2:(List (Int × Int × Unit))) (a3:Int):Option ((List (List (Int × Int × Unit))) × Int) :=
 (qa8 a0 a1 a2).bind λx1 =>
 (q6 a3 (0:Int) (20:Int)).bind λx2 =>
 (qz x2 (2:Int)).bind λx3 =>
 (qR ([x1.2,x3])).bind λx4 =>
 bif !(decide (x4 = 0)) then
  some ([],x4)
 else
  (qab (λ(s7:((List (Int × Int × Unit)) × (List (List (Int × Int × Unit))) × Int)) =>
    bif decide (s7.2.2 < a3) then
     (qbh x1.1 a1 s7.1).bind λx8 =>
     bif !(decide (x8.2 = 0)) then
      some (.inr (.inr ([],x8.2)))
     else
      (app s7.2.1 ([x8.1])).bind λx9 =>
      some (.inl (x8.1,x9,w64 (s7.2.2 + 1)))
    else
     some (.inr (.inl s7.2.1))) (a2,[],0)).bind (Sum.elim (λ(p10:(List (List (Int × Int × Unit)))) =>
  some (p10,0)) some)
def qeV:Entry:=⟨11,[.ty (.pair (.sl (.sl gT)) (.pair (.sl (.sl gT)) (.pair I gT))),.ty (.sl gT),.ty (.sl gT),.ty I],[((.sl (.sl gT)),1),(I,0)],λx=>qci x.1 x.2.1 x.2.2.1 x.2.2.2⟩
def qmP:TH:=qcU [([],11,.block 0,{ lv:=[⟨none,12,0⟩],ps:=[((.sl (.sl gT)),1)],abn:=true,D:=⟨140736414619652⟩ }),
 ([],11,.loop 0,{ lv:=[⟨none,2,0⟩,⟨none,12,0⟩,⟨none,30,0⟩],ps:=[((.sl gT),2000),((.sl (.sl gT)),1),(I,0)],D:=⟨140736414619652⟩ })] []
theorem qmV:KT qeV qmP [qa4,qco,qcO,qbe,qch] 40:=λx=>by kernel_rfl
theorem qmO:OT qeV:=entK (qt qbs (qt qf3 (qt qgF (qt qcg (qt qes qE))))) hJ qmV
def qcW (a0:(List (Int × Int × Unit))):Option (List UInt8) :=
 (qab (λ(s3:((List (List UInt8)) × Int)) =>
   bif decide (s3.2 < (a0.length:Int)) then
    (idx a0 s3.2).bind λx4 =>
    (strconv_Itoa x4.1).bind λx5 =>
    (app x5 ([44])).bind λx6 =>
    (strconv_Itoa x4.2.1).bind λx7 =>
    (app x6 x7).bind λx8 =>
    (app s3.1 ([x8])).bind λx9 =>
    some (.inl (x9,w64 (s3.2 + 1)))
   else
    some (.inr s3.1)) ([],0)).bind λ(p10:(List (List UInt8))) =>
 (strings_Join p10 ([32])).bind λx11 =>
 some x11
def qdi:Entry:=⟨15,[.ty (.sl gT)],[(.str,0)],λx=>qcW x⟩
def qjK:TH:=qcU [([],15,.block 0,{ lv:=[⟨none,3,0⟩],ps:=[((.sl .str),1)],D:=⟨16777000⟩,wr:=[⟨0,5⟩] }),
 ([],15,.loop 0,{ lv:=[⟨none,3,0⟩,⟨none,8,0⟩],ps:=[((.sl .str),1),(I,0)],D:=⟨16777000⟩,wr:=[⟨0,5⟩],rs:=[⟨0,5⟩],Dn:=⟨16637704⟩ })] []
theorem qjY:KT qdi qjK [qc9,qeC] 40:=λx=>by kernel_rfl
theorem qjy:OT qdi:=entK (qt qjg (qt qpk qE)) hJ qjY
def qcL (a0:(List UInt8)) (a1:Int):Option (Int × Bool) :=
 (strconv_Atoi a0).bind λx1 =>
 (bif x1.2 then
   (strconv_Itoa x1.1).bind λx2 =>
   bif decide (x2 = a0) then
    (strings_TrimPrefix a0 ([45])).bind λx3 =>
    some (x1.1,decide ((x3.length:Int)<=a1))
   else
    some (x1.1,false)
  else
   some (x1.1,false)).bind λ(p4:(Int × Bool)) =>
 some (p4.1,p4.2)
def qhW:Entry:=⟨152,[.ty .str,.ty I],[(I,0),(.bool,0)],λx=>qcL x.1 x.2⟩
def qtC:TH:=qcU [([],152,.region 2,{ lv:=[⟨none,4,0⟩,⟨none,5,0⟩],ps:=[(I,0),(.bool,0)],D:=⟨536862768⟩ })] []
theorem qtT:KT qhW qtC [qew,qc9,qbH] 40:=λx=>by kernel_rfl
theorem qtw:OT qhW:=entK (qt qpj (qt qjg (qt qi3 qE))) hJ qtT
def qix (a0:(List UInt8)) (a1:Int):Option ((List (Int × Int × Unit)) × Bool) :=
 (qab (λ(s2:((List (Int × Int × Unit)) × (List UInt8))) =>
   (strings_Index s2.2 ([32])).bind λx3 =>
   bif decide (x3 < 0) then
    some (.inr (.inl (s2.1,s2.2)))
   else
    (slc s2.2 0 (w64 (x3 + 0))).bind λx4 =>
    (strings_Cut x4 ([44])).bind λx5 =>
    (qcL x5.1 a1).bind λx6 =>
    (qcL x5.2.1 a1).bind λx7 =>
    (bif !x5.2.2 then
      some true
     else
      bif !x6.2 then
       some true
      else
       some (!x7.2)).bind λ(p8:Bool) =>
    bif p8 then
     some (.inr (.inr ([],false)))
    else
     (app s2.1 ([(x6.1,x7.1,())])).bind λx9 =>
     (slc s2.2 (w64 (x3 + 1)) (s2.2.length:Int)).bind λx10 =>
     some (.inl (x9,x10))) ([],a0)).bind (Sum.elim (λ(p11:((List (Int × Int × Unit)) × (List UInt8))) =>
 (strings_Cut p11.2 ([44])).bind λx12 =>
 (qcL x12.1 a1).bind λx13 =>
 (qcL x12.2.1 a1).bind λx14 =>
 (bif !x12.2.2 then
   some true
  else
   bif !x13.2 then
    some true
   else
    some (!x14.2)).bind λ(p15:Bool) =>
 bif p15 then
  some ([],false)
 else
  (app p11.1 ([(x13.1,x14.1,())])).bind λx16 =>
  some (x16,true)) some)
def qig:Entry:=⟨73,[.ty .str,.ty I],[((.sl gT),2000),(.bool,0)],λx=>qix x.1 x.2⟩
def qsn:TH:=qcU [([17],237,.block 2,{ lv:=[⟨some 0,6,0⟩,⟨some 0,16,0⟩],ps:=[((.sl gT),1),(.str,0)],abn:=true,D:=⟨562949416550784⟩,wr:=[⟨0,6⟩,⟨0,16⟩] }),
 ([17],237,.loop 2,{ lv:=[⟨some 0,6,0⟩,⟨some 0,16,0⟩],ps:=[((.sl gT),1),(.str,0)],D:=⟨562949416550784⟩,wr:=[⟨0,6⟩,⟨0,16⟩],rs:=[⟨0,17⟩],Dn:=⟨562399660736896⟩ }),
 ([41,17],73,.region 7,{ lv:=[⟨none,45,0⟩],ps:=[(.bool,0)],D:=⟨70300024700928⟩ }),
 ([51,17],73,.region 7,{ lv:=[⟨none,45,0⟩],ps:=[(.bool,0)],D:=⟨70300024700928⟩ })] []
theorem qty:KT qig qsn [qhW,qfc,qdL] 40:=λx=>by kernel_rfl
theorem qt7:OT qig:=entK (qt qtw (qt qr7 (qt qoB qE))) hJ qty
def qde (a0:(List UInt8)):Option ((List (Int × Int × Unit)) × Int) :=
 bif decide ((a0.length:Int) > 60000) then
  some ([],8)
 else
  (qix a0 (5:Int)).bind λx1 =>
  (qz x1.2 (7:Int)).bind λx2 =>
  (qz (decide ((x1.1.length:Int)<=3)) (8:Int)).bind λx3 =>
  (qa0 x1.1 (x1.1.length:Int)).bind λx4 =>
  (qR ([x2,x3,x4])).bind λx5 =>
  bif !(decide (x5 = 0)) then
   some ([],x5)
  else
   some (x1.1,0)
def qdE:Entry:=⟨14,[.ty .str],[((.sl gT),2000),(I,0)],λx=>qde x⟩
def qkh:TH:=qcU [] []
theorem qk2:KT qdE qkh [qa4,qig,qbP,qbe] 40:=λx=>by kernel_rfl
theorem qkN:OT qdE:=entK (qt qbs (qt qt7 (qt qdK (qt qcg qE)))) hJ qk2
def qeK (a0:(List (Int × Int × Unit))) (a1:(List (Int × Int × Unit))):Option Bool :=
 bif !(decide ((a0.length:Int) = (a1.length:Int))) then
  some false
 else
  (qab (λ(s2:Int) =>
    bif decide (s2 < (a0.length:Int)) then
     (idx a0 s2).bind λx3 =>
     (idx a1 s2).bind λx4 =>
     let v5:Bool:=!(bif decide (x3.1 = x4.1) then (bif decide (x3.2.1 = x4.2.1) then true else false) else false)
     bif v5 then
      some (.inr (.inr false))
     else
      some (.inl (w64 (s2 + 1)))
    else
     some (.inr (.inl ()))) 0).bind (Sum.elim (λ(p6:Unit) =>
  some true) some)
def qgd:Entry:=⟨16,[.ty (.sl gT),.ty (.sl gT)],[(.bool,0)],λx=>qeK x.1 x.2⟩
def qpm:TH:=qcU [([],16,.block 0,{ lv:=[],ps:=[],abn:=true,D:=⟨67106848⟩ }),
 ([],16,.loop 0,{ lv:=[⟨none,5,0⟩],ps:=[(I,0)],D:=⟨67106848⟩ })] []
theorem qph:KT qgd qpm [] 40:=λx=>by kernel_rfl
theorem qpy:OT qgd:=entK qE hJ qph
def qG (a0:(List (Int × Int × Unit))) (a1:(List (Int × Int × Unit))):Option (List (Int × Int × Int × Int × Unit)) :=
 (qab (λ(s2:(Int × (List (Int × Int × Int × Int × Unit)))) =>
   bif decide (s2.1 < (a0.length:Int)) then
    (idx a0 s2.1).bind λx3 =>
    (idx a1 s2.1).bind λx4 =>
    (app s2.2 ([(x3.1,x3.2.1,x4.1,x4.2.1,())])).bind λx5 =>
    some (.inl (w64 (s2.1 + 1),x5))
   else
    some (.inr s2.2)) (0,[])).bind λ(p6:(List (Int × Int × Int × Int × Unit))) =>
 some p6
def qZ:Entry:=⟨80,[.fn 161 [.p (.sl gT),.p (.sl gT)]],[((.sl (.pair I (.pair I gT))),1)],λx=>qG x.1 x.2⟩
def qbA:TH:=qcU [([7,4],161,.block 0,{ lv:=[⟨some 0,2,0⟩],ps:=[((.sl (.pair I (.pair I gT))),1)],D:=⟨8388400⟩,wr:=[⟨0,2⟩,⟨1,5⟩] }),
 ([7,4],161,.loop 0,{ lv:=[⟨none,8,0⟩,⟨some 0,2,0⟩],ps:=[(I,0),((.sl (.pair I (.pair I gT))),1)],D:=⟨8388400⟩,wr:=[⟨0,2⟩,⟨1,5⟩],rs:=[⟨0,7⟩,⟨1,5⟩],Dn:=⟨8380176⟩ })] [([],80,4)]
theorem qby:KT qZ qbA [] 40:=λx=>by kernel_rfl
theorem qbB:OT qZ:=entK qE hJ qby
def qdW (a0:((List (List (Int × Int × Unit))) × (List (List (Int × Int × Unit))) × Int × Int × Int × Unit)) (a1:(List (Int × Int × Unit))) (a2:(List (Int × Int × Unit))) (a3:Int):Option (Int × Int) :=
 (qa8 a0 a1 a2).bind λx1 =>
 (q6 a3 (0:Int) (10000:Int)).bind λx2 =>
 (qz x2 (2:Int)).bind λx3 =>
 (qR ([x1.2,x3])).bind λx4 =>
 bif !(decide (x4 = 0)) then
  some (0,x4)
 else
  (qab (λ(s7:((List (Int × Int × Unit)) × Int)) =>
    (qa1 a0.1 s7.1).bind λx8 =>
    (qG a1 x8).bind λx9 =>
    ((qab (λ(s11:Int) =>
       bif decide (s11 < (x9.length:Int)) then
        (idx x9 s11).bind λx12 =>
        (qae (x12.1,x12.2.1,()) (x12.2.2.1,x12.2.2.2.1,())).bind λx13 =>
        (qau x13 a3).bind λx14 =>
        bif !x14 then
         some (.inr (.inr s11))
        else
         some (.inl (w64 (s11 + 1)))
       else
        some (.inr (.inl ()))) 0).bind (Sum.elim (λ(p15:Unit) =>
     some (-1)) some)).bind λ(p16:Int) =>
    bif !(decide (p16>=0)) then
     some (.inr (.inr (s7.2,0)))
    else
     bif decide (s7.2 = 20) then
      some (.inr (.inr (0,12)))
     else
      (qbh x1.1 a1 s7.1).bind λx17 =>
      bif !(decide (x17.2 = 0)) then
       some (.inr (.inr (0,x17.2)))
      else
       some (.inl (x17.1,w64 (s7.2 + 1)))) (a2,0)).bind (Sum.elim (λ(p18:Unit) =>
  some (0,0)) some)
def qeh:Entry:=⟨20,[.ty (.pair (.sl (.sl gT)) (.pair (.sl (.sl gT)) (.pair I gT))),.ty (.sl gT),.ty (.sl gT),.ty I],[(I,0),(I,0)],λx=>qdW x.1 x.2.1 x.2.2.1 x.2.2.2⟩
def qlV:TH:=qcU [([],20,.block 0,{ lv:=[],ps:=[],abn:=true,D:=⟨0⟩ }),
 ([],20,.loop 0,{ lv:=[⟨none,2,0⟩,⟨none,12,0⟩],ps:=[((.sl gT),2000),(I,0)],D:=⟨1152921502459394052⟩,rs:=[⟨0,4⟩,⟨0,7⟩],Dn:=⟨1152919294846203908⟩ }),
 ([7,42],159,.inl 0,{ lv:=[⟨none,4,0⟩],ps:=[(I,0)],D:=⟨524272⟩,rs:=[⟨0,7⟩],Dn:=⟨522224⟩ }),
 ([7,42],159,.block 0,{ lv:=[],ps:=[],abn:=true,D:=⟨524064⟩ }),
 ([7,42],159,.loop 0,{ lv:=[⟨none,8,0⟩],ps:=[(I,0)],D:=⟨524064⟩,rs:=[⟨0,7⟩],Dn:=⟨522016⟩ })] [([],20,39)]
theorem qlU:KT qeh qlV [qa4,qco,qb9,qcO,qbe,qa5,qaS,qch,qZ] 40:=λx=>by kernel_rfl
theorem ql9:OT qeh:=entK (qt qbs (qt qf3 (qt qeX (qt qgF (qt qcg (qt qcB (qt qb7 (qt qes (qt qbB qE))))))))) hJ qlU
def qdd (a0:(List (List (Int × Int × Unit)))) (a1:(List (Int × Int × Unit))):Option ((List (Int × Int × Unit)) × Int) :=
 (qbg a0).bind λx1 =>
 (qa0 a1 (a0.length:Int)).bind λx2 =>
 (qR ([x1,x2])).bind λx3 =>
 bif !(decide (x3 = 0)) then
  some ([],x3)
 else
  (qa1 a0 a1).bind λx4 =>
  some (x4,0)
def qd0:Entry:=⟨58,[.ty (.sl (.sl gT)),.ty (.sl gT)],[((.sl gT),1),(I,0)],λx=>qdd x.1 x.2⟩
def qk5:TH:=qcU [] []
theorem qkk:KT qd0 qk5 [qa4,qbP,qbN,qb9] 40:=λx=>by kernel_rfl
theorem qkU:OT qd0:=entK (qt qbs (qt qdK (qt qem (qt qeX qE)))) hJ qkk
def qiO (a0:((List (List (Int × Int × Unit))) × (List (List (Int × Int × Unit))) × Int × Int × Int × Unit)) (a1:(List (Int × Int × Unit))) (a2:(List (Int × Int × Unit))) (a3:Int):Option Bool :=
 (qbq a0.1).bind λx1 =>
 (qO a2).bind λx2 =>
 (qdd x1 x2).bind λx3 =>
 (bif !(decide (x3.2 = 0)) then
   some true
  else
   some (!(decide ((x3.1.length:Int) = (a1.length:Int))))).bind λ(p4:Bool) =>
 bif p4 then
  some false
 else
  (qab (λ(s6:Int) =>
    bif decide (s6 < (x3.1.length:Int)) then
     ((idx x3.1 s6).bind λx7 =>
      (idx a1 s6).bind λx8 =>
      (idx a1 s6).bind λx9 =>
      (qar x7.1 (w64 (x8.1 - a3)) (w64 (x9.1 + a3))).bind λx10 =>
      bif !x10 then
       some true
      else
       (idx x3.1 s6).bind λx11 =>
       (idx a1 s6).bind λx12 =>
       (idx a1 s6).bind λx13 =>
       (qar x11.2.1 (w64 (x12.2.1 - a3)) (w64 (x13.2.1 + a3))).bind λx14 =>
       some (!x14)).bind λ(p15:Bool) =>
     bif p15 then
      some (.inr (.inr false))
     else
      some (.inl (w64 (s6 + 1)))
    else
     some (.inr (.inl ()))) 0).bind (Sum.elim (λ(p16:Unit) =>
  some true) some)
def qia:Entry:=⟨21,[.ty (.pair (.sl (.sl gT)) (.pair (.sl (.sl gT)) (.pair I gT))),.ty (.sl gT),.ty (.sl gT),.ty I],[(.bool,0)],λx=>qiO x.1 x.2.1 x.2.2.1 x.2.2.2⟩
def qtI:TH:=qcU [([],21,.region 2,{ lv:=[⟨none,29,0⟩],ps:=[(.bool,0)],D:=⟨1071644672⟩ }),
 ([],21,.block 0,{ lv:=[],ps:=[],abn:=true,D:=⟨1208925819614628100966400⟩ }),
 ([],21,.loop 0,{ lv:=[⟨none,11,0⟩],ps:=[(I,0)],D:=⟨1208925819614628100966400⟩ }),
 ([],21,.region 7,{ lv:=[⟨none,79,0⟩],ps:=[(.bool,0)],D:=⟨1208925819614560455229440⟩ })] []
theorem qtX:KT qia qtI [qbt,qcJ,qd0,qcr] 40:=λx=>by kernel_rfl
theorem qsX:OT qia:=entK (qt qdN (qt qff (qt qkU (qt qfT qE)))) hJ qtX
def qdk (a0:((List (List (Int × Int × Unit))) × (List (List (Int × Int × Unit))) × Int × Int × Int × Unit)) (a1:((List (Int × Int × Unit)) × (List (Int × Int × Unit)) × Unit)) (a2:(Int × Int × Unit)):Option Bool :=
 (qgf).bind λx1 =>
 bif !x1 then
  some false
 else
  (bif decide ((a0.1.length:Int) > 3) then
    some true
   else
    (qez a0 a1.1 a1.2.1).bind λx2 =>
    bif !(decide (x2 = 0)) then
     some true
    else
     (qar a2.1 (0:Int) (6:Int)).bind λx3 =>
     bif !x3 then
      some true
     else
      (qar a2.2.1 (0:Int) (10000:Int)).bind λx4 =>
      some (!x4)).bind λ(p5:Bool) =>
  bif p5 then
   some true
  else
   (qb6 a0).bind λx6 =>
   (qO a1.1).bind λx7 =>
   (qO a1.2.1).bind λx8 =>
   (qci x6 x7 x8 a2.1).bind λx9 =>
   bif !(decide (x9.2 = 0)) then
    some (decide (x9.2 = 22))
   else
    bif !(decide ((x9.1.length:Int) = a2.1)) then
     some false
    else
     (qO a1.2.1).bind λx10 =>
     (qab (λ(s12:((List (Int × Int × Unit)) × Int)) =>
       bif decide (s12.2 < (x9.1.length:Int)) then
        (qO s12.1).bind λx13 =>
        (qcW x13).bind λx14 =>
        (qde x14).bind λx15 =>
        (bif !(decide (x15.2 = 0)) then
          some true
         else
          (qeK x15.1 s12.1).bind λx16 =>
          some (!x16)).bind λ(p17:Bool) =>
        bif p17 then
         some (.inr (.inr false))
        else
         (qb6 a0).bind λx18 =>
         (qO a1.1).bind λx19 =>
         (qci x18 x19 x15.1 (1:Int)).bind λx20 =>
         (bif !(decide (x20.2 = 0)) then
           some true
          else
           bif !(decide ((x20.1.length:Int) = 1)) then
            some true
           else
            (idx x20.1 0).bind λx21 =>
            (idx x9.1 s12.2).bind λx22 =>
            (qeK x21 x22).bind λx23 =>
            bif !x23 then
             some true
            else
             (idx x9.1 s12.2).bind λx24 =>
             (qbv x24 (a1.2.1.length:Int)).bind λx25 =>
             some (!(decide (x25 = 0)))).bind λ(p26:Bool) =>
         bif p26 then
          some (.inr (.inr false))
         else
          (qab (λ(s28:Int) =>
            bif decide (s28 < (s12.1.length:Int)) then
             (idx x9.1 s12.2).bind λx29 =>
             (idx x29 s28).bind λx30 =>
             (idx s12.1 s28).bind λx31 =>
             (qfq x30 x31).bind λx32 =>
             (idx x9.1 s12.2).bind λx33 =>
             (idx x33 s28).bind λx34 =>
             (idx a1.2.1 s28).bind λx35 =>
             (qfq x34 x35).bind λx36 =>
             ((qar x32.1 (w64 (0 - a0.2.2.2.2.1)) a0.2.2.2.2.1).bind λx37 =>
              bif !x37 then
               some true
              else
               (qar x32.2.1 (w64 (0 - a0.2.2.2.2.1)) a0.2.2.2.2.1).bind λx38 =>
               bif !x38 then
                some true
               else
                (qdR x36.1).bind λx39 =>
                bif decide (x39 > w64 ((w64 (s12.2 + 1)) * a0.2.2.2.2.1)) then
                 some true
                else
                 (qdR x36.2.1).bind λx40 =>
                 some (decide (x40 > w64 ((w64 (s12.2 + 1)) * a0.2.2.2.2.1)))).bind λ(p41:Bool) =>
             bif p41 then
              some (.inr (.inr (.inr (.inr false))))
             else
              some (.inl (w64 (s28 + 1)))
            else
             some (.inr (.inl ()))) 0).bind (Sum.elim (λ(p42:Unit) =>
          (idx x9.1 s12.2).bind λx43 =>
          (qO x43).bind λx44 =>
          some (.inl (x44,w64 (s12.2 + 1)))) some)
       else
        some (.inr (.inl ()))) (x10,0)).bind (Sum.elim (λ(p45:Unit) =>
     (qb6 a0).bind λx46 =>
     (qO a1.1).bind λx47 =>
     (qO a1.2.1).bind λx48 =>
     (qdW x46 x47 x48 a2.2.1).bind λx49 =>
     bif !(decide (x49.2 = 0)) then
      (bif decide (x49.2 = 12) then
        some true
       else
        some (decide (x49.2 = 22))).bind λ(p50:Bool) =>
      some p50
     else
      (qar x49.1 (0:Int) (20:Int)).bind λx51 =>
      bif !x51 then
       some false
      else
       (qab (λ(s53:Int) =>
         (bif decide (s53<=x49.1) then
           some (decide (s53<=a2.1))
          else
           some false).bind λ(p54:Bool) =>
         bif p54 then
          (bif decide (s53 > 0) then
            (idx x9.1 (w64 (s53 - 1))).bind λx55 =>
            some x55
           else
            some a1.2.1).bind λ(p56:(List (Int × Int × Unit))) =>
          (qiO a0 a1.1 p56 a2.2.1).bind λx57 =>
          bif !(x57 == decide (s53 = x49.1)) then
           some (.inr (.inr false))
          else
           some (.inl (w64 (s53 + 1)))
         else
          some (.inr (.inl ()))) 0).bind (Sum.elim (λ(p58:Unit) =>
       some true) some)) some)
def qbw:Entry:=⟨3,[.ty (.pair (.sl (.sl gT)) (.pair (.sl (.sl gT)) (.pair I gT))),.ty (.pair (.sl gT) (.pair (.sl gT) .unit)),.ty gT],[(.bool,0)],λx=>qdk x.1 x.2.1 x.2.2⟩
def qil:TH:=qcU [([],3,.region 3,{ lv:=[⟨none,48,0⟩],ps:=[(.bool,0)],D:=⟨562949936644096⟩,rs:=[⟨0,3⟩,⟨0,4⟩,⟨0,5⟩],Dn:=⟨545077487206400⟩ }),
 ([],3,.block 0,{ lv:=[],ps:=[],abn:=true,D:=⟨13164036458569648337239753460458804039861849146136775949629521408⟩,wr:=[⟨0,16⟩,⟨0,17⟩] }),
 ([],3,.loop 0,{ lv:=[⟨none,9,0⟩,⟨none,10,0⟩],ps:=[((.sl gT),1),(I,0)],D:=⟨13164036458569648337239753460458804039861849146136775949629521408⟩,wr:=[⟨0,16⟩,⟨0,17⟩],rs:=[⟨0,4⟩],Dn:=⟨13164036458569648337239752779894069564159622105272860337741495808⟩ }),
 ([],3,.region 15,{ lv:=[⟨none,95,0⟩],ps:=[(.bool,0)],D:=⟨78918677504442992524819169280⟩ }),
 ([],3,.region 18,{ lv:=[⟨none,134,0⟩],ps:=[(.bool,0)],D:=⟨43556142884750484908705268055477325922304⟩,rs:=[⟨0,4⟩],Dn:=⟨42875578150908607981778518840613789499392⟩ }),
 ([],3,.block 2,{ lv:=[],ps:=[],abn:=true,D:=⟨411376139330301510538698739496371746122360654458643699508414464⟩,wr:=[⟨0,16⟩,⟨0,17⟩] }),
 ([],3,.loop 2,{ lv:=[⟨none,15,0⟩],ps:=[(I,0)],D:=⟨411376139330301510538698739496371746122360654458643699508414464⟩,wr:=[⟨0,16⟩,⟨0,17⟩],rs:=[⟨0,3⟩,⟨0,4⟩,⟨0,16⟩,⟨0,17⟩],Dn:=⟨398112423656641987619734952609812442091766012613984430837499904⟩ }),
 ([],3,.region 24,{ lv:=[⟨none,207,0⟩],ps:=[(.bool,0)],D:=⟨411376139330207974433953117852572590416390124295136986154401792⟩,rs:=[⟨0,3⟩,⟨0,16⟩,⟨0,17⟩],Dn:=⟨398112423656549913016626661868931490070628198733497373416226816⟩ }),
 ([],3,.region 29,{ lv:=[⟨none,6,0⟩],ps:=[(.bool,0)],D:=⟨54351252480975689826048702415431575438052483155841794121904878262419520⟩ }),
 ([],3,.block 4,{ lv:=[],ps:=[],abn:=true,D:=⟨948568794590382506715297426795346965948258085424056526392331788662422807690348544⟩,rs:=[⟨0,5⟩],Dn:=⟨948568780455605988488222790128966960004909958804185351387380123689573197349390336⟩ }),
 ([],3,.loop 4,{ lv:=[⟨none,20,0⟩],ps:=[(I,0)],D:=⟨948568794590382506715297426795346965948258085424056526392331788662422807690348544⟩,rs:=[⟨0,4⟩,⟨0,5⟩],Dn:=⟨940230845404822055884948932560021050265194416236504030459632619378628390193989632⟩ }),
 ([],3,.region 33,{ lv:=[⟨none,246,0⟩],ps:=[(.bool,0)],D:=⟨225714712525438598104266255719907840396961067825860321900035192215132176384⟩,rs:=[⟨0,5⟩],Dn:=⟨211579936007211523467599875713964492270341196650855370235062342604791218176⟩ }),
 ([],3,.cond 252,{ lv:=[⟨none,21,0⟩],ps:=[((.sl gT),0)],D:=⟨448694345794600257266337566908665642931421190579357185652898138030663379451904⟩ })] []
theorem qid:KT qbw qil [qbt,qhh,qgd,qg5,qcJ,qdi,qdE,qeh,qeV,qfv,qdP,qe0,qdc,qia] 40:=λx=>by kernel_rfl
theorem qhI:OT qbw:=entK (qt qdN (qt qoR (qt qpy (qt qoQ (qt qff (qt qjy (qt qkN (qt ql9 (qt qmO (qt qor (qt qic (qt qmN (qt qm2 (qt qsX qE)))))))))))))) hJ qid
end
end Go.Proofs.YteiciemjanhdcaaGreatDoor
end
section
namespace Go.Proofs.YteiciemjanhdcaaGreatDoor.Mat
open Go Go.Ab Go.Tx Go.Proofs.YteiciemjanhdcaaGreatDoor
theorem wid {n:Int} (h1 : -9223372036854775808<=n) (h2:n<=9223372036854775807):w64 n = n:=qjr h1 h2
theorem qc8 (a b c:Int):qar a b c = some (decide (b<=a/\a<=c)):=by
 unfold qar;by_cases h:b<=a <;> simp [h]
theorem qkA (a b c:Int):q6 a b c = some (decide (b<=a/\a<=c)):=by
 unfold q6;by_cases h:b<=a <;> simp [h]
theorem qqD (a k:Int) (h0:0<=k) (h1:k<=4611686018427387904):qdw a k = some (decide (-k<=a/\a<=k)):=by
 unfold qdw;rw [qkA,wid (by omega) (by omega)];simp
theorem qdG (b:Bool) (e:Int):qz b e = some (if b then 0 else e):=by cases b <;> rfl
theorem qf0 (l:List Int) (h:l.length<=1000000000):qR l = some (qsl l):=by
 unfold qR;rw [qy9 l h]
instance (B:Int) (z:G):Decidable (Bd B z):=inferInstanceAs (Decidable (_/\_))
theorem qdg (z:G) (k:Int) (h0:0<=k) (h1:k<=4611686018427387904):qau z k = some (decide (Bd k z)):=by
 unfold qau;rw [qqD _ _ h0 h1,qqD _ _ h0 h1];unfold Bd;by_cases c : -k<=z.1/\z.1<=k <;> simp [c]
theorem qkn (z:G) (k:Int) (h0:0<=k) (h1:k<=4611686018427387904):qdU z k = some (decide (Bd k z)):=by
 unfold qdU;rw [wid (by omega) (by omega),qc8,qc8];unfold Bd;have e:(0:Int) - k = -k:=by omega
 rw [e];by_cases c : -k<=z.1/\z.1<=k <;> simp [c]
def qi4 (B:Int) (z:G):Bool:=!(decide (Bd B z))
def qzd (n:Nat) (i:Nat) (r:List G):Option (Int × Int):=if r.length = n then (if r.any (qi4 20) then some ((i:Int),2) else none) else some ((i:Int),10)
def qEw (m:Mx):Int × Int:=if m.length = 0 then (0,10) else if 3 < m.length then (0,8) else (qgb (qzd m.length) 0 m).getD (0,0)
def qhp (m:Mx):Int:=(qEw m).2
theorem qvj (r:List G) (h:r.length<=1000000000):qA r = some (r.any (qi4 20)):=by
 unfold qA qM;refine qu7 r qbX (qi4 20) (λx _=>?_) h;unfold qbX;rw [qdg _ _ (by omega) (by omega)]; rfl
theorem qpl {m:Mx} (h:m.length<=1000000000) (hr:∀ r ∈ m,r.length<=1000000000):qcG m = some (qEw m):=by
 unfold qcG qEw;simp only [qdG,qb];rw [qf0 _ (by simp)];simp only [qb];by_cases h0:m.length = 0
 ·have h0':¬ ((m.length:Int) > 0):=by omega
  simp [h0,qsl]
 ·have h0':(m.length:Int) > 0:=by omega
  by_cases h4:3 < m.length
  ·have h4':¬ ((m.length:Int)<=3):=by omega
   simp [h0,h0',h4,h4',qsl]
  ·have h4':(m.length:Int)<=3:=by omega
   simp only [h0,h0',h4,h4',decide_true,if_true,if_false,qsl,Bool.not_true,cond_false];rw [qgY m _ (qzd m.length) (λi r hi=>?_),qeq]
   ·cases qgb (qzd m.length) 0 m <;> rfl
   ·have hlt:=qik hi;rw [qaB hi];simp only [qb];rw [qvj r (hr r (List.mem_of_getElem? hi))];simp only [qb];rw [qf0 _ (by simp),wid (by omega) (by omega)];simp only [qb];unfold qzd;by_cases c:r.length = m.length
    ·have c':(r.length:Int) = (m.length:Int):=by omega
     cases hb:r.any (qi4 20)
     ·simp [c,c',hb,qsl,stp]
     ·simp [c,c',hb,qsl,stp]
    ·have c':¬ (r.length:Int) = (m.length:Int):=by omega
     simp [c,c',qsl,stp]
theorem qlw {m:Mx}:qcI m = some (qEw m):=by
 unfold qcI qEw;by_cases h0:m.length = 0
 ·simp [h0]
 have h0':¬ ((m.length:Int) = 0):=by omega
 by_cases h4:3 < m.length
 ·have h4':(m.length:Int) > 3:=by omega
  simp [h0,h0',h4,h4']
 have h4':¬ ((m.length:Int) > 3):=by omega
 simp only [h0,h0',h4,h4',decide_false,cond_false,if_false];rw [qgY m _ (qzd m.length) (λi r hi=>?_),qeq]
 ·cases qgb (qzd m.length) 0 m <;> rfl
 ·have hlt:=qik hi;rw [qaB hi];simp only [qb];unfold qzd;by_cases c:r.length = m.length
  case neg =>
   have c':¬ (r.length:Int) = (m.length:Int):=by omega
   simp [c,c',stp]
  have c':decide ((r.length:Int) = (m.length:Int)) = true:=decide_eq_true (by omega);simp only [c',Bool.not_true,cond_false];rw [if_pos c];rw [qgY r _ (λ_ z=>if qi4 20 z then some (Sum.inr (Sum.inr ((i:Int),(2:Int))):Int ⊕ (Unit ⊕ (Int × Int))) else none) (λk z hk=>?_),qeq]
  ·cases hf:qgb (λ_ z=>if qi4 20 z then some (Sum.inr (Sum.inr ((i:Int),(2:Int))):Int ⊕ (Unit ⊕ (Int × Int))) else none) 0 r with
   | none =>
    rw [qfn] at hf;have hb:r.any (qi4 20) = false:=by
     rw [List.any_eq_false];intro x hx;obtain ⟨k,hk⟩:=List.mem_iff_getElem?.1 hx;have:=hf k x hk;simpa using this
    simp only [hb,qj,if_false,stp];rw [wid (by omega) (by omega)]
   | some q =>
    obtain ⟨k,z,h1,h2,_⟩:=qfm hf;have hp:qi4 20 z = true:=by
     cases hp:qi4 20 z
     ·simp [hp] at h2
     ·rfl
    have hb:r.any (qi4 20) = true:=List.any_eq_true.2 ⟨z,List.mem_of_getElem? h1,hp⟩;simp only [hp,if_true,qe] at h2;simp only [hb,if_true,stp,<- h2]
  ·have hlk:=qik hk;simp only [qb,qaB hk];rw [qkn _ _ (by omega) (by omega)];simp only [qb];rw [wid (by omega) (by omega)];unfold qi4;by_cases d:Bd 20 z <;> simp [d,stp]
theorem qfU {m:Mx} (h:m.length<=1000000000) (hr:∀ r ∈ m,r.length<=1000000000):qbg m = some (qhp m):=by
 unfold qbg; rw [qpl h hr]; rfl
theorem qif {m:Mx}:qbO m = some (qhp m):=by
 unfold qbO; rw [qlw]; rfl
theorem qmH {m:Mx} (h:qhp m = 0):1<=m.length/\m.length<=3/\qFz m.length m.length m/\BdM 20 m:=by
 unfold qhp qEw at h;split at h
 ·cases h
 ·rename_i h1;split at h
  ·cases h
  ·rename_i h2;have hn:qgb (qzd m.length) 0 m = none:=by
    cases hf:qgb (qzd m.length) 0 m with
    | none=>rfl
    | some r =>
     exfalso
     rw [hf] at h;obtain ⟨i,a,_,h3,_⟩:=qfm hf;unfold qzd at h3;split at h3
     ·split at h3
      ·cases h3; cases h
      ·cases h3
     ·cases h3; cases h
   rw [qfn] at hn;have key:∀ r ∈ m,r.length = m.length/\r.any (qi4 20) = false:=λr hr=>by
    obtain ⟨i,hi⟩:=List.mem_iff_getElem?.1 hr;have:=hn i r hi;unfold qzd at this;split at this
    ·rename_i c;split at this
     ·cases this
     ·rename_i d; exact ⟨c,by simpa using d⟩
    ·cases this
   refine ⟨by omega,by omega,⟨rfl,λr hr=>(key r hr).1⟩,λr hr z hz=>?_⟩;have:=List.any_eq_false.1 (key r hr).2 z hz;unfold qi4 at this;simpa using this
theorem qFO {n c i k:Nat} (f:Nat->Nat->G) (hi:i < n) (hk:k < c):qcz (mx n c f) (i:Int) (k:Int) = some (f i k):=by
 unfold qcz;rw [qaB (qqR f hi),qb,qaB (qbb (λk=>f i k) hk)]; rfl
theorem qk0 {A B:Int} {a b:G} (h:Bd A a) (h':Bd B b) (hb:2 * (A * B)<=9000000000000000000):qaQ a b = some (qd6 a b):=congrArg some (qFa h h' hb)
theorem qrm {A B:Int} {a b:G} (h:Bd A a) (h':Bd B b) (hb:A + B<=9000000000000000000):qbr a b = some (qpz a b):=congrArg some (qE7 h h' hb)
theorem qDw {A B:Int} {a b:G} (h:Bd A a) (h':Bd B b) (hb:2 * (A * B)<=9000000000000000000):qkr a b = some (qd6 a b):=congrArg some (qFa h h' hb)
theorem qDi {A B:Int} {a b:G} (h:Bd A a) (h':Bd B b) (hb:A + B<=9000000000000000000):qj8 a b = some (qpz a b):=congrArg some (qE7 h h' hb)
theorem le_next {i n:Nat} {A:Int} (hA:0<=A) (h:i < n) (hb:(n:Int) * A<=9000000000000000000):(i:Int) * A + A<=9000000000000000000:=by
 have:((i + 1:Nat):Int) * A<=(n:Int) * A:=Int.mul_le_mul_of_nonneg_right (by omega) hA;have e:((i + 1:Nat):Int) * A = (i:Int) * A + A:=by rw [Int.natCast_add,Int.add_mul]; simp
 omega
theorem qxt {n c:Nat} (hn:n<=1000) (f:Nat->Nat->G) (hc:c < n + 1):qaf (mx (n + 1) (n + 1) f) 0 (c:Int) = some (mx n n (minor f 0 c)):=by
 unfold qaf;rw [qh1];refine Ok.eq ?_;rw [qeb];refine (qbc (n + 1) (λi (s:Mx × Int)=>s = (mkL (i - 1) (λj=>mkL n λk=>minor f 0 c j k),(i:Int))) (λr=>r = mx n n (minor f 0 c)) rfl ?_).mono (λa ha=>by rw [ha]; exact qc1.2 rfl);rintro i s hi rfl;by_cases hlt:i < n + 1
 ·have e0:decide ((i:Int) < ((n + 1:Nat):Int)) = true:=decide_eq_true (by omega);simp only [e0,cond_true];rw [qaB (qqR f hlt)];simp only [qb];by_cases hz:i = 0
  ·subst hz;simp only [Int.ofNat_eq_natCast,Int.natCast_zero,decide_true,Bool.not_true,cond_false,qb];rw [wid (by omega) (by omega),qaE];exact ⟨by omega,rfl⟩
  ·have e1:decide ((i:Int) = 0) = false:=decide_eq_false (by omega);simp only [e1,Bool.not_false,cond_true];rw [qpJ (by rw [qad]; omega)];simp only [qb,decide_true,cond_true];rw [wid (n:=(c:Int) + 1) (by omega) (by omega),qpJ (by rw [qad]; omega)];simp only [qb,qad];have e2:((c:Int) + 1).toNat = c + 1:=by omega
   have e3:((n + 1:Nat):Int).toNat = n + 1:=by omega
   have e4:(0:Int).toNat = 0:=rfl;rw [e2,e3,e4,Int.toNat_natCast,qyE (by simp [qad]; omega)];simp only [qb];rw [qzx (λk=>f i k) hc,qdZ (by rw [qad]; omega)];simp only [qb];rw [wid (by omega) (by omega),qaE];refine ⟨hlt,?_⟩;have e5:i + 1 - 1 = (i - 1) + 1:=by omega
   rw [e5,qfW];congr 1
   congr 2
   refine qcc λk hk=>?_;unfold minor;congr 1
   all_goals (unfold skip; rw [if_neg (by omega)]; omega)
 ·have:i = n + 1:=by omega
  subst this;have e0:decide (((n + 1:Nat):Int) < ((n + 1:Nat):Int)) = false:=by simp
  simp only [e0,cond_false];rw [qaq];rfl
theorem qq9 {n c:Nat} (hn:n<=1000) (f:Nat->Nat->G) (hc:c < n + 1):qdx (mx (n + 1) (n + 1) f) 0 (c:Int) = some (mx n n (minor f 0 c)):=by
 unfold qdx;rw [qh1];refine Ok.eq ?_;rw [qeb];refine (qbc (n + 1) (λi (s:Mx × Int)=>s = (mkL (i - 1) (λj=>mkL n λk=>minor f 0 c j k),(i:Int))) (λr=>r = mx n n (minor f 0 c)) rfl ?_).mono (λa ha=>by rw [ha]; exact qc1.2 rfl);rintro i s hi rfl;by_cases hlt:i < n + 1
 ·have e0:decide ((i:Int) < ((n + 1:Nat):Int)) = true:=decide_eq_true (by omega);simp only [e0,cond_true];by_cases hz:i = 0
  ·subst hz;simp only [Int.ofNat_eq_natCast,Int.natCast_zero,decide_true,cond_true,qb];rw [wid (by omega) (by omega),qaE];exact ⟨by omega,rfl⟩
  ·have e1:decide ((i:Int) = 0) = false:=decide_eq_false (by omega);simp only [e1,cond_false];rw [qrv,qeb];refine (qbc (n + 1) (λk (s:List G × Int)=>s = (mkL (if k<=c then k else k - 1) (λk=>f i (skip c k)),(k:Int))) (λr=>r = mkL n λk=>f i (skip c k)) ?_ ?_).mono ?_
   ·simp [qvR]
   ·rintro k s hk rfl;by_cases hlt2:k < n + 1
    ·have e2:decide ((k:Int) < ((n + 1:Nat):Int)) = true:=decide_eq_true (by omega);simp only [e2,cond_true];by_cases hkc:k = c
     ·subst hkc;simp only [decide_true,Bool.not_true,cond_false,qb];rw [wid (by omega) (by omega),qaE];refine ⟨hlt2,?_⟩;rw [if_pos (by omega),if_neg (by omega)];rfl
     ·have e3:decide ((k:Int) = (c:Int)) = false:=decide_eq_false (by omega);simp only [e3,Bool.not_false,cond_true];rw [qaB (qqR f hlt)];simp only [qb];rw [qaB (qbb (λk=>f i k) hlt2)];simp only [qb];rw [qdZ (by rw [qad]; split <;> omega)];simp only [qb];rw [wid (by omega) (by omega),qaE];refine ⟨hlt2,?_⟩;congr 1
      by_cases hkl:k < c
      ·rw [if_pos (by omega),if_pos (by omega),qfW];congr 3
       unfold skip; rw [if_pos hkl]
      ·rw [if_neg (by omega),if_neg (by omega)];have e5:k + 1 - 1 = (k - 1) + 1:=by omega
       rw [e5,qfW];congr 3
       unfold skip; rw [if_neg (by omega)]; omega
    ·have:k = n + 1:=by omega
     subst this;have e2:decide (((n + 1:Nat):Int) < ((n + 1:Nat):Int)) = false:=by simp
     simp only [e2,cond_false];rw [qaq,if_neg (by omega)];rfl
   ·rintro r rfl;rw [qdZ (by rw [qad]; omega)];simp only [qb];rw [qc1,wid (by omega) (by omega),qaE];refine ⟨hlt,?_⟩;have e5:i + 1 - 1 = (i - 1) + 1:=by omega
    rw [e5,qfW];congr 1
    congr 2
    refine qcc λk hk=>?_;unfold minor;congr 1
    all_goals (unfold skip; rw [if_neg (by omega)]; omega)
 ·have:i = n + 1:=by omega
  subst this;have e0:decide (((n + 1:Nat):Int) < ((n + 1:Nat):Int)) = false:=by simp
  simp only [e0,cond_false];rw [qaq];rfl
theorem qzG {B:Int} (hB:1<=B) (n:Nat):dB B n<=dB B (n + 1):=by
 have e:dB B (n + 1) = ((n + 1:Nat):Int) * (2 * (B * dB B n)):=rfl;rw [e];have h0:=qkH (show 0<=B by omega) n;have h1:dB B n<=B * dB B n:=by
  have:=Int.mul_le_mul_of_nonneg_right hB h0; omega
 have h2:(1:Int) * (2 * (B * dB B n))<=((n + 1:Nat):Int) * (2 * (B * dB B n)):=Int.mul_le_mul_of_nonneg_right (by omega) (by omega);omega
theorem qCS {B:Int} (hB:1<=B):∀ (k n:Nat) (f:Nat->Nat->G),n<=100->n < k->BdF B n n f->dB B n<=9000000000000000000->qap k (mx n n f) = some (qjh n f)
 | 0,n,f,_,h,_,_=>by omega
 | k + 1,0,f,_,_,_,_=>rfl
 | k + 1,n + 1,f,hn,hk,hf,hb=>by
  have hB0:0<=B:=by omega
  have hD0:=qkH hB0 n;have h0:0<=2 * (B * dB B n):=by have:=Int.mul_nonneg hB0 hD0; omega
  have hDn:dB B n<=9000000000000000000:=by have:=qzG hB n; omega
  have hb1:2 * (B * dB B n)<=9000000000000000000:=by
   have h9:(1:Int) * (2 * (B * dB B n))<=((n + 1:Nat):Int) * (2 * (B * dB B n)):=Int.mul_le_mul_of_nonneg_right (by omega) h0;simp only [dB] at hb;omega
  have hunf:qap (k + 1) (mx (n + 1) (n + 1) f) = (bif decide (((mx (n + 1) (n + 1) f).length:Int) = 0) then some (1,0,()) else
   (qab (λ(s2:(Int × Int × Int)) =>
    bif decide (s2.1 < ((mx (n + 1) (n + 1) f).length:Int)) then
     (qcz (mx (n + 1) (n + 1) f) (0:Int) s2.1).bind λx3 =>
     (qaf (mx (n + 1) (n + 1) f) (0:Int) s2.1).bind λx4 =>
     (qap k x4).bind λx5 =>
     (qaQ x3 x5).bind λx6 =>
     (bif decide (s2.1.tmod 2 = 1) then
       (qae (0,0,()) x6).bind λx7 =>
       some (x7.1,x7.2.1)
      else
       some (x6.1,x6.2.1)).bind λ(p8:(Int × Int)) =>
     (qbr (s2.2.1,s2.2.2,()) (p8.1,p8.2,())).bind λx9 =>
     some (.inl (w64 (s2.1 + 1),x9.1,x9.2.1))
    else
     some (.inr (s2.2.1,s2.2.2))) (0,0,0)).bind λ(p10:(Int × Int)) =>
   some (p10.1,p10.2,())):=rfl
  rw [hunf,qh1];have e0:decide (((n + 1:Nat):Int) = 0) = false:=decide_eq_false (by omega);rw [e0,cond_false];have htb:∀ j,j < n + 1->Bd (2 * (B * dB B n)) (qd6 (f 0 j) (qjh n (minor f 0 j))):=λj hj=>(hf 0 j (by omega) hj).mul (qoV hB0 n _ (qey hf));rw [qq8 (n + 1) (by omega) h0 hb (λj=>if j % 2 = 1 then qr9 (qd6 (f 0 j) (qjh n (minor f 0 j))) else qd6 (f 0 j) (qjh n (minor f 0 j)))
   (λj hj=>by
           split; · exact (htb j hj).neg
           ·exact htb j hj) (λj hj x y hxy=>?_) (λx y=>?_)]
  ·rfl
  ·have e1:decide ((j:Int) < ((n + 1:Nat):Int)) = true:=decide_eq_true (by omega);simp only [e1,cond_true];have hat:=qFO (n:=n + 1) (c:=n + 1) f (i:=0) (k:=j) (by omega) hj;simp only [Int.natCast_zero] at hat;rw [hat];simp only [qb];rw [qxt (by omega) f hj];simp only [qb];rw [qCS hB k n _ (by omega) (by omega) (qey hf) hDn];simp only [qb];rw [qk0 (hf 0 j (by omega) hj) (qoV hB0 n _ (qey (r:=0) (c:=j) hf)) hb1];simp only [qb];have htm:(j:Int).tmod 2 = ((j % 2:Nat):Int):=by rw [Int.tmod_eq_emod_of_nonneg (by omega)]; omega
   rw [htm];by_cases hp:j % 2 = 1
   ·have e2:decide (((j % 2:Nat):Int) = 1) = true:=decide_eq_true (by omega);rw [e2,cond_true,if_pos hp];have hm:qae (0,0,()) (qd6 (f 0 j) (qjh n (minor f 0 j))) = some (qr9 (qd6 (f 0 j) (qjh n (minor f 0 j)))):=by
     have:=qBI (a:=g0) (qrF (B:=0) (by omega)) (htb j hj) (by omega);rw [qsY] at this;exact congrArg some this
    rw [hm];simp only [qb,qGg];rw [qrm hxy (htb j hj).neg (le_next h0 hj hb)];rfl
   ·have e2:decide (((j % 2:Nat):Int) = 1) = false:=decide_eq_false (by omega);rw [e2,cond_false,if_neg hp];simp only [qb,qGg];rw [qrm hxy (htb j hj) (le_next h0 hj hb)];rfl
  ·have e1:decide (((n + 1:Nat):Int) < ((n + 1:Nat):Int)) = false:=by simp
   simp only [e1,cond_false]
theorem qDz (n:Nat) (h:n<=1000000000):qku (n:Int) 2 = some ((n % 2:Nat):Int):=by
 unfold qku;have e:((n:Int).tmod 2) = ((n % 2:Nat):Int):=by rw [Int.tmod_eq_emod_of_nonneg (by omega)]; omega
 rw [e];have e1:decide ((2:Int) = 0) = false:=by decide
 have e2:decide (((n % 2:Nat):Int) < 0) = false:=decide_eq_false (by omega);simp only [e1,e2,cond_false,qb]
theorem qsA {B:Int} (hB:1<=B):∀ (k n:Nat) (f:Nat->Nat->G),n<=100->n < k->BdF B n n f->dB B n<=9000000000000000000->qbf k (mx n n f) = some (qjh n f)
 | 0,n,f,_,h,_,_=>by omega
 | k + 1,0,f,_,_,_,_=>rfl
 | k + 1,n + 1,f,hn,hk,hf,hb=>by
  have hB0:0<=B:=by omega
  have hD0:=qkH hB0 n;have h0:0<=2 * (B * dB B n):=by have:=Int.mul_nonneg hB0 hD0; omega
  have hDn:dB B n<=9000000000000000000:=by have:=qzG hB n; omega
  have hb1:2 * (B * dB B n)<=9000000000000000000:=by
   have h9:(1:Int) * (2 * (B * dB B n))<=((n + 1:Nat):Int) * (2 * (B * dB B n)):=Int.mul_le_mul_of_nonneg_right (by omega) h0;simp only [dB] at hb;omega
  have hunf:qbf (k + 1) (mx (n + 1) (n + 1) f) = (bif decide (((mx (n + 1) (n + 1) f).length:Int) = 0) then some (1,0,()) else
   (qab (λ(s2:(Int × Int × Int)) =>
    bif decide (s2.1 < ((mx (n + 1) (n + 1) f).length:Int)) then
     (idx (mx (n + 1) (n + 1) f) 0).bind λx3 =>
     (idx x3 s2.1).bind λx4 =>
     (qdx (mx (n + 1) (n + 1) f) (0:Int) s2.1).bind λx5 =>
     (qbf k x5).bind λx6 =>
     (qkr x4 x6).bind λx7 =>
     (qku s2.1 (2:Int)).bind λx8 =>
     (bif decide (x8 = 0) then
       (qj8 (s2.2.1,s2.2.2,()) x7).bind λx9 =>
       some (x9.1,x9.2.1)
      else
       (qfq (s2.2.1,s2.2.2,()) x7).bind λx10 =>
       some (x10.1,x10.2.1)).bind λ(p11:(Int × Int)) =>
     some (.inl (w64 (s2.1 + 1),p11.1,p11.2))
    else
     some (.inr (s2.2.1,s2.2.2))) (0,0,0)).bind λ(p12:(Int × Int)) =>
   some (p12.1,p12.2,())):=rfl
  rw [hunf,qh1];have e0:decide (((n + 1:Nat):Int) = 0) = false:=decide_eq_false (by omega);rw [e0,cond_false];have htb:∀ j,j < n + 1->Bd (2 * (B * dB B n)) (qd6 (f 0 j) (qjh n (minor f 0 j))):=λj hj=>(hf 0 j (by omega) hj).mul (qoV hB0 n _ (qey hf));rw [qq8 (n + 1) (by omega) h0 hb (λj=>if j % 2 = 1 then qr9 (qd6 (f 0 j) (qjh n (minor f 0 j))) else qd6 (f 0 j) (qjh n (minor f 0 j)))
   (λj hj=>by
           split; · exact (htb j hj).neg
           ·exact htb j hj) (λj hj x y hxy=>?_) (λx y=>?_)]
  ·rfl
  ·have e1:decide ((j:Int) < ((n + 1:Nat):Int)) = true:=decide_eq_true (by omega);simp only [e1,cond_true];rw [qwA,qqR f (by omega)];simp only [qb];rw [qaB (qbb (λk=>f 0 k) hj)];simp only [qb];rw [qq9 (by omega) f hj];simp only [qb];rw [qsA hB k n _ (by omega) (by omega) (qey hf) hDn];simp only [qb];rw [qDw (hf 0 j (by omega) hj) (qoV hB0 n _ (qey (r:=0) (c:=j) hf)) hb1];simp only [qb];rw [qDz j (by omega)];simp only [qb];by_cases hp:j % 2 = 1
   ·have e2:decide (((j % 2:Nat):Int) = 0) = false:=decide_eq_false (by omega);rw [e2,cond_false,if_pos hp];have hm:qfq (x,y,()) (qd6 (f 0 j) (qjh n (minor f 0 j))) = some (qpz (x,y,()) (qr9 (qd6 (f 0 j) (qjh n (minor f 0 j))))):=by
     have:=qBI hxy (htb j hj) (le_next h0 hj hb);rw [qDU] at this;exact congrArg some this
    rw [hm];rfl
   ·have e2:decide (((j % 2:Nat):Int) = 0) = true:=decide_eq_true (by omega);rw [e2,cond_true,if_neg hp];rw [qDi hxy (htb j hj) (le_next h0 hj hb)];rfl
  ·have e1:decide (((n + 1:Nat):Int) < ((n + 1:Nat):Int)) = false:=by simp
   simp only [e1,cond_false]
end Go.Proofs.YteiciemjanhdcaaGreatDoor.Mat
end
section
namespace Go.Proofs.YteiciemjanhdcaaGreatDoor.Mat
open Go Go.Ab Go.Tx Go.Proofs.YteiciemjanhdcaaGreatDoor
theorem qcj {l:List G} (h:l.length<=1000000000):qO l = some l:=by
 unfold qO; rw [qDW (by omega)]; rfl
theorem qhg {m:Mx} (h:m.length<=1000000000) (hr:∀ r ∈ m,r.length<=1000000000):qbq m = some m:=by
 unfold qbq;rw [qAW m (λr=>r) (λi a out hi ho=>?_) (λout ho=>?_)]
 ·simp
 ·have hlt:=qik hi;have e0:decide ((i:Int) < (m.length:Int)) = true:=decide_eq_true (by omega);simp only [e0,cond_true,qaB hi,qb];rw [qcj (hr a (List.mem_of_getElem? hi))];simp only [qb];rw [qdZ (by omega)];simp only [qb];rw [wid (by omega) (by omega)]
 ·have e0:decide ((m.length:Int) < (m.length:Int)) = false:=by simp
  simp only [e0,cond_false]
theorem qvp (a b:G):(bif decide (a.1 = b.1) then (bif decide (a.2.1 = b.2.1) then true else false) else false) = decide (a = b):=by
 rw [Bool.eq_iff_iff];rw [decide_eq_true_iff,qB2];by_cases h1:a.1 = b.1 <;> by_cases h2:a.2.1 = b.2.1 <;> simp [h1,h2]
theorem qpO {l m:List G} (hl:l.length<=1000000000):qeK l m = some (decide (l = m)):=by
 unfold qeK;by_cases h:l.length = m.length
 case neg =>
  have d:decide ((l.length:Int) = (m.length:Int)) = false:=decide_eq_false (by omega);rw [d];have:decide (l = m) = false:=decide_eq_false (λe=>h (by rw [e]));rw [this]; rfl
 have d:decide ((l.length:Int) = (m.length:Int)) = true:=decide_eq_true (by omega);rw [d];simp only [Bool.not_true,cond_false];refine qzE g0 h hl (λa b=>decide (a = b)) (λa b _ _=>by simp) (K:=_) (λi hi=>?_);rw [qvT g0 (by omega) (by omega),qvT g0 (l:=m) (by omega) (by omega)];simp only [qb,Int.toNat_natCast];rw [qvp,wid (by omega) (by omega)];by_cases c:l.getD i g0 = m.getD i g0
 ·simp only [c,decide_true,Bool.not_true,cond_false,if_true]
 ·simp only [c,decide_false,Bool.not_false,cond_true,qj,if_false]
end Go.Proofs.YteiciemjanhdcaaGreatDoor.Mat
end
section
set_option maxRecDepth 1000000
namespace Go.Tx
open Go
def dd (a b c d e f g h i:G):G:=qpz (qrN (qd6 a (qrN (qd6 e i) (qd6 f h))) (qd6 b (qrN (qd6 d i) (qd6 f g)))) (qd6 c (qrN (qd6 d h) (qd6 e g)))
theorem qDn (f:Nat->Nat->G):qjh 1 f = f 0 0:=by
 simp only [qjh,qpf];exact qDu (by simp [qd6,g1,g0,qpz]) (by simp [qd6,g1,g0,qpz])
end Go.Tx
end
section
namespace Go.Proofs.YteiciemjanhdcaaGreatDoor.Mat
open Go Go.Ab Go.Tx Go.Proofs.YteiciemjanhdcaaGreatDoor
theorem qEb {n:Int} (h : -9223372036854775807<=n/\n<=9223372036854775807):qdR n = some (n.natAbs:Int):=by
 unfold qdR;rw [wid (by omega) (by omega)];congr 1; omega
theorem qyf (l:List Int) (hl:l.length<=1000000000) (hb:∀ x ∈ l,x.natAbs<=4611686018427387904):qaF l = some (quk l:Int):=by
 unfold qaF; exact qsV l hl hb
theorem qvB {n r c:Nat} (hn:n<=1000) (f:Nat->Nat->G) (hr:r < n + 1) (hc:c < n + 1):qaf (mx (n + 1) (n + 1) f) (r:Int) (c:Int) = some (mx n n (minor f r c)):=by
 unfold qaf;rw [qh1];refine Ok.eq ?_;rw [qeb];refine (qbc (n + 1) (λi (s:Mx × Int)=>s = (mkL (if i<=r then i else i - 1) (λj=>mkL n λk=>minor f r c j k),(i:Int))) (λq=>q = mx n n (minor f r c)) (by simp [qvR]) ?_).mono (λa ha=>by rw [ha]; exact qc1.2 rfl);rintro i s hi rfl;by_cases hlt:i < n + 1
 ·have e0:decide ((i:Int) < ((n + 1:Nat):Int)) = true:=decide_eq_true (by omega);simp only [e0,cond_true];rw [qaB (qqR f hlt)];simp only [qb];by_cases hz:i = r
  ·subst hz;simp only [decide_true,Bool.not_true,cond_false,qb];rw [wid (by omega) (by omega),qaE];refine ⟨hlt,?_⟩;rw [if_pos (Nat.le_refl _),if_neg (by omega)]; rfl
  ·have e1:decide ((i:Int) = (r:Int)) = false:=decide_eq_false (by omega);simp only [e1,Bool.not_false,cond_true];rw [qpJ (by rw [qad]; omega)];simp only [qb,decide_true,cond_true];rw [wid (n:=(c:Int) + 1) (by omega) (by omega),qpJ (by rw [qad]; omega)];simp only [qb,qad];have e2:((c:Int) + 1).toNat = c + 1:=by omega
   have e3:((n + 1:Nat):Int).toNat = n + 1:=by omega
   have e4:(0:Int).toNat = 0:=rfl;rw [e2,e3,e4,Int.toNat_natCast,qyE (by simp [qad]; omega)];simp only [qb];rw [qzx (λk=>f i k) hc,qdZ (by rw [qad]; split <;> omega)];simp only [qb];rw [wid (by omega) (by omega),qaE];refine ⟨hlt,?_⟩;congr 1
   by_cases hir:i < r
   ·rw [if_pos (by omega),if_pos (by omega),qfW];congr 2
    refine qcc λk hk=>?_;unfold minor;rw [show skip r i = i by unfold skip; rw [if_pos hir]]
   ·rw [if_neg (by omega),if_neg (by omega)];have e5:i + 1 - 1 = (i - 1) + 1:=by omega
    rw [e5,qfW];congr 2
    refine qcc λk hk=>?_;unfold minor;rw [show skip r (i - 1) = i by unfold skip; rw [if_neg (by omega)]; omega]
 ·have:i = n + 1:=by omega
  subst this;have e0:decide (((n + 1:Nat):Int) < ((n + 1:Nat):Int)) = false:=by simp
  simp only [e0,cond_false];rw [qaq,if_neg (by omega)];rfl
def parts (l:List G):List Int:=l.flatMap λz=>[z.1,z.2.1]
def qmz (m:Mx):List Int:=m.flatMap parts
theorem qcd (l:List G) (z:G):parts (l ++ [z]) = parts l ++ [z.1] ++ [z.2.1]:=by simp [parts]
theorem qxb (m:Mx) (r:List G):qmz (m ++ [r]) = qmz m ++ parts r:=by simp [qmz]
theorem qvV:∀ (l m:List Int) (g:Nat),qpe g (l ++ m) = qpe (qpe g l) m
 | [],m,g=>rfl
 | x :: l,m,g=>by simp only [List.cons_append,qpe]; exact qvV l m _
def qg (den:Int) (m:Mx):Nat:=qpe den.natAbs (qmz m)
def qDf (g:Int) (f:Nat->Nat->G) (i k:Nat):G:=((f i k).1.tdiv g,(f i k).2.1.tdiv g,())
theorem qvZ {B:Int} {l:List G} (h:∀ z ∈ l,Bd B z) {x:Int} (hx:x ∈ parts l) : -B<=x/\x<=B:=by
 unfold parts at hx;obtain ⟨z,hz,hx⟩:=List.mem_flatMap.1 hx;have:=h z hz;unfold Bd at this;simp only [qp,List.not_mem_nil,or_false] at hx;rcases hx with rfl | rfl <;> omega
theorem qyJ {B:Int} {m:Mx} (h:BdM B m) {x:Int} (hx:x ∈ qmz m) : -B<=x/\x<=B:=by
 unfold qmz at hx;obtain ⟨r,hr,hx⟩:=List.mem_flatMap.1 hx;exact qvZ (h r hr) hx
theorem qF5 {B:Int} {den:Int} {m:Mx} (h0:0<=den) (hd:den<=B) (h:BdM B m):(qg den m:Int)<=B:=by
 have:qg den m<=B.toNat:=qrh (by omega) λx hx=>by have:=qyJ h hx; omega
 omega
theorem qE2 {den:Int} {m:Mx} (h:den ≠ 0):0 < qg den m:=by
 rcases Nat.eq_zero_or_pos (qg den m) with h0 | h0
 ·have:=(qtf.1 h0).1; omega
 ·exact h0
theorem qDN {B:Int} (hB:B<=4611686018427387904) {r:List G} (hl:r.length<=1000000) (h:∀ z ∈ r,Bd B z) {g:Nat} (hg:(g:Int)<=B) {K:Nat × Int->Prop} :
  Ok (qab (λ(s5:(Int × Int)) =>
      bif decide (s5.1 < (r.length:Int)) then
       (idx r s5.1).bind λx6 =>
       (qaF ([s5.2,x6.1,x6.2.1])).bind λx7 =>
       some (.inl (w64 (s5.1 + 1),x7))
      else
       some (.inr s5.2)) (0,(g:Int))) λx=>x = (qpe g (parts r):Int):=by
 refine qbc r.length (λi (s:Int × Int)=>s = ((i:Int),(qpe g (parts (r.take i)):Int))) _ rfl ?_;rintro i s hi rfl;by_cases hlt:i < r.length
 ·have e0:decide ((i:Int) < (r.length:Int)) = true:=decide_eq_true (by omega);have hz:r[i]? = some (r.getD i g0):=qgi _ hlt;have hb:=h _ (qbj (d:=g0) hlt);have hgb:qpe g (parts (r.take i))<=B.toNat:=qrh (by omega) λx hx=>by
   have:=qvZ (λz hz=>h z (List.mem_of_mem_take hz)) hx; omega
  unfold Bd at hb;simp only [e0,cond_true];rw [qaB hz];simp only [qb];rw [qyf _ (by simp) (by
   intro x hx;simp only [qp,List.not_mem_nil,or_false] at hx;rcases hx with rfl | rfl | rfl <;> omega)]
  simp only [qb];rw [wid (by omega) (by omega),qaE];refine ⟨hlt,?_⟩;congr 2
  rw [qhS g0 hlt,qcd,qj9,qj9,qxO];rfl
 ·have:i = r.length:=by omega
  subst this;have e0:decide ((r.length:Int) < (r.length:Int)) = false:=by simp
  simp only [e0,cond_false];rw [qaq,List.take_length]
theorem qDJ {B den:Int} (hB:B<=4611686018427387904) {m:Mx} (hl:m.length<=1000000) (hr:∀ r ∈ m,r.length<=1000000) (h:BdM B m) (h0:0<=den) (hd:den<=B) :
  qab (λ(s2:(Int × Int)) =>
   bif decide (s2.1 < (m.length:Int)) then
    (idx m s2.1).bind λx3 =>
    (qab (λ(s5:(Int × Int)) =>
      bif decide (s5.1 < (x3.length:Int)) then
       (idx x3 s5.1).bind λx6 =>
       (qaF ([s5.2,x6.1,x6.2.1])).bind λx7 =>
       some (.inl (w64 (s5.1 + 1),x7))
      else
       some (.inr s5.2)) (0,s2.2)).bind λ(p8:Int) =>
    some (.inl (w64 (s2.1 + 1),p8))
   else
    some (.inr s2.2)) (0,den) = some (qg den m:Int):=by
 refine Ok.eq (qbc m.length (λi (s:Int × Int)=>s = ((i:Int),(qg den (m.take i):Int))) _ (by
  have:((qg den (m.take 0):Nat):Int) = den:=by simp [qg,qmz,qpe] <;> omega
  rw [this]; rfl) ?_)
 rintro i s hi rfl;by_cases hlt:i < m.length
 ·have e0:decide ((i:Int) < (m.length:Int)) = true:=decide_eq_true (by omega);have hz:m[i]? = some (m.getD i []):=qgi _ hlt;have hmem:=qbj (d:=([]:List G)) hlt;simp only [e0,cond_true];rw [qaB hz];simp only [qb];rw [qrv];refine (qDN hB (hr _ hmem) (h _ hmem) (qF5 h0 hd (λr hr=>h r (List.mem_of_mem_take hr))) (K:=λ_=>True)).mono ?_;rintro x rfl;rw [wid (by omega) (by omega),qaE];refine ⟨hlt,?_⟩;congr 2
  rw [qhS [] hlt];unfold qg;rw [qxb,qvV]
 ·have:i = m.length:=by omega
  subst this;have e0:decide ((m.length:Int) < (m.length:Int)) = false:=by simp
  simp only [e0,cond_false];rw [qaq,List.take_length]
theorem qlB {x g B:Int} (h : -B<=x/\x<=B) : -B<=x.tdiv g/\x.tdiv g<=B:=by
 have h1:(x.tdiv g).natAbs<=x.natAbs:=by rw [Int.natAbs_tdiv]; exact Nat.div_le_self _ _
 omega
def qD5 (n c:Nat) (f:Nat->Nat->G) (den:Int):Int × Mx × Unit:=(den.tdiv (qg den (mx n c f)),mx n c (qDf (qg den (mx n c f)) f),())
theorem qEJ {n c:Nat} (hn:n<=1000) (hc:c<=1000) (m:Mx) (g:Int) (f:Nat->Nat->G) (h:∀ i k:Nat,i < n->k < c->qcb i k m g = some (f i k)):qat (n:Int) (c:Int) m g = some (mx n c f):=by
 unfold qat;exact qtR n c hn hc (λi k=>qcb i k m g) f h
theorem quL {n c:Nat} {B den:Int} {f:Nat->Nat->G} (hB:B<=4611686018427387904) (hn:1<=n) (hn2:n<=1000) (hc:c<=1000) (h:BdF B n c f) (h0:0 < den) (hd:den<=B) :
  qet (mx n c f) den = some (qD5 n c f den):=by
 unfold qet;rw [qDJ hB (by rw [qh1]; omega) (λr hr=>by rw [(qDp n c f).2 r hr]; omega) (qFl.2 h) (by omega) hd];simp only [qb];rw [qwA,qqR f (by omega),qb,qad,qh1];have hg:0 < qg den (mx n c f):=qE2 (by omega);have hgne:decide ((qg den (mx n c f):Int) = 0) = false:=decide_eq_false (by omega);have hm:=qEJ hn2 hc (mx n c f) (qg den (mx n c f)) (qDf (qg den (mx n c f)) f) (λi k hi hk=>by
  unfold qcb;rw [qaB (qqR f hi)];simp only [qb];rw [qaB (qbb (λk=>f i k) hk)];simp only [qb,hgne,cond_false];have hb:=h i k hi hk;unfold Bd at hb;have t1:=qlB (g:=(qg den (mx n c f):Int)) hb.1;have t2:=qlB (g:=(qg den (mx n c f):Int)) hb.2;rw [wid (by omega) (by omega),wid (by omega) (by omega)];rfl)
 rw [hm];simp only [qb,hgne,cond_false];have t3:=qlB (g:=(qg den (mx n c f):Int)) (B:=B) (x:=den) (by omega);rw [wid (by omega) (by omega)];rfl
end Go.Proofs.YteiciemjanhdcaaGreatDoor.Mat
end
section
namespace Go.Proofs.YteiciemjanhdcaaGreatDoor.Mat
open Go Go.Ab Go.Tx Go.Proofs.YteiciemjanhdcaaGreatDoor
def dC (B:Int):Nat->Int
 | 0=>1
 | 1=>B
 | n + 2=>((n + 2:Nat):Int) * (2 * (B * dC B (n + 1)))
theorem qr5 {B:Int} (hB:0<=B):∀ (n:Nat) (f:Nat->Nat->G),BdF B n n f->Bd (dC B n) (qjh n f)
 | 0,f,_=>qCZ (by simp [dC])
 | 1,f,h=>by rw [qDn]; exact h 0 0 (by omega) (by omega)
 | n + 2,f,h=>by
  simp only [qjh,dC];refine Bd.sum λk hk=>?_;have h1:=(h 0 k (by omega) hk).mul (qr5 hB (n + 1) _ (qey (r:=0) (c:=k) h));split
  ·exact h1.neg
  ·exact h1
def qFp (n:Nat) (f:Nat->Nat->G) (i k:Nat):G:=qjh n (minor f k i)
def qFx (n:Nat) (f:Nat->Nat->G) (i k:Nat):G:=if (i + k) % 2 = 1 then qr9 (qFp n f i k) else qFp n f i k
def qyl (n:Nat) (f:Nat->Nat->G) (d:G) (i k:Nat):G:=qd6 (qFx n f i k) (qtN d)
def norm (d:G):Int:=d.1 * d.1 + d.2.1 * d.2.1
theorem qBh (d:G):qd6 d (qtN d) = (norm d,0,()):=qDu (by simp only [qd6,qtN,norm]; grind) (by simp only [qd6,qtN]; grind)
theorem qqY {d:G} (h:d ≠ g0):0 < norm d:=by
 unfold norm;have h1:=sq_nonneg d.1;have h2:=sq_nonneg d.2.1;rcases Int.lt_or_le 0 (d.1 * d.1 + d.2.1 * d.2.1) with h3 | h3
 ·exact h3
 ·exfalso
  have e1:=qAR (show d.1 * d.1 = 0 by omega);have e2:=qAR (show d.2.1 * d.2.1 = 0 by omega);exact h (qDu e1 e2)
theorem qyp {B:Int} {d:G} (h:Bd B d) (hB:B<=9000000000000000000):qce d = some (qtN d):=by
 unfold qce qtN;unfold Bd at h;rw [wid (by omega) (by omega)];have e:(0:Int) - d.2.1 = -d.2.1:=by omega
 rw [e]
theorem neg_mul (a b:G):qd6 (qr9 a) b = qr9 (qd6 a b):=qDu (by simp only [qd6,qr9]; grind) (by simp only [qd6,qr9]; grind)
theorem qzv {B:Int} {a:G} (h:Bd B a) (hB:B<=9000000000000000000):qae (0,0,()) a = some (qr9 a):=by
 have:=qBI (a:=g0) (qrF (B:=0) (by omega)) h (by omega);rw [qsY] at this;exact congrArg some this
theorem qFX (j:Nat):(j:Int).tmod 2 = ((j % 2:Nat):Int):=by rw [Int.tmod_eq_emod_of_nonneg (by omega)]; omega
theorem qBi {n c:Nat} (hn:n<=1000) (hc:c<=1000) (m:Mx) (d:G) (f:Nat->Nat->G) (h:∀ i k:Nat,i < n->k < c->qaP i k m d = some (f i k)):qac (n:Int) (c:Int) m d = some (mx n c f):=by
 unfold qac;exact qtR n c hn hc (λi k=>qaP i k m d) f h
structure InvB (n:Nat) (f:Nat->Nat->G) (d:G) (B M D Q:Int):Prop where
 hB:1<=B
 hf:BdF B (n + 1) (n + 1) f
 crude:dB B n<=9000000000000000000
 minor:∀ i k,i < n + 1->k < n + 1->Bd M (qFp n f i k)
 hd:Bd D d
 md:2 * (M * D)<=Q
 dd:2 * (D * D)<=9000000000000000000
 hQ:Q<=4611686018427387904
 M0:M<=9000000000000000000
 D0:D<=9000000000000000000
 nq:norm d<=Q
 nz:d ≠ g0
theorem InvB.adj {n:Nat} {f:Nat->Nat->G} {d:G} {B M D Q:Int} (h:InvB n f d B M D Q) {i k:Nat} (hi:i < n + 1) (hk:k < n + 1):Bd M (qFx n f i k):=by
 unfold qFx;split
 ·exact (h.minor i k hi hk).neg
 ·exact h.minor i k hi hk
theorem InvB.t {n:Nat} {f:Nat->Nat->G} {d:G} {B M D Q:Int} (h:InvB n f d B M D Q):BdF Q (n + 1) (n + 1) (qyl n f d):=λi k hi hk=>((h.adj hi hk).mul h.hd.qEM).mono h.md
theorem qEA {n:Nat} {f:Nat->Nat->G} {B:Int} (hB:1<=B) (hn:n<=10) (hf:BdF B n n f) (hb:dB B n<=9000000000000000000):qah (mx n n f) = some (qjh n f):=by
 unfold qah; exact qCS hB 12 n f (by omega) (by omega) hf hb
theorem qCF {n:Nat} {f:Nat->Nat->G} {B:Int} (hB:1<=B) (hn:n<=10) (hf:BdF B n n f) (hb:dB B n<=9000000000000000000):qbM (mx n n f) = some (qjh n f):=by
 unfold qbM; exact qsA hB 12 n f (by omega) (by omega) hf hb
theorem qxd {n:Nat} {f:Nat->Nat->G} {d:G} {B M D Q:Int} (hn:n<=5) (h:InvB n f d B M D Q) :
  qbG (mx (n + 1) (n + 1) f) d = some (qD5 (n + 1) (n + 1) (qyl n f d) (norm d)):=by
 unfold qbG;rw [qh1];have h2Q:2 * (M * D)<=9000000000000000000:=by have:=h.md; have:=h.hQ; omega
 rw [qBi (by omega) (by omega) _ d (qyl n f d) (λi k hi hk=>by
  unfold qaP;rw [qvB (by omega) f hk hi];simp only [qb];rw [qEA h.hB (by omega) (qey h.hf) h.crude];simp only [qb];rw [qyp h.hd h.D0];simp only [qb];have hb:=h.minor i k hi hk;unfold qFp at hb;rw [qk0 hb h.hd.qEM h2Q];simp only [qb];rw [wid (by omega) (by omega)];have e0:((i:Int) + (k:Int)) = ((i + k:Nat):Int):=by omega
  rw [e0,qFX];unfold qyl qFx qFp;by_cases hp:(i + k) % 2 = 1
  ·have e2:decide ((((i + k) % 2:Nat):Int) = 1) = true:=decide_eq_true (by omega);rw [e2,cond_true,if_pos hp,qzv (hb.mul h.hd.qEM) h2Q,neg_mul]; rfl
  ·have e2:decide ((((i + k) % 2:Nat):Int) = 1) = false:=decide_eq_false (by omega);rw [e2,cond_false,if_neg hp])]
 simp only [qb];rw [qyp h.hd h.D0];simp only [qb];rw [qk0 h.hd h.hd.qEM h.dd,qBh];simp only [qb];rw [quL h.hQ (by omega) (by omega) (by omega) h.t (qqY h.nz) h.nq];rfl
def qzU (z:G):Int:=(z.1.natAbs:Int) + (z.2.1.natAbs:Int)
def qEp:Nat->(Nat->Int)->Int
 | 0,_=>0
 | n + 1,f=>qEp n f + f n
def qEx:Nat->(Nat->Int)->Int
 | 0,_=>0
 | n + 1,f=>max (qEx n f) (f n)
def qGd (n c:Nat) (f:Nat->Nat->G):Int:=qEx n λi=>qEp c λk=>qzU (f i k)
theorem qBJ {B:Int} {z:G} (h:Bd B z):0<=qzU z/\qzU z<=2 * B:=by unfold qzU; unfold Bd at h; omega
theorem qAu {B:Int} {f:Nat->Int}:∀ {n:Nat},(∀ k,k < n->0<=f k/\f k<=B)->0<=qEp n f/\qEp n f<=n * B
 | 0,_=>by simp [qEp]
 | n + 1,h=>by
  have h1:=qAu (n:=n) λk hk=>h k (by omega);have h2:=h n (by omega);have e:((n + 1:Nat):Int) * B = n * B + B:=by rw [Int.natCast_add,Int.add_mul]; simp
  simp only [qEp] <;> omega
theorem qyI {B:Int} (hB:0<=B) {f:Nat->Int}:∀ {n:Nat},(∀ k,k < n->f k<=B)->0<=qEx n f/\qEx n f<=B
 | 0,_=>by simp [qEx,hB]
 | n + 1,h=>by
  have h1:=qyI hB (n:=n) λk hk=>h k (by omega);have h2:=h n (by omega);simp only [qEx] <;> omega
def qDZ (s:Int) (i k:Nat):G:=if i = k then (s,0,()) else g0
theorem qDh {s B:Int} (h0:0<=B) (h : -B<=s/\s<=B) (n c:Nat):BdF B n c (qDZ s):=λi k _ _=>by
 unfold qDZ;split
 ·unfold Bd; simp only <;> omega
 ·exact qrF h0
end Go.Proofs.YteiciemjanhdcaaGreatDoor.Mat
end
section
namespace Go.Proofs.YteiciemjanhdcaaGreatDoor.Mat
open Go Go.Ab Go.Tx Go.Proofs.YteiciemjanhdcaaGreatDoor
abbrev Qt:=Int × Mx × Unit
instance (B:Int) (m:Mx):Decidable (BdM B m):=inferInstanceAs (Decidable (∀ r ∈ m,∀ z ∈ r,Bd B z))
theorem qv0 (a b:Int):qR [a,b] = some (if a = 0 then b else a):=by
 rw [qf0 _ (by simp)];by_cases h:a = 0 <;> by_cases h2:b = 0 <;> simp [qsl,h,h2]
end Go.Proofs.YteiciemjanhdcaaGreatDoor.Mat
end
section
namespace Go.Proofs.YteiciemjanhdcaaGreatDoor.Mat
open Go Go.Ab Go.Tx Go.Proofs.YteiciemjanhdcaaGreatDoor
theorem qFd {B:Int} (hB:0<=B) (h20:B<=20):∀ n,n<=3->dC B n<=192000/\(n<=2->dC B n<=1600):=λn hn=>by
 have h1:B * B<=20 * 20:=Int.mul_le_mul h20 h20 hB (by omega);have h2:B * (2 * (2 * (B * B)))<=20 * (2 * (2 * (20 * 20))):=Int.mul_le_mul h20 (by omega) (by have:=Int.mul_nonneg hB hB; omega) (by omega)
 match n,hn with
 | 0,_=>simp [dC]
 | 1,_=>simp only [dC] <;> omega
 | 2,_=>simp only [dC] <;> omega
 | 3,_ =>
  have e:dC B 3 = 3 * (2 * (B * (2 * (2 * (B * B))))):=rfl;rw [e]; omega
theorem qFW:∀ n,n<=3->dB 20 n<=9000000000000000000:=λn hn=>by
 match n,hn with
 | 0,_=>decide
 | 1,_=>decide
 | 2,_=>decide
 | 3,_=>decide
def qgs (m:Mx):G:=qjh m.length (ent m)
theorem qDC {n:Nat} {f:Nat->Nat->G} (hn:n<=3) (h:BdF 20 n n f):Bd 192000 (qjh n f):=(qr5 (by omega) n f h).mono (qFd (by omega) (by omega) n hn).1
theorem norm_le {D:Int} {d:G} (h:Bd D d):norm d<=2 * (D * D):=by
 have:=(qaU h.1 h.1).2;have:=(qaU h.2 h.2).2;unfold norm; omega
theorem qCH {n:Nat} {f:Nat->Nat->G} (hn:n + 1<=3) (h:BdF 20 (n + 1) (n + 1) f) (hz:qjh (n + 1) f ≠ g0):InvB n f (qjh (n + 1) f) 20 1600 192000 73728000000 where
 hB:=by omega
 hf:=h
 crude:=qFW n (by omega)
 minor:=λi k hi hk=>(qr5 (by omega) n _ (qey h)).mono ((qFd (by omega) (by omega) n (by omega)).2 (by omega))
 hd:=qDC hn h
 md:=by omega
 dd:=by omega
 hQ:=by omega
 M0:=by omega
 D0:=by omega
 nq:=norm_le (qDC hn h)
 nz:=hz
def qFZ (m:Mx):Qt:=qD5 m.length m.length (qyl (m.length - 1) (ent m) (qgs m)) (norm (qgs m))
def qmk (m:Mx):Int:=if qhp m ≠ 0 then qhp m else if qgs m = g0 then 11 else 0
def noQ:Qt:=(0,[],())
theorem qij {m:Mx} (h:qhp m = 0):∃ n,m.length = n + 1/\n + 1<=3/\m = mx (n + 1) (n + 1) (ent m)/\BdF 20 (n + 1) (n + 1) (ent m):=by
 obtain ⟨h1,h3,hR,hB⟩:=qmH h;refine ⟨m.length - 1,by omega,by omega,?_,?_⟩
 ·have e:m.length - 1 + 1 = m.length:=by omega
  rw [e]; exact quG hR
 ·have e:m.length - 1 + 1 = m.length:=by omega
  rw [e]; exact qr4 hB hR
theorem qDQ {m:Mx} (h:qhp m = 0):qah m = some (qgs m):=by
 obtain ⟨n,hl,h3,hm,hB⟩:=qij h;unfold qgs;rw [hl];conv=>lhs; rw [hm]
 exact qEA (by omega) (by omega) hB (qFW _ h3)
theorem qxB {m:Mx} (h:qhp m = 0):qbM m = some (qgs m):=by
 obtain ⟨n,hl,h3,hm,hB⟩:=qij h;unfold qgs;rw [hl];conv=>lhs; rw [hm]
 exact qCF (by omega) (by omega) hB (qFW _ h3)
theorem qtV {m:Mx} (h:m.length<=1000000000) (hr:∀ r ∈ m,r.length<=1000000000):qdY m = some (if qmk m = 0 then qFZ m else noQ,qmk m):=by
 unfold qdY;rw [qfU h hr];simp only [qb];unfold qmk;by_cases hE:qhp m = 0
 case neg =>
  rw [if_pos hE,decide_eq_false hE,Bool.not_false,cond_true,if_neg hE]; rfl
 rw [if_neg (show ¬ qhp m ≠ 0 from λhh=>hh hE),decide_eq_true hE,Bool.not_true,cond_false,qDQ hE];simp only [qb];have hgz:(bif decide ((qgs m).1 = 0) then (bif decide ((qgs m).2.1 = 0) then true else false) else false) = decide (qgs m = g0):=qvp (qgs m) g0;rw [hgz];by_cases hz:qgs m = g0
 ·rw [decide_eq_true hz,cond_true,if_pos hz]; rfl
 ·rw [decide_eq_false hz,cond_false,if_neg hz,if_pos rfl];obtain ⟨n,hl,h3,hm,hB⟩:=qij hE;have hd:qgs m = qjh (n + 1) (ent m):=by unfold qgs; rw [hl]
  have hz':qjh (n + 1) (ent m) ≠ g0:=by rw [<- hd]; exact hz
  have:=qxd (by omega) (qCH h3 hB hz');rw [<- hm,<- hd] at this;rw [this];unfold qFZ;rw [hl,show n + 1 - 1 = n by omega];rfl
theorem qqQ {m:Mx}:qdb m = some (qmk m):=by
 unfold qdb;rw [qif];simp only [qb];unfold qmk;by_cases hE:qhp m = 0
 case neg =>
  rw [if_pos hE,decide_eq_false hE,Bool.not_false,cond_true]
 rw [if_neg (show ¬ qhp m ≠ 0 from λhh=>hh hE),decide_eq_true hE,Bool.not_true,cond_false,qxB hE];simp only [qb];have hgz:(bif decide ((qgs m).1 = 0) then (bif decide ((qgs m).2.1 = 0) then true else false) else false) = decide (qgs m = g0):=qvp (qgs m) g0;rw [hgz];by_cases hz:qgs m = g0
 ·rw [decide_eq_true hz,cond_true,if_pos hz]
 ·rw [decide_eq_false hz,cond_false,if_neg hz]
theorem qws {m:Mx} (h:qmk m = 0):qhp m = 0/\qgs m ≠ g0:=by
 unfold qmk at h;by_cases hE:qhp m = 0
 ·rw [if_neg (show ¬ qhp m ≠ 0 from λhh=>hh hE)] at h;by_cases hz:qgs m = g0
  ·rw [if_pos hz] at h; cases h
  ·exact ⟨hE,hz⟩
 ·rw [if_pos hE] at h; exact absurd h hE
def qsj (m:Mx):Nat->Nat->G:=qDf (qg (norm (qgs m)) (mx m.length m.length (qyl (m.length - 1) (ent m) (qgs m)))) (qyl (m.length - 1) (ent m) (qgs m))
def qrx (m:Mx):Int:=(norm (qgs m)).tdiv (qg (norm (qgs m)) (mx m.length m.length (qyl (m.length - 1) (ent m) (qgs m))))
theorem qDo (m:Mx):qFZ m = (qrx m,mx m.length m.length (qsj m),()):=rfl
theorem qDB {m:Mx} (h:qmk m = 0):BdF 614400000 m.length m.length (qyl (m.length - 1) (ent m) (qgs m)):=by
 obtain ⟨hE,hz⟩:=qws h;obtain ⟨n,hl,h3,hm,hB⟩:=qij hE;have hd:qgs m = qjh (n + 1) (ent m):=by unfold qgs; rw [hl]
 have hz':qjh (n + 1) (ent m) ≠ g0:=by rw [<- hd]; exact hz
 rw [hd,hl,show n + 1 - 1 = n by omega];have hI:=qCH h3 hB hz';intro i k hi hk;exact ((hI.adj hi hk).mul hI.hd.qEM).mono (by omega)
theorem qzs {m:Mx} (h:qmk m = 0):BdF 614400000 m.length m.length (qsj m):=λi k hi hk=>by
 have hb:=qDB h i k hi hk;exact ⟨qlB hb.1,qlB hb.2⟩
theorem qyq {m:Mx} (h:qmk m = 0):0<=qrx m/\qrx m<=73728000000:=by
 obtain ⟨hE,hz⟩:=qws h;obtain ⟨n,hl,h3,hm,hB⟩:=qij hE;have hd:qgs m = qjh (n + 1) (ent m):=by unfold qgs; rw [hl]
 have hn:=qqY hz;have hb:=norm_le (qDC h3 hB);rw [<- hd] at hb;unfold qrx;have:=qlB (x:=norm (qgs m)) (g:=(qg (norm (qgs m)) (mx m.length m.length (qyl (m.length - 1) (ent m) (qgs m))):Int)) (B:=73728000000) (by omega);exact ⟨Int.tdiv_nonneg (by omega) (Int.natCast_nonneg _),this.2⟩
end Go.Proofs.YteiciemjanhdcaaGreatDoor.Mat
namespace Go.Proofs.YteiciemjanhdcaaGreatDoor
open Go Go.Ab Go.Tx
end Go.Proofs.YteiciemjanhdcaaGreatDoor
end
section
namespace Go.Proofs.YteiciemjanhdcaaGreatDoor.Mat
open Go Go.Ab Go.Tx Go.Proofs.YteiciemjanhdcaaGreatDoor
def qGe (m:Mx):Nat:=qg (norm (qgs m)) (mx m.length m.length (qyl (m.length - 1) (ent m) (qgs m)))
theorem qzo (m:Mx):(qGe m:Int) ∣ norm (qgs m):=by
 have h:=qi7 (qmz (mx m.length m.length (qyl (m.length - 1) (ent m) (qgs m)))) (norm (qgs m)).natAbs;exact Int.ofNat_dvd_left.2 h
theorem qA6 (m:Mx):qrx m * (qGe m:Int) = norm (qgs m):=Int.tdiv_mul_cancel (qzo m)
theorem qCv {m:Mx} (h:qmk m = 0):1<=qrx m:=by
 have h1:=qqY (qws h).2;have h2:=qA6 m;have h3:=(qyq h).1;false_or_by_contra
 have:qrx m = 0:=by omega
 rw [this,Int.zero_mul] at h2;omega
end Go.Proofs.YteiciemjanhdcaaGreatDoor.Mat
end
section
namespace Go.Proofs.YteiciemjanhdcaaGreatDoor.Mat
open Go Go.Ab Go.Tx Go.Proofs.YteiciemjanhdcaaGreatDoor
abbrev Rg:=Mx × Mx × Int × Int × Int × Unit
theorem qCN (a b c:Int):qR [a,b,c] = some (if a = 0 then if b = 0 then c else b else a):=by
 rw [qf0 _ (by simp)];by_cases h:a = 0 <;> by_cases h2:b = 0 <;> by_cases h3:c = 0 <;> simp [qsl,h,h2,h3]
theorem qEU (a b c d:Int):qR [a,b,c,d] = some (if a = 0 then if b = 0 then if c = 0 then d else c else b else a):=by
 rw [qf0 _ (by simp)];by_cases h:a = 0 <;> by_cases h2:b = 0 <;> by_cases h3:c = 0 <;> by_cases h4:d = 0 <;> simp [qsl,h,h2,h3,h4]
theorem qva (l:List Int) (hl:l.length<=1000000000) (hb:quk l<=9223372036854775807):qaF l = some (quk l:Int):=by
 unfold qaF;refine Ok.eq ?_;rw [qeb];refine (qbc l.length (λi (s:Int × Int)=>s.2 = (i:Int)/\s.1.natAbs = quk (l.take i)) (λr:Int=>r.natAbs = quk l) ⟨rfl,rfl⟩ ?_).mono ?_
 ·rintro i ⟨g,s⟩ hi ⟨h1,h2⟩;simp only at h1 h2;subst h1;by_cases hlt:i < l.length
  ·have e0:decide ((i:Int) < (l.length:Int)) = true:=decide_eq_true (by omega);simp only [e0,cond_true];rw [qvT 0 (by omega) (by omega)];simp only [qb,Int.toNat_natCast];obtain ⟨r,h3,h4⟩:=qjn (f:=λ(s5:(Int × Int))=>bif !(decide (s5.2 = 0)) then bif decide (s5.2 = 0) then none else some (.inl (s5.2,s5.1.tmod s5.2)) else some (.inr s5.1)) (λs=>by
    by_cases h:s.2 = 0 <;> simp [h]) (l.getD i 0).natAbs g (l.getD i 0) (Nat.le_refl _)
   rw [h3];simp only [qb];rw [wid (by omega) (by omega),qaE];refine ⟨hlt,by simp,?_⟩;rw [h4,qhS 0 hlt];unfold quk at h2 ⊢;rw [qj9,<- h2];rfl
  ·have:i = l.length:=by omega
   subst this;have e0:decide ((l.length:Int) < (l.length:Int)) = false:=by simp
   simp only [e0,cond_false];rw [qaq];simpa using h2
 ·intro r hr;rw [wid (by omega) (by omega),qc1];omega
theorem qpD {a b:Int} (h0:0 < b):(Int.gcd a b:Int)<=b/\1<=Int.gcd a b:=by
 have h1:Nat.gcd a.natAbs b.natAbs ∣ b.natAbs:=Nat.gcd_dvd_right _ _;have h2:=Nat.le_of_dvd (by omega) h1;have h3:0 < Nat.gcd a.natAbs b.natAbs:=Nat.pos_of_dvd_of_pos h1 (by omega);have e:Int.gcd a b = Nat.gcd a.natAbs b.natAbs:=rfl;rw [e]; omega
theorem qvl {a b:Int} (h0:0 < b) (h1:b<=9223372036854775807):qaF [a,b] = some (Int.gcd a b:Int):=by
 have h:=(qpD (a:=a) h0).1;rw [qva _ (by simp) (by rw [qwp]; omega),qwp]
theorem qD7 {a b:Int} (h0:0 < b) (h1:b<=9223372036854775807):qne a b = some (Int.gcd a b:Int):=by
 unfold qne;refine Ok.eq ?_;rw [qeb];obtain ⟨r,h3,h4⟩:=qjn (f:=λ(s2:(Int × Int))=>bif !(decide (s2.2 = 0)) then bif decide (s2.2 = 0) then none else some (.inl (s2.2,s2.1.tmod s2.2)) else some (.inr s2.1)) (λs=>by
  by_cases h:s.2 = 0 <;> simp [h]) b.natAbs a b (Nat.le_refl _)
 refine ⟨r,h3,?_⟩;have h:=(qpD (a:=a) h0).1;show Ok ((qdR r).bind λx4=>some x4) _;rw [qEb (by omega),qb,qc1,h4]
def low (num den:Int):Prop:=0 < den/\Int.gcd num den = 1
instance (num den:Int):Decidable (low num den):=inferInstanceAs (Decidable (_/\_))
def qpV (r:Rg):Int :=
 if qhp r.1 ≠ 0 then qhp r.1 else if qhp r.2.1 ≠ 0 then qhp r.2.1 else if r.1.length ≠ r.2.1.length then 13 else if qmk r.2.1 ≠ 0 then qmk r.2.1
 else if ¬ low r.2.2.1 r.2.2.2.1 then 3 else if ¬ (0<=r.2.2.1/\r.2.2.1<=r.2.2.2.1) then 2 else if ¬ r.2.2.2.1<=100 then 2 else if ¬ (0<=r.2.2.2.2.1/\r.2.2.2.2.1<=1000) then 2 else 0
theorem qvk {num den:Int} (h1:den<=9223372036854775807):qe8 (num,den,()) = some (decide (low num den)):=by
 unfold qe8;by_cases h0:0 < den
 ·rw [decide_eq_true (show den > 0 from h0),cond_true,qD7 h0 h1];simp only [qb];congr 1
  unfold low;simp [h0] <;> omega
 ·rw [decide_eq_false (show ¬ den > 0 from h0),cond_false,decide_eq_false (show ¬ low num den from λh=>h0 h.1)]; rfl
theorem qzD {r:Rg} (hd:r.2.2.2.1<=9223372036854775807):qfY r = some (qpV r):=by
 obtain ⟨p,m,num,den,lag,_⟩:=r;simp only at hd;unfold qfY qpV;simp only
 rw [qif,qb];by_cases e1:qhp p = 0
 case neg=>rw [decide_eq_false e1,Bool.not_false,cond_true,if_pos e1]
 rw [decide_eq_true e1,Bool.not_true,cond_false,if_neg (show ¬ (qhp p ≠ 0) from λhh=>hh e1),qif,qb];by_cases e2:qhp m = 0
 case neg=>rw [decide_eq_false e2,Bool.not_false,cond_true,if_pos e2]
 rw [decide_eq_true e2,Bool.not_true,cond_false,if_neg (show ¬ (qhp m ≠ 0) from λhh=>hh e2)];by_cases e3:p.length = m.length
 case neg=>rw [decide_eq_false (show ¬ (m.length:Int) = (p.length:Int) by omega),Bool.not_false,cond_true,if_pos e3]
 rw [decide_eq_true (show (m.length:Int) = (p.length:Int) by omega),Bool.not_true,cond_false,if_neg (show ¬ (p.length ≠ m.length) from λhh=>hh e3),qqQ,qb];by_cases e4:qmk m = 0
 case neg=>rw [decide_eq_false e4,Bool.not_false,cond_true,if_pos e4]
 rw [decide_eq_true e4,Bool.not_true,cond_false,if_neg (show ¬ (qmk m ≠ 0) from λhh=>hh e4),qvk hd,qb];by_cases e5:low num den
 case neg=>rw [decide_eq_false e5,Bool.not_false,cond_true,if_pos e5]
 rw [decide_eq_true e5,Bool.not_true,cond_false,if_neg (show ¬ (¬ low num den) from λhh=>hh e5),qc8,qb];by_cases e6:0<=num/\num<=den
 case neg=>rw [decide_eq_false e6,Bool.not_false,cond_true,if_pos e6]; rfl
 rw [decide_eq_true e6,Bool.not_true,cond_false,if_neg (show ¬ (¬ (0<=num/\num<=den)) from λhh=>hh e6)];by_cases e7:den<=100
 case neg=>rw [decide_eq_true (show den > 100 by omega),cond_true,if_pos e7]; rfl
 rw [decide_eq_false (show ¬ den > 100 by omega),cond_false,if_neg (show ¬ (¬ den<=100) from λhh=>hh e7),qc8];by_cases e8:0<=lag/\lag<=1000
 case neg=>rw [decide_eq_false e8,if_pos e8]; rfl
 rw [decide_eq_true e8,if_neg (show ¬ (¬ (0<=lag/\lag<=1000)) from λhh=>hh e8)]; rfl
theorem qx7 {r:Rg} (hp:r.1.length<=1000000000) (hpr:∀ x ∈ r.1,x.length<=1000000000) (hm:r.2.1.length<=1000000000) (hmr:∀ x ∈ r.2.1,x.length<=1000000000) (hd:r.2.2.2.1<=9223372036854775807) :
  ∃ y,qdM r = some (y,qpV r)/\(qpV r = 0->y = (r.1,r.2.1,r.2.2.1,r.2.2.2.1,r.2.2.2.2.1,qrx r.2.1,mx r.2.1.length r.2.1.length (qsj r.2.1),())):=by
 obtain ⟨p,m,num,den,lag,_⟩:=r;simp only at hp hpr hm hmr hd;unfold qdM;simp only
 rw [qfU hp hpr,qb,qfU hm hmr,qb,qdG,qb,qCN,qb];unfold qpV;simp only
 by_cases e1:qhp p = 0
 case neg =>
  rw [if_neg e1,decide_eq_false e1,Bool.not_false,cond_true,if_pos e1];exact ⟨_,rfl,λh=>absurd h e1⟩
 rw [if_pos e1,if_neg (show ¬ (qhp p ≠ 0) from λhh=>hh e1)];by_cases e2:qhp m = 0
 case neg =>
  rw [if_neg e2,decide_eq_false e2,Bool.not_false,cond_true,if_pos e2];exact ⟨_,rfl,λh=>absurd h e2⟩
 rw [if_pos e2,if_neg (show ¬ (qhp m ≠ 0) from λhh=>hh e2)];by_cases e3:p.length = m.length
 case neg =>
  rw [decide_eq_false (show ¬ (p.length:Int) = (m.length:Int) by omega),if_neg (by simp),decide_eq_false (show ¬ (13:Int) = 0 by omega),Bool.not_false,cond_true,if_pos e3];exact ⟨_,rfl,λh=>by cases h⟩
 rw [decide_eq_true (show (p.length:Int) = (m.length:Int) by omega),if_pos rfl,decide_eq_true (show (0:Int) = 0 from rfl),Bool.not_true,cond_false,if_neg (show ¬ (p.length ≠ m.length) from λhh=>hh e3),qtV hm hmr,qb];have hmid:∀ b1 b2 b3:Bool,∀ x:Int,qR [x,if b1 = true then (0:Int) else 3,if b2 = true then (0:Int) else 2,if b3 = true then (0:Int) else 2] = some (if x = 0 then if b1 = true then if b2 = true then if b3 = true then 0 else 2 else 2 else 3 else x):=λb1 b2 b3 x=>by
  rw [qEU];cases b1 <;> cases b2 <;> cases b3 <;> simp
 have hinner:(bif decide (den > 0) then
    (qaF ([num,den])).bind λx6 =>
    (qz (decide (x6 = 1)) (3:Int)).bind λx7 =>
    (q6 num (0:Int) den).bind λx8 =>
    bif x8 then
     (qz (decide (den<=100)) (2:Int)).bind λx9 =>
     (q6 lag (0:Int) (1000:Int)).bind λx10 =>
     (qz x10 (2:Int)).bind λx11 =>
     (qR ([qmk m,x7,x9,x11])).bind λx12 =>
     some x12
    else
     (qz false (2:Int)).bind λx13 =>
     (q6 lag (0:Int) (1000:Int)).bind λx14 =>
     (qz x14 (2:Int)).bind λx15 =>
     (qR ([qmk m,x7,x13,x15])).bind λx16 =>
     some x16
   else
    (qz false (3:Int)).bind λx17 =>
    (q6 num (0:Int) den).bind λx18 =>
    bif x18 then
     (qz (decide (den<=100)) (2:Int)).bind λx19 =>
     (q6 lag (0:Int) (1000:Int)).bind λx20 =>
     (qz x20 (2:Int)).bind λx21 =>
     (qR ([qmk m,x17,x19,x21])).bind λx22 =>
     some x22
    else
     (qz false (2:Int)).bind λx23 =>
     (q6 lag (0:Int) (1000:Int)).bind λx24 =>
     (qz x24 (2:Int)).bind λx25 =>
     (qR ([qmk m,x17,x23,x25])).bind λx26 =>
     some x26) = some (if qmk m ≠ 0 then qmk m
 else if ¬ low num den then 3 else if ¬ (0<=num/\num<=den) then 2 else if ¬ den<=100 then 2 else if ¬ (0<=lag/\lag<=1000) then 2 else 0):=by
  simp only [qkA,qdG,qb,hmid];by_cases h0:0 < den
  ·rw [decide_eq_true (show den > 0 from h0),cond_true,qvl h0 hd];simp only [qb,hmid];have hl:low num den ↔ ((Int.gcd num den:Nat):Int) = 1:=by unfold low; constructor <;> intro h <;> omega
   by_cases e4:qmk m = 0 <;> by_cases e5:((Int.gcd num den:Nat):Int) = 1 <;> by_cases e6:0<=num/\num<=den <;> by_cases e7:den<=100 <;> by_cases e8:0<=lag/\lag<=1000 <;> (try clear h0 hd hp hpr hm hmr) <;> simp [hl,e4,e5,e6,e7,e8]
  ·have hl:¬ low num den:=λh=>h0 h.1;rw [decide_eq_false (show ¬ den > 0 from h0),cond_false];by_cases e4:qmk m = 0 <;> by_cases e6:0<=num/\num<=den <;> by_cases e7:den<=100 <;> by_cases e8:0<=lag/\lag<=1000 <;> (try clear h0 hd hp hpr hm hmr) <;> simp [hl,e4,e6,e7,e8]
 rw [hinner,qb];refine ⟨_,rfl,λh=>?_⟩;have e4:qmk m = 0:=by
  false_or_by_contra
  rename_i h9;rw [if_pos h9] at h;exact h9 h
 rw [if_pos e4,qDo]
theorem qnS {r:Rg} (h:qpV r = 0):qhp r.1 = 0/\qmk r.2.1 = 0/\r.1.length = r.2.1.length/\0 < r.2.2.2.1/\0<=r.2.2.1/\r.2.2.1<=r.2.2.2.1/\r.2.2.2.1<=100:=by
 unfold qpV at h;by_cases e1:qhp r.1 = 0
 case neg=>rw [if_pos e1] at h; exact absurd h e1
 rw [if_neg (show ¬ (qhp r.1 ≠ 0) from λhh=>hh e1)] at h;by_cases e2:qhp r.2.1 = 0
 case neg=>rw [if_pos e2] at h; exact absurd h e2
 rw [if_neg (show ¬ (qhp r.2.1 ≠ 0) from λhh=>hh e2)] at h;by_cases e3:r.1.length = r.2.1.length
 case neg=>rw [if_pos e3] at h; cases h
 rw [if_neg (show ¬ (r.1.length ≠ r.2.1.length) from λhh=>hh e3)] at h;by_cases e4:qmk r.2.1 = 0
 case neg=>rw [if_pos e4] at h; exact absurd h e4
 rw [if_neg (show ¬ (qmk r.2.1 ≠ 0) from λhh=>hh e4)] at h;by_cases e5:low r.2.2.1 r.2.2.2.1
 case neg=>rw [if_pos e5] at h; cases h
 rw [if_neg (show ¬ ¬ _ from λhh=>hh e5)] at h;by_cases e6:0<=r.2.2.1/\r.2.2.1<=r.2.2.2.1
 case neg=>rw [if_pos e6] at h; cases h
 rw [if_neg (show ¬ ¬ (0<=r.2.2.1/\r.2.2.1<=r.2.2.2.1) from λhh=>hh e6)] at h;by_cases e7:r.2.2.2.1<=100
 case neg=>rw [if_pos e7] at h; cases h
 exact ⟨e1,e4,e3,e5.1,e6.1,e6.2,e7⟩
def qFw (r:Rg) (i k:Nat):G:=qrN (qDZ (r.2.2.2.1 * qrx r.2.1) i k) (qd6 (qAA r.2.1.length (ent r.1) (qsj r.2.1) i k) (r.2.2.1,0,()))
def qFD (r:Rg):Int:=qGd r.2.1.length r.2.1.length (qFw r)
def qEs (r:Rg):Int:=r.2.2.2.1 * qrx r.2.1
theorem qwE {A B:Int} {a b:G} (h:Bd A a) (h':Bd B b) (hb:A + B<=9000000000000000000):qae a b = some (qrN a b):=congrArg some (qBI h h' hb)
structure ConB (r:Rg):Prop where
 pB:BdF 73728000000 r.2.1.length r.2.1.length (qAA r.2.1.length (ent r.1) (qsj r.2.1))
 sB:BdF 14745600000000 r.2.1.length r.2.1.length (λi k=>qd6 (qAA r.2.1.length (ent r.1) (qsj r.2.1) i k) (r.2.2.1,0,()))
 qB:1<=qEs r/\qEs r<=7372800000000
 cB:BdF 22118400000000 r.2.1.length r.2.1.length (qFw r)
 rB:0<=qFD r/\qFD r<=132710400000000
 n1:1<=r.2.1.length
 n3:r.2.1.length<=3
theorem qGk {r:Rg} (h:qpV r = 0):ConB r:=by
 obtain ⟨hE,hI,hl,h0,h1,h2,h3⟩:=qnS h;obtain ⟨m1,m3,mR,mB⟩:=qmH hE;have hX:=qzs hI;have hD:=qyq hI;have hD1:=qCv hI;have hA:=qr4 mB mR;rw [hl] at hA;have hq2:qEs r<=100 * 73728000000:=Int.mul_le_mul h3 hD.2 hD.1 (by omega);have hq1:1 * 1<=qEs r:=Int.mul_le_mul (by omega) hD1 (by omega) (by omega);have hp:BdF 73728000000 r.2.1.length r.2.1.length (qAA r.2.1.length (ent r.1) (qsj r.2.1)):=λi k hi hk=>by
  have:=Bd.sum (n:=r.2.1.length) (f:=λj=>qd6 (ent r.1 i j) (qsj r.2.1 j k)) (B:=2 * (20 * 614400000)) λj hj=>(hA i j hi hj).mul (hX j k hj hk);refine this.mono ?_;have h4:(r.2.1.length:Int) * (2 * (20 * 614400000))<=3 * (2 * (20 * 614400000)):=Int.mul_le_mul_of_nonneg_right (by omega) (by omega);omega
 have hs:BdF 14745600000000 r.2.1.length r.2.1.length (λi k=>qd6 (qAA r.2.1.length (ent r.1) (qsj r.2.1) i k) (r.2.2.1,0,())):=λi k hi hk=>by
  have h5:Bd 100 ((r.2.2.1,0,()):G):=by unfold Bd; simp only <;> omega
  exact ((hp i k hi hk).mul h5).mono (by omega)
 have hc:BdF 22118400000000 r.2.1.length r.2.1.length (qFw r):=λi k hi hk=>by
  have hdg:=qDh (s:=qEs r) (B:=7372800000000) (by omega) (by omega) r.2.1.length r.2.1.length i k hi hk;exact (hdg.sub (hs i k hi hk)).mono (by omega)
 refine ⟨hp,hs,by omega,hc,?_,by omega,by omega⟩;unfold qFD qGd;refine qyI (by omega) λi hi=>?_;have:=(qAu (n:=r.2.1.length) (f:=λk=>qzU (qFw r i k)) λk hk=>qBJ (hc i k hi hk)).2;have h4:(r.2.1.length:Int) * (2 * 22118400000000)<=3 * (2 * 22118400000000):=Int.mul_le_mul_of_nonneg_right (by omega) (by omega);omega
def qEy (c:G):Prop:=(-1000000000<=c.1/\c.1<=1000000000)/\c.2.1<=1000000000
instance (c:G):Decidable (qEy c):=inferInstanceAs (Decidable (_/\_))
theorem qxA {r:Rg} (hp:r.1.length<=1000000000) (hpr:∀ x ∈ r.1,x.length<=1000000000) (hm:r.2.1.length<=1000000000) (hmr:∀ x ∈ r.2.1,x.length<=1000000000):qb6 r = some r:=by
 unfold qb6;rw [qhg hp hpr,qb,qhg hm hmr,qb]
end Go.Proofs.YteiciemjanhdcaaGreatDoor.Mat
namespace Go.Proofs.YteiciemjanhdcaaGreatDoor
open Go Go.Ab Go.Tx
end Go.Proofs.YteiciemjanhdcaaGreatDoor
end
section
namespace Go.Proofs.YteiciemjanhdcaaGreatDoor.Mat
open Go Go.Ab Go.Tx Go.Proofs.YteiciemjanhdcaaGreatDoor
theorem qf4 {n:Int} (h1 : -9007199254740991<=n) (h2:n<=9007199254740991):flo n = some n:=by
 unfold flo; rw [if_pos (by omega)]
def qfO (l:List G) (n:Nat):Int:=if l.length = n then (if l.any (qi4 10000) = true then 2 else 0) else 10
theorem qxl (r:List G) (h:r.length<=1000000000):qw r = some (r.any (qi4 10000)):=by
 unfold qw qF;refine qu7 r qbR (qi4 10000) (λx _=>?_) h;unfold qbR;rw [qdg _ _ (by omega) (by omega)]; rfl
theorem qiW {l:List G} {n:Nat} (h:l.length<=1000000000):qa0 l (n:Int) = some (qfO l n):=by
 unfold qa0 qfO;rw [qxl l h];simp only [qb,qdG];rw [qv0];by_cases c:l.length = n
 ·have c':decide ((l.length:Int) = (n:Int)) = true:=decide_eq_true (by omega);rw [c',if_pos c];cases hb:l.any (qi4 10000) <;> simp
 ·have c':decide ((l.length:Int) = (n:Int)) = false:=decide_eq_false (by omega);rw [c',if_neg c];simp
theorem qrP {l:List G} {n:Nat} (h:l.length<=1000000000):qbv l (n:Int) = some (qfO l n):=by
 unfold qbv qfO;by_cases c:l.length = n
 case neg =>
  rw [decide_eq_false (show ¬ (l.length:Int) = (n:Int) by omega),Bool.not_false,cond_true,if_neg c]
 rw [decide_eq_true (show (l.length:Int) = (n:Int) by omega),Bool.not_true,cond_false,if_pos c];rw [qgY l _ (λ_ z=>if qi4 10000 z then some (2:Int) else none) (λk z hk=>?_),qeq]
 ·cases hf:qgb (λ_ z=>if qi4 10000 z then some (2:Int) else none) 0 l with
  | none =>
   rw [qfn] at hf;have hb:l.any (qi4 10000) = false:=by
    rw [List.any_eq_false];intro x hx;obtain ⟨k,hk⟩:=List.mem_iff_getElem?.1 hx;have:=hf k x hk;simpa using this
   simp [hb]
  | some q =>
   obtain ⟨k,z,h1,h2,_⟩:=qfm hf;have hp:qi4 10000 z = true:=by
    cases hp:qi4 10000 z
    ·simp [hp] at h2
    ·rfl
   have hb:l.any (qi4 10000) = true:=List.any_eq_true.2 ⟨z,List.mem_of_getElem? h1,hp⟩;simp only [hp,if_true,qe] at h2;simp [hb,<- h2]
 ·have hlk:=qik hk;rw [qaB hk,qb,qkn _ _ (by omega) (by omega),qb,wid (by omega) (by omega)];unfold qi4;by_cases d:Bd 10000 z <;> simp [d,stp]
theorem qd7 {l:List G} {n:Nat} (h:qfO l n = 0):l.length = n/\∀ z ∈ l,Bd 10000 z:=by
 unfold qfO at h;by_cases c:l.length = n
 case neg=>rw [if_neg c] at h; cases h
 rw [if_pos c] at h;refine ⟨c,λz hz=>?_⟩;cases hb:l.any (qi4 10000) with
 | true=>rw [hb,if_pos rfl] at h; cases h
 | false =>
  have:=List.any_eq_false.1 hb z hz;unfold qi4 at this;simpa using this
def qfK (n:Nat) (f:Nat->Nat->G) (d:Nat->G) (i:Nat):G:=qpf n λk=>qd6 (f i k) (d k)
theorem qzF {n:Nat} {A B:Int} {f:Nat->Nat->G} {d:Nat->G} (hf:BdF A n n f) (hd:∀ k,k < n->Bd B (d k)) {i:Nat} (hi:i < n):Bd (n * (2 * (A * B))) (qfK n f d i) :=
 Bd.sum λk hk=>(hf i k hi hk).mul (hd k hk)
theorem qpK {k n:Nat} {A:Int} (hA:0<=A) (h:k<=n):(k:Int) * A<=(n:Int) * A:=Int.mul_le_mul_of_nonneg_right (by omega) hA
theorem qjD {n:Nat} {f:Nat->Nat->G} {d:Nat->G} (hf:BdF 20 n n f) (hd:∀ k,k < n->Bd 10000 (d k)) (hn:n<=3) :
  qa1 (mx n n f) (mkL n d) = some (mkL n (qfK n f d)):=by
 unfold qa1;rw [qh1];rw [qC2 n (qfK n f d) (λi hi=>?_) ?_]
 ·rfl
 ·have e0:decide ((n:Int) < (n:Int)) = false:=by simp
  simp only [e0,cond_false]
 ·have e0:decide ((i:Int) < (n:Int)) = true:=decide_eq_true (by omega);simp only [e0,cond_true];rw [qaB (qqR f hi),qb,qad];have hF:∀ k,k < n->Bd 400000 (qd6 (f i k) (d k)):=λk hk=>((hf i k hi hk).mul (hd k hk)).mono (by omega);have hS:∀ k,k<=n->Bd 1200000 (qpf k λk=>qd6 (f i k) (d k)):=λk hk=>by
   have h1:=Bd.sum (n:=k) λj hj=>hF j (by omega);exact h1.mono (by omega)
  refine Ok.eq ?_;rw [qeb];refine (qbc n (λk (s:(Int × Int) × Int)=>s = (((qpf k λk=>qd6 (f i k) (d k)).1,(qpf k λk=>qd6 (f i k) (d k)).2.1),(k:Int))) (λr=>r = ((qpf n λk=>qd6 (f i k) (d k)).1,(qpf n λk=>qd6 (f i k) (d k)).2.1)) rfl ?_).mono ?_
  ·rintro k s hk rfl;by_cases hlt:k < n
   ·have e1:decide ((k:Int) < (n:Int)) = true:=decide_eq_true (by omega);have hx:idx (mkL n λb=>f i b) (k:Int) = some (f i k):=qaB (qbb _ hlt);have hy:idx (mkL n d) (k:Int) = some (d k):=qaB (qbb _ hlt);simp only [e1,cond_true,hx,hy,qb];have hs:=hS k hk;have hs':=hS (k + 1) hlt;have hfk:=hf i k hi hlt;have hdk:=hd k hlt;have p1:=qaU hfk.1 hdk.1;have p2:=qaU hfk.2 hdk.2;have p3:=qaU hfk.1 hdk.2;have p4:=qaU hfk.2 hdk.1;have es:qpf (k + 1) (λk=>qd6 (f i k) (d k)) = qpz (qpf k λk=>qd6 (f i k) (d k)) (qd6 (f i k) (d k)):=rfl;rw [es] at hs' ⊢;generalize qpf k (λk=>qd6 (f i k) (d k)) = S at *;unfold Bd qpz qd6 at *;simp only at hs' ⊢;rw [qf4 (by omega) (by omega),qb,qf4 (by omega) (by omega),qb,qf4 (by omega) (by omega),qb,qf4 (by omega) (by omega),qb];rw [qf4 (by omega) (by omega),qb,qf4 (by omega) (by omega),qb,qf4 (by omega) (by omega),qb];rw [qf4 (by omega) (by omega),qb,qf4 (by omega) (by omega),qb,qf4 (by omega) (by omega),qb];rw [qf4 (by omega) (by omega),qb,qf4 (by omega) (by omega),qb];rw [wid (by omega) (by omega),qaE];exact ⟨hlt,rfl⟩
   ·have:k = n:=by omega
    subst this;have e1:decide ((k:Int) < (k:Int)) = false:=by simp
    simp only [e1,cond_false];rw [qaq]
  ·rintro r rfl;have hs:=hS n (Nat.le_refl n);unfold Bd at hs;simp only
   rw [qf4 (by omega) (by omega),qb,qf4 (by omega) (by omega),qb,qdZ (by rw [qad]; omega),qb,wid (by omega) (by omega)];exact qc1.2 rfl
def nr (a b:Int):Int:=if a % b > b - a % b then a / b + 1 else a / b
def rnd (a b:Int):Int:=if a < 0 then 0 - nr (0 - a) b else nr a b
theorem qDa {a b:Int} (ha:0<=a) (hb:0 < b):0<=a / b/\a / b<=a:=⟨Int.ediv_nonneg ha (by omega),Int.ediv_le_self b ha⟩
theorem qFI {a b:Int} (ha:0<=a) (hb:0 < b):0<=nr a b/\nr a b<=a + 1:=by
 have:=qDa ha hb;unfold nr;split <;> omega
theorem qwm {m:Nat} {a b:Int} (ha:0<=a) (hb:0 < b) (ha2:a<=4000000000000000000) (hb2:b<=4000000000000000000):qeL (m + 1) a b = some (nr a b):=by
 have h1:=qDa ha hb;have h2:=Int.emod_nonneg a (show b ≠ 0 by omega);have h3:=Int.emod_lt_of_pos a hb;have e1:a.tmod b = a % b:=Int.tmod_eq_emod_of_nonneg ha;have e2:a.tdiv b = a / b:=Int.tdiv_eq_ediv_of_nonneg ha;show (bif decide (a < 0) then _ else _) = _;rw [decide_eq_false (show ¬ a < 0 by omega),cond_false,decide_eq_false (show ¬ b = 0 by omega),cond_false,cond_false,e1,e2,wid (n:=b - a % b) (by omega) (by omega),wid (n:=a / b) (by omega) (by omega),wid (n:=a / b + 1) (by omega) (by omega)];unfold nr;by_cases c:a % b > b - a % b
 ·rw [decide_eq_true c,if_pos c]; rfl
 ·rw [decide_eq_false c,if_neg c]; rfl
theorem qDq {a b:Int} (ha : -4000000000000000000<=a/\a<=4000000000000000000) (hb:0 < b) (hb2:b<=4000000000000000000):qiy a b = some (rnd a b):=by
 unfold qiy rnd;by_cases c:a < 0
 ·have e:qeL 12 a b = (bif decide (a < 0) then (qeL 11 (w64 (0 - a)) b).bind λx1=>some (w64 (0 - x1)) else _):=rfl;rw [e,decide_eq_true c,cond_true,wid (by omega) (by omega),qwm (m:=10) (by omega) hb (by omega) hb2,qb,if_pos c];have:=qFI (a:=0 - a) (b:=b) (by omega) hb;rw [wid (by omega) (by omega)]
 ·rw [qwm (m:=11) (by omega) hb (by omega) hb2,if_neg c]
def qgZ (n:Nat) (f:Nat->Nat->G) (t d:Nat->G) (i:Nat):G:=qrN (t i) (qfK n f d i)
theorem qza {n i:Nat} (f:Nat->G) (z:G) (hi:i < n):(mkL n f).set i z = mkL n λk=>if k = i then z else f k:=by
 refine qqm (by simp [qad]) λk hk=>?_;rw [List.getElem?_set,qad];by_cases c:i = k
 ·subst c;rw [if_pos rfl,if_pos hi,if_pos rfl]
 ·rw [if_neg c,qbb _ hk,if_neg (λhh=>c hh.symm)]
theorem qyZ {n:Nat} {f:Nat->Nat->G} {d:Nat->G} (hf:BdF 20 n n f) (hd:∀ k,k < n->Bd 10000 (d k)) (hn:n<=3) {i:Nat} (hi:i < n):Bd 1200000 (qfK n f d i):=by
 refine (qzF hf hd hi).mono ?_;have:=qpK (A:=2 * (20 * 10000)) (by omega) hn;omega
theorem qyz {n:Nat} {f:Nat->Nat->G} {t d:Nat->G} (hf:BdF 20 n n f) (hd:∀ k,k < n->Bd 10000 (d k)) (ht:∀ k,k < n->Bd 10000 (t k)) (hn:n<=3) {i:Nat} (hi:i < n):Bd 1210000 (qgZ n f t d i) :=
 ((ht i hi).sub (qyZ hf hd hn hi)).mono (by omega)
def qEv (r:Rg) (t d:Nat->G) (i:Nat):G:=qfK r.2.1.length (qsj r.2.1) (qgZ r.2.1.length (ent r.1) t d) i
def roF (r:Rg) (z:Int):Int:=rnd (z * r.2.2.1) (qrx r.2.1 * r.2.2.2.1)
def clF (r:Rg) (z:Int):Int:=max (0 - r.2.2.2.2.1) (min r.2.2.2.2.1 (roF r z))
def qBo (r:Rg) (t d:Nat->G) (i:Nat):G:=(clF r (qEv r t d i).1,clF r (qEv r t d i).2.1,())
theorem qrt {r:Rg} (h:qpV r = 0):0<=r.2.2.2.2.1/\r.2.2.2.2.1<=1000:=by
 unfold qpV at h;by_cases e8:0<=r.2.2.2.2.1/\r.2.2.2.2.1<=1000
 ·exact e8
 ·exfalso
  rw [if_pos e8] at h;repeat' split at h
  all_goals first | contradiction | omega
structure CorB (r:Rg) (t d:Nat->G):Prop where
 n1:1<=r.2.1.length
 n3:r.2.1.length<=3
 pm:r.1 = mx r.2.1.length r.2.1.length (ent r.1)
 pB:BdF 20 r.2.1.length r.2.1.length (ent r.1)
 xB:BdF 614400000 r.2.1.length r.2.1.length (qsj r.2.1)
 tB:∀ k,k < r.2.1.length->Bd 10000 (t k)
 dB:∀ k,k < r.2.1.length->Bd 10000 (d k)
 rB:∀ i,i < r.2.1.length->Bd 4460544000000000 (qEv r t d i)
 num:0<=r.2.2.1/\r.2.2.1<=100
 den:1<=qrx r.2.1 * r.2.2.2.1/\qrx r.2.1 * r.2.2.2.1<=7372800000000
 step:0<=r.2.2.2.2.1/\r.2.2.2.2.1<=1000
theorem qFE {r:Rg} (h:qpV r = 0) {t d:Nat->G} (ht:∀ k,k < r.2.1.length->Bd 10000 (t k)) (hd:∀ k,k < r.2.1.length->Bd 10000 (d k)):CorB r t d:=by
 have hB:=qGk h;obtain ⟨hE,hI,hl,h0,h1,h2,h3⟩:=qnS h;obtain ⟨m1,m3,mR,mB⟩:=qmH hE;have hX:=qzs hI;have hA:=qr4 mB mR;have hpm:=quG mR;have hq:=hB.qB;rw [hl] at hA hpm;have e:qEs r = qrx r.2.1 * r.2.2.2.1:=Int.mul_comm _ _;rw [e] at hq;refine ⟨hB.n1,hB.n3,hpm,hA,hX,ht,hd,λi hi=>?_,by omega,hq,qrt h⟩;have hn3:=hB.n3;refine (qzF hX (λk hk=>qyz hA hd ht hn3 hk) hi).mono ?_;have:=qpK (A:=2 * (614400000 * 1210000)) (by omega) hn3;omega
theorem qEf {r:Rg} {t d:Nat->G} (h:CorB r t d) {z:Int} (hz : -4460544000000000<=z/\z<=4460544000000000) : -446054400000000000<=z * r.2.2.1/\z * r.2.2.1<=446054400000000000:=by
 have hn:=h.num;have:=qaU (A:=4460544000000000) (B:=100) hz (show -100<=r.2.2.1/\r.2.2.1<=100 by omega);omega
theorem qjf {r:Rg} {t d:Nat->G} (h:CorB r t d) {z:Int} (hz : -4460544000000000<=z/\z<=4460544000000000) {X:Mx} :
  qaO z (r.1,r.2.1,r.2.2.1,r.2.2.2.1,r.2.2.2.2.1,qrx r.2.1,X,()) = some (clF r z):=by
 unfold qaO;simp only
 have hp:=qEf h hz;have hq:=h.den;have hs:=h.step;rw [wid (n:=z * r.2.2.1) (by omega) (by omega),wid (n:=qrx r.2.1 * r.2.2.2.1) (by omega) (by omega),wid (n:=0 - r.2.2.2.2.1) (by omega) (by omega),qDq (by omega) (by omega) (by omega),qb];congr 1
 unfold clF roF;omega
theorem qre {r:Rg} {t d:Nat->G} (h:CorB r t d) :
  qbF (r.1,r.2.1,r.2.2.1,r.2.2.2.1,r.2.2.2.2.1,qrx r.2.1,mx r.2.1.length r.2.1.length (qsj r.2.1),()) (mkL r.2.1.length t) (mkL r.2.1.length d) = some (mkL r.2.1.length (qBo r t d)):=by
 unfold qbF;simp only
 have hpm:=h.pm;have hn1:=h.n1;have hn3:=h.n3;have e0:qa1 r.1 (mkL r.2.1.length d) = some (mkL r.2.1.length (qfK r.2.1.length (ent r.1) d)):=by
  have:=qjD h.pB h.dB hn3;rw [<- hpm] at this;exact this
 rw [e0,qb,qad,qh1];refine Ok.eq ?_;rw [qeb];refine (qbc r.2.1.length (λi (s:List G × Int)=>s = (mkL r.2.1.length (λj=>if j < i then qgZ r.2.1.length (ent r.1) t d j else qfK r.2.1.length (ent r.1) d j),(i:Int))) (λq=>q = mkL r.2.1.length (qgZ r.2.1.length (ent r.1) t d)) ?_ ?_).mono ?_
 ·congr 1
 ·rintro i s hi rfl;by_cases hlt:i < r.2.1.length
  ·have e1:decide ((i:Int) < (r.2.1.length:Int)) = true:=decide_eq_true (by omega);have hx:idx (mkL r.2.1.length t) (i:Int) = some (t i):=qaB (qbb _ hlt);have hy:idx (mkL r.2.1.length (λj=>if j < i then qgZ r.2.1.length (ent r.1) t d j else qfK r.2.1.length (ent r.1) d j)) (i:Int) = some (qfK r.2.1.length (ent r.1) d i):=by
    rw [qaB (qbb _ hlt),if_neg (Nat.lt_irrefl i)]
   simp only [e1,cond_true,hx,hy,qb,Int.toNat_natCast];rw [qwE (h.tB i hlt) (qyZ h.pB h.dB hn3 hlt) (by omega),qb,wid (by omega) (by omega),qaE];refine ⟨hlt,?_⟩;congr 1
   rw [qza _ _ hlt];refine qcc λk hk=>?_;by_cases c:k = i
   ·subst c;rw [if_pos rfl,if_pos (by omega)]; rfl
   ·rw [if_neg c];by_cases c2:k < i
    ·rw [if_pos c2,if_pos (by omega)]
    ·rw [if_neg c2,if_neg (by omega)]
  ·have:i = r.2.1.length:=by omega
   subst this;have e1:decide ((r.2.1.length:Int) < (r.2.1.length:Int)) = false:=by simp
   simp only [e1,cond_false];rw [qaq];exact qcc λk hk=>if_pos hk
 ·rintro q rfl;refine ok_eq.2 ?_;have hL:∀ k,k < r.2.1.length->Bd 1210000 (qgZ r.2.1.length (ent r.1) t d k):=λk hk=>qyz h.pB h.dB h.tB hn3 hk;rw [qC2 r.2.1.length (qBo r t d) (λi hi=>?_) ?_]
  ·rfl
  ·have e0:decide ((r.2.1.length:Int) < (r.2.1.length:Int)) = false:=by simp
   simp only [e0,cond_false]
  ·have e0:decide ((i:Int) < (r.2.1.length:Int)) = true:=decide_eq_true (by omega);simp only [e0,cond_true];rw [qaB (qqR (qsj r.2.1) hi),qb,qad];have hbd:(r.2.1.length:Int) * (2 * (614400000 * 1210000))<=9000000000000000000:=by omega
   rw [qq8 r.2.1.length (by omega) (A:=2 * (614400000 * 1210000)) (by omega) hbd (λk=>qd6 (qsj r.2.1 i k) (qgZ r.2.1.length (ent r.1) t d k)) (λk hk=>(h.xB i k hi hk).mul (hL k hk)) (λk hk x y hxy=>?_) (λx y=>?_)]
   ·simp only [qb];have hr:=h.rB i hi;have er:qpf r.2.1.length (λk=>qd6 (qsj r.2.1 i k) (qgZ r.2.1.length (ent r.1) t d k)) = qEv r t d i:=rfl;rw [er,qjf h hr.1,qb,qjf h hr.2,qb,qdZ (by rw [qad]; omega),qb,wid (by omega) (by omega)];rfl
   ·have e0:decide ((k:Int) < (r.2.1.length:Int)) = true:=decide_eq_true (by omega);simp only [e0,cond_true];rw [qaB (qbb (λk=>qsj r.2.1 i k) hk),qb,qaB (qbb _ hk),qb];rw [qk0 (h.xB i k hi hk) (hL k hk) (by omega)];simp only [qb];rw [qrm hxy ((h.xB i k hi hk).mul (hL k hk)) (le_next (by omega) hk hbd)];rfl
   ·have e0:decide ((r.2.1.length:Int) < (r.2.1.length:Int)) = false:=by simp
    simp only [e0,cond_false]
def qDe (m:Mx) (d:List G):Int:=if qhp m = 0 then qfO d m.length else qhp m
def qDs (m:Mx) (d:List G):List G:=mkL m.length (qfK m.length (ent m) λk=>d.getD k g0)
theorem qrJ {m:Mx} {d:List G} (h:m.length<=1000000000) (hr:∀ x ∈ m,x.length<=1000000000) (hd:d.length<=1000000000):qdd m d = some (if qDe m d = 0 then (qDs m d,0) else ([],qDe m d)):=by
 unfold qdd;rw [qfU h hr,qb,qiW hd,qb,qv0,qb];have e:(if qhp m = 0 then qfO d m.length else qhp m) = qDe m d:=rfl;rw [e];by_cases c:qDe m d = 0
 case neg=>rw [decide_eq_false c,Bool.not_false,cond_true,if_neg c]
 rw [decide_eq_true c,Bool.not_true,cond_false,if_pos c];unfold qDe at c;by_cases c1:qhp m = 0
 case neg=>rw [if_neg c1] at c; exact absurd c c1
 rw [if_pos c1] at c;obtain ⟨m1,m3,mR,mB⟩:=qmH c1;obtain ⟨dl,dB⟩:=qd7 c;have e1:=qjD (d:=λk=>d.getD k g0) (qr4 mB mR) (λk hk=>dB _ (qbj (by omega))) m3;rw [<- quG mR] at e1;have e2:=qfa d g0;rw [dl] at e2;rw [<- e2] at e1;rw [e1]; rfl
def qrK (r:Rg) (t d:List G):Int:=if qpV r = 0 then (if qfO t r.1.length = 0 then qfO d r.1.length else qfO t r.1.length) else qpV r
theorem qE6 {r:Rg} {t d:List G} (h:qrK r t d = 0):qpV r = 0/\CorB r (λk=>t.getD k g0) (λk=>d.getD k g0)/\t = mkL r.2.1.length (λk=>t.getD k g0)/\d = mkL r.2.1.length (λk=>d.getD k g0):=by
 unfold qrK at h;by_cases c1:qpV r = 0
 case neg=>rw [if_neg c1] at h; exact absurd h c1
 rw [if_pos c1] at h;by_cases c2:qfO t r.1.length = 0
 case neg=>rw [if_neg c2] at h; exact absurd h c2
 rw [if_pos c2] at h;have hl:=(qnS c1).2.2.1;rw [hl] at c2 h;obtain ⟨tl,tB⟩:=qd7 c2;obtain ⟨dl,dB⟩:=qd7 h;have e1:=qfa t g0;have e2:=qfa d g0;rw [tl] at e1;rw [dl] at e2;exact ⟨c1,qFE c1 (λk hk=>tB _ (qbj (by omega))) (λk hk=>dB _ (qbj (by omega))),e1,e2⟩
theorem qld {r:Rg} {t d:List G} (hp:r.1.length<=1000000000) (hpr:∀ x ∈ r.1,x.length<=1000000000) (hm:r.2.1.length<=1000000000) (hmr:∀ x ∈ r.2.1,x.length<=1000000000) (hd:r.2.2.2.1<=9223372036854775807) (ht:t.length<=1000000000) (hd2:d.length<=1000000000) :
  ∃ y,qa8 r t d = some (y,qrK r t d)/\(qrK r t d = 0->y = (r.1,r.2.1,r.2.2.1,r.2.2.2.1,r.2.2.2.2.1,qrx r.2.1,mx r.2.1.length r.2.1.length (qsj r.2.1),())):=by
 obtain ⟨y,e1,e2⟩:=qx7 hp hpr hm hmr hd;have e1':qdM (r.1,r.2.1,r.2.2.1,r.2.2.2.1,r.2.2.2.2.1,()) = some (y,qpV r):=e1;unfold qa8;rw [e1',qb,qiW ht,qb,qiW hd2,qb,qCN,qb];exact ⟨y,rfl,λh=>e2 (qE6 h).1⟩
end Go.Proofs.YteiciemjanhdcaaGreatDoor.Mat
namespace Go.Proofs.YteiciemjanhdcaaGreatDoor
open Go Go.Ab Go.Tx
end Go.Proofs.YteiciemjanhdcaaGreatDoor
end
section
namespace Go.Proofs.YteiciemjanhdcaaGreatDoor.Mat
open Go Go.Ab Go.Tx Go.Proofs.YteiciemjanhdcaaGreatDoor
def qDF (r:Rg) (t d:Nat->G) (i:Nat):G:=qpz (qBo r t d i) (d i)
def qiM (r:Rg) (t d:List G):List G:=mkL r.2.1.length (qDF r (λk=>t.getD k g0) λk=>d.getD k g0)
theorem qCz {r:Rg} (h:0<=r.2.2.2.2.1/\r.2.2.2.2.1<=1000) (z:Int) : -r.2.2.2.2.1<=clF r z/\clF r z<=r.2.2.2.2.1:=by
 unfold clF; omega
theorem qFb {r:Rg} (h:0<=r.2.2.2.2.1/\r.2.2.2.2.1<=1000) (t d:Nat->G) (i:Nat):Bd 1000 (qBo r t d i):=by
 have h1:=qCz h (qEv r t d i).1;have h2:=qCz h (qEv r t d i).2.1;unfold Bd qBo;simp only
 omega
abbrev OR (r:Rg):Mx × Mx × Int × Int × Int × Int × Mx × Unit:=(r.1,r.2.1,r.2.2.1,r.2.2.2.1,r.2.2.2.2.1,qrx r.2.1,mx r.2.1.length r.2.1.length (qsj r.2.1),())
theorem qsg {r:Rg} {t d:Nat->G} (h:CorB r t d) :
  qbh (OR r) (mkL r.2.1.length t) (mkL r.2.1.length d) = some (if qfO (mkL r.2.1.length (qDF r t d)) r.2.1.length = 0 then (mkL r.2.1.length (qDF r t d),0) else ([],22)):=by
 have hn3:=h.n3;unfold qbh;rw [qre h,qb,qad];refine Ok.eq ?_;rw [qeb];refine (qbc r.2.1.length (λi (s:List G × Int)=>s = (mkL r.2.1.length (λj=>if j < i then qDF r t d j else qBo r t d j),(i:Int))) (λq=>q = mkL r.2.1.length (qDF r t d)) ?_ ?_).mono ?_
 ·congr 1
 ·rintro i s hi rfl;by_cases hlt:i < r.2.1.length
  ·have e1:decide ((i:Int) < (r.2.1.length:Int)) = true:=decide_eq_true (by omega);have hx:idx (mkL r.2.1.length d) (i:Int) = some (d i):=qaB (qbb _ hlt);have hy:idx (mkL r.2.1.length (λj=>if j < i then qDF r t d j else qBo r t d j)) (i:Int) = some (qBo r t d i):=by
    rw [qaB (qbb _ hlt),if_neg (Nat.lt_irrefl i)]
   simp only [e1,cond_true,hx,hy,qb,Int.toNat_natCast];rw [qrm (qFb h.step t d i) (h.dB i hlt) (by omega),qb,wid (by omega) (by omega),qaE];refine ⟨hlt,?_⟩;congr 1
   rw [qza _ _ hlt];refine qcc λk hk=>?_;by_cases c:k = i
   ·subst c;rw [if_pos rfl,if_pos (by omega)]; rfl
   ·rw [if_neg c];by_cases c2:k < i
    ·rw [if_pos c2,if_pos (by omega)]
    ·rw [if_neg c2,if_neg (by omega)]
  ·have:i = r.2.1.length:=by omega
   subst this;have e1:decide ((r.2.1.length:Int) < (r.2.1.length:Int)) = false:=by simp
   simp only [e1,cond_false];rw [qaq];exact qcc λk hk=>if_pos hk
 ·rintro q rfl;refine ok_eq.2 ?_;rw [qad,qiW (by rw [qad]; omega),qb];by_cases c:qfO (mkL r.2.1.length (qDF r t d)) r.2.1.length = 0
  ·rw [decide_eq_true c,if_pos c]; rfl
  ·rw [decide_eq_false c,if_neg c]; rfl
theorem qp5 {r:Rg} {t d:List G} (hE:qpV r = 0) (ht:qfO t r.2.1.length = 0) (hd:qfO d r.2.1.length = 0) :
  qbh (OR r) t d = some (if qfO (qiM r t d) r.2.1.length = 0 then (qiM r t d,0) else ([],22)):=by
 obtain ⟨tl,tB⟩:=qd7 ht;obtain ⟨dl,dB⟩:=qd7 hd;have e1:=qfa t g0;have e2:=qfa d g0;rw [tl] at e1;rw [dl] at e2;have:=qsg (qFE hE (t:=λk=>t.getD k g0) (d:=λk=>d.getD k g0) (λk hk=>tB _ (qbj (by omega))) (λk hk=>dB _ (qbj (by omega))));rw [<- e1,<- e2] at this;exact this
structure Three (r:Rg) (t s0 s1 s2 s3:List G):Prop where
 z0:qfO s0 r.2.1.length = 0
 z1:qfO s1 r.2.1.length = 0
 z2:qfO s2 r.2.1.length = 0
 z3:qfO s3 r.2.1.length = 0
 e1:s1 = qiM r t s0
 e2:s2 = qiM r t s1
 e3:s3 = qiM r t s2
end Go.Proofs.YteiciemjanhdcaaGreatDoor.Mat
end
section
namespace Go.Proofs.YteiciemjanhdcaaGreatDoor.Mat
open Go Go.Ab Go.Tx Go.Proofs.YteiciemjanhdcaaGreatDoor
theorem qjG {l:List G} {n:Nat} (h:n<=1000000000):qbv l (n:Int) = some (qfO l n):=by
 by_cases c:l.length = n
 ·exact qrP (by omega)
 ·unfold qbv qfO;rw [decide_eq_false (show ¬ (l.length:Int) = (n:Int) by omega),Bool.not_false,cond_true,if_neg c]
theorem qAF {r:Rg} {t d:List G} (hd:r.2.2.2.1<=9223372036854775807) :
  qez r t d = some (qrK r t d):=by
 unfold qez qrK;rw [qzD hd,qb];by_cases c1:qpV r = 0
 case neg=>rw [decide_eq_false c1,Bool.not_false,cond_true,if_neg c1]
 have hp:r.1.length<=1000000000:=by have:=(qmH (qnS c1).1).2.1; omega
 rw [decide_eq_true c1,Bool.not_true,cond_false,if_pos c1,qjG hp,qb];by_cases c2:qfO t r.1.length = 0
 case neg=>rw [decide_eq_false c2,Bool.not_false,cond_true,if_neg c2]
 rw [decide_eq_true c2,Bool.not_true,cond_false,if_pos c2,qjG hp]; rfl
end Go.Proofs.YteiciemjanhdcaaGreatDoor.Mat
namespace Go.Proofs.YteiciemjanhdcaaGreatDoor
open Go Go.Ab Go.Tx
end Go.Proofs.YteiciemjanhdcaaGreatDoor
end
section
namespace Go.Proofs.YteiciemjanhdcaaGreatDoor.Mat
open Go Go.Ab Go.Tx Go.Proofs.YteiciemjanhdcaaGreatDoor
structure RdB (r:Rg) (t d:List G):Prop where
 rig:qpV r = 0
 tz:qfO t r.2.1.length = 0
 dz:qfO d r.2.1.length = 0
theorem RdB.of {r:Rg} {t d:List G} (h:qrK r t d = 0):RdB r t d:=by
 unfold qrK at h;by_cases c1:qpV r = 0
 case neg=>rw [if_neg c1] at h; exact absurd h c1
 rw [if_pos c1] at h;by_cases c2:qfO t r.1.length = 0
 case neg=>rw [if_neg c2] at h; exact absurd h c2
 rw [if_pos c2] at h;have hl:=(qnS c1).2.2.1;rw [hl] at c2 h;exact ⟨c1,c2,h⟩
theorem RdB.cor {r:Rg} {t d:List G} (h:RdB r t d):CorB r (λk=>t.getD k g0) (λk=>d.getD k g0)/\t = mkL r.2.1.length (λk=>t.getD k g0)/\d = mkL r.2.1.length (λk=>d.getD k g0):=by
 obtain ⟨tl,tB⟩:=qd7 h.tz;obtain ⟨dl,dB⟩:=qd7 h.dz;have e1:=qfa t g0;have e2:=qfa d g0;rw [tl] at e1;rw [dl] at e2;exact ⟨qFE h.rig (λk hk=>tB _ (qbj (by omega))) (λk hk=>dB _ (qbj (by omega))),e1,e2⟩
theorem qBR (r:Rg) (t d:List G):(qiM r t d).length = r.2.1.length:=qad _ _
def inF (r:Rg) (t d:List G) (most:Int):Bool:=decide (∀ i,i < r.2.1.length->Bd most (qgZ r.2.1.length (ent r.1) (λk=>t.getD k g0) (λk=>d.getD k g0) i))
instance (r:Rg) (t d:List G) (most:Int):Decidable (∀ i,i < r.2.1.length->Bd most (qgZ r.2.1.length (ent r.1) (λk=>t.getD k g0) (λk=>d.getD k g0) i)):=Nat.decidableBallLT _ _
theorem qBl {a b:List G} (hl:a.length = b.length) (h:a.length<=1000):qG a b = some (mkL a.length λi=>((a.getD i g0).1,(a.getD i g0).2.1,(b.getD i g0).1,(b.getD i g0).2.1,())):=by
 unfold qG;have k1:Ok (qab (λ(s2:(Int × (List (Int × Int × Int × Int × Unit)))) =>
   bif decide (s2.1 < (a.length:Int)) then
    (idx a s2.1).bind λx3 =>
    (idx b s2.1).bind λx4 =>
    (app s2.2 ([(x3.1,x3.2.1,x4.1,x4.2.1,())])).bind λx5 =>
    some (.inl (w64 (s2.1 + 1),x5))
   else
    some (.inr s2.2)) (0,[])) (λq=>q = mkL a.length λi=>((a.getD i g0).1,(a.getD i g0).2.1,(b.getD i g0).1,(b.getD i g0).2.1,())):=by
  refine qbc a.length (λi (s:Int × List (Int × Int × Int × Int × Unit))=>s = ((i:Int),mkL i λi=>((a.getD i g0).1,(a.getD i g0).2.1,(b.getD i g0).1,(b.getD i g0).2.1,()))) _ rfl ?_;rintro i s hi rfl;by_cases hlt:i < a.length
  ·have e0:decide ((i:Int) < (a.length:Int)) = true:=decide_eq_true (by omega);have hx:idx a (i:Int) = some (a.getD i g0):=qaB (qgi g0 (by omega));have hy:idx b (i:Int) = some (b.getD i g0):=qaB (qgi g0 (by omega));simp only [e0,cond_true,hx,hy,qb];rw [qdZ (by rw [qad]; omega),qb,wid (by omega) (by omega),qaE];exact ⟨hlt,by rw [qfW]; simp⟩
  ·have:i = a.length:=by omega
   subst this;have e0:decide ((a.length:Int) < (a.length:Int)) = false:=by simp
   simp only [e0,cond_false];rw [qaq]
 rw [k1.eq]; rfl
def qhO (r:Rg) (t:List G) (most:Int):Nat->List G->Int × Int
 | 0,d=>if inF r t d most = true then (20,0) else (0,12)
 | f + 1,d=>if inF r t d most = true then (((20 - (f + 1):Nat):Int),0) else if qfO (qiM r t d) r.2.1.length = 0 then qhO r t most f (qiM r t d) else (0,22)
theorem qnW (r:Rg) (t:List G) (most:Int) (f:Nat) (d:List G):qhO r t most (f + 1) d = if inF r t d most = true then (((20 - (f + 1):Nat):Int),0) else if qfO (qiM r t d) r.2.1.length = 0 then qhO r t most f (qiM r t d) else (0,22):=rfl
theorem qos (r:Rg) (t:List G) (most:Int) (d:List G):qhO r t most 0 d = if inF r t d most = true then (20,0) else (0,12):=rfl
theorem qEc {r:Rg} {t d:List G} (h:RdB r t d) {most:Int} (h0:0<=most/\most<=10000) :
  Ok ((qa1 r.1 d).bind λx8 =>
    (qG t x8).bind λx9 =>
    (qab (λ(s11:Int) =>
       bif decide (s11 < (x9.length:Int)) then
        (idx x9 s11).bind λx12 =>
        (qae (x12.1,x12.2.1,()) (x12.2.2.1,x12.2.2.2.1,())).bind λx13 =>
        (qau x13 most).bind λx14 =>
        bif !x14 then
         some (.inr (.inr s11))
        else
         some (.inl (w64 (s11 + 1)))
       else
        some (.inr (.inl ()))) 0).bind (Sum.elim (λ(p15:Unit) =>
     some (-1)) some)) λp:Int=>decide (p>=0) = !(inF r t d most):=by
 obtain ⟨hC,e1,e2⟩:=h.cor;have hn3:=hC.n3;have tl:t.length = r.2.1.length:=(qd7 h.tz).1;have hr:qa1 r.1 d = some (mkL r.2.1.length (qfK r.2.1.length (ent r.1) λk=>d.getD k g0)):=by
  have:=qjD hC.pB hC.dB hn3;rw [<- hC.pm,<- e2] at this;exact this
 rw [hr,qb,qBl (by rw [qad,tl]) (by omega),qb,tl];rw [qgY (mkL r.2.1.length λi=>((t.getD i g0).1,(t.getD i g0).2.1,((mkL r.2.1.length (qfK r.2.1.length (ent r.1) λk=>d.getD k g0)).getD i g0).1,((mkL r.2.1.length (qfK r.2.1.length (ent r.1) λk=>d.getD k g0)).getD i g0).2.1,())) _
  (λi _=>if Bd most (qgZ r.2.1.length (ent r.1) (λk=>t.getD k g0) (λk=>d.getD k g0) i) then none else some (i:Int)) (λi z hi=>by
  have hlt:=qik hi;rw [qad] at hlt;rw [qaB hi];rw [qbb _ hlt] at hi;cases hi;simp only [qb];rw [qrq _ _ hlt,qwE (A:=10000) (B:=1200000) (hC.tB i hlt) (qyZ hC.pB hC.dB hn3 hlt) (by omega),qb,qdg _ _ (by omega) (by omega),qb];show (bif !decide (Bd most (qgZ r.2.1.length (ent r.1) (λk=>t.getD k g0) (λk=>d.getD k g0) i)) then _ else _) = _;by_cases c:Bd most (qgZ r.2.1.length (ent r.1) (λk=>t.getD k g0) (λk=>d.getD k g0) i)
  ·simp only [c,decide_true,Bool.not_true,cond_false,if_true,stp]; rw [wid (by omega) (by omega)]
  ·simp only [c,decide_false,Bool.not_false,cond_true,if_false,stp]),qeq]
 split
 ·rename_i b hf;obtain ⟨i,z,hi,hz,_⟩:=qfm hf;have hlt:=qik hi;rw [qad] at hlt;have hz':¬ Bd most (qgZ r.2.1.length (ent r.1) (λk=>t.getD k g0) (λk=>d.getD k g0) i):=λc=>by rw [Nat.zero_add,if_pos c] at hz; cases hz
  rw [Nat.zero_add,if_neg hz'] at hz;cases hz;have:inF r t d most = false:=decide_eq_false λhh=>hz' (hh i hlt);rw [qc1,this];exact decide_eq_true (by omega)
 ·rename_i hf;have:inF r t d most = true:=decide_eq_true λi hi=>by
   have h1:=qfn.1 hf i _ (qbb _ hi);by_cases c:Bd most (qgZ r.2.1.length (ent r.1) (λk=>t.getD k g0) (λk=>d.getD k g0) i)
   ·exact c
   ·rw [Nat.zero_add,if_neg c] at h1; cases h1
  rw [qc1,this];rfl
theorem qsD {r:Rg} {t d:List G} (hp:r.1.length<=1000000000) (hpr:∀ x ∈ r.1,x.length<=1000000000) (hm:r.2.1.length<=1000000000) (hmr:∀ x ∈ r.2.1,x.length<=1000000000) (hd:r.2.2.2.1<=9223372036854775807) (ht:t.length<=1000000000) (hd2:d.length<=1000000000) (most:Int) :
  qdW r t d most = some (if qrK r t d = 0 then (if 0<=most/\most<=10000 then qhO r t most 20 d else (0,2)) else (0,qrK r t d)):=by
 obtain ⟨y,e1,e2⟩:=qld hp hpr hm hmr hd ht hd2;have e1':qa8 (r.1,r.2.1,r.2.2.1,r.2.2.2.1,r.2.2.2.2.1,()) t d = some (y,qrK r t d):=e1;unfold qdW;rw [e1',qb,qkA,qb,qdG,qb,qv0,qb];by_cases hE:qrK r t d = 0
 case neg=>simp [hE]
 have hy:=e2 hE;subst hy;by_cases c0:0<=most/\most<=10000
 case neg=>simp [hE,c0]
 simp only [hE,c0,and_self,decide_true,if_true,Bool.not_true,cond_false];refine Ok.eq ?_;refine qAZ.2 ?_;refine (qbc 20 (λi (s:List G × Int)=>s.2 = (i:Int)/\RdB r t s.1/\qhO r t most (20 - i) s.1 = qhO r t most 20 d)
  (λq:Unit ⊕ (Int × Int)=>q = .inr (qhO r t most 20 d)) ⟨rfl,RdB.of hE,by rw [Nat.sub_zero]⟩ ?_).mono ?_
 ·rintro i ⟨s,j⟩ hi ⟨h1,h2,h3⟩;simp only at h1 h2 h3;subst h1;obtain ⟨p,hp1,hp2⟩:=qEc h2 c0;obtain ⟨x8,q1,hp1⟩:=qh.1 hp1;obtain ⟨x9,q2,hp1⟩:=qh.1 hp1;simp only [q1,q2,qb,hp1,hp2,Bool.not_not];by_cases hlt:i < 20
  ·obtain ⟨f,hf⟩:∃ f,20 - i = f + 1:=⟨20 - i - 1,by omega⟩
   rw [hf,qnW r t most f s] at h3;have hi20:¬ ((i:Int) = 20):=by omega
   cases c:inF r t s most with
   | true =>
    rw [c,if_pos rfl] at h3;simp only [cond_true];rw [qaq,<- h3];congr 2
    omega
   | false =>
    rw [c,if_neg (by simp)] at h3;simp only [cond_false,hi20,decide_false];rw [qp5 h2.rig h2.tz h2.dz,qb];by_cases c2:qfO (qiM r t s) r.2.1.length = 0
    ·rw [if_pos c2] at h3 ⊢;simp only [decide_true,Bool.not_true,cond_false];rw [wid (by omega) (by omega),qaE];refine ⟨hlt,by simp,⟨h2.rig,h2.tz,c2⟩,?_⟩;rw [show 20 - (i + 1) = f by omega]; exact h3
    ·rw [if_neg c2] at h3 ⊢;simp only [show ¬ ((22:Int) = 0) by omega,decide_false,Bool.not_false,cond_true];rw [qaq,<- h3]
  ·have:i = 20:=by omega
   subst this;rw [Nat.sub_self,qos r t most s] at h3;cases c:inF r t s most with
   | true =>
    rw [c,if_pos rfl] at h3;simp only [cond_true];rw [qaq,<- h3];rfl
   | false =>
    rw [c,if_neg (by simp)] at h3;have e20:decide (((20:Nat):Int) = 20) = true:=by decide
    simp only [cond_false,e20,cond_true];rw [qaq,<- h3]
 ·rintro q rfl;rfl
def qjS (r:Rg) (t:List G):Nat->List G->Option (List (List G))
 | 0,_=>some []
 | k + 1,d=>if qfO (qiM r t d) r.2.1.length = 0 then (qjS r t k (qiM r t d)).map λl=>qiM r t d :: l else none
theorem qiT (r:Rg) (t:List G) (k:Nat) (d:List G):qjS r t (k + 1) d = if qfO (qiM r t d) r.2.1.length = 0 then (qjS r t k (qiM r t d)).map λl=>qiM r t d :: l else none:=rfl
theorem qz0 {r:Rg} {t d:List G} (h:RdB r t d) {k:Nat} (hk:k<=20) {ρ:Type} {K:List G × List (List G) × Int->Option ((List G × List (List G) × Int) ⊕ (List (List G) ⊕ ρ))} (bad:ρ)
  (hK:∀ (i:Nat) s L,i < k->RdB r t s->L.length<=20->K (s,L,(i:Int)) = some (if qfO (qiM r t s) r.2.1.length = 0 then .inl (qiM r t s,L ++ [qiM r t s],(i:Int) + 1) else .inr (.inr bad))) :
  Ok (qab (λs=>bif decide (s.2.2 < (k:Int)) then K s else some (.inr (.inl s.2.1))) (d,[],0)) λq=>q = (match qjS r t k d with | some l=>.inl l | none=>.inr bad):=by
 refine qbc k (λi (s:List G × List (List G) × Int)=>s.2.2 = (i:Int)/\RdB r t s.1/\s.2.1.length = i/\qjS r t k d = (qjS r t (k - i) s.1).map λl=>s.2.1 ++ l) _ ⟨rfl,h,rfl,by simp⟩ ?_;rintro i ⟨s,L,j⟩ hi ⟨h1,h2,h3,h4⟩;simp only at h1 h2 h3 h4;subst h1;by_cases hlt:i < k
 ·have e1:decide ((i:Int) < (k:Int)) = true:=decide_eq_true (by omega);simp only [e1,cond_true];rw [hK i s L hlt h2 (by omega)];obtain ⟨f,hf⟩:∃ f,k - i = f + 1:=⟨k - i - 1,by omega⟩
  rw [hf,qiT] at h4;by_cases c:qfO (qiM r t s) r.2.1.length = 0
  ·rw [if_pos c] at h4 ⊢;rw [qaE];refine ⟨hlt,by simp,⟨h2.rig,h2.tz,c⟩,by simp [h3],?_⟩;rw [show k - (i + 1) = f by omega,h4,Option.map_map];congr 1
   funext l
   simp
  ·rw [if_neg c] at h4 ⊢;rw [qaq,h4];rfl
 ·have:i = k:=by omega
  subst this;have e1:decide ((i:Int) < (i:Int)) = false:=by simp
  simp only [e1,cond_false];rw [qaq,h4,Nat.sub_self];simp [qjS]
theorem qpZ {r:Rg} {t d:List G} (hp:r.1.length<=1000000000) (hpr:∀ x ∈ r.1,x.length<=1000000000) (hm:r.2.1.length<=1000000000) (hmr:∀ x ∈ r.2.1,x.length<=1000000000) (hd:r.2.2.2.1<=9223372036854775807) (ht:t.length<=1000000000) (hd2:d.length<=1000000000) (n:Int) :
  qci r t d n = some (if qrK r t d = 0 then (if 0<=n/\n<=20 then (match qjS r t n.toNat d with | some l=>(l,0) | none=>([],22)) else ([],2)) else ([],qrK r t d)):=by
 obtain ⟨y,e1,e2⟩:=qld hp hpr hm hmr hd ht hd2;have e1':qa8 (r.1,r.2.1,r.2.2.1,r.2.2.2.1,r.2.2.2.2.1,()) t d = some (y,qrK r t d):=e1;unfold qci;rw [e1',qb,qkA,qb,qdG,qb,qv0,qb];by_cases hE:qrK r t d = 0
 case neg=>simp [hE]
 have hy:=e2 hE;subst hy;by_cases c0:0<=n/\n<=20
 case neg=>simp [hE,c0]
 obtain ⟨k,rfl⟩:∃ k:Nat,n = (k:Int):=⟨n.toNat,by omega⟩
 simp only [hE,c0,and_self,decide_true,if_true,Bool.not_true,cond_false,Int.toNat_natCast];have key:=qz0 (RdB.of hE) (k:=k) (by omega) (K:=λs7=>(qbh (OR r) t s7.1).bind λx8 =>
     bif !(decide (x8.2 = 0)) then
      some (.inr (.inr ([],x8.2)))
     else
      (app s7.2.1 ([x8.1])).bind λx9 =>
      some (.inl (x8.1,x9,w64 (s7.2.2 + 1)))) (([],22):List (List G) × Int) (λi s L hi hs hL=>by
  rw [qp5 hs.rig hs.tz hs.dz,qb];by_cases c:qfO (qiM r t s) r.2.1.length = 0
  ·simp only [c,if_true,decide_true,Bool.not_true,cond_false];rw [qdZ (by omega),qb,wid (by omega) (by omega)]
  ·simp [c])
 rw [key.eq];cases qjS r t k d <;> rfl
theorem qzP {r:Rg} {t:List G} (hm:r.2.1.length<=3):∀ {k:Nat} {d:List G} {l:List (List G)},qjS r t k d = some l->l.length = k/\∀ x ∈ l,x.length<=3
 | 0,d,l,h=>by simp only [qjS,qe] at h; subst h; exact ⟨rfl,by simp⟩
 | k + 1,d,l,h=>by
  simp only [qjS] at h;split at h
  ·obtain ⟨l',h1,rfl⟩:=qf.1 h;obtain ⟨a,b⟩:=qzP hm h1;refine ⟨by simp [a],λx hx=>?_⟩;rcases qp.1 hx with rfl | hx
   ·rw [qBR]; exact hm
   ·exact b x hx
  ·cases h
end Go.Proofs.YteiciemjanhdcaaGreatDoor.Mat
namespace Go.Proofs.YteiciemjanhdcaaGreatDoor
open Go Go.Ab Go.Tx
end Go.Proofs.YteiciemjanhdcaaGreatDoor
end
section
namespace Go.Dec
open Go Go.Lib
def isD (c:UInt8):Prop:=48<=c.toNat/\c.toNat<=57
instance:DecidablePred isD:=λc=>inferInstanceAs (Decidable (_/\_))
def qlZ (n:Nat) (c:UInt8):Nat:=10 * n + (c.toNat - 48)
def val (l:List UInt8):Nat:=l.foldl qlZ 0
theorem qrs (l:List UInt8) (c:UInt8):val (l ++ [c]) = 10 * val l + (c.toNat - 48):=by simp [val,qlZ]
theorem qh6 {d:Nat} (h:d < 10):(UInt8.ofNat (48 + d)).toNat = 48 + d:=by
 rw [UInt8.toNat_ofNat']; omega
theorem qgA {u:Nat} (h:u < 10):decDigits u = [UInt8.ofNat (48 + u)]:=by rw [decDigits,dif_pos h]
theorem qvv {u:Nat} (h:¬ u < 10):decDigits u = decDigits (u / 10) ++ [UInt8.ofNat (48 + u % 10)]:=by rw [decDigits,dif_neg h]
theorem qke:∀ u:Nat,(∀ c ∈ decDigits u,isD c)/\decDigits u ≠ []/\val (decDigits u) = u/\(0 < u->(decDigits u).head? ≠ some 48):=by
 intro u;induction u using Nat.strongRecOn with
 | _ u ih =>
  by_cases h:u < 10
  ·rw [qgA h];refine ⟨?_,by simp,?_,?_⟩
   ·intro c hc;rw [List.mem_singleton] at hc;subst hc;unfold isD;rw [qh6 h]; omega
   ·simp only [val,List.foldl,qlZ];rw [qh6 h]; omega
   ·intro h0 e;simp only [List.head?_cons,qe] at e;have e2:=congrArg UInt8.toNat e;rw [qh6 h] at e2;have:(48:UInt8).toNat = 48:=rfl;omega
  ·obtain ⟨h1,h2,h3,h4⟩:=ih (u / 10) (by omega);have hm:u % 10 < 10:=Nat.mod_lt _ (by omega);rw [qvv h];refine ⟨λc hc=>?_,by simp,?_,λ_=>?_⟩
   ·rcases qo.1 hc with hc | hc
    ·exact h1 c hc
    ·rw [List.mem_singleton] at hc;subst hc;unfold isD;rw [qh6 hm]; omega
   ·rw [qrs,h3,qh6 hm]; omega
   ·cases hd:decDigits (u / 10) with
    | nil=>exact absurd hd h2
    | cons a t =>
     rw [hd] at h4;simpa using h4 (by omega)
theorem qon:∀ (k u:Nat),u < 10 ^ k->1<=k->(decDigits u).length<=k
 | 0,u,h,h1=>by omega
 | k + 1,u,h,_=>by
  by_cases h9:u < 10
  ·rw [qgA h9]; simp
  ·rw [qvv h9,List.length_append,List.length_singleton];have hk:1<=k:=by
    rcases Nat.eq_zero_or_pos k with rfl | h0
    ·simp at h; omega
    ·exact h0
   have:=qon k (u / 10) (by rw [Nat.pow_succ] at h; omega) hk;omega
theorem quP:∀ (n:Nat) (ds:List UInt8),ds.length<=n->ds ≠ []->(∀ c ∈ ds,isD c)->(ds.head? ≠ some 48\/ds.length = 1)->decDigits (val ds) = ds
 | 0,ds,hl,h0,_,_=>absurd (List.eq_nil_of_length_eq_zero (by omega)) h0
 | n + 1,ds,hl,h0,hd,hh=>by
  obtain ⟨es,c,rfl⟩:∃ es c,ds = es ++ [c]:=⟨ds.dropLast,ds.getLast h0,(List.dropLast_concat_getLast h0).symm⟩
  have hc:=hd c (by simp);unfold isD at hc;have hcc:UInt8.ofNat (48 + (c.toNat - 48)) = c:=by
   rw [show 48 + (c.toNat - 48) = c.toNat by omega]; simp
  rw [qrs];by_cases he:es = []
  ·subst he;simp only [val,List.foldl,Nat.mul_zero,Nat.zero_add,List.nil_append];rw [qgA (by omega),hcc]
  ·have hlen:1<=es.length:=List.length_pos_iff.2 he;rw [List.length_append,List.length_singleton] at hl hh;have hh2:es.head? ≠ some 48:=by
    rcases hh with hh | hh
    ·cases es with
     | nil=>exact absurd rfl he
     | cons a t=>simpa using hh
    ·omega
   have ih:=quP n es (by omega) he (λx hx=>hd x (by simp [hx])) (.inl hh2);have hv:0 < val es:=by
    rcases Nat.eq_zero_or_pos (val es) with h | h
    ·rw [h] at ih;rw [<- ih,qgA (by omega)] at hh2;exact absurd rfl hh2
    ·exact h
   rw [qvv (by omega),show (10 * val es + (c.toNat - 48)) / 10 = val es by omega,show (10 * val es + (c.toNat - 48)) % 10 = c.toNat - 48 by omega,ih,hcc]
theorem qCL:∀ (n:Nat) (ds:List UInt8),ds.length<=n->(∀ c ∈ ds,isD c)->val ds < 10 ^ n
 | 0,ds,hl,_=>by
  have:ds = []:=List.eq_nil_of_length_eq_zero (by omega);subst this; simp [val]
 | n + 1,ds,hl,hd=>by
  by_cases h0:ds = []
  ·subst h0; simp only [val,List.foldl]; exact Nat.pow_pos (by omega)
  ·obtain ⟨es,c,rfl⟩:∃ es c,ds = es ++ [c]:=⟨ds.dropLast,ds.getLast h0,(List.dropLast_concat_getLast h0).symm⟩
   have hc:=hd c (by simp);unfold isD at hc;rw [List.length_append,List.length_singleton] at hl;have:=qCL n es (by omega) (λx hx=>hd x (by simp [hx]));rw [qrs,Nat.pow_succ]; omega
theorem qzl:∀ (l:List UInt8) (a:Nat),a<=l.foldl qlZ a
 | [],a=>Nat.le_refl _
 | c :: l,a=>Nat.le_trans (by unfold qlZ; omega) (qzl l (qlZ a c))
theorem qmu:∀ (l:List UInt8) (a:Nat),(∀ c ∈ l,isD c)->l.foldl qlZ a < 10 ^ 18->parseUint10 a l = .ok (l.foldl qlZ a)
 | [],a,_,_=>rfl
 | c :: l,a,hd,h=>by
  have hc:=hd c (by simp);have h1:=qzl l (qlZ a c);simp only [List.foldl_cons] at h ⊢;have h2:qlZ a c < 10 ^ 18:=by omega
  unfold isD at hc;unfold parseUint10;rw [if_pos hc];have e:a * 10 + (c.toNat - 48) = qlZ a c:=by unfold qlZ; omega
  have h3:a * 10<=qlZ a c:=by omega
  rw [if_neg (by omega),e,if_neg (by omega)];exact qmu l _ (λx hx=>hd x (by simp [hx])) h
def num (d:Nat) (w:List UInt8):Option Int:=match atoiAll w with
 | .ok v=>if itoa v = w/\(trimPrefix w [45]).length<=d then some v else none
 | _=>none
theorem qmf (r:List UInt8):trimPrefix (45 :: r) [45] = r:=by
 unfold trimPrefix hasPrefix;simp
theorem qp9 {w:List UInt8} (h:w.head? ≠ some 45):trimPrefix w [45] = w:=by
 unfold trimPrefix hasPrefix;cases w with
 | nil=>simp
 | cons c l =>
  have:¬ (45:UInt8) = c:=λe=>h (by simp [e]);simp [this]
def qeH (w:List UInt8):List UInt8:=if w.head? = some 45 then w.drop 1 else w
def qFn (d:Nat) (w:List UInt8):Prop:=qeH w = []\/d < (qeH w).length\/((qeH w).head? = some 48/\1 < w.length) \/ ¬ ∀ c ∈ qeH w,isD c
instance (d:Nat) (w:List UInt8):Decidable (qFn d w):=inferInstanceAs (Decidable (_\/_))
def qFi (d:Nat) (w:List UInt8):Option Int:=if qFn d w then none else some (if w.head? = some 45 then -((val (qeH w):Nat):Int) else ((val (qeH w):Nat):Int))
theorem qyP {d:Nat} {v:Int} (h:(trimPrefix (itoa v) [45]).length<=d):qFi d (itoa v) = some v:=by
 by_cases hv:v < 0
 ·have e:itoa v = 45 :: decDigits v.natAbs:=by unfold itoa; rw [if_pos hv]
  obtain ⟨h1,h2,h3,h4⟩:=qke v.natAbs;have hr:qeH (45 :: decDigits v.natAbs) = decDigits v.natAbs:=by simp [qeH]
  rw [e,qmf] at h;rw [e];unfold qFi;rw [if_neg,hr,h3]
  ·simp only [List.head?_cons,if_true]; congr 1; omega
  ·unfold qFn;rw [hr];rintro (h5 | h5 | ⟨h5,_⟩ | h5)
   ·exact h2 h5
   ·omega
   ·exact h4 (by omega) h5
   ·exact h5 h1
 ·have e:itoa v = decDigits v.toNat:=by unfold itoa; rw [if_neg hv]
  obtain ⟨h1,h2,h3,h4⟩:=qke v.toNat;have hh:(decDigits v.toNat).head? ≠ some 45:=by
   intro hc;cases hd:decDigits v.toNat with
   | nil=>rw [hd] at hc; cases hc
   | cons a t =>
    rw [hd] at hc;simp only [List.head?_cons,qe] at hc;have:=h1 a (by rw [hd]; simp);unfold isD at this;rw [hc] at this;exact absurd this.1 (by decide)
  have hr:qeH (decDigits v.toNat) = decDigits v.toNat:=by unfold qeH; rw [if_neg hh]
  rw [e,qp9 hh] at h;rw [e];unfold qFi;rw [if_neg,hr,h3,if_neg hh]
  ·congr 1; omega
  ·unfold qFn;rw [hr];rintro (h5 | h5 | ⟨h5,h6⟩ | h5)
   ·exact h2 h5
   ·omega
   ·rcases Nat.eq_zero_or_pos v.toNat with h0 | h0
    ·rw [h0,qgA (by omega)] at h6; simp at h6
    ·exact h4 h0 h5
   ·exact h5 h1
theorem qCk {d:Nat} (hd:d<=18) {w:List UInt8} {v:Int} (h:qFi d w = some v):num d w = some v:=by
 unfold qFi at h;split at h
 ·cases h
 ·rename_i hb;simp only [qe] at h;unfold qFn at hb;simp only [not_or,not_and,Classical.not_not] at hb;obtain ⟨b1,b2,b3,b4⟩:=hb;have hlt:val (qeH w) < 10 ^ 18:=qCL 18 _ (by omega) b4;have hp:parseMag (qeH w) = .ok (val (qeH w)):=by
   unfold parseMag;rw [if_neg b1];exact qmu _ 0 b4 hlt
  by_cases hm:w.head? = some 45
  ·rw [if_pos hm] at h;cases w with
   | nil=>cases hm
   | cons c r =>
    simp only [List.head?_cons,qe] at hm;subst hm;have hr:qeH (45 :: r) = r:=by simp [qeH]
    rw [hr] at b1 b2 b3 b4 hlt hp h;have h48:r.head? ≠ some 48:=λe=>by
     have:=b3 e;have h0:0 < r.length:=List.length_pos_iff.2 b1;simp only [List.length_cons] at this; omega
    have hdv:=quP r.length r (Nat.le_refl _) b1 b4 (.inl h48);have hpos:0 < val r:=by
     rcases Nat.eq_zero_or_pos (val r) with h0 | h0
     ·rw [h0,qgA (by omega)] at hdv;rw [<- hdv] at h48;exact absurd rfl h48
     ·exact h0
    have ha:atoiAll (45 :: r) = .ok v:=by
     unfold atoiAll;have e45:(45:UInt8).toNat = 45:=rfl;simp only [e45,or_true,if_true,hp,not_true,false_and,if_false,true_and];rw [if_neg (by omega),h]
    have hi:itoa v = 45 :: r:=by
     rw [<- h];unfold itoa;rw [if_pos (by omega),show (-((val r:Nat):Int)).natAbs = val r by omega,hdv]
    unfold num;rw [ha];simp only
    rw [if_pos ⟨hi,by rw [qmf]; omega⟩]
  ·rw [if_neg hm] at h;have hr:qeH w = w:=by unfold qeH; rw [if_neg hm]
   rw [hr] at b1 b2 b3 b4 hlt hp h;have hdv:=quP w.length w (Nat.le_refl _) b1 b4 (by
    by_cases h48:w.head? = some 48
    ·right
     have:=b3 h48;have h0:0 < w.length:=List.length_pos_iff.2 b1;omega
    ·exact .inl h48)
   have ha:atoiAll w = .ok v:=by
    cases w with
    | nil=>exact absurd rfl b1
    | cons c r =>
     have hc:=b4 c (by simp);unfold isD at hc;unfold atoiAll;have e1:¬ (c.toNat = 43\/c.toNat = 45):=by omega
     have e2:¬ c.toNat = 45:=by omega
     simp only [if_neg e1];rw [hp];simp only [e2,not_false_eq_true,true_and,false_and,if_false];rw [if_neg (by omega),h]
   have hi:itoa v = w:=by
    rw [<- h];unfold itoa;rw [if_neg (by omega),Int.toNat_natCast,hdv]
   unfold num;rw [ha];simp only
   rw [if_pos ⟨hi,by rw [qp9 hm]; omega⟩]
theorem qA4 {d:Nat} {w:List UInt8} {v:Int} (h:num d w = some v):atoiAll w = .ok v/\itoa v = w/\(trimPrefix w [45]).length<=d:=by
 unfold num at h;split at h
 ·rename_i u hu;split at h
  ·rename_i hc; cases h; exact ⟨hu,hc.1,hc.2⟩
  ·cases h
 ·cases h
theorem qwK {d:Nat} (hd:d<=18) (h1:1<=d) {v:Int} (h:v.natAbs < 10 ^ d):num d (itoa v) = some v:=by
 refine qCk hd (qyP ?_);by_cases hv:v < 0
 ·have e:itoa v = 45 :: decDigits v.natAbs:=by unfold itoa; rw [if_pos hv]
  rw [e,qmf];exact qon d _ h h1
 ·have e:itoa v = decDigits v.toNat:=by unfold itoa; rw [if_neg hv]
  have hl:=qon d v.toNat (by omega) h1;rw [e];unfold trimPrefix;split
  ·rw [List.length_drop]; omega
  ·exact hl
theorem qx8 (v:Int):∀ c ∈ itoa v,c = 45\/isD c:=by
 intro c hc;unfold itoa at hc;split at hc
 ·rcases qp.1 hc with h | h
  ·exact .inl h
  ·exact .inr ((qke _).1 c h)
 ·exact .inr ((qke _).1 c hc)
theorem qnM {v:Int} {c:UInt8} (h1:c ≠ 45) (h2:¬ isD c):c ∉ itoa v:=λh=>(qx8 v c h).elim h1 h2
theorem qng {v:Int} (h : -9223372036854775808<=v/\v<=9223372036854775807):(itoa v).length<=21:=by
 unfold itoa;split
 ·have:=qon 20 v.natAbs (by omega) (by omega);simp only [List.length_cons] <;> omega
 ·have:=qon 20 v.toNat (by omega) (by omega);omega
def parts (c:UInt8):List UInt8->List (List UInt8)
 | []=>[[]]
 | b :: l=>if b = c then [] :: parts c l else match parts c l with
  | []=>[[b]]
  | p :: ps=>(b :: p) :: ps
theorem qv5 (c:UInt8):∀ l,parts c l ≠ []
 | []=>by simp [parts]
 | b :: l=>by
  unfold parts;split
  ·simp
  ·split <;> simp
theorem qdr {c:UInt8}:∀ {l:List UInt8},c ∉ l->parts c l = [l]
 | [],_=>rfl
 | b :: l,h=>by
  simp only [qp,not_or] at h;unfold parts;rw [if_neg (λe=>h.1 e.symm),qdr h.2]
theorem qcd {c:UInt8}:∀ {p r:List UInt8},c ∉ p->parts c (p ++ c :: r) = p :: parts c r
 | [],r,_=>by simp [parts]
 | b :: p,r,h=>by
  simp only [qp,not_or] at h;rw [List.cons_append,parts,if_neg (λe=>h.1 e.symm),qcd h.2]
theorem qs0 (c:UInt8):∀ l:List UInt8,(parts c l).length<=l.length + 1
 | []=>by simp [parts]
 | b :: l=>by
  have:=qs0 c l;unfold parts;split
  ·simp <;> omega
  ·split
   ·simp
   ·rename_i p ps h; rw [h] at this; simp at this ⊢; omega
theorem qfI (c:UInt8):∀ s:List UInt8,(index s [c] = -1/\c ∉ s)\/∃ p r,s = p ++ c :: r/\c ∉ p/\index s [c] = (p.length:Int)
 | []=>.inl ⟨rfl,by simp⟩
 | b :: l=>by
  have e:index (b :: l) [c] = if [c].isPrefixOf (b :: l) then 0 else if index l [c] == -1 then -1 else index l [c] + 1:=rfl;by_cases h:c = b
  ·subst h;exact .inr ⟨[],l,rfl,List.not_mem_nil,by rw [e]; simp⟩
  ·have hp:([c].isPrefixOf (b :: l)) = false:=by simp [List.isPrefixOf,h]
   rw [e,hp];simp only [qj,if_false];rcases qfI c l with ⟨h1,h2⟩ | ⟨p,r,rfl,h2,h3⟩
   ·exact .inl ⟨by rw [h1]; rfl,by simp only [qp,not_or]; exact ⟨h,h2⟩⟩
   ·refine .inr ⟨b :: p,r,rfl,by simp only [qp,not_or]; exact ⟨h,h2⟩,?_⟩;rw [h3];have:(((p.length:Int) == -1)) = false:=by rw [beq_eq_false_iff_ne]; omega
    simp [this]
theorem qqJ (x y:List UInt8) (r:List (List UInt8)) (sep:List UInt8):join (x :: y :: r) sep = x ++ sep ++ join (y :: r) sep:=by
 rw [join_cons,join_cons];simp [joinTail]
theorem qqB {c:UInt8}:∀ {ws:List (List UInt8)},ws ≠ []->(∀ w ∈ ws,c ∉ w)->parts c (join ws [c]) = ws
 | [],h,_=>absurd rfl h
 | [w],_,h=>by rw [join_one]; exact qdr (h w (by simp))
 | w :: v :: r,_,h=>by
  rw [qqJ];have e:w ++ [c] ++ join (v :: r) [c] = w ++ c :: join (v :: r) [c]:=by simp
  rw [e,qcd (h w (by simp)),qqB (by simp) (λx hx=>h x (by simp [hx]))]
theorem qwv (sep:List UInt8) {B:Nat}:∀ ws:List (List UInt8),(∀ w ∈ ws,w.length<=B)->(join ws sep).length<=ws.length * (B + sep.length)
 | [],_=>by simp [join_nil]
 | [w],h=>by
  rw [join_one];have:=h w (by simp);simp only [List.length_singleton] <;> omega
 | w :: v :: r,h=>by
  rw [qqJ];have h1:=h w (by simp);have h2:=qwv sep (v :: r) (λx hx=>h x (by simp [hx]));simp only [List.length_append,List.length_cons] at h2 ⊢;rw [show (r.length + 1 + 1) * (B + sep.length) = (r.length + 1) * (B + sep.length) + (B + sep.length) by rw [Nat.add_mul (r.length + 1) 1,Nat.one_mul]];omega
def qur {α β:Type} (f:α->Option β):List α->Option (List β)
 | []=>some []
 | a :: l=>(f a).bind λb=>(qur f l).map (b :: ·)
theorem qAX {α β:Type} {f:α->Option β} {g:β->α}:∀ {l:List β},(∀ b ∈ l,f (g b) = some b)->qur f (l.map g) = some l
 | [],_=>rfl
 | b :: l,h=>by
  simp only [qm,qur];rw [h b (by simp),qAX (λx hx=>h x (by simp [hx]))];rfl
theorem qwt {α β:Type} {f:α->Option β}:∀ {l:List α} {r:List β},qur f l = some r->r.length = l.length
 | [],r,h=>by cases h; rfl
 | a :: l,r,h=>by
  simp only [qur] at h;obtain ⟨b,_,h⟩:=qh.1 h;obtain ⟨r',hr,rfl⟩:=qf.1 h;simp [qwt hr]
end Go.Dec
end
section
namespace Go.Proofs.YteiciemjanhdcaaGreatDoor
open Go Go.Ab Go.Tx Go.Dec
def qFt (n:Int):Prop:=-9223372036854775808<=n/\n<=9223372036854775807
theorem wid {n:Int} (h1 : -9223372036854775808<=n) (h2:n<=9223372036854775807):w64 n = n:=qjr h1 h2
theorem quA {n:Int} (h:qFt n):strconv_Itoa n = some (Lib.itoa n):=by
 exact if_pos h
theorem qB5 {l:List UInt8} {a:Nat} (h:a<=l.length):slc l (a:Int) (l.length:Int) = some (l.drop a):=by
 rw [qpJ (by omega)];simp
theorem qEC {l:List UInt8} {a:Nat} (h:a<=l.length):slc l 0 (a:Int) = some (l.take a):=by
 rw [qpJ (by omega)];simp
end Go.Proofs.YteiciemjanhdcaaGreatDoor
end
section
namespace Go.Proofs.YteiciemjanhdcaaGreatDoor
open Go Go.Ab Go.Tx Go.Dec Go.Proofs.YteiciemjanhdcaaGreatDoor.Mat
theorem qwW {β γ:Type} (c:UInt8) (f:List UInt8->Option β) (bad:γ) {s:List UInt8} {B:List β × List UInt8->Option ((List β × List UInt8) ⊕ ((List β × List UInt8) ⊕ γ))}
  (h1:∀ out r,out.length + r.length<=s.length->c ∉ r->B (out,r) = some (.inr (.inl (out,r))))
  (h2:∀ out p q,out.length + p.length + 1 + q.length<=s.length->c ∉ p->B (out,p ++ c :: q) = some (match f p with | none=>.inr (.inr bad) | some b=>.inl (out ++ [b],q))) :
  Ok (qab B ([],s)) λx=>match x with
   | .inl p=>c ∉ p.2/\p.1.length + p.2.length<=s.length/\qur f (parts c s) = (f p.2).map λb=>p.1 ++ [b]
   | .inr q=>q = bad/\qur f (parts c s) = none:=by
 refine qDS (λst=>st.2.length) (λ(st:List β × List UInt8)=>qur f (parts c s) = (qur f (parts c st.2)).map (st.1 ++ ·)/\st.1.length + st.2.length<=s.length) _ ⟨by simp,by simp⟩ ?_;rintro ⟨out,r⟩ ⟨e,hl⟩;simp only at e hl;rcases qfI c r with ⟨_,h3⟩ | ⟨p,q,rfl,h3,_⟩
 ·rw [h1 out r hl h3,qaq];refine ⟨h3,hl,?_⟩;rw [e,qdr h3];simp only [qur];cases f r <;> rfl
 ·have hq:(p ++ c :: q).length = p.length + 1 + q.length:=by simp <;> omega
  rw [hq] at hl;rw [h2 out p q (by omega) h3];rw [qcd h3] at e;simp only [qur] at e;cases hf:f p with
  | none =>
   rw [hf] at e;rw [qaq];exact ⟨rfl,e⟩
  | some b =>
   rw [hf] at e;rw [qaE];refine ⟨⟨?_,by simp; omega⟩,by simp only; rw [hq]; omega⟩;simp only [e,qb];cases qur f (parts c q) <;> simp
def inG (z:G):Prop:=qFt z.1/\qFt z.2.1
def pt (d:Nat) (w:List UInt8):Option G:=match parts 44 w with
 | [p,q]=>(num d p).bind λa=>(num d q).map λb=>(a,b,())
 | _=>none
theorem qFg {c:UInt8} (h1:c ≠ 45) (h2:¬ isD c) {d:Nat} {w:List UInt8} (h:c ∈ w):num d w = none:=by
 cases hn:num d w with
 | none=>rfl
 | some v =>
  obtain ⟨_,e,_⟩:=qA4 hn;rw [<- e] at h;exact absurd h (qnM h1 h2)
theorem qq5 (d:Nat) {w:List UInt8} (hw:w.length<=100000):∃ v,qcL w (d:Int) = some (v,(num d w).isSome)/\∀ n,num d w = some n->v = n:=by
 unfold qcL strconv_Atoi;rw [if_pos (by omega)];unfold qDr num;cases ha:Lib.atoiAll w with
 | ok v =>
  have hb:=Lib.atoiAll_bounds ha;simp only [qb,cond_true];rw [quA ⟨by omega,by omega⟩];simp only [qb];refine ⟨v,?_,?_⟩
  ·by_cases c:Lib.itoa v = w
   ·simp only [c,decide_true,cond_true,true_and];unfold strings_TrimPrefix;simp only [qb];by_cases e:(Lib.trimPrefix w [45]).length<=d
    ·have:((Lib.trimPrefix w [45]).length:Int)<=(d:Int):=by omega
     simp [e,this]
    ·have:¬ ((Lib.trimPrefix w [45]).length:Int)<=(d:Int):=by omega
     simp [e,this]
   ·simp [c]
  ·intro n hn;by_cases c:Lib.itoa v = w/\(Lib.trimPrefix w [45]).length<=d
   ·rw [if_pos c] at hn; cases hn; rfl
   ·rw [if_neg c] at hn; cases hn
 | «syntax»=>exact ⟨0,rfl,λn hn=>by cases hn⟩
 | range=>exact ⟨_,rfl,λn hn=>by cases hn⟩
theorem qzu (d:Nat) {w:List UInt8} (hw:w.length<=100000):∃ x5 x6 x7,strings_Cut w [44] = some x5/\qcL x5.1 (d:Int) = some x6/\qcL x5.2.1 (d:Int) = some x7 /\
  (bif !x5.2.2 then some true else bif !x6.2 then some true else some (!x7.2)) = some (pt d w).isNone/\∀ z,pt d w = some z->(x6.1,x7.1,()) = z:=by
 unfold strings_Cut;rw [if_pos (by omega)];have hc44:(44:UInt8) ≠ 45:=by decide
 have hd44:¬ isD 44:=by decide
 rcases qfI 44 w with ⟨h1,h2⟩ | ⟨p,q,rfl,h2,h3⟩
 ·have e:Lib.cut w [44] = (w,[],false):=by unfold Lib.cut; rw [h1,if_neg (by omega)]
  rw [e];obtain ⟨v,p1,_⟩:=qq5 d (w:=w) hw;obtain ⟨v',p2,_⟩:=qq5 d (w:=[]) (by simp);refine ⟨_,_,_,rfl,p1,p2,?_,?_⟩
  ·unfold pt; rw [qdr h2]; rfl
  ·intro z hz; unfold pt at hz; rw [qdr h2] at hz; cases hz
 ·have e:Lib.cut (p ++ 44 :: q) [44] = (p,q,true):=by
   unfold Lib.cut;rw [h3,if_pos (by omega)];have:(p ++ 44 :: q).drop (p.length + 1) = q:=by
    rw [show p ++ 44 :: q = (p ++ [44]) ++ q by simp,List.drop_left' (by simp)]
   simp [this]
  have hl:(p ++ 44 :: q).length = p.length + 1 + q.length:=by simp <;> omega
  rw [hl] at hw;rw [e];obtain ⟨v,p1,p2⟩:=qq5 d (w:=p) (by omega);obtain ⟨v',q1,q2⟩:=qq5 d (w:=q) (by omega);refine ⟨_,_,_,rfl,p1,q1,?_,?_⟩
  ·simp only [Bool.not_true,cond_false];unfold pt;rw [qcd h2];rcases qfI 44 q with ⟨_,h4⟩ | ⟨p',q',rfl,h4,_⟩
   ·rw [qdr h4];simp only
    cases hp:num d p with
    | none=>rfl
    | some a =>
     simp only [Option.isSome_some,Bool.not_true,cond_false,qb];cases num d q <;> rfl
   ·rw [qcd h4];have hn:num d (p' ++ 44 :: q') = none:=qFg hc44 hd44 (by simp);have h5:=qv5 44 q';rw [hn];cases hq:parts 44 q' with
    | nil=>exact absurd hq h5
    | cons a l =>
     simp only [Option.isSome_none,Bool.not_false];cases num d p <;> rfl
  ·intro z hz;unfold pt at hz;rw [qcd h2] at hz;rcases qfI 44 q with ⟨_,h4⟩ | ⟨p',q',rfl,h4,_⟩
   ·rw [qdr h4] at hz;simp only at hz;obtain ⟨a,ha,hz⟩:=qh.1 hz;obtain ⟨b,hb,rfl⟩:=qf.1 hz;rw [p2 a ha,q2 b hb]
   ·rw [qcd h4] at hz;cases hq:parts 44 q' with
    | nil=>exact absurd hq (qv5 44 q')
    | cons a l=>rw [hq] at hz; cases hz
def qFS (o:Option (List G)):List G × Bool:=match o with
 | some l=>(l,true)
 | none=>([],false)
def prs (d:Nat) (s:List UInt8):Option (List G):=qur (pt d) (parts 32 s)
theorem qDG {d:Nat} {s:List UInt8} {l:List G} (h:prs d s = some l):l.length<=s.length + 1:=by
 have:=qs0 32 s;rw [qwt h]; exact this
theorem qEQ {α β:Type} {o:Option (α ⊕ β)} {k:α->Option β} {r:β} (h:Ok o λx=>match x with | .inl p=>k p = some r | .inr q=>q = r):o.bind (Sum.elim k some) = some r:=by
 obtain ⟨x,rfl,h⟩:=h;cases x with
 | inl p=>exact h
 | inr q=>exact congrArg some h
theorem qCb {c:UInt8} {s p q:List UInt8} (hs:s.length<=100000) (h3:p.length + 1 + q.length<=s.length) (hi:c ∉ p):strings_Index (p ++ c :: q) [c] = some (p.length:Int) /\
  slc (p ++ c :: q) 0 (w64 ((p.length:Int) + 0)) = some p/\slc (p ++ c :: q) (w64 ((p.length:Int) + 1)) ((p ++ c :: q).length:Int) = some q:=by
 have hl:(p ++ c :: q).length = p.length + 1 + q.length:=by simp <;> omega
 refine ⟨?_,?_,?_⟩
 ·unfold strings_Index;rw [if_pos (by omega)];rcases qfI c (p ++ c :: q) with ⟨_,h⟩ | ⟨p',q',e,h1,h2⟩
  ·exact absurd (by simp) h
  ·have h4:=qcd (r:=q) hi;rw [e,qcd h1] at h4;rw [h2,(List.cons.inj h4).1]
 ·rw [wid (by omega) (by omega),show ((p.length:Int) + 0) = ((p.length:Nat):Int) by omega,qEC (by rw [hl]; omega)];simp
 ·rw [wid (by omega) (by omega),show ((p.length:Int) + 1) = ((p.length + 1:Nat):Int) by omega,qB5 (by rw [hl]; omega)];rw [show p ++ c :: q = (p ++ [c]) ++ q by simp,List.drop_left' (by simp)]
theorem index_none {c:UInt8} {r:List UInt8} (hr:r.length<=100000) (h:c ∉ r):strings_Index r [c] = some (-1):=by
 unfold strings_Index;rw [if_pos (by omega)];rcases qfI c r with ⟨h1,_⟩ | ⟨p,q,rfl,_,_⟩
 ·rw [h1]
 ·exact absurd (by simp) h
theorem qDX (d:Nat) {s:List UInt8} (hs:s.length<=100000):qix s (d:Int) = some (qFS (prs d s)):=by
 unfold qix;refine qEQ ((qwW 32 (pt d) (([],false):List G × Bool) ?_ ?_).mono ?_)
 ·intro out r hl hr;rw [index_none (by omega) hr];rfl
 ·intro out p q hl hp;obtain ⟨h1,h2,h3⟩:=qCb hs (by omega) hp (c:=32) (q:=q);have h0:decide (((p.length:Nat):Int) < 0) = false:=by simp
  simp only
  rw [h1];simp only [qb,h0,cond_false];rw [h2];simp only [qb];obtain ⟨x5,x6,x7,e1,e2,e3,e4,e5⟩:=qzu d (w:=p) (by omega);rw [e1];simp only [qb];rw [e2];simp only [qb];rw [e3];simp only [qb];rw [e4];simp only [qb];cases hn:pt d p with
  | none=>simp only [Option.isNone_none,cond_true]
  | some z =>
   simp only [Option.isNone_some,cond_false];rw [e5 z hn,qdZ (by omega)];simp only [qb];rw [h3]; rfl
 ·rintro x hx;cases x with
  | inr q=>obtain ⟨rfl,h⟩:=hx; unfold prs; simp only [h] <;> rfl
  | inl p =>
   obtain ⟨h1,h2,h3⟩:=hx;simp only
   obtain ⟨x5,x6,x7,e1,e2,e3,e4,e5⟩:=qzu d (w:=p.2) (by omega);rw [e1];simp only [qb];rw [e2];simp only [qb];rw [e3];simp only [qb];rw [e4];simp only [qb];unfold prs;rw [h3];cases hn:pt d p.2 with
   | none=>rfl
   | some z =>
    simp only [Option.isNone_some,cond_false];rw [e5 z hn,qdZ (by omega)];rfl
end Go.Proofs.YteiciemjanhdcaaGreatDoor
end
