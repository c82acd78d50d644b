/-
  ONE LAW OF A CHAPTER: its program side is run by an interpreter that is proved sound; what it computes is shown to be what the law says. No conditions. Part 8 of 8.
-/
import Derived.Test.YteiciemjanhdcaaGreatDoorMsag
import Derived.Test.YteiciemjanhdcaaGreatDoorRows
import Derived.WalkKit
import Derived.Test.YteiciemjanhdcaaGreatDoorProg
import Derived.KernelRfl
import Derived.ProofKit
import Derived.LaidMore
import Derived.OpenShut
import Derived.Stop.Joined
import Derived.Stop.LaidErr
import Derived.Lib.LaidTab
import Derived.Shelf.Vars
import Derived.ChangeArms
import Derived.HandedShaped
import Derived.Lib.AtoiAll
import Derived.Lib.ItoaNum
import Derived.Lib.Strings
import Derived.Lib.Join
import Derived.Lib.IndexMore
import Derived.Test.YteiciemjanhdcaaGreatDoorTie
import Derived.Test.YteiciemjanhdcaaGreatDoorCards
import Derived.Lay
import Derived.SevenTiedAt
set_option linter.unusedSimpArgs false
set_option linter.unusedVariables false
set_option linter.unnecessarySimpa false
section
namespace Go.Tx
open Go Go.Ab Go.RowKit Go.ChangeShapes Go.WideShapes Go.Deep
section
variable {H:Type} {enc:TypeId × Value->H} {P:Program}
theorem post_of_below {f:Func} {s:ChangeSpec} {apart fresh handsOn again:Bool} {W W':World} {args:Array Value} {v:Value} {ds gs:List (DataW H)} {before pa pv:List MemPlace}
  (hW:DataW.Whole enc P f.params.toList s.vars apart W args.toList ds gs before)
  (hres:∀ (b:Nat) (sp:Nat->Bool) (hd:Bool),DataW.TrodAll enc P W' b sp hd f.resultTypes.toList (v.resultList f.resultTypes.size) (s.fn H (ds ++ gs)).results [])
  (hargs:∀ sp:Nat->Bool,(∀ p ∈ before,sp p.block = true)->DataW.TrodAll enc P W' 0 sp true f.params.toList args.toList (s.fn H (ds ++ gs)).args pa)
  (hvars:∀ sp:Nat->Bool,(∀ p ∈ before,sp p.block = true)->DataW.TrodVars enc P W' sp s.vars (s.fn H (ds ++ gs)).vars pv)
  (hps:before = pa ++ pv) (hb:Below W.heap.size W W')
  (hok:∀ (j:Nat) (t:TypeId) (r:Value),f.resultTypes[j]? = some t->(v.resultList f.resultTypes.size)[j]? = some r->Value.okWide P W' .any 0 t r) :
  s.post enc P f apart fresh handsOn again W args v W':=by
 have hlt:∀ p ∈ before,p.block < W.heap.size:=λp hp=>hW.lt p hp;have hold:∀ p ∈ before,(λb=>decide (b < W.heap.size)) p.block = true:=λp hp=>by simpa using hlt p hp
 refine ⟨ds,gs,before,[],pa,pv,hW,hres _ _ _,hargs _ hold,hvars _ hold,World.keptBut_mono (λp hp=>⟨hp,?_⟩) (hb.frame (· ∈ before)),λ_=>?_⟩
 ·rw [hps,List.mem_append] at hp;exact Or.inr hp
 ·obtain ⟨_,_,_,_,_,hz,hn⟩:=hW;refine ⟨hok,_,_,([] ++ pa) ++ pv,⟨[] ++ pa,pv,trodAll_append (hargs _ (λ_ _=>rfl)) (hres _ _ _),hvars _ (λ_ _=>rfl),rfl,?_,?_⟩,?_⟩
  ·intro b off hp;have hin:MemPlace.cell b off ∈ before:=by rw [hps]; simpa using hp
   rw [hb.frozen (hlt _ hin)];exact hz b off hin
  ·intro ha;have:=hn ha;rw [hps] at this;simpa using this
  ·intro p hp _;rw [hps];simpa using hp
theorem trodAll_len:∀ {ts:List TypeId} {vs:List Value} {ds:List (DataW H)} {ps:List MemPlace} {w:World} {b:Nat} {sp:Nat->Bool} {hd:Bool},DataW.TrodAll enc P w b sp hd ts vs ds ps->ds.length = ts.length
 | [],[],[],_,_,_,_,_,_=>rfl
 | [],[],d :: ds,_,_,_,_,_,h=>h.elim
 | [],v :: vs,_,_,_,_,_,_,h=>by cases h
 | t :: ts,[],_,_,_,_,_,_,h=>by cases h
 | t :: ts,v :: vs,[],_,_,_,_,_,h=>by cases h
 | t :: ts,v :: vs,d :: ds,ps,w,b,sp,hd,⟨p,q,h1,h2,e⟩=>by simp [trodAll_len h2]
end
theorem sm_all {H:Type}:Sm (H:=H) maxLen (λ_=>True) where
 slice:=λes sp _ h=>⟨h,λ_ _=>trivial⟩
 agg:=λ_ _ _ _=>trivial
 str:=λ_ _ h=>h
theorem law_contract {P:Program} {H0:Hints} {lib:FuncId->Option (List V->Option V)} (hm:P.follows .mixedOrders = true) (hname:NameOk P H0)
  (hlib:∀ g h args r,lib g = some h->h args = some r->CallOk P g args [] r []) (hl:laidOutB P = true) {k:FuncId} {fn:Func} (hfn:P.funcs[k]? = some fn) (hbody:fn.body.isSome = true)
  {ts:List TypeId} {τs:List Ty} (hps:fn.params.toList = ts) (hts:ts.mapM (tyOf P) = some τs) (hok:ts.all (okT P 10) = true) (hrd:ts.all (λt=>P.readableRec t && decide (t < P.types.size)) = true)
  {tb:TypeId} (hres:fn.resultTypes = #[tb]) (htb:P.underlying tb = some .bool) {F:denP (τs.map .ty)->Option Bool}
  (he:EntryOk P H0 lib ⟨k,τs.map .ty,[(.bool,0)],F⟩) (hF:∀ x,RngP maxLen τs x->F x = some true)
  {s:ChangeSpec} (hv:s.vars = []) (hs:∀ (H:Type) (ds:List (DataW H)),ds.length = ts.length->s.fn H ds = { results:=[.lit (.bool true)],args:=ds })
  (H:Type) (enc:TypeId × Value->H) (W:World) (base:Nat) (args:Array Value) (ds gs:List (DataW H)) (before:List MemPlace)
  (hval:∀ (j:Nat) t v,fn.params[j]? = some t->args[j]? = some v->Value.okWide P W .any base t v)
  (hW:DataW.Whole enc P fn.params.toList s.vars false W args.toList ds gs before) (hgl:GlOk W (cx0 W)) :
  Calls P k args W λe W'=>∃ v,e = .returned v/\s.post enc P fn false true false false W args v W':=by
 have hW':=hW;have hlt:∀ p ∈ before,p.block < W.heap.size:=λp hp=>hW.lt p hp;obtain ⟨p,q,hA,hV,rfl,hfz,hnd⟩:=hW;rw [hv] at hV;obtain ⟨rfl,rfl⟩:=trodVars_none hV;rw [hps] at hA;have hlen:=trodAll_len hA;have hval':∀ (j:Nat) t v,ts[j]? = some t->args.toList[j]? = some v->Value.okWide P W .any base t v:=λj t v h1 h2 =>
  hval j t v (by rw [<- hps] at h1; simpa using h1) (by simpa using h2)
 refine (law_calls hm hname hlib hl sm_all hfn hbody hts hok he hF hval' hA (λ_ _=>trivial) hgl).mono λe W' ⟨h1,hb⟩=>?_;subst h1;have hfs:s.fn H (ds ++ []) = { results:=[.lit (.bool true)],args:=ds }:=by rw [List.append_nil]; exact hs H ds hlen
 refine ⟨_,rfl,post_of_below (pa:=p) (pv:=[]) hW' ?_ ?_ ?_ rfl hb ?_⟩
 ·intro b sp hd;rw [hfs,hres];exact trodAll_mk1 (shut_bool htb true)
 ·intro sp hsp;rw [hfs,hps];exact trodAll_below hl hb hrd hA (λx hx=>hlt x (by simpa using hx)) sp (λx hx=>hsp x (by simpa using hx))
 ·intro sp _;rw [hfs,hv];rfl
 ·exact ok_one hres rfl (okWide_bool_mk htb true)
end Go.Tx
namespace Go.Proofs.YteiciemjanhdcaaGreatDoor
open Go Go.Ab Go.Tx
theorem own:ownKnob Tryz.prog.godebug = none:=by kernel_rfl
theorem laid_out:laidOutB Tryz.prog = true:=by kernel_rfl
end Go.Proofs.YteiciemjanhdcaaGreatDoor
end
section
set_option maxRecDepth 100000
namespace Go.Proofs.YteiciemjanhdcaaGreatDoor
open Go Go.Ab Go.Tx
noncomputable section
@[reducible] def I:Ty:=.int .i64
@[reducible] def w64 (n:Int):Int:=IntKind.wrap .i64 n
def lookJ:List (List Tmp × FuncId × Kind × Join)->List Tmp->FuncId->Kind->Option Join
 | [],_,_,_=>none
 | (c,f,k,j) :: l,c',f',k'=>if f = f' then (if k = k' then (if c = c' then some j else lookJ l c' f' k') else lookJ l c' f' k') else lookJ l c' f' k'
def strconv_Itoa (n:Int):Option (List UInt8):=if -9223372036854775808<=n/\n<=9223372036854775807 then some (Lib.itoa n) else none
def atoiP (s:List UInt8):Int × Bool:=match Lib.atoiAll s with
 | .ok v=>(v,true)
 | .range=>(Lib.atoiSat s,false)
 | _=>(0,false)
def strconv_Atoi (s:List UInt8):Option (Int × Bool):=if s.length<=281474976710656 then some (atoiP s) else none
def strings_Join (l:List (List UInt8)) (sep:List UInt8):Option (List UInt8):=if l.length<=140737488355328/\(Lib.join l sep).length<=140737488355328 then some (Lib.join l sep) else none
def strings_TrimPrefix (s p:List UInt8):Option (List UInt8):=some (Lib.trimPrefix s p)
def strings_Index (s p:List UInt8):Option Int:=if s.length < 4294967281 then some (Lib.index s p) else none
def strings_Cut (s p:List UInt8):Option (List UInt8 × List UInt8 × Bool):=if s.length < 4294967281 then some (Lib.cut s p) else none
def hItoa:List V->Option V
 | [.val (.int .i64 n)]=>(strconv_Itoa n).map λs=>.val (.string ⟨s.toArray⟩)
 | _=>none
def hAtoi:List V->Option V
 | [.val (.string s)]=>if s.size<=281474976710656 then some (atoiV 323 s.data.toList) else none
 | _=>none
def hJoin:List V->Option V
 | [.sl _ _ l,.val (.string sep)]=>(strsOf l).bind λxs=>(strings_Join xs sep.data.toList).map λs=>.val (.string ⟨s.toArray⟩)
 | _=>none
def hTrim:List V->Option V
 | [.val (.string s),.val (.string p)]=>some (.val (.string ⟨(Lib.trimPrefix s.data.toList p.data.toList).toArray⟩))
 | _=>none
def hIndex:List V->Option V
 | [.val (.string s),.val (.string p)]=>if s.size < 4294967281 then some (.val (.int .i64 (Lib.index s.data.toList p.data.toList))) else none
 | _=>none
def hCut:List V->Option V
 | [.val (.string s),.val (.string p)]=>if s.size < 4294967281 then some (.tuple [.val (.string ⟨(Lib.cut s.data.toList p.data.toList).1.toArray⟩),.val (.string ⟨(Lib.cut s.data.toList p.data.toList).2.1.toArray⟩),.val (.bool (Lib.cut s.data.toList p.data.toList).2.2)]) else none
 | _=>none
def hAwake:List V->Option V
 | []=>some (.val (.bool true))
 | _=>none
def libT:List (FuncId × (List V->Option V)):=[(37,hAwake),(75,hItoa),(168,hAtoi),(76,hJoin),(169,hTrim),(239,hIndex),(151,hCut)]
def lookL:List (FuncId × (List V->Option V))->FuncId->Option (List V->Option V)
 | [],_=>none
 | (k,h) :: l,g=>if g = k then some h else lookL l g
def Lb:FuncId->Option (List V->Option V):=lookL libT
def mkTH (js:List (List Tmp × FuncId × Kind × Join)) (inl:List (List Tmp × FuncId × Tmp)):TH where
 lib:=λg=>(Lb g).isSome
 join:=lookJ js
 inl:=λc f d=>inl.any λ(c',f',d')=>decide (f = f') && decide (d = d') && decide (c = c')
theorem hJ {js:List (List Tmp × FuncId × Kind × Join)} {inl:List (List Tmp × FuncId × Tmp)}:∀ g,(mkTH js inl).lib g = false->Lb g = none:=λg h=>by
 simpa [mkTH] using h
theorem lib_entry {e:Entry} {h:List V->Option V} (hl:Lb e.g = some h) (hx:∀ x y,e.F x = some y->∀ vs,RVL (ofPms e.ps x) vs->∃ v,h vs = some v/\RV (packT e.rs y) v):EntryOk Tryz.prog Hn.hints Lb e:=λx y hy vs hv=>by
 obtain ⟨v,h1,h2⟩:=hx x y hy vs hv;refine ⟨v,⟨1,λm hm=>?_⟩,h2⟩;obtain ⟨m',rfl⟩:∃ m',m = m' + 1:=⟨m - 1,by omega⟩
 simp [orcN,hl,h1]
def e_strconv_Itoa:Entry:=⟨75,[.ty I],[(.str,0)],λx=>strconv_Itoa x⟩
theorem o_strconv_Itoa:EntryOk Tryz.prog Hn.hints Lb e_strconv_Itoa:=lib_entry (h:=hItoa) rfl λx y hy vs hv=>by
 simp only [e_strconv_Itoa] at hy hv x y;simp only [ofPms,ofPm,ofTy,RVL,RV,RTy] at hv;obtain ⟨v,l,rfl,rfl,rfl⟩:=hv;exact ⟨.val (.string ⟨y.toArray⟩),by simp [hItoa,hy],by simp [packT,e_strconv_Itoa,ofL,packedT,ofTy,RV,RTy]⟩
def e_strconv_Atoi:Entry:=⟨168,[.ty .str],[(I,0),(.err,0)],λx=>strconv_Atoi x⟩
theorem o_strconv_Atoi:EntryOk Tryz.prog Hn.hints Lb e_strconv_Atoi:=lib_entry (h:=hAtoi) rfl λx y hy vs hv=>by
 simp only [e_strconv_Atoi] at hy hv x y;simp only [ofPms,ofPm,ofTy,RVL,RV,RTy] at hv;obtain ⟨v,l,rfl,rfl,rfl⟩:=hv;unfold strconv_Atoi at hy;split at hy
 ·rename_i hl;cases hy;refine ⟨atoiV 323 x,?_,?_⟩
  ·have:(⟨x.toArray⟩:ByteArray).size<=281474976710656:=by simpa [ByteArray.size] using hl
   simp only [hAtoi];rw [if_pos this]
  ·unfold atoiV atoiP;cases Lib.atoiAll x <;> simp [packT,e_strconv_Atoi,ofL,packedT,ofTy,RV,RTy,RVL]
   all_goals exact ⟨_,_,⟨rfl,rfl⟩,rfl,_,rfl,_,rfl⟩
 ·cases hy
theorem strs_all2 {τ:Nat}:∀ {l:List (List UInt8)} {l':List V},All2 (RTy .str τ) l l'->strsOf l' = some l:=by
 intro l l' h;induction h with
 | nil=>rfl
 | cons h1 _ ih=>simp only [RTy] at h1; subst h1; simp [strsOf,ih]
def e_strings_Join:Entry:=⟨76,[.ty (.sl .str),.ty .str],[(.str,0)],λx=>strings_Join x.1 x.2⟩
theorem o_strings_Join:EntryOk Tryz.prog Hn.hints Lb e_strings_Join:=lib_entry (h:=hJoin) rfl λx y hy vs hv=>by
 simp only [e_strings_Join] at hy hv x y;simp only [ofPms,ofPm,ofTy,RVL,RV,RTy] at hv;obtain ⟨v,l,rfl,⟨f,c,l',rfl,_,hall⟩,v2,l2,rfl,rfl,rfl⟩:=hv;have hs:strsOf l' = some x.1:=strs_all2 (τ:=0) (hall.mono λa b h=>by simpa only [RTy] using h);exact ⟨.val (.string ⟨y.toArray⟩),by simp [hJoin,hs,hy],by simp [packT,e_strings_Join,ofL,packedT,ofTy,RV,RTy]⟩
def e_strings_TrimPrefix:Entry:=⟨169,[.ty .str,.ty .str],[(.str,0)],λx=>strings_TrimPrefix x.1 x.2⟩
theorem o_strings_TrimPrefix:EntryOk Tryz.prog Hn.hints Lb e_strings_TrimPrefix:=lib_entry (h:=hTrim) rfl λx y hy vs hv=>by
 simp only [e_strings_TrimPrefix] at hy hv x y;simp only [ofPms,ofPm,ofTy,RVL,RV,RTy] at hv;obtain ⟨v,l,rfl,rfl,v2,l2,rfl,rfl,rfl⟩:=hv;obtain rfl:Lib.trimPrefix x.1 x.2 = y:=Option.some.inj hy;exact ⟨.val (.string ⟨(Lib.trimPrefix x.1 x.2).toArray⟩),rfl,by simp [packT,e_strings_TrimPrefix,ofL,packedT,ofTy,RV,RTy]⟩
def e_strings_Index:Entry:=⟨239,[.ty .str,.ty .str],[(I,0)],λx=>strings_Index x.1 x.2⟩
theorem o_strings_Index:EntryOk Tryz.prog Hn.hints Lb e_strings_Index:=lib_entry (h:=hIndex) rfl λx y hy vs hv=>by
 simp only [e_strings_Index] at hy hv x y;simp only [ofPms,ofPm,ofTy,RVL,RV,RTy] at hv;obtain ⟨v,l,rfl,rfl,v2,l2,rfl,rfl,rfl⟩:=hv;unfold strings_Index at hy;split at hy
 ·rename_i hl;cases hy;refine ⟨.val (.int .i64 (Lib.index x.1 x.2)),?_,by simp [packT,e_strings_Index,ofL,packedT,ofTy,RV,RTy]⟩;have:(⟨x.1.toArray⟩:ByteArray).size < 4294967281:=by simpa [ByteArray.size] using hl
  simp only [hIndex];rw [if_pos this]
 ·cases hy
def law07_awake:Option Bool:=some true
def e_law07_awake:Entry:=⟨37,[],[(.bool,0)],λ_=>law07_awake⟩
theorem o_law07_awake:EntryOk Tryz.prog Hn.hints Lb e_law07_awake:=lib_entry (h:=hAwake) rfl λx y hy vs hv=>by
 obtain rfl:true = y:=Option.some.inj hy;simp only [e_law07_awake,ofPms,RVL] at hv;subst hv;exact ⟨.val (.bool true),rfl,by simp [packT,e_law07_awake,ofL,packedT,ofTy,RV,RTy]⟩
end
end Go.Proofs.YteiciemjanhdcaaGreatDoor
end
section
namespace Go.Proofs.YteiciemjanhdcaaGreatDoor
open Go Go.Ab Go.RowKit Go.Shelf
def lItoa_ren:Go.Shelf.Ren:=⟨λ| 171=>75 | 243=>155 | 246=>209 | 283=>245 | 284=>246 | 285=>247 | 286=>248 | 129=>271 | 317=>270 | 318=>272 | 319=>273 | 320=>274 | 337=>280 | 338=>281 | n=>n,λ| 3=>3 | 9=>9 | 2=>2 | 4=>4 | 171=>308 | 0=>0 | 53=>309 | 37=>235 | 5=>5 | 173=>312 | 212=>333 | 51=>334 | 20=>20 | 213=>335 | 46=>331 | 232=>354 | 233=>355 | n=>n,λ| 17=>1 | 18=>6 | 19=>7 | n=>n⟩
theorem lItoa:LaysM.n171 Tryz.prog lItoa_ren where
 mixed:=by kernel_rfl
 f129:=Tryz.func271.trans (congrArg some (by kernel_rfl))
 f171:=Tryz.func75.trans (congrArg some (by kernel_rfl))
 f243:=Tryz.func155.trans (congrArg some (by kernel_rfl))
 f246:=Tryz.func209.trans (congrArg some (by kernel_rfl))
 f283:=Tryz.func245.trans (congrArg some (by kernel_rfl))
 f284:=Tryz.func246.trans (congrArg some (by kernel_rfl))
 f285:=Tryz.func247.trans (congrArg some (by kernel_rfl))
 f286:=Tryz.func248.trans (congrArg some (by kernel_rfl))
 f317:=Tryz.func270.trans (congrArg some (by kernel_rfl))
 f318:=Tryz.func272.trans (congrArg some (by kernel_rfl))
 f319:=Tryz.func273.trans (congrArg some (by kernel_rfl))
 f320:=Tryz.func274.trans (congrArg some (by kernel_rfl))
 f337:=Tryz.func280.trans (congrArg some (by kernel_rfl))
 f338:=Tryz.func281.trans (congrArg some (by kernel_rfl))
 t0:=Tryz.underlying0
 a0:=Tryz.isAgg0
 z0:=Tryz.sizeOf0
 v0:=Tryz.zeroValue0
 t2:=Tryz.underlying2
 a2:=Tryz.isAgg2
 z2:=Tryz.sizeOf2
 v2:=Tryz.zeroValue2
 t3:=Tryz.underlying3
 a3:=Tryz.isAgg3
 z3:=Tryz.sizeOf3
 v3:=Tryz.zeroValue3
 t4:=Tryz.underlying4
 a4:=Tryz.isAgg4
 z4:=Tryz.sizeOf4
 v4:=Tryz.zeroValue4
 t5:=Tryz.underlying5
 a5:=Tryz.isAgg5
 z5:=Tryz.sizeOf5
 v5:=Tryz.zeroValue5
 t9:=Tryz.underlying9
 a9:=Tryz.isAgg9
 z9:=Tryz.sizeOf9
 v9:=Tryz.zeroValue9
 t20:=Tryz.underlying20
 a20:=Tryz.isAgg20
 z20:=Tryz.sizeOf20
 v20:=Tryz.zeroValue20
 t37:=Tryz.underlying235
 a37:=Tryz.isAgg235
 z37:=Tryz.sizeOf235
 v37:=Tryz.zeroValue235
 t46:=Tryz.underlying331
 a46:=Tryz.isAgg331
 z46:=Tryz.sizeOf331
 v46:=Tryz.zeroValue331
 t51:=Tryz.underlying334
 a51:=Tryz.isAgg334
 z51:=Tryz.sizeOf334
 v51:=Tryz.zeroValue334
 t53:=Tryz.underlying309
 a53:=Tryz.isAgg309
 z53:=Tryz.sizeOf309
 v53:=Tryz.zeroValue309
 t171:=Tryz.underlying308
 a171:=Tryz.isAgg308
 z171:=Tryz.sizeOf308
 v171:=Tryz.zeroValue308
 t173:=Tryz.underlying312
 a173:=Tryz.isAgg312
 z173:=Tryz.sizeOf312
 v173:=Tryz.zeroValue312
 t212:=Tryz.underlying333
 a212:=Tryz.isAgg333
 z212:=Tryz.sizeOf333
 v212:=Tryz.zeroValue333
 t213:=Tryz.underlying335
 a213:=Tryz.isAgg335
 z213:=Tryz.sizeOf335
 t232:=Tryz.underlying354
 a232:=Tryz.isAgg354
 z232:=Tryz.sizeOf354
 v232:=Tryz.zeroValue354
 t233:=Tryz.underlying355
 a233:=Tryz.isAgg355
 z233:=Tryz.sizeOf355
 v233:=Tryz.zeroValue355
 g17:=by kernel_rfl
 g18:=by kernel_rfl
 g19:=by kernel_rfl
 i0:=by kernel_rfl
 i2:=by kernel_rfl
 i3:=by kernel_rfl
 i4:=by kernel_rfl
 i5:=by kernel_rfl
 i9:=by kernel_rfl
 i20:=by kernel_rfl
 i37:=by kernel_rfl
 i46:=by kernel_rfl
 i51:=by kernel_rfl
 i53:=by kernel_rfl
 i171:=by kernel_rfl
 i173:=by kernel_rfl
 i212:=by kernel_rfl
 i232:=by kernel_rfl
 i233:=by kernel_rfl
 m17:=by kernel_rfl
 m18:=by kernel_rfl
 m19:=by kernel_rfl
def lAtoi_ren:Go.Shelf.Ren:=⟨λ| 172=>168 | 244=>223 | 245=>224 | 247=>256 | 279=>257 | 280=>258 | 281=>259 | 282=>260 | 287=>275 | 316=>276 | 171=>75 | 205=>277 | 321=>282 | 322=>283 | 243=>155 | 246=>209 | 283=>245 | 284=>246 | 285=>247 | 286=>248 | 129=>271 | 317=>270 | 318=>272 | 319=>273 | 320=>274 | 337=>280 | 338=>281 | n=>n,λ| 9=>9 | 3=>3 | 75=>240 | 76=>241 | 4=>4 | 5=>5 | 167=>320 | 37=>235 | 0=>0 | 85=>321 | 2=>2 | 168=>323 | 53=>309 | 175=>337 | 46=>331 | 210=>341 | 127=>283 | 145=>353 | 143=>351 | 21=>21 | 171=>308 | 173=>312 | 212=>333 | 51=>334 | 20=>20 | 213=>335 | 232=>354 | 233=>355 | 80=>243 | n=>n,λ| 15=>2 | 16=>3 | 17=>1 | 18=>6 | 19=>7 | n=>n⟩
theorem lAtoi:LaysC.n172 Tryz.prog lAtoi_ren where
 mixed:=by kernel_rfl
 f129:=Tryz.func271.trans (congrArg some (by kernel_rfl))
 f171:=Tryz.func75.trans (congrArg some (by kernel_rfl))
 f172:=Tryz.func168.trans (congrArg some (by kernel_rfl))
 f205:=Tryz.func277.trans (congrArg some (by kernel_rfl))
 f243:=Tryz.func155.trans (congrArg some (by kernel_rfl))
 f244:=Tryz.func223.trans (congrArg some (by kernel_rfl))
 f245:=Tryz.func224.trans (congrArg some (by kernel_rfl))
 f246:=Tryz.func209.trans (congrArg some (by kernel_rfl))
 f247:=Tryz.func256.trans (congrArg some (by kernel_rfl))
 f279:=Tryz.func257.trans (congrArg some (by kernel_rfl))
 f280:=Tryz.func258.trans (congrArg some (by kernel_rfl))
 f281:=Tryz.func259.trans (congrArg some (by kernel_rfl))
 f282:=Tryz.func260.trans (congrArg some (by kernel_rfl))
 f283:=Tryz.func245.trans (congrArg some (by kernel_rfl))
 f284:=Tryz.func246.trans (congrArg some (by kernel_rfl))
 f285:=Tryz.func247.trans (congrArg some (by kernel_rfl))
 f286:=Tryz.func248.trans (congrArg some (by kernel_rfl))
 f287:=Tryz.func275.trans (congrArg some (by kernel_rfl))
 f316:=Tryz.func276.trans (congrArg some (by kernel_rfl))
 f317:=Tryz.func270.trans (congrArg some (by kernel_rfl))
 f318:=Tryz.func272.trans (congrArg some (by kernel_rfl))
 f319:=Tryz.func273.trans (congrArg some (by kernel_rfl))
 f320:=Tryz.func274.trans (congrArg some (by kernel_rfl))
 f321:=Tryz.func282.trans (congrArg some (by kernel_rfl))
 f322:=Tryz.func283.trans (congrArg some (by kernel_rfl))
 f337:=Tryz.func280.trans (congrArg some (by kernel_rfl))
 f338:=Tryz.func281.trans (congrArg some (by kernel_rfl))
 t0:=Tryz.underlying0
 a0:=Tryz.isAgg0
 z0:=Tryz.sizeOf0
 v0:=Tryz.zeroValue0
 t2:=Tryz.underlying2
 a2:=Tryz.isAgg2
 z2:=Tryz.sizeOf2
 v2:=Tryz.zeroValue2
 t3:=Tryz.underlying3
 a3:=Tryz.isAgg3
 z3:=Tryz.sizeOf3
 v3:=Tryz.zeroValue3
 t4:=Tryz.underlying4
 a4:=Tryz.isAgg4
 z4:=Tryz.sizeOf4
 v4:=Tryz.zeroValue4
 t5:=Tryz.underlying5
 a5:=Tryz.isAgg5
 z5:=Tryz.sizeOf5
 v5:=Tryz.zeroValue5
 t9:=Tryz.underlying9
 a9:=Tryz.isAgg9
 z9:=Tryz.sizeOf9
 v9:=Tryz.zeroValue9
 t20:=Tryz.underlying20
 a20:=Tryz.isAgg20
 z20:=Tryz.sizeOf20
 v20:=Tryz.zeroValue20
 t21:=Tryz.underlying21
 a21:=Tryz.isAgg21
 z21:=Tryz.sizeOf21
 v21:=Tryz.zeroValue21
 t37:=Tryz.underlying235
 a37:=Tryz.isAgg235
 z37:=Tryz.sizeOf235
 v37:=Tryz.zeroValue235
 t46:=Tryz.underlying331
 a46:=Tryz.isAgg331
 z46:=Tryz.sizeOf331
 v46:=Tryz.zeroValue331
 t51:=Tryz.underlying334
 a51:=Tryz.isAgg334
 z51:=Tryz.sizeOf334
 v51:=Tryz.zeroValue334
 t53:=Tryz.underlying309
 a53:=Tryz.isAgg309
 z53:=Tryz.sizeOf309
 v53:=Tryz.zeroValue309
 t75:=Tryz.underlying240
 a75:=Tryz.isAgg240
 z75:=Tryz.sizeOf240
 v75:=Tryz.zeroValue240
 t76:=Tryz.underlying241
 a76:=Tryz.isAgg241
 z76:=Tryz.sizeOf241
 v76:=Tryz.zeroValue241
 t85:=Tryz.underlying321
 a85:=Tryz.isAgg321
 z85:=Tryz.sizeOf321
 v85:=Tryz.zeroValue321
 t127:=Tryz.underlying283
 a127:=Tryz.isAgg283
 z127:=Tryz.sizeOf283
 v127:=Tryz.zeroValue283
 t143:=Tryz.underlying351
 a143:=Tryz.isAgg351
 z143:=Tryz.sizeOf351
 v143:=Tryz.zeroValue351
 t145:=Tryz.underlying353
 a145:=Tryz.isAgg353
 z145:=Tryz.sizeOf353
 v145:=Tryz.zeroValue353
 t167:=Tryz.underlying320
 a167:=Tryz.isAgg320
 z167:=Tryz.sizeOf320
 v167:=Tryz.zeroValue320
 t168:=Tryz.underlying323
 a168:=Tryz.isAgg323
 z168:=Tryz.sizeOf323
 v168:=Tryz.zeroValue323
 t171:=Tryz.underlying308
 a171:=Tryz.isAgg308
 z171:=Tryz.sizeOf308
 v171:=Tryz.zeroValue308
 t173:=Tryz.underlying312
 a173:=Tryz.isAgg312
 z173:=Tryz.sizeOf312
 v173:=Tryz.zeroValue312
 t175:=Tryz.underlying337
 a175:=Tryz.isAgg337
 z175:=Tryz.sizeOf337
 v175:=Tryz.zeroValue337
 t210:=Tryz.underlying341
 a210:=Tryz.isAgg341
 z210:=Tryz.sizeOf341
 v210:=Tryz.zeroValue341
 t212:=Tryz.underlying333
 a212:=Tryz.isAgg333
 z212:=Tryz.sizeOf333
 v212:=Tryz.zeroValue333
 t213:=Tryz.underlying335
 a213:=Tryz.isAgg335
 z213:=Tryz.sizeOf335
 t232:=Tryz.underlying354
 a232:=Tryz.isAgg354
 z232:=Tryz.sizeOf354
 v232:=Tryz.zeroValue354
 t233:=Tryz.underlying355
 a233:=Tryz.isAgg355
 z233:=Tryz.sizeOf355
 v233:=Tryz.zeroValue355
 g15:=by kernel_rfl
 g16:=by kernel_rfl
 g17:=by kernel_rfl
 g18:=by kernel_rfl
 g19:=by kernel_rfl
 t80:=Tryz.underlying243
 a80:=Tryz.isAgg243
 z80:=Tryz.sizeOf243
 v80:=Tryz.zeroValue243
 i0:=by kernel_rfl
 i2:=by kernel_rfl
 i3:=by kernel_rfl
 i4:=by kernel_rfl
 i5:=by kernel_rfl
 i9:=by kernel_rfl
 i20:=by kernel_rfl
 i21:=by kernel_rfl
 i37:=by kernel_rfl
 i46:=by kernel_rfl
 i51:=by kernel_rfl
 i53:=by kernel_rfl
 i75:=by kernel_rfl
 i76:=by kernel_rfl
 i80:=by kernel_rfl
 i85:=by kernel_rfl
 i127:=by kernel_rfl
 i143:=by kernel_rfl
 i145:=by kernel_rfl
 i167:=by kernel_rfl
 i168:=by kernel_rfl
 i171:=by kernel_rfl
 i173:=by kernel_rfl
 i175:=by kernel_rfl
 i210:=by kernel_rfl
 i212:=by kernel_rfl
 i232:=by kernel_rfl
 i233:=by kernel_rfl
 m15:=by kernel_rfl
 m16:=by kernel_rfl
 m17:=by kernel_rfl
 m18:=by kernel_rfl
 m19:=by kernel_rfl
 c0:=by kernel_rfl
 c2:=by kernel_rfl
 c3:=by kernel_rfl
 c4:=by kernel_rfl
 c5:=by kernel_rfl
 c9:=by kernel_rfl
 c20:=by kernel_rfl
 c21:=by kernel_rfl
 c37:=by kernel_rfl
 c46:=by kernel_rfl
 c51:=by kernel_rfl
 c53:=by kernel_rfl
 c75:=by kernel_rfl
 c76:=by kernel_rfl
 c80:=by kernel_rfl
 c85:=by kernel_rfl
 c127:=by kernel_rfl
 c143:=by kernel_rfl
 c145:=by kernel_rfl
 c167:=by kernel_rfl
 c168:=by kernel_rfl
 c171:=by kernel_rfl
 c173:=by kernel_rfl
 c175:=by kernel_rfl
 c210:=by kernel_rfl
 c212:=by kernel_rfl
 c213:=by kernel_rfl
 c232:=by kernel_rfl
 c233:=by kernel_rfl
def lJoin_ren:Go.Shelf.Ren:=⟨λ| 156=>76 | 165=>156 | 166=>157 | 169=>158 | 240=>210 | 241=>211 | 276=>249 | 277=>250 | n=>n,λ| 31=>131 | 9=>9 | 3=>3 | 4=>4 | 0=>0 | 20=>20 | 72=>237 | 76=>241 | 70=>234 | 37=>235 | 75=>240 | 127=>283 | 164=>314 | 5=>5 | 80=>243 | n=>n,λn=>n⟩
theorem lJoin:Lays.n156 Tryz.prog lJoin_ren where
 mixed:=by kernel_rfl
 f156:=Tryz.func76.trans (congrArg some (by kernel_rfl))
 f165:=Tryz.func156.trans (congrArg some (by kernel_rfl))
 f166:=Tryz.func157.trans (congrArg some (by kernel_rfl))
 f169:=Tryz.func158.trans (congrArg some (by kernel_rfl))
 f240:=Tryz.func210.trans (congrArg some (by kernel_rfl))
 f241:=Tryz.func211.trans (congrArg some (by kernel_rfl))
 f276:=Tryz.func249.trans (congrArg some (by kernel_rfl))
 f277:=Tryz.func250.trans (congrArg some (by kernel_rfl))
 t0:=Tryz.underlying0
 a0:=Tryz.isAgg0
 z0:=Tryz.sizeOf0
 v0:=Tryz.zeroValue0
 t3:=Tryz.underlying3
 a3:=Tryz.isAgg3
 z3:=Tryz.sizeOf3
 v3:=Tryz.zeroValue3
 t4:=Tryz.underlying4
 a4:=Tryz.isAgg4
 z4:=Tryz.sizeOf4
 v4:=Tryz.zeroValue4
 t9:=Tryz.underlying9
 a9:=Tryz.isAgg9
 z9:=Tryz.sizeOf9
 v9:=Tryz.zeroValue9
 t20:=Tryz.underlying20
 a20:=Tryz.isAgg20
 z20:=Tryz.sizeOf20
 v20:=Tryz.zeroValue20
 t31:=Tryz.underlying131
 a31:=Tryz.isAgg131
 z31:=Tryz.sizeOf131
 v31:=Tryz.zeroValue131
 t37:=Tryz.underlying235
 a37:=Tryz.isAgg235
 z37:=Tryz.sizeOf235
 v37:=Tryz.zeroValue235
 t70:=Tryz.underlying234
 a70:=Tryz.isAgg234
 z70:=Tryz.sizeOf234
 v70:=Tryz.zeroValue234
 t72:=Tryz.underlying237
 a72:=Tryz.isAgg237
 z72:=Tryz.sizeOf237
 v72:=Tryz.zeroValue237
 t75:=Tryz.underlying240
 a75:=Tryz.isAgg240
 z75:=Tryz.sizeOf240
 v75:=Tryz.zeroValue240
 t76:=Tryz.underlying241
 a76:=Tryz.isAgg241
 z76:=Tryz.sizeOf241
 v76:=Tryz.zeroValue241
 t127:=Tryz.underlying283
 a127:=Tryz.isAgg283
 z127:=Tryz.sizeOf283
 v127:=Tryz.zeroValue283
 t164:=Tryz.underlying314
 a164:=Tryz.isAgg314
 z164:=Tryz.sizeOf314
 v164:=Tryz.zeroValue314
def lTrim_ren:Go.Shelf.Ren:=⟨λ| 101=>169 | 208=>225 | 206=>261 | n=>n,λ| 9=>9 | 4=>4 | 3=>3 | n=>n,λn=>n⟩
theorem lTrim:Lays.n101 Tryz.prog lTrim_ren where
 mixed:=by kernel_rfl
 f101:=Tryz.func169.trans (congrArg some (by kernel_rfl))
 f206:=Tryz.func261.trans (congrArg some (by kernel_rfl))
 f208:=Tryz.func225.trans (congrArg some (by kernel_rfl))
 t3:=Tryz.underlying3
 a3:=Tryz.isAgg3
 z3:=Tryz.sizeOf3
 v3:=Tryz.zeroValue3
 t4:=Tryz.underlying4
 a4:=Tryz.isAgg4
 z4:=Tryz.sizeOf4
 v4:=Tryz.zeroValue4
 t9:=Tryz.underlying9
 a9:=Tryz.isAgg9
 z9:=Tryz.sizeOf9
 v9:=Tryz.zeroValue9
def lIndex_ren:Go.Shelf.Ren:=⟨λ| 143=>239 | 219=>244 | 217=>266 | 225=>267 | 224=>268 | 267=>269 | 266=>278 | 314=>279 | n=>n,λ| 9=>9 | 3=>3 | 4=>4 | 5=>5 | 46=>331 | 146=>347 | 51=>334 | n=>n,λ| 1=>0 | n=>n⟩
theorem lIndex:Lays.n143 Tryz.prog lIndex_ren where
 mixed:=by kernel_rfl
 f143:=Tryz.func239.trans (congrArg some (by kernel_rfl))
 f217:=Tryz.func266.trans (congrArg some (by kernel_rfl))
 f219:=Tryz.func244.trans (congrArg some (by kernel_rfl))
 f224:=Tryz.func268.trans (congrArg some (by kernel_rfl))
 f225:=Tryz.func267.trans (congrArg some (by kernel_rfl))
 f266:=Tryz.func278.trans (congrArg some (by kernel_rfl))
 f267:=Tryz.func269.trans (congrArg some (by kernel_rfl))
 f314:=Tryz.func279.trans (congrArg some (by kernel_rfl))
 t3:=Tryz.underlying3
 a3:=Tryz.isAgg3
 z3:=Tryz.sizeOf3
 v3:=Tryz.zeroValue3
 t4:=Tryz.underlying4
 a4:=Tryz.isAgg4
 z4:=Tryz.sizeOf4
 v4:=Tryz.zeroValue4
 t5:=Tryz.underlying5
 a5:=Tryz.isAgg5
 z5:=Tryz.sizeOf5
 v5:=Tryz.zeroValue5
 t9:=Tryz.underlying9
 a9:=Tryz.isAgg9
 z9:=Tryz.sizeOf9
 v9:=Tryz.zeroValue9
 t46:=Tryz.underlying331
 a46:=Tryz.isAgg331
 z46:=Tryz.sizeOf331
 v46:=Tryz.zeroValue331
 t51:=Tryz.underlying334
 a51:=Tryz.isAgg334
 z51:=Tryz.sizeOf334
 v51:=Tryz.zeroValue334
 t146:=Tryz.underlying347
 a146:=Tryz.isAgg347
 z146:=Tryz.sizeOf347
 v146:=Tryz.zeroValue347
 g1:=by kernel_rfl
def lCut_ren:Go.Shelf.Ren:=⟨λ| 145=>151 | 220=>207 | 219=>244 | 217=>266 | 225=>267 | 224=>268 | 267=>269 | 266=>278 | 314=>279 | n=>n,λ| 9=>9 | 4=>4 | 59=>229 | 3=>3 | 5=>5 | 46=>331 | 146=>347 | 51=>334 | n=>n,λ| 1=>0 | n=>n⟩
theorem lCut:Lays.n145 Tryz.prog lCut_ren where
 mixed:=by kernel_rfl
 f145:=Tryz.func151.trans (congrArg some (by kernel_rfl))
 f217:=Tryz.func266.trans (congrArg some (by kernel_rfl))
 f219:=Tryz.func244.trans (congrArg some (by kernel_rfl))
 f220:=Tryz.func207.trans (congrArg some (by kernel_rfl))
 f224:=Tryz.func268.trans (congrArg some (by kernel_rfl))
 f225:=Tryz.func267.trans (congrArg some (by kernel_rfl))
 f266:=Tryz.func278.trans (congrArg some (by kernel_rfl))
 f267:=Tryz.func269.trans (congrArg some (by kernel_rfl))
 f314:=Tryz.func279.trans (congrArg some (by kernel_rfl))
 t3:=Tryz.underlying3
 a3:=Tryz.isAgg3
 z3:=Tryz.sizeOf3
 v3:=Tryz.zeroValue3
 t4:=Tryz.underlying4
 a4:=Tryz.isAgg4
 z4:=Tryz.sizeOf4
 v4:=Tryz.zeroValue4
 t5:=Tryz.underlying5
 a5:=Tryz.isAgg5
 z5:=Tryz.sizeOf5
 v5:=Tryz.zeroValue5
 t9:=Tryz.underlying9
 a9:=Tryz.isAgg9
 z9:=Tryz.sizeOf9
 v9:=Tryz.zeroValue9
 t46:=Tryz.underlying331
 a46:=Tryz.isAgg331
 z46:=Tryz.sizeOf331
 v46:=Tryz.zeroValue331
 t51:=Tryz.underlying334
 a51:=Tryz.isAgg334
 z51:=Tryz.sizeOf334
 v51:=Tryz.zeroValue334
 t59:=Tryz.underlying229
 a59:=Tryz.isAgg229
 z59:=Tryz.sizeOf229
 v59:=Tryz.zeroValue229
 t146:=Tryz.underlying347
 a146:=Tryz.isAgg347
 z146:=Tryz.sizeOf347
 v146:=Tryz.zeroValue347
 g1:=by kernel_rfl
theorem lExtra:Builder.Extra Tryz.prog lJoin_ren where
 sizeBuilder:=by kernel_rfl
 liesBuilder:=by kernel_rfl
 t5:=Tryz.underlying5
 a5:=Tryz.isAgg5
 z5:=Tryz.sizeOf5
 v5:=Tryz.zeroValue5
 infoByte:=by kernel_rfl
 cellsByte:=by kernel_rfl
 sizeByte:=by kernel_rfl
 neB5:=by decide
theorem tab17 {w : World} {X : Cx} (h : GlOk w X) : Lib.TabIs Tryz.prog w "internal/strconv.uint64pow10" .u64 Lib.pow10Tab := tab_is h (b := 1) (by simp [glob]) (by kernel_rfl)
theorem err_cell {w:World} {X:Cx} (h:GlOk w X) {b:Nat} (hm:(b,errCell) ∈ glob):∃ ev,w.cell? ⟨b,0,none⟩ = some ev/\(ev = .nilIface\/∃ te pe,ev = .iface te pe):=by
 obtain ⟨arr,t,fr,h1,ev,h2,h3⟩:=cell_is h hm;exact ⟨ev,by simp [World.cell?,h1,h2],h3⟩
theorem int_cell {w:World} {X:Cx} (h:GlOk w X):∃ m,w.cell? ⟨0,0,none⟩ = some (.int .i64 m):=by
 obtain ⟨arr,t,fr,h1,m,h2⟩:=cell_is h (b:=0) (p:=intCell) (by simp [glob]);exact ⟨m,by simp [World.cell?,h1,h2]⟩
theorem hItoa_ok {args:List V} {r:V} (h:hItoa args = some r):CallOk Tryz.prog 75 args [] r []:=by
 unfold hItoa at h;split at h
 ·rename_i n;obtain ⟨s,hs,rfl⟩:=Option.map_eq_some_iff.1 h;unfold strconv_Itoa at hs;split at hs
  ·rename_i hn;cases hs;exact itoa_ok lItoa (λ_ _=>enters Tryz.func75 (by kernel_rfl) (by kernel_rfl) _ _) (λw X hg=>tab17 hg) n hn.1 hn.2
  ·cases hs
 ·cases h
theorem hAtoi_ok {args:List V} {r:V} (h:hAtoi args = some r):CallOk Tryz.prog 168 args [] r []:=by
 unfold hAtoi at h;split at h
 ·rename_i s;split at h
  ·rename_i hs;cases h;exact atoi_ok lAtoi (λ_ _=>enters Tryz.func168 (by kernel_rfl) (by kernel_rfl) _ _) (λw X hg=>err_cell hg (by simp [glob,lAtoi_ren])) (λw X hg=>err_cell hg (by simp [glob,lAtoi_ren])) s hs
  ·cases h
 ·cases h
theorem hJoin_ok {args:List V} {r:V} (h:hJoin args = some r):CallOk Tryz.prog 76 args [] r []:=by
 unfold hJoin at h;split at h
 ·rename_i f c l sep;obtain ⟨xs,hxs,h⟩:=Option.bind_eq_some_iff.1 h;obtain ⟨s,hs,rfl⟩:=Option.map_eq_some_iff.1 h;unfold strings_Join at hs;split at hs
  ·rename_i hc;cases hs;exact join_ok lJoin lExtra (λ_ _=>enters Tryz.func76 (by kernel_rfl) (by kernel_rfl) _ _) f c l xs sep hxs hc.1 hc.2
  ·cases hs
 ·cases h
theorem hTrim_ok {args:List V} {r:V} (h:hTrim args = some r):CallOk Tryz.prog 169 args [] r []:=by
 unfold hTrim at h;split at h
 ·cases h;exact trimPrefix_ok lTrim (λ_ _=>enters Tryz.func169 (by kernel_rfl) (by kernel_rfl) _ _) _ _
 ·cases h
theorem hIndex_ok {args:List V} {r:V} (h:hIndex args = some r):CallOk Tryz.prog 239 args [] r []:=by
 unfold hIndex at h;split at h
 ·split at h
  ·rename_i hs;cases h;exact index_ok lIndex (λ_ _=>enters Tryz.func239 (by kernel_rfl) (by kernel_rfl) _ _) (λw X hg=>int_cell hg) _ _ hs
  ·cases h
 ·cases h
theorem hCut_ok {args:List V} {r:V} (h:hCut args = some r):CallOk Tryz.prog 151 args [] r []:=by
 unfold hCut at h;split at h
 ·split at h
  ·rename_i hs;cases h;exact cut_ok lCut (λ_ _=>enters Tryz.func151 (by kernel_rfl) (by kernel_rfl) _ _) (λw X hg=>int_cell hg) _ _ hs
  ·cases h
 ·cases h
theorem lookL_mem:∀ {l:List (FuncId × (List V->Option V))} {g:FuncId} {h:List V->Option V},lookL l g = some h->(g,h) ∈ l
 | [],_,_,h=>by cases h
 | (k,f) :: l,g,h,hh=>by
  unfold lookL at hh;split at hh
  ·rename_i e; subst e; cases hh; exact List.mem_cons_self
  ·exact List.mem_cons_of_mem _ (lookL_mem hh)
theorem hlib:∀ g h args r,Lb g = some h->h args = some r->CallOk Tryz.prog g args [] r []:=λg h args r hg hr=>by
 have hm:=lookL_mem hg;simp only [libT,List.mem_cons,Prod.mk.injEq,List.mem_nil_iff,or_false] at hm;rcases hm with ⟨rfl,rfl⟩ | ⟨rfl,rfl⟩ | ⟨rfl,rfl⟩ | ⟨rfl,rfl⟩ | ⟨rfl,rfl⟩ | ⟨rfl,rfl⟩ | ⟨rfl,rfl⟩
 ·cases args with
  | nil=>cases hr; exact awake_ok
  | cons a l=>cases hr
 ·exact hItoa_ok hr
 ·exact hAtoi_ok hr
 ·exact hJoin_ok hr
 ·exact hTrim_ok hr
 ·exact hIndex_ok hr
 ·exact hCut_ok hr
end Go.Proofs.YteiciemjanhdcaaGreatDoor
end
section
namespace Go
variable {H:Type} {enc:TypeId × Value->H}
theorem returnsInHanded_of_laid_shaped {a:Assume} {C:Checked} {os:Os} {f:FuncId} {fn:Func} {s:ChangeSpec} {conds:List PathCond} {apart fresh handsOn again:Bool} {X:World->Array Value->Prop}
  (hX:∀ (w w':World) (args:Array Value),w.heap = w'.heap->X w args->X w' args)
  (own:ownKnob C.prog.godebug = none) (started:os.Started) (noInit:C.prog.inits.idxOf? f = none) (hfn:C.prog.funcs[f]? = some fn)
  (witness:∃ (w:World) (tape:Tape) (i:Input),w.os = os/\(w.forCall tape i).Shaped C.prog/\i.vars = []/\Input.okWide C.prog (w.forCall tape i) .any w.heap.size f i /\
   ((s.pre enc C.prog fn conds apart (w.forCall tape i).memory i.args/\X (w.forCall tape i).memory i.args)/\sizedMet enc C.prog fn (OpenSpec.ofChange s) apart (w.forCall tape i).memory i.args)/\a.holds C.prog (lone (Frame.enter C.prog f i.args .normal) [] (w.forCall tape i)))
  (contract:∀ (W:World) (base:Nat) (args:Array Value) (ds gs:List (DataW H)) (before:List MemPlace),
   (∀ (j:Nat) t v,fn.params[j]? = some t->args[j]? = some v->Value.okWide C.prog W .any base t v) ->
   DataW.Whole enc C.prog fn.params.toList s.vars apart W args.toList ds gs before ->
   W.ShapedOpen C.prog->X W args ->
   Calls C.prog f args W λe W'=>∃ v,e = .returned v/\s.post enc C.prog fn apart fresh handsOn again W args v W') :
  ReturnsInHanded a C os f .any (λw args=>(s.pre enc C.prog fn conds apart w args/\X w args)/\sizedMet enc C.prog fn (OpenSpec.ofChange s) apart w args) (s.post enc C.prog fn apart fresh handsOn again):=by
 refine returnsInHanded_of_calls own started noInit witness ?_;intro w tape i _ hsh _ hok hpre hholds;obtain ⟨_,_,_,fn',hfn',_,_,_,_,hval⟩:=hok;have e:fn' = fn:=Option.some.inj (hfn'.symm.trans hfn);subst e;obtain ⟨⟨⟨ds,gs,before,hw,hc⟩,hx⟩,hz⟩:=hpre;have hw':=DataW.Whole.of_heap (w':=w.forCall tape i) (by rfl) hw;refine (contract (w.forCall tape i) w.heap.size i.args ds gs before hval hw' hsh (hX _ _ _ (by rfl) hx)).mono λe W' ⟨v,he,hp⟩=>?_;subst he;exact ChangeSpec.post_blind hp
end Go
namespace Go.Proofs.YteiciemjanhdcaaGreatDoor
open Go Go.Ab Go.Tx Go.ChangeShapes Go.WideShapes Go.ChangeAt Go.WideMaps Go.WideElems Go.RowKit
def laid7 : List (String × DataW Unit) := [("math/bits.deBruijn32tab", Rows.laid_math_bits_deBruijn32tab), ("math/bits.deBruijn64tab", Rows.laid_math_bits_deBruijn64tab), ("internal/strconv.uint64pow10", Rows.laid_internal_strconv_uint64pow10), ("unicode/utf8.acceptRanges", Rows.laid_unicode_utf8_acceptRanges), ("strconv.ErrRange", Rows.laid_strconv_ErrRange), ("strconv.ErrSyntax", Rows.laid_strconv_ErrSyntax), ("unicode/utf8.first", Rows.laid_unicode_utf8_first)]
theorem g1 : Tryz.prog.globalNamed "internal/strconv.uint64pow10" = some 1 := by kernel_rfl
theorem g2 : Tryz.prog.globalNamed "strconv.ErrSyntax" = some 2 := by kernel_rfl
theorem g3 : Tryz.prog.globalNamed "strconv.ErrRange" = some 3 := by kernel_rfl
theorem star : "*" ++ "errors.errorString" = "*errors.errorString" := by decide
theorem row351 (u : TypeId) (h : Tryz.prog.typeName? 3 u = some "*errors.errorString") : u = 351 :=
 typeName_ptr_named (nm := "errors.errorString") (by rw [star]; kernel_rfl) (by kernel_rfl) (by decide) u (by rw [star]; exact h)
theorem glE {W:World} {b n:Nat} {c:Array Value} {P:Program} {nm:String} (hg:P.globalNamed nm = some b) (h:W.var? P nm = some c):∃ t fr,W.heap[b]? = some (.cells c t fr):=by
 simp only [World.var?,hg,Option.bind_some] at h;cases hb:W.heap[b]? with
 | none=>rw [hb] at h; cases h
 | some o =>
  cases o with
  | cells a t fr=>rw [hb] at h; simp only [Option.some.injEq] at h; subst h; exact ⟨t,fr,rfl⟩
  | _=>rw [hb] at h; cases h
theorem glC {W:World} {b:Nat} {v:Value} (h:W.cell? ⟨b,0,none⟩ = some v):∃ c t fr,W.heap[b]? = some (.cells c t fr)/\c[0]? = some v:=by
 simp only [World.cell?] at h;cases hb:W.heap[b]? with
 | none=>rw [hb] at h; cases h
 | some o =>
  cases o with
  | cells a t fr=>rw [hb] at h; exact ⟨a,t,fr,rfl,h⟩
  | _=>rw [hb] at h; cases h
theorem laid_plain {W:World} (h:laidMetH Tryz.prog laid7 W):laidMet Tryz.prog laid7 W:=by
 rwa [MakeChecks.laidMetH_plain _ _ _ (by kernel_rfl)] at h
set_option maxRecDepth 100000 in
theorem tab10 {W : World} (h : laidMet Tryz.prog laid7 W) : Lib.TabIs Tryz.prog W "internal/strconv.uint64pow10" .u64 Lib.pow10Tab :=
 Lib.tabIs_of_head (t := 333) (e := 309) (n := 20) (rest := laid7.drop 3) g1 (by kernel_rfl) Tryz.underlying333 Tryz.underlying309 (by kernel_rfl) (by kernel_rfl) (show laidMet Tryz.prog (("internal/strconv.uint64pow10", Lib.tabData .u64 Lib.pow10Tab) :: laid7.drop 3) W from h.tail.tail)
theorem errRange {W : World} (h : laidMet Tryz.prog laid7 W) : ∃ a, W.var? Tryz.prog "strconv.ErrRange" = some #[.iface 351 (.pointer (some a))] := by
 obtain ⟨a,s,hv,-,-,-⟩:=laid_sentinel h.tail.tail.tail.tail g3 (show (Tryz.prog.globals[3]?).map (·.type) = some 240 by kernel_rfl) Tryz.underlying240 row351 Tryz.underlying351 Tryz.underlying353 rfl rfl Tryz.underlying9 (by kernel_rfl) (by kernel_rfl);exact ⟨a,hv⟩
theorem errSyntax {W : World} (h : laidMet Tryz.prog laid7 W) : ∃ a, W.var? Tryz.prog "strconv.ErrSyntax" = some #[.iface 351 (.pointer (some a))] := by
 obtain ⟨a,s,hv,-,-,-⟩:=laid_sentinel h.tail.tail.tail.tail.tail g2 (show (Tryz.prog.globals[2]?).map (·.type) = some 240 by kernel_rfl) Tryz.underlying240 row351 Tryz.underlying351 Tryz.underlying353 rfl rfl Tryz.underlying9 (by kernel_rfl) (by kernel_rfl);exact ⟨a,hv⟩
theorem maxLenCell {W:World} (h:W.ShapedOpen Tryz.prog):∃ m,W.cell? ⟨0,0,none⟩ = some (.int .i64 m):=by
 have hr:((begin Tryz.prog (λ_ _=>0) default).world.heap[0]?).bind Obj.row? = some (#[.int .i64 0],3):=by kernel_rfl
 exact cell_of_shapedOpen_int (t:=3) (zero:=#[.int .i64 0]) h (of_decide_eq_true (by kernel_rfl)) hr rfl (by kernel_rfl) (by kernel_rfl) Tryz.underlying3
theorem gl_laid {W:World} (hs:W.ShapedOpen Tryz.prog) (hL:laidMetH Tryz.prog laid7 W):GlOk W (cx0 W):=by
 have h:=laid_plain hL;obtain ⟨m,hm⟩:=maxLenCell hs;obtain ⟨a3,h3⟩:=errRange h;obtain ⟨a2,h2⟩:=errSyntax h;have h1:=tab10 h;unfold Lib.TabIs at h1;intro x hx;simp only [glob,List.mem_cons,List.mem_nil_iff,or_false] at hx;have om:∀ {b:Nat} {c:Array Value} {t:TypeId} {fr:Nat × Nat},W.heap[b]? = some (.cells c t fr)->∃ e,(cx0 W).ω b = some (e,true):=λ{b c t fr} hb=>⟨c.size,by simp [cx0,hb]⟩
 rcases hx with rfl | rfl | rfl | rfl
 ·obtain ⟨c,t,fr,hb,hc⟩:=glC hm;exact ⟨om hb,c,t,fr,hb,m,hc⟩
 ·obtain ⟨t,fr,hb⟩:=glE (n:=0) g1 h1;exact ⟨om hb,_,t,fr,hb,rfl⟩
 ·obtain ⟨t,fr,hb⟩:=glE (n:=0) g2 h2;exact ⟨om hb,_,t,fr,hb,_,rfl,Or.inr ⟨_,_,rfl⟩⟩
 ·obtain ⟨t,fr,hb⟩:=glE (n:=0) g3 h3;exact ⟨om hb,_,t,fr,hb,_,rfl,Or.inr ⟨_,_,rfl⟩⟩
end Go.Proofs.YteiciemjanhdcaaGreatDoor
end
section
set_option maxRecDepth 100000
namespace Go.Proofs.YteiciemjanhdcaaGreatDoor
open Go Go.Ab Go.Tx
noncomputable section
def KT (e:Entry) (j:TH) (l:List Entry) (n:Nat):Prop:=∀ x:denP e.ps,fnT Tryz.prog Hn.hints j (tabT l) n e.g (ofPms e.ps x) e.rs = e.F x
abbrev OT (e:Entry):Prop:=EntryOk Tryz.prog Hn.hints Lb e
theorem entK {e:Entry} {j:TH} {l:List Entry} {n:Nat} (h:TOk Tryz.prog Hn.hints Lb (tabT l)) (hj:∀ g,j.lib g = false->Lb g = none) (k:KT e j l n):OT e:=entry_ok h hj n e.g e.ps e.rs e.F k
abbrev gT:Ty:=.pair I (.pair I .unit)
def law07_samples (a0:(List Int)):Option Bool :=
 some (decide ((a0.length:Int)<=62))
def e_law07_samples:Entry:=⟨38,[.ty (.sl I)],[(.bool,0)],λx=>law07_samples x⟩
def j_law07_samples:TH:=mkTH [] []
theorem k_law07_samples:KT e_law07_samples j_law07_samples [] 40:=λx=>by kernel_rfl
theorem o_law07_samples:OT e_law07_samples:=entK tab_nil hJ k_law07_samples
def sensor_joined (a0:(List Int)):Option (List UInt8) :=
 (loopO (λ(s3:((List (List UInt8)) × Int)) =>
   bif decide (s3.2 < (a0.length:Int)) then
    (idx a0 s3.2).bind λx4 =>
    (strconv_Itoa x4).bind λx5 =>
    (app s3.1 ([x5])).bind λx6 =>
    some (.inl (x6,w64 (s3.2 + 1)))
   else
    some (.inr s3.1)) ([],0)).bind λ(p7:(List (List UInt8))) =>
 (strings_Join p7 ([32])).bind λx8 =>
 some x8
def e_sensor_joined:Entry:=⟨97,[.ty (.sl I)],[(.str,0)],λx=>sensor_joined x⟩
def j_sensor_joined:TH:=mkTH [([],97,.block 0,{ lv:=[⟨none,3,0⟩],ps:=[((.sl .str),1)],D:=⟨261928⟩ }),
 ([],97,.loop 0,{ lv:=[⟨none,3,0⟩,⟨none,8,0⟩],ps:=[((.sl .str),1),(I,0)],D:=⟨261928⟩ })] []
theorem k_sensor_joined:KT e_sensor_joined j_sensor_joined [e_strconv_Itoa,e_strings_Join] 40:=λx=>by kernel_rfl
theorem o_sensor_joined:OT e_sensor_joined:=entK (tab_cons o_strconv_Itoa (tab_cons o_strings_Join tab_nil)) hJ k_sensor_joined
def sensor_FormatLine (a0:(Int × Int × Int × Unit)):Option (List UInt8) :=
 (sensor_joined ([a0.1,a0.2.1,a0.2.2.1])).bind λx1 =>
 some x1
def e_sensor_FormatLine:Entry:=⟨29,[.ty (.pair I gT)],[(.str,0)],λx=>sensor_FormatLine x⟩
def j_sensor_FormatLine:TH:=mkTH [] []
theorem k_sensor_FormatLine:KT e_sensor_FormatLine j_sensor_FormatLine [e_sensor_joined] 40:=λx=>by kernel_rfl
theorem o_sensor_FormatLine:OT e_sensor_FormatLine:=entK (tab_cons o_sensor_joined tab_nil) hJ k_sensor_FormatLine
def base_CopyInts (a0:(List Int)):Option (List Int) :=
 (app [] a0).bind λx1 =>
 some x1
def e_base_CopyInts:Entry:=⟨32,[.ty (.sl I)],[((.sl I),1)],λx=>base_CopyInts x⟩
def j_base_CopyInts:TH:=mkTH [] []
theorem k_base_CopyInts:KT e_base_CopyInts j_base_CopyInts [] 40:=λx=>by kernel_rfl
theorem o_base_CopyInts:OT e_base_CopyInts:=entK tab_nil hJ k_base_CopyInts
def sensor_FormatRaw (a0:(List Int)):Option (List UInt8) :=
 (sensor_joined a0).bind λx1 =>
 some x1
def e_sensor_FormatRaw:Entry:=⟨31,[.ty (.sl I)],[(.str,0)],λx=>sensor_FormatRaw x⟩
def j_sensor_FormatRaw:TH:=mkTH [] []
theorem k_sensor_FormatRaw:KT e_sensor_FormatRaw j_sensor_FormatRaw [e_sensor_joined] 40:=λx=>by kernel_rfl
theorem o_sensor_FormatRaw:OT e_sensor_FormatRaw:=entK (tab_cons o_sensor_joined tab_nil) hJ k_sensor_FormatRaw
def sensor_parsed (a0:(List UInt8)) (a1:Int):Option ((List Int) × Bool) :=
 (loopO (λ(s2:((List Int) × (List UInt8))) =>
   (strings_Index s2.2 ([32])).bind λx3 =>
   bif decide (x3 < 0) then
    some (.inr (.inl (s2.1,s2.2)))
   else
    (slc s2.2 0 (w64 (x3 + 0))).bind λx4 =>
    (strconv_Atoi x4).bind λx5 =>
    (bif !x5.2 then
      some true
     else
      (strconv_Itoa x5.1).bind λx6 =>
      bif !(decide (x6 = x4)) then
       some true
      else
       (strings_TrimPrefix x4 ([45])).bind λx7 =>
       some (decide ((x7.length:Int) > a1))).bind λ(p8:Bool) =>
    bif p8 then
     some (.inr (.inr ([],false)))
    else
     (app s2.1 ([x5.1])).bind λx9 =>
     (slc s2.2 (w64 (x3 + 1)) (s2.2.length:Int)).bind λx10 =>
     some (.inl (x9,x10))) ([],a0)).bind (Sum.elim (λ(p11:((List Int) × (List UInt8))) =>
 (strconv_Atoi p11.2).bind λx12 =>
 (bif !x12.2 then
   some true
  else
   (strconv_Itoa x12.1).bind λx13 =>
   bif !(decide (x13 = p11.2)) then
    some true
   else
    (strings_TrimPrefix p11.2 ([45])).bind λx14 =>
    some (decide ((x14.length:Int) > a1))).bind λ(p15:Bool) =>
 bif p15 then
  some ([],false)
 else
  (app p11.1 ([x12.1])).bind λx16 =>
  some (x16,true)) some)
def e_sensor_parsed:Entry:=⟨95,[.ty .str,.ty I],[((.sl I),2000),(.bool,0)],λx=>sensor_parsed x.1 x.2⟩
def j_sensor_parsed:TH:=mkTH [([12],237,.block 2,{ lv:=[⟨some 0,6,0⟩,⟨some 0,11,0⟩],ps:=[((.sl I),1),(.str,0)],abn:=true,D:=⟨562949416550784⟩,wr:=[⟨0,6⟩,⟨0,11⟩] }),
 ([12],237,.loop 2,{ lv:=[⟨some 0,6,0⟩,⟨some 0,11,0⟩],ps:=[((.sl I),1),(.str,0)],D:=⟨562949416550784⟩,wr:=[⟨0,6⟩,⟨0,11⟩],rs:=[⟨0,12⟩],Dn:=⟨562399660736896⟩ }),
 ([41,12],95,.region 5,{ lv:=[⟨none,32,0⟩],ps:=[(.bool,0)],D:=⟨8589672448⟩ }),
 ([51,12],95,.region 5,{ lv:=[⟨none,32,0⟩],ps:=[(.bool,0)],D:=⟨8589672448⟩ })] []
theorem k_sensor_parsed:KT e_sensor_parsed j_sensor_parsed [e_strconv_Atoi,e_strconv_Itoa,e_strings_Index,e_strings_TrimPrefix] 40:=λx=>by kernel_rfl
theorem o_sensor_parsed:OT e_sensor_parsed:=entK (tab_cons o_strconv_Atoi (tab_cons o_strconv_Itoa (tab_cons o_strings_Index (tab_cons o_strings_TrimPrefix tab_nil)))) hJ k_sensor_parsed
def sensor_within (a0:Int) (a1:Int) (a2:Int):Option Bool :=
 (bif decide (a1<=a0) then
   some (decide (a0<=a2))
  else
   some false).bind λ(p1:Bool) =>
 some p1
def e_sensor_within:Entry:=⟨103,[.ty I,.ty I,.ty I],[(.bool,0)],λx=>sensor_within x.1 x.2.1 x.2.2⟩
def j_sensor_within:TH:=mkTH [([],103,.region 1,{ lv:=[⟨none,6,0⟩],ps:=[(.bool,0)],D:=⟨32704⟩ })] []
theorem k_sensor_within:KT e_sensor_within j_sensor_within [] 40:=λx=>by kernel_rfl
theorem o_sensor_within:OT e_sensor_within:=entK tab_nil hJ k_sensor_within
def sensor_sized (a0:Int) (a1:Int):Option Bool :=
 (sensor_within a0 (w64 (0 - a1)) a1).bind λx1 =>
 some x1
def e_sensor_sized:Entry:=⟨104,[.ty I,.ty I],[(.bool,0)],λx=>sensor_sized x.1 x.2⟩
def j_sensor_sized:TH:=mkTH [] []
theorem k_sensor_sized:KT e_sensor_sized j_sensor_sized [e_sensor_within] 40:=λx=>by kernel_rfl
theorem o_sensor_sized:OT e_sensor_sized:=entK (tab_cons o_sensor_within tab_nil) hJ k_sensor_sized
def sensor_divisor (a0:(List Int)):Option Int :=
 (loopO (λ(s2:(Int × Int)) =>
   bif decide (s2.2 < (a0.length:Int)) then
    (idx a0 s2.2).bind λx3 =>
    (loopO (λ(s5:(Int × Int)) =>
      bif !(decide (s5.2 = 0)) then
       bif decide (s5.2 = 0) then
        none
       else
        some (.inl (s5.2,s5.1.tmod s5.2))
      else
       some (.inr s5.1)) (s2.1,x3)).bind λ(p6:Int) =>
    some (.inl (p6,w64 (s2.2 + 1)))
   else
    some (.inr s2.1)) (0,0)).bind λ(p7:Int) =>
 some (max p7 (w64 (0 - p7)))
def e_sensor_divisor:Entry:=⟨94,[.ty (.sl I)],[(I,0)],λx=>sensor_divisor x⟩
def j_sensor_divisor:TH:=mkTH [([],94,.block 0,{ lv:=[⟨none,3,0⟩],ps:=[(I,0)],D:=⟨524072⟩ }),
 ([],94,.loop 0,{ lv:=[⟨none,3,0⟩,⟨none,8,0⟩],ps:=[(I,0),(I,0)],D:=⟨524072⟩ }),
 ([],94,.block 2,{ lv:=[⟨none,3,0⟩],ps:=[(I,0)],D:=⟨258088⟩ }),
 ([],94,.loop 2,{ lv:=[⟨none,3,0⟩,⟨none,5,0⟩],ps:=[(I,0),(I,0)],D:=⟨258088⟩ })] []
theorem k_sensor_divisor:KT e_sensor_divisor j_sensor_divisor [] 40:=λx=>by kernel_rfl
theorem o_sensor_divisor:OT e_sensor_divisor:=entK tab_nil hJ k_sensor_divisor
def sensor_unless (a0:Bool) (a1:Int):Option Int :=
 bif a0 then
  some 0
 else
  some a1
def e_sensor_unless:Entry:=⟨101,[.ty .bool,.ty I],[(I,0)],λx=>sensor_unless x.1 x.2⟩
def j_sensor_unless:TH:=mkTH [] []
theorem k_sensor_unless:KT e_sensor_unless j_sensor_unless [] 40:=λx=>by kernel_rfl
theorem o_sensor_unless:OT e_sensor_unless:=entK tab_nil hJ k_sensor_unless
def sensor_CheckLine (a0:(Int × Int × Int × Unit)):Option Int :=
 ((sensor_within a0.2.2.1 (1:Int) (300000000000:Int)).bind λx1 =>
  bif x1 then
   (sensor_sized a0.1 (300000000000:Int)).bind λx2 =>
   bif x2 then
    (sensor_sized a0.2.1 (300000000000:Int)).bind λx3 =>
    some x3
   else
    some false
  else
   some false).bind λ(p4:Bool) =>
 bif !p4 then
  some 2
 else
  (sensor_divisor ([a0.1,a0.2.1,a0.2.2.1])).bind λx5 =>
  (sensor_unless (decide (x5 = 1)) (3:Int)).bind λx6 =>
  some x6
def e_sensor_CheckLine:Entry:=⟨96,[.ty (.pair I gT)],[(I,0)],λx=>sensor_CheckLine x⟩
def j_sensor_CheckLine:TH:=mkTH [([],96,.region 1,{ lv:=[⟨none,3,0⟩],ps:=[(.bool,0)],D:=⟨131064⟩,rs:=[⟨0,1⟩],Dn:=⟨122600⟩ })] []
theorem k_sensor_CheckLine:KT e_sensor_CheckLine j_sensor_CheckLine [e_sensor_divisor,e_sensor_sized,e_sensor_unless,e_sensor_within] 40:=λx=>by kernel_rfl
theorem o_sensor_CheckLine:OT e_sensor_CheckLine:=entK (tab_cons o_sensor_divisor (tab_cons o_sensor_sized (tab_cons o_sensor_unless (tab_cons o_sensor_within tab_nil)))) hJ k_sensor_CheckLine
def sensor_ParseLine (a0:(List UInt8)):Option ((Int × Int × Int × Unit) × Int) :=
 (sensor_parsed a0 (12:Int)).bind λx1 =>
 (bif !x1.2 then
   some true
  else
   bif !(decide ((x1.1.length:Int) = 3)) then
    some true
   else
    (idx x1.1 2).bind λx2 =>
    some (decide (x2 < 0))).bind λ(p3:Bool) =>
 bif p3 then
  some ((0,0,0,()),7)
 else
  (idx x1.1 0).bind λx4 =>
  (idx x1.1 1).bind λx5 =>
  (idx x1.1 2).bind λx6 =>
  (sensor_CheckLine (x4,x5,x6,())).bind λx7 =>
  bif !(decide (x7 = 0)) then
   some ((0,0,0,()),x7)
  else
   some ((x4,x5,x6,()),0)
def e_sensor_ParseLine:Entry:=⟨28,[.ty .str],[((.pair I gT),0),(I,0)],λx=>sensor_ParseLine x⟩
def j_sensor_ParseLine:TH:=mkTH [([],28,.region 2,{ lv:=[⟨none,26,0⟩],ps:=[(.bool,0)],D:=⟨134201344⟩ })] []
theorem k_sensor_ParseLine:KT e_sensor_ParseLine j_sensor_ParseLine [e_sensor_CheckLine,e_sensor_parsed] 40:=λx=>by kernel_rfl
theorem o_sensor_ParseLine:OT e_sensor_ParseLine:=entK (tab_cons o_sensor_CheckLine (tab_cons o_sensor_parsed tab_nil)) hJ k_sensor_ParseLine
def sensor_first (a0:(List Int)):Option Int :=
 (loopO (λ(s2:Int) =>
   bif decide (s2 < (a0.length:Int)) then
    (idx a0 s2).bind λx3 =>
    bif !(decide (x3 = 0)) then
     some (.inr (.inr x3))
    else
     some (.inl (w64 (s2 + 1)))
   else
    some (.inr (.inl ()))) 0).bind (Sum.elim (λ(p4:Unit) =>
 some 0) some)
def e_sensor_first:Entry:=⟨99,[.ty (.sl I)],[(I,0)],λx=>sensor_first x⟩
def j_sensor_first:TH:=mkTH [([],99,.block 0,{ lv:=[],ps:=[],abn:=true,D:=⟨32656⟩ }),
 ([],99,.loop 0,{ lv:=[⟨none,7,0⟩],ps:=[(I,0)],D:=⟨32656⟩ })] []
theorem k_sensor_first:KT e_sensor_first j_sensor_first [] 40:=λx=>by kernel_rfl
theorem o_sensor_first:OT e_sensor_first:=entK tab_nil hJ k_sensor_first
def sensor_CheckRaw_1 (a0:Int) (a1:Int):Option Int :=
 (sensor_sized a1 (100000:Int)).bind λx1 =>
 (sensor_unless x1 (2:Int)).bind λx2 =>
 some x2
def e_sensor_CheckRaw_1:Entry:=⟨227,[.ty I,.ty I],[(I,0)],λx=>sensor_CheckRaw_1 x.1 x.2⟩
def j_sensor_CheckRaw_1:TH:=mkTH [] []
theorem k_sensor_CheckRaw_1:KT e_sensor_CheckRaw_1 j_sensor_CheckRaw_1 [e_sensor_sized,e_sensor_unless] 40:=λx=>by kernel_rfl
theorem o_sensor_CheckRaw_1:OT e_sensor_CheckRaw_1:=entK (tab_cons o_sensor_sized (tab_cons o_sensor_unless tab_nil)) hJ k_sensor_CheckRaw_1
def sensor_each_int_of_sensor_CheckRaw_1 (a0:(List Int)):Option (Int × Int) :=
 (loopO (λ(s2:Int) =>
   bif decide (s2 < (a0.length:Int)) then
    (idx a0 s2).bind λx3 =>
    (sensor_CheckRaw_1 s2 x3).bind λx4 =>
    bif !(decide (x4 = 0)) then
     some (.inr (.inr (s2,x4)))
    else
     some (.inl (w64 (s2 + 1)))
   else
    some (.inr (.inl ()))) 0).bind (Sum.elim (λ(p5:Unit) =>
 some (0,0)) some)
def e_sensor_each_int_of_sensor_CheckRaw_1:Entry:=⟨226,[.ty (.sl I),.fn 227 []],[(I,0),(I,0)],λx=>sensor_each_int_of_sensor_CheckRaw_1 x.1⟩
def j_sensor_each_int_of_sensor_CheckRaw_1:TH:=mkTH [([],226,.block 0,{ lv:=[],ps:=[],abn:=true,D:=⟨33552832⟩ }),
 ([],226,.loop 0,{ lv:=[⟨none,11,0⟩],ps:=[(I,0)],D:=⟨33552832⟩ })] []
theorem k_sensor_each_int_of_sensor_CheckRaw_1:KT e_sensor_each_int_of_sensor_CheckRaw_1 j_sensor_each_int_of_sensor_CheckRaw_1 [e_sensor_CheckRaw_1] 40:=λx=>by kernel_rfl
theorem o_sensor_each_int_of_sensor_CheckRaw_1:OT e_sensor_each_int_of_sensor_CheckRaw_1:=entK (tab_cons o_sensor_CheckRaw_1 tab_nil) hJ k_sensor_each_int_of_sensor_CheckRaw_1
def sensor_CheckRaw (a0:(List Int)):Option (Int × Int) :=
 (sensor_unless (decide ((a0.length:Int) > 0)) (10:Int)).bind λx1 =>
 (sensor_unless (decide ((a0.length:Int)<=60)) (8:Int)).bind λx2 =>
 (sensor_first ([x1,x2])).bind λx3 =>
 bif !(decide (x3 = 0)) then
  some (0,x3)
 else
  (sensor_each_int_of_sensor_CheckRaw_1 a0).bind λx4 =>
  some (x4.1,x4.2)
def e_sensor_CheckRaw:Entry:=⟨170,[.ty (.sl I)],[(I,0),(I,0)],λx=>sensor_CheckRaw x⟩
def j_sensor_CheckRaw:TH:=mkTH [] []
theorem k_sensor_CheckRaw:KT e_sensor_CheckRaw j_sensor_CheckRaw [e_sensor_each_int_of_sensor_CheckRaw_1,e_sensor_first,e_sensor_unless] 40:=λx=>by kernel_rfl
theorem o_sensor_CheckRaw:OT e_sensor_CheckRaw:=entK (tab_cons o_sensor_each_int_of_sensor_CheckRaw_1 (tab_cons o_sensor_first (tab_cons o_sensor_unless tab_nil))) hJ k_sensor_CheckRaw
def sensor_rawErr (a0:(List Int)):Option Int :=
 (sensor_CheckRaw a0).bind λx1 =>
 some x1.2
def e_sensor_rawErr:Entry:=⟨98,[.ty (.sl I)],[(I,0)],λx=>sensor_rawErr x⟩
def j_sensor_rawErr:TH:=mkTH [] []
theorem k_sensor_rawErr:KT e_sensor_rawErr j_sensor_rawErr [e_sensor_CheckRaw] 40:=λx=>by kernel_rfl
theorem o_sensor_rawErr:OT e_sensor_rawErr:=entK (tab_cons o_sensor_CheckRaw tab_nil) hJ k_sensor_rawErr
def sensor_ParseRaw (a0:(List UInt8)):Option ((List Int) × Int) :=
 bif decide ((a0.length:Int) > 60000) then
  some ([],8)
 else
  (sensor_parsed a0 (6:Int)).bind λx1 =>
  bif !x1.2 then
   some ([],7)
  else
   (sensor_rawErr x1.1).bind λx2 =>
   bif !(decide (x2 = 0)) then
    some ([],x2)
   else
    some (x1.1,0)
def e_sensor_ParseRaw:Entry:=⟨30,[.ty .str],[((.sl I),2000),(I,0)],λx=>sensor_ParseRaw x⟩
def j_sensor_ParseRaw:TH:=mkTH [] []
theorem k_sensor_ParseRaw:KT e_sensor_ParseRaw j_sensor_ParseRaw [e_sensor_parsed,e_sensor_rawErr] 40:=λx=>by kernel_rfl
theorem o_sensor_ParseRaw:OT e_sensor_ParseRaw:=entK (tab_cons o_sensor_parsed (tab_cons o_sensor_rawErr tab_nil)) hJ k_sensor_ParseRaw
def base_Cut (a0:(List UInt8)) (a1:Int):Option (List (List UInt8)) :=
 (loopO (λ(s2:((List (List UInt8)) × Int × Int)) =>
   bif decide (s2.2.2 < (a0.length:Int)) then
    (idx a0 s2.2.2).bind λx3 =>
    (bif decide ((x3.toNat:Int) = a1) then
      (slc a0 s2.2.1 s2.2.2).bind λx4 =>
      (app s2.1 ([x4])).bind λx5 =>
      some (x5,w64 (s2.2.2 + 1))
     else
      some (s2.1,s2.2.1)).bind λ(p6:((List (List UInt8)) × Int)) =>
    some (.inl (p6.1,p6.2,w64 (s2.2.2 + 1)))
   else
    some (.inr (s2.1,s2.2.1))) ([],0,0)).bind λ(p7:((List (List UInt8)) × Int)) =>
 (slc a0 p7.2 (a0.length:Int)).bind λx8 =>
 (app p7.1 ([x8])).bind λx9 =>
 some x9
def e_base_Cut:Entry:=⟨126,[.ty .str,.ty (.int .u8)],[((.sl .str),1)],λx=>base_Cut x.1 x.2⟩
def j_base_Cut:TH:=mkTH [([],126,.block 0,{ lv:=[⟨none,5,0⟩,⟨none,6,0⟩],ps:=[((.sl .str),1),(I,0)],D:=⟨268435424⟩ }),
 ([],126,.loop 0,{ lv:=[⟨none,5,0⟩,⟨none,6,0⟩,⟨none,7,0⟩],ps:=[((.sl .str),1),(I,0),(I,0)],D:=⟨268435424⟩ }),
 ([],126,.cond 18,{ lv:=[⟨none,5,0⟩,⟨none,6,0⟩],ps:=[((.sl .str),1),(I,0)],D:=⟨267911264⟩ })] []
theorem k_base_Cut:KT e_base_Cut j_base_Cut [] 40:=λx=>by kernel_rfl
theorem o_base_Cut:OT e_base_Cut:=entK tab_nil hJ k_base_Cut
def base_Number (a0:(List UInt8)) (a1:Int):Option (Int × Bool) :=
 (bif decide ((a0.length:Int) > 0) then
   (idx a0 0).bind λx1 =>
   some (decide ((x1.toNat:Int) = 45))
  else
   some false).bind λ(p2:Bool) =>
 (bif p2 then
   some 1
  else
   some 0).bind λ(p3:Int) =>
 (bif decide ((a0.length:Int) = p3) then
   some true
  else
   bif decide (w64 ((a0.length:Int) - p3) > a1) then
    some true
   else
    (idx a0 p3).bind λx4 =>
    bif decide ((x4.toNat:Int) = 48) then
     some (decide ((a0.length:Int) > 1))
    else
     some false).bind λ(p5:Bool) =>
 bif p5 then
  some (0,false)
 else
  (loopO (λ(s7:(Int × Int)) =>
    bif decide (s7.2 < (a0.length:Int)) then
     ((idx a0 s7.2).bind λx8 =>
      bif decide ((x8.toNat:Int) < 48) then
       some true
      else
       (idx a0 s7.2).bind λx9 =>
       some (decide ((x9.toNat:Int) > 57))).bind λ(p10:Bool) =>
     bif p10 then
      some (.inr (.inr (0,false)))
     else
      (idx a0 s7.2).bind λx11 =>
      let v12:Int:=w64 ((w64 (10 * s7.1)) + (w64 (IntKind.wrap .u8 ((x11.toNat:Int) - 48))))
      some (.inl (v12,w64 (s7.2 + 1)))
    else
     some (.inr (.inl s7.1))) (0,p3)).bind (Sum.elim (λ(p13:Int) =>
  (bif decide (p3 = 1) then
    some (w64 (0 - p13))
   else
    some p13).bind λ(p14:Int) =>
  some (p14,true)) some)
def e_base_Number:Entry:=⟨178,[.ty .str,.ty I],[(I,0),(.bool,0)],λx=>base_Number x.1 x.2⟩
def j_base_Number:TH:=mkTH [([],178,.region 2,{ lv:=[⟨none,16,0⟩],ps:=[(.bool,0)],D:=⟨130560⟩ }),
 ([],178,.cond 16,{ lv:=[⟨none,6,0⟩],ps:=[(I,0)],D:=⟨64⟩ }),
 ([],178,.region 4,{ lv:=[⟨none,39,0⟩],ps:=[(.bool,0)],D:=⟨1099511496704⟩ }),
 ([],178,.block 0,{ lv:=[⟨none,7,0⟩],ps:=[(I,0)],abn:=true,D:=⟨36893485948395848064⟩ }),
 ([],178,.loop 0,{ lv:=[⟨none,7,0⟩,⟨none,8,0⟩],ps:=[(I,0),(I,0)],D:=⟨36893485948395848064⟩ }),
 ([],178,.region 10,{ lv:=[⟨none,56,0⟩],ps:=[(.bool,0)],D:=⟨143974450587500544⟩ }),
 ([],178,.cond 66,{ lv:=[⟨none,7,0⟩],ps:=[(I,0)],D:=⟨442721857769029238912⟩ })] []
theorem k_base_Number:KT e_base_Number j_base_Number [] 40:=λx=>by kernel_rfl
theorem o_base_Number:OT e_base_Number:=entK tab_nil hJ k_base_Number
def ref07_numbers (a0:(List UInt8)) (a1:Int):Option ((List Int) × Bool) :=
 (base_Cut a0 (32:Int)).bind λx1 =>
 (loopO (λ(s4:((List Int) × Int)) =>
   bif decide (s4.2 < (x1.length:Int)) then
    (idx x1 s4.2).bind λx5 =>
    (base_Number x5 a1).bind λx6 =>
    bif !x6.2 then
     some (.inr (.inr ([],false)))
    else
     (app s4.1 ([x6.1])).bind λx7 =>
     some (.inl (x7,w64 (s4.2 + 1)))
   else
    some (.inr (.inl s4.1))) ([],0)).bind (Sum.elim (λ(p8:(List Int)) =>
 some (p8,true)) some)
def e_ref07_numbers:Entry:=⟨114,[.ty .str,.ty I],[((.sl I),1),(.bool,0)],λx=>ref07_numbers x.1 x.2⟩
def j_ref07_numbers:TH:=mkTH [([],114,.block 0,{ lv:=[⟨none,7,0⟩],ps:=[((.sl I),1)],abn:=true,D:=⟨17179862912⟩ }),
 ([],114,.loop 0,{ lv:=[⟨none,7,0⟩,⟨none,8,0⟩],ps:=[((.sl I),1),(I,0)],D:=⟨17179862912⟩ })] []
theorem k_ref07_numbers:KT e_ref07_numbers j_ref07_numbers [e_base_Cut,e_base_Number] 40:=λx=>by kernel_rfl
theorem o_ref07_numbers:OT e_ref07_numbers:=entK (tab_cons o_base_Cut (tab_cons o_base_Number tab_nil)) hJ k_ref07_numbers
def base_Within (a0:Int) (a1:Int) (a2:Int):Option Bool :=
 (bif decide (a1<=a0) then
   some (decide (a0<=a2))
  else
   some false).bind λ(p1:Bool) =>
 some p1
def e_base_Within:Entry:=⟨10,[.ty I,.ty I,.ty I],[(.bool,0)],λx=>base_Within x.1 x.2.1 x.2.2⟩
def j_base_Within:TH:=mkTH [([],10,.region 1,{ lv:=[⟨none,6,0⟩],ps:=[(.bool,0)],D:=⟨32704⟩ })] []
theorem k_base_Within:KT e_base_Within j_base_Within [] 40:=λx=>by kernel_rfl
theorem o_base_Within:OT e_base_Within:=entK tab_nil hJ k_base_Within
def base_Size (a0:Int):Option Int :=
 some (max a0 (w64 (0 - a0)))
def e_base_Size:Entry:=⟨19,[.ty I],[(I,0)],λx=>base_Size x⟩
def j_base_Size:TH:=mkTH [] []
theorem k_base_Size:KT e_base_Size j_base_Size [] 40:=λx=>by kernel_rfl
theorem o_base_Size:OT e_base_Size:=entK tab_nil hJ k_base_Size
def base_Gcd (a0:Int) (a1:Int):Option Int :=
 (loopO (λ(s2:(Int × Int)) =>
   bif !(decide (s2.2 = 0)) then
    bif decide (s2.2 = 0) then
     none
    else
     some (.inl (s2.2,s2.1.tmod s2.2))
   else
    some (.inr s2.1)) (a0,a1)).bind λ(p3:Int) =>
 (base_Size p3).bind λx4 =>
 some x4
def e_base_Gcd:Entry:=⟨116,[.ty I,.ty I],[(I,0)],λx=>base_Gcd x.1 x.2⟩
def j_base_Gcd:TH:=mkTH [([],116,.block 0,{ lv:=[⟨none,0,0⟩],ps:=[(I,0)],D:=⟨2019⟩ }),
 ([],116,.loop 0,{ lv:=[⟨none,0,0⟩,⟨none,1,0⟩],ps:=[(I,0),(I,0)],D:=⟨2019⟩ })] []
theorem k_base_Gcd:KT e_base_Gcd j_base_Gcd [e_base_Size] 40:=λx=>by kernel_rfl
theorem o_base_Gcd:OT e_base_Gcd:=entK (tab_cons o_base_Size tab_nil) hJ k_base_Gcd
def ref07_LineErr (a0:(Int × Int × Int × Unit)):Option Int :=
 ((base_Within a0.2.2.1 (1:Int) (300000000000:Int)).bind λx1 =>
  bif !x1 then
   some true
  else
   (base_Within a0.1 (-300000000000:Int) (300000000000:Int)).bind λx2 =>
   bif !x2 then
    some true
   else
    (base_Within a0.2.1 (-300000000000:Int) (300000000000:Int)).bind λx3 =>
    some (!x3)).bind λ(p4:Bool) =>
 bif p4 then
  some 2
 else
  (base_Gcd a0.1 a0.2.1).bind λx5 =>
  (base_Gcd x5 a0.2.2.1).bind λx6 =>
  bif !(decide (x6 = 1)) then
   some 3
  else
   some 0
def e_ref07_LineErr:Entry:=⟨43,[.ty (.pair I gT)],[(I,0)],λx=>ref07_LineErr x⟩
def j_ref07_LineErr:TH:=mkTH [([],43,.region 1,{ lv:=[⟨none,18,0⟩],ps:=[(.bool,0)],D:=⟨524280⟩,rs:=[⟨0,1⟩],Dn:=⟨507632⟩ })] []
theorem k_ref07_LineErr:KT e_ref07_LineErr j_ref07_LineErr [e_base_Gcd,e_base_Within] 40:=λx=>by kernel_rfl
theorem o_ref07_LineErr:OT e_ref07_LineErr:=entK (tab_cons o_base_Gcd (tab_cons o_base_Within tab_nil)) hJ k_ref07_LineErr
def ref07_ParseLine (a0:(List UInt8)):Option ((Int × Int × Int × Unit) × Int) :=
 (ref07_numbers a0 (12:Int)).bind λx1 =>
 (bif !x1.2 then
   some true
  else
   bif !(decide ((x1.1.length:Int) = 3)) then
    some true
   else
    (idx x1.1 2).bind λx2 =>
    some (decide (x2 < 0))).bind λ(p3:Bool) =>
 bif p3 then
  some ((0,0,0,()),7)
 else
  (idx x1.1 0).bind λx4 =>
  (idx x1.1 1).bind λx5 =>
  (idx x1.1 2).bind λx6 =>
  (ref07_LineErr (x4,x5,x6,())).bind λx7 =>
  bif !(decide (x7 = 0)) then
   some ((0,0,0,()),x7)
  else
   some ((x4,x5,x6,()),0)
def e_ref07_ParseLine:Entry:=⟨39,[.ty .str],[((.pair I gT),0),(I,0)],λx=>ref07_ParseLine x⟩
def j_ref07_ParseLine:TH:=mkTH [([],39,.region 2,{ lv:=[⟨none,25,0⟩],ps:=[(.bool,0)],D:=⟨67100672⟩ })] []
theorem k_ref07_ParseLine:KT e_ref07_ParseLine j_ref07_ParseLine [e_ref07_LineErr,e_ref07_numbers] 40:=λx=>by kernel_rfl
theorem o_ref07_ParseLine:OT e_ref07_ParseLine:=entK (tab_cons o_ref07_LineErr (tab_cons o_ref07_numbers tab_nil)) hJ k_ref07_ParseLine
def ref07_CheckRaw (a0:(List Int)):Option (Int × Int) :=
 bif decide ((a0.length:Int) = 0) then
  some (0,10)
 else
  bif decide ((a0.length:Int) > 60) then
   some (0,8)
  else
   (loopO (λ(s2:Int) =>
     bif decide (s2 < (a0.length:Int)) then
      (idx a0 s2).bind λx3 =>
      (base_Within x3 (-100000:Int) (100000:Int)).bind λx4 =>
      bif !x4 then
       some (.inr (.inr (s2,2)))
      else
       some (.inl (w64 (s2 + 1)))
     else
      some (.inr (.inl ()))) 0).bind (Sum.elim (λ(p5:Unit) =>
   some (0,0)) some)
def e_ref07_CheckRaw:Entry:=⟨90,[.ty (.sl I)],[(I,0),(I,0)],λx=>ref07_CheckRaw x⟩
def j_ref07_CheckRaw:TH:=mkTH [([],90,.block 0,{ lv:=[],ps:=[],abn:=true,D:=⟨16775184⟩ }),
 ([],90,.loop 0,{ lv:=[⟨none,4,0⟩],ps:=[(I,0)],D:=⟨16775184⟩ })] []
theorem k_ref07_CheckRaw:KT e_ref07_CheckRaw j_ref07_CheckRaw [e_base_Within] 40:=λx=>by kernel_rfl
theorem o_ref07_CheckRaw:OT e_ref07_CheckRaw:=entK (tab_cons o_base_Within tab_nil) hJ k_ref07_CheckRaw
def ref07_RawErr (a0:(List Int)):Option Int :=
 (ref07_CheckRaw a0).bind λx1 =>
 some x1.2
def e_ref07_RawErr:Entry:=⟨26,[.ty (.sl I)],[(I,0)],λx=>ref07_RawErr x⟩
def j_ref07_RawErr:TH:=mkTH [] []
theorem k_ref07_RawErr:KT e_ref07_RawErr j_ref07_RawErr [e_ref07_CheckRaw] 40:=λx=>by kernel_rfl
theorem o_ref07_RawErr:OT e_ref07_RawErr:=entK (tab_cons o_ref07_CheckRaw tab_nil) hJ k_ref07_RawErr
def ref07_ParseRaw (a0:(List UInt8)):Option ((List Int) × Int) :=
 bif decide ((a0.length:Int) > 60000) then
  some ([],8)
 else
  (ref07_numbers a0 (6:Int)).bind λx1 =>
  bif !x1.2 then
   some ([],7)
  else
   (ref07_RawErr x1.1).bind λx2 =>
   bif !(decide (x2 = 0)) then
    some ([],x2)
   else
    some (x1.1,0)
def e_ref07_ParseRaw:Entry:=⟨40,[.ty .str],[((.sl I),1),(I,0)],λx=>ref07_ParseRaw x⟩
def j_ref07_ParseRaw:TH:=mkTH [] []
theorem k_ref07_ParseRaw:KT e_ref07_ParseRaw j_ref07_ParseRaw [e_ref07_RawErr,e_ref07_numbers] 40:=λx=>by kernel_rfl
theorem o_ref07_ParseRaw:OT e_ref07_ParseRaw:=entK (tab_cons o_ref07_RawErr (tab_cons o_ref07_numbers tab_nil)) hJ k_ref07_ParseRaw
def base_Decimal (a0:Int):Option (List UInt8) :=
 bif decide (a0 = 0) then
  some ([48])
 else
  (bif decide (a0 < 0) then
    some ([45])
   else
    some []).bind λ(p1:(List UInt8)) =>
  (loopO (λ(s3:(Int × (List UInt8))) =>
    bif !(decide (s3.1 = 0)) then
     (base_Size (s3.1.tmod 10)).bind λx4 =>
     (app (([IntKind.wrap .u8 (w64 (48 + x4))]).map λn=>UInt8.ofNat n.toNat) s3.2).bind λx5 =>
     some (.inl (w64 (s3.1.tdiv 10),x5))
    else
     some (.inr s3.2)) (a0,[])).bind λ(p6:(List UInt8)) =>
  (app p1 p6).bind λx7 =>
  some x7
def e_base_Decimal:Entry:=⟨128,[.ty I],[(.str,0)],λx=>base_Decimal x⟩
def j_base_Decimal:TH:=mkTH [([],128,.cond 9,{ lv:=[⟨none,4,0⟩],ps:=[(.str,0)],D:=⟨16⟩ }),
 ([],128,.block 0,{ lv:=[⟨none,3,0⟩],ps:=[(.str,0)],D:=⟨16776233⟩ }),
 ([],128,.loop 0,{ lv:=[⟨none,0,0⟩,⟨none,3,0⟩],ps:=[(I,0),(.str,0)],D:=⟨16776233⟩ })] []
theorem k_base_Decimal:KT e_base_Decimal j_base_Decimal [e_base_Size] 40:=λx=>by kernel_rfl
theorem o_base_Decimal:OT e_base_Decimal:=entK (tab_cons o_base_Size tab_nil) hJ k_base_Decimal
def ref07_text (a0:(List Int)):Option (List UInt8) :=
 (loopO (λ(s2:((List UInt8) × Int)) =>
   bif decide (s2.2 < (a0.length:Int)) then
    (bif decide (s2.2 > 0) then
      (app s2.1 ([32])).bind λx3 =>
      some x3
     else
      some s2.1).bind λ(p4:(List UInt8)) =>
    (idx a0 s2.2).bind λx5 =>
    (base_Decimal x5).bind λx6 =>
    (app p4 x6).bind λx7 =>
    some (.inl (x7,w64 (s2.2 + 1)))
   else
    some (.inr s2.1)) ([],0)).bind λ(p8:(List UInt8)) =>
 some p8
def e_ref07_text:Entry:=⟨115,[.ty (.sl I)],[(.str,0)],λx=>ref07_text x⟩
def j_ref07_text:TH:=mkTH [([],115,.block 0,{ lv:=[⟨none,3,0⟩],ps:=[(.str,0)],D:=⟨4194296⟩ }),
 ([],115,.loop 0,{ lv:=[⟨none,3,0⟩,⟨none,4,0⟩],ps:=[(.str,0),(I,0)],D:=⟨4194296⟩ }),
 ([],115,.cond 12,{ lv:=[⟨none,3,0⟩],ps:=[(.str,0)],D:=⟨24584⟩ })] []
theorem k_ref07_text:KT e_ref07_text j_ref07_text [e_base_Decimal] 40:=λx=>by kernel_rfl
theorem o_ref07_text:OT e_ref07_text:=entK (tab_cons o_base_Decimal tab_nil) hJ k_ref07_text
def ref07_FormatLine (a0:(Int × Int × Int × Unit)):Option (List UInt8) :=
 (ref07_text ([a0.1,a0.2.1,a0.2.2.1])).bind λx1 =>
 some x1
def e_ref07_FormatLine:Entry:=⟨41,[.ty (.pair I gT)],[(.str,0)],λx=>ref07_FormatLine x⟩
def j_ref07_FormatLine:TH:=mkTH [] []
theorem k_ref07_FormatLine:KT e_ref07_FormatLine j_ref07_FormatLine [e_ref07_text] 40:=λx=>by kernel_rfl
theorem o_ref07_FormatLine:OT e_ref07_FormatLine:=entK (tab_cons o_ref07_text tab_nil) hJ k_ref07_FormatLine
def ref07_FormatRaw (a0:(List Int)):Option (List UInt8) :=
 (ref07_text a0).bind λx1 =>
 some x1
def e_ref07_FormatRaw:Entry:=⟨42,[.ty (.sl I)],[(.str,0)],λx=>ref07_FormatRaw x⟩
def j_ref07_FormatRaw:TH:=mkTH [] []
theorem k_ref07_FormatRaw:KT e_ref07_FormatRaw j_ref07_FormatRaw [e_ref07_text] 40:=λx=>by kernel_rfl
theorem o_ref07_FormatRaw:OT e_ref07_FormatRaw:=entK (tab_cons o_ref07_text tab_nil) hJ k_ref07_FormatRaw
def base_Ints (a0:(List Int)) (a1:(List Int)):Option Bool :=
 bif !(decide ((a0.length:Int) = (a1.length:Int))) then
  some false
 else
  (loopO (λ(s2:Int) =>
    bif decide (s2 < (a0.length:Int)) then
     (idx a0 s2).bind λx3 =>
     (idx a1 s2).bind λx4 =>
     bif !(decide (x3 = x4)) then
      some (.inr (.inr false))
     else
      some (.inl (w64 (s2 + 1)))
    else
     some (.inr (.inl ()))) 0).bind (Sum.elim (λ(p5:Unit) =>
  some true) some)
def e_base_Ints:Entry:=⟨33,[.ty (.sl I),.ty (.sl I)],[(.bool,0)],λx=>base_Ints x.1 x.2⟩
def j_base_Ints:TH:=mkTH [([],33,.block 0,{ lv:=[],ps:=[],abn:=true,D:=⟨67106848⟩ }),
 ([],33,.loop 0,{ lv:=[⟨none,5,0⟩],ps:=[(I,0)],D:=⟨67106848⟩ })] []
theorem k_base_Ints:KT e_base_Ints j_base_Ints [] 40:=λx=>by kernel_rfl
theorem o_base_Ints:OT e_base_Ints:=entK tab_nil hJ k_base_Ints
def law07_SensorStrings (a0:(Int × Int × Int × Unit)) (a1:(List Int)) (a2:(List UInt8)):Option Bool :=
 (law07_awake).bind λx1 =>
 bif !x1 then
  some false
 else
  ((law07_samples a1).bind λx2 =>
   bif !x2 then
    some true
   else
    some (decide ((a2.length:Int) > 300))).bind λ(p3:Bool) =>
  bif p3 then
   some true
  else
   (sensor_FormatLine a0).bind λx4 =>
   (base_CopyInts a1).bind λx5 =>
   (sensor_FormatRaw x5).bind λx6 =>
   (sensor_ParseLine a2).bind λx7 =>
   (sensor_ParseRaw a2).bind λx8 =>
   (ref07_ParseLine a2).bind λx9 =>
   (ref07_ParseRaw a2).bind λx10 =>
   ((ref07_FormatLine a0).bind λx11 =>
    bif !(decide (x4 = x11)) then
     some true
    else
     (ref07_FormatRaw a1).bind λx12 =>
     bif !(decide (x6 = x12)) then
      some true
     else
      bif !(decide (x7.2 = x9.2)) then
       some true
      else
       let v13:Bool:=!(bif decide (x7.1.1 = x9.1.1) then (bif decide (x7.1.2.1 = x9.1.2.1) then (bif decide (x7.1.2.2.1 = x9.1.2.2.1) then true else false) else false) else false)
       bif v13 then
        some true
       else
        bif !(decide (x8.2 = x10.2)) then
         some true
        else
         (base_Ints x8.1 x10.1).bind λx14 =>
         some (!x14)).bind λ(p15:Bool) =>
   bif p15 then
    some false
   else
    (ref07_LineErr a0).bind λx16 =>
    (bif decide (x16 = 0) then
      (sensor_ParseLine x4).bind λx17 =>
      (bif !(decide (x17.2 = 0)) then
        some true
       else
        let v18:Bool:=!(bif decide (x17.1.1 = a0.1) then (bif decide (x17.1.2.1 = a0.2.1) then (bif decide (x17.1.2.2.1 = a0.2.2.1) then true else false) else false) else false)
        some v18).bind λ(p19:Bool) =>
      bif p19 then
       some (.inr false)
      else
       some (.inl ())
     else
      some (.inl ())).bind (Sum.elim (λ(p20:Unit) =>
    (ref07_RawErr a1).bind λx21 =>
    bif !(decide (x21 = 0)) then
     some true
    else
     (sensor_ParseRaw x6).bind λx22 =>
     (bif decide (x22.2 = 0) then
       (base_Ints x22.1 a1).bind λx23 =>
       some x23
      else
       some false).bind λ(p24:Bool) =>
     some p24) some)
def e_law07_SensorStrings:Entry:=⟨5,[.ty (.pair I gT),.ty (.sl I),.ty .str],[(.bool,0)],λx=>law07_SensorStrings x.1 x.2.1 x.2.2⟩
def j_law07_SensorStrings:TH:=mkTH [([],5,.region 3,{ lv:=[⟨none,30,0⟩],ps:=[(.bool,0)],D:=⟨2139095040⟩ }),
 ([],5,.region 10,{ lv:=[⟨none,86,0⟩],ps:=[(.bool,0)],D:=⟨154742504838614940324497408⟩ }),
 ([],5,.cond 89,{ lv:=[],ps:=[],abn:=true,D:=⟨5069364460873632225711914090496⟩,wr:=[⟨0,17⟩],rs:=[⟨0,17⟩],Dn:=⟨5069364460873632225711913959424⟩ }),
 ([],5,.region 14,{ lv:=[⟨none,101,0⟩],ps:=[(.bool,0)],D:=⟨5030988319655785437190040846336⟩ }),
 ([],5,.region 19,{ lv:=[⟨none,6,0⟩],ps:=[(.bool,0)],D:=⟨164855425258480777205843258453262400⟩ })] []
theorem k_law07_SensorStrings:KT e_law07_SensorStrings j_law07_SensorStrings [e_base_CopyInts,e_base_Ints,e_law07_awake,e_law07_samples,e_ref07_FormatLine,e_ref07_FormatRaw,e_ref07_LineErr,e_ref07_ParseLine,e_ref07_ParseRaw,e_ref07_RawErr,e_sensor_FormatLine,e_sensor_FormatRaw,e_sensor_ParseLine,e_sensor_ParseRaw] 40:=λx=>by kernel_rfl
theorem o_law07_SensorStrings:OT e_law07_SensorStrings:=entK (tab_cons o_base_CopyInts (tab_cons o_base_Ints (tab_cons o_law07_awake (tab_cons o_law07_samples (tab_cons o_ref07_FormatLine (tab_cons o_ref07_FormatRaw (tab_cons o_ref07_LineErr (tab_cons o_ref07_ParseLine (tab_cons o_ref07_ParseRaw (tab_cons o_ref07_RawErr (tab_cons o_sensor_FormatLine (tab_cons o_sensor_FormatRaw (tab_cons o_sensor_ParseLine (tab_cons o_sensor_ParseRaw tab_nil)))))))))))))) hJ k_law07_SensorStrings
end
end Go.Proofs.YteiciemjanhdcaaGreatDoor
end
section
namespace Go.Tx
open Go
theorem wrap_id {n:Int} (h1 : -9223372036854775808<=n) (h2:n<=9223372036854775807):IntKind.wrap .i64 n = n:=by
 rw [IntKind.wrap_i64]; omega
theorem idx_of {α:Type} {l:List α} {i:Nat} {a:α} (h:l[i]? = some a):idx l (i:Int) = some a:=by simp [idx,h]
theorem app_of {α:Type} {l l2:List α} (h:l.length + l2.length<=4294967296):app l l2 = some (l ++ l2):=by simp [app,h]
section
variable {σ ρ:Type} {f:σ->Option (σ ⊕ ρ)}
theorem loopN_mono:∀ {n m:Nat} {s:σ} {r:ρ},loopN f n s = some r->n<=m->loopN f m s = some r
 | 0,m,s,r,h,_=>by simp [loopN] at h
 | n + 1,0,s,r,h,hm=>by omega
 | n + 1,m + 1,s,r,h,hm=>by
  simp only [loopN] at h ⊢;cases hf:f s with
  | none=>rw [hf] at h; cases h
  | some x =>
   rw [hf] at h;cases x with
   | inl s'=>exact loopN_mono h (by omega)
   | inr r'=>exact h
theorem loopO_of {n:Nat} {s:σ} {r:ρ} (h:loopN f n s = some r):loopO f s = some r:=by
 have hex:∃ n r,loopN f n s = some r:=⟨n,r,h⟩
 cases hl:loopO f s with
 | none=>exfalso; unfold loopO at hl; rw [dif_pos hex] at hl; cases hl
 | some r' =>
  obtain ⟨m,hm⟩:=loopO_some hl;have h1:=loopN_mono h (Nat.le_max_left n m);have h2:=loopN_mono hm (Nat.le_max_right n m);rw [<- h1,<- h2]
theorem loopO_inl {s s':σ} (h:f s = some (.inl s')):loopO f s = loopO f s':=by
 cases hl:loopO f s' with
 | some r =>
  obtain ⟨n,hn⟩:=loopO_some hl;exact loopO_of (n:=n + 1) (by simp [loopN,h,hn])
 | none =>
  cases hl2:loopO f s with
  | none=>rfl
  | some r =>
   obtain ⟨n,hn⟩:=loopO_some hl2;cases n with
   | zero=>simp [loopN] at hn
   | succ n =>
    simp only [loopN,h] at hn;rw [loopO_of hn] at hl;cases hl
theorem loopO_inr {s:σ} {r:ρ} (h:f s = some (.inr r)):loopO f s = some r:=loopO_of (n:=1) (by simp [loopN,h])
theorem loop_inv (n:Nat) (I:Nat->σ->Prop) (Q:ρ->Prop)
  (hs:∀ i s,i<=n->I i s->(∃ s',f s = some (.inl s')/\i < n/\I (i + 1) s')\/(∃ r,f s = some (.inr r)/\Q r)) {s:σ} (h0:I 0 s):∃ r,loopO f s = some r/\Q r:=by
 have h:∀ k i s,n - i = k->i<=n->I i s->∃ r,loopO f s = some r/\Q r:=by
  intro k;induction k with
  | zero =>
   intro i s hk hi hI;rcases hs i s hi hI with ⟨s',_,h,_⟩ | ⟨r,h,hq⟩
   ·omega
   ·exact ⟨r,loopO_inr h,hq⟩
  | succ k ih =>
   intro i s hk hi hI;rcases hs i s hi hI with ⟨s',h,hlt,hI'⟩ | ⟨r,h,hq⟩
   ·obtain ⟨r,hr,hq⟩:=ih (i + 1) s' (by omega) (by omega) hI';exact ⟨r,by rw [loopO_inl h,hr],hq⟩
   ·exact ⟨r,loopO_inr h,hq⟩
 exact h n 0 s (by omega) (by omega) h0
end
def findI {α ρ:Type} (g:Nat->α->Option ρ):Nat->List α->Option ρ
 | _,[]=>none
 | k,a :: l=>match g k a with
  | some r=>some r
  | none=>findI g (k + 1) l
theorem findI_const {α ρ:Type} (g:α->Option ρ):∀ (l:List α) (k:Nat),findI (λ_ a=>g a) k l = l.findSome? g
 | [],k=>rfl
 | a :: l,k=>by simp only [findI,List.findSome?_cons]; cases g a <;> simp [findI_const g l]
def toSum {ρ:Type}:Option ρ->Unit ⊕ ρ
 | some r=>.inr r
 | none=>.inl ()
def stp {ρ:Type} (i:Nat):Option ρ->Int ⊕ (Unit ⊕ ρ)
 | some r=>.inr (.inr r)
 | none=>.inl ((i:Int) + 1)
theorem loop_list {α ρ:Type} (l:List α) {f:Int->Option (Int ⊕ (Unit ⊕ ρ))} (g:Nat->α->Option ρ)
  (h:∀ (i:Nat) (a:α),l[i]? = some a->f i = some (stp i (g i a)))
  (he:f l.length = some (.inr (.inl ()))):loopO f 0 = some (toSum (findI g 0 l)):=by
 have key:∀ (l2 l1:List α),l1 ++ l2 = l->loopO f (l1.length:Nat) = some (toSum (findI g l1.length l2)):=by
  intro l2;induction l2 with
  | nil =>
   intro l1 e;have:l1 = l:=by simpa using e
   subst this;rw [loopO_inr he]; rfl
  | cons a l2 ih =>
   intro l1 e;have hi:l[l1.length]? = some a:=by rw [<- e]; simp
   have hf:=h _ _ hi;simp only [findI];cases hg:g l1.length a with
   | some r=>rw [hg] at hf; rw [loopO_inr hf]; rfl
   | none =>
    rw [hg] at hf;rw [loopO_inl hf];have:=ih (l1 ++ [a]) (by simp [e]);simpa using this
 simpa using key l [] rfl
end Go.Tx
end
section
namespace Go.Tx
open Go
def Ok {α:Type} (o:Option α) (Q:α->Prop):Prop:=∃ a,o = some a/\Q a
section
variable {α β σ ρ τ:Type}
theorem ok_some {a:α} {Q:α->Prop}:Ok (some a) Q ↔ Q a:=⟨λ⟨_,h,hq⟩=>by cases h; exact hq,λh=>⟨a,rfl,h⟩⟩
theorem ok_none {Q:α->Prop}:Ok (none:Option α) Q ↔ False:=⟨λ⟨_,h,_⟩=>(by cases h),λh=>h.elim⟩
theorem ok_eq {o:Option α} {a:α}:Ok o (λr=>r = a) ↔ o = some a:=⟨λ⟨_,h,hq⟩=>by rw [h,hq],λh=>⟨a,h,rfl⟩⟩
theorem Ok.eq {o:Option α} {a:α} (h:Ok o (λr=>r = a)):o = some a:=ok_eq.1 h
theorem Ok.mono {o:Option α} {P Q:α->Prop} (h:Ok o P) (hq:∀ a,P a->Q a):Ok o Q:=by obtain ⟨a,h1,h2⟩:=h; exact ⟨a,h1,hq a h2⟩
theorem Ok.bind {o:Option α} {k:α->Option β} {P:α->Prop} {Q:β->Prop} (h:Ok o P) (hk:∀ a,P a->Ok (k a) Q):Ok (o.bind k) Q:=by
 obtain ⟨a,h1,h2⟩:=h; rw [h1]; exact hk a h2
theorem ok_bind {o:Option α} {k:α->Option β} {Q:β->Prop}:Ok (o.bind k) Q ↔ Ok o λa=>Ok (k a) Q:=by
 cases o with
 | none=>simp [ok_none]
 | some a=>simp [ok_some]
theorem idx_in {l:List α} {n:Int} (d:α) (h0:0<=n) (h1:n < l.length):idx l n = some (l.getD n.toNat d):=by
 unfold idx;rw [if_pos h0];have:n.toNat < l.length:=by omega
 simp [this]
theorem idx_int {l:List Int} {n:Int} (h0:0<=n) (h1:n < l.length):idx l n = some (l.getD n.toNat 0):=idx_in 0 h0 h1
theorem app_in {l l2:List α} (h:l.length + l2.length<=4294967296):app l l2 = some (l ++ l2):=app_of h
theorem app_one {l:List α} {a:α} (h:l.length<=4294967295):app l [a] = some (l ++ [a]):=app_of (by simp; omega)
theorem app_nil {l2:List α} (h:l2.length<=4294967296):app [] l2 = some l2:=by rw [app_of (by simpa using h)]; rfl
theorem slc_in {l:List α} {a b:Int} (h:0<=a/\a<=b/\b<=l.length):slc l a b = some ((l.take b.toNat).drop a.toNat):=by unfold slc; rw [if_pos h]
def Rnd (o:Option (σ ⊕ ρ)) (I:σ->Prop) (Q:ρ->Prop):Prop:=Ok o λx=>match x with
 | .inl s=>I s
 | .inr r=>Q r
theorem rnd_inl {s:σ} {I:σ->Prop} {Q:ρ->Prop}:Rnd (some (.inl s)) I Q ↔ I s:=ok_some
theorem rnd_inr {r:ρ} {I:σ->Prop} {Q:ρ->Prop}:Rnd (some (.inr r):Option (σ ⊕ ρ)) I Q ↔ Q r:=ok_some
theorem loop_wf {f:σ->Option (σ ⊕ ρ)} (μ:σ->Nat) (I:σ->Prop) (Q:ρ->Prop) {s:σ} (h0:I s)
  (hs:∀ s,I s->Rnd (f s) (λs'=>I s'/\μ s' < μ s) Q):Ok (loopO f s) Q:=by
 have key:∀ n s,μ s<=n->I s->Ok (loopO f s) Q:=by
  intro n;induction n with
  | zero =>
   intro s hn hI;obtain ⟨x,hx,h⟩:=hs s hI;cases x with
   | inl s'=>exact absurd h.2 (by omega)
   | inr r=>exact ⟨r,loopO_inr hx,h⟩
  | succ n ih =>
   intro s hn hI;obtain ⟨x,hx,h⟩:=hs s hI;cases x with
   | inl s'=>rw [loopO_inl hx]; exact ih s' (by have:=h.2; omega) h.1
   | inr r=>exact ⟨r,loopO_inr hx,h⟩
 exact key _ s (Nat.le_refl _) h0
theorem loop_up {f:σ->Option (σ ⊕ ρ)} (n:Nat) (I:Nat->σ->Prop) (Q:ρ->Prop) {s:σ} (h0:I 0 s)
  (hs:∀ i s,i<=n->I i s->Rnd (f s) (λs'=>i < n/\I (i + 1) s') Q):Ok (loopO f s) Q:=by
 obtain ⟨r,h1,h2⟩:=loop_inv n I Q (λi s hi hI=>by
  obtain ⟨x,hx,h⟩:=hs i s hi hI;cases x with
  | inl s'=>exact .inl ⟨s',hx,h⟩
  | inr r=>exact .inr ⟨r,hx,h⟩) h0
 exact ⟨r,h1,h2⟩
theorem ok_elim {o:Option (α ⊕ β)} {k:α->Option β} {Q:β->Prop}:Ok (o.bind (Sum.elim k some)) Q ↔ Ok o λx=>match x with
  | .inl a=>Ok (k a) Q
  | .inr b=>Q b:=by
 rw [ok_bind];cases o with
 | none=>simp [ok_none]
 | some x=>cases x <;> simp [ok_some]
end
theorem getD_at {α:Type} {l:List α} {i:Nat} {a d:α} (h:l[i]? = some a):l.getD i d = a:=by simp [h]
theorem take_next {α:Type} {l:List α} {i:Nat} (d:α) (h:i < l.length):l.take (i + 1) = l.take i ++ [l.getD i d]:=by
 rw [List.take_add_one]; simp [h]
end Go.Tx
end
section
namespace Go.Tx
open Go
section
variable {α β ρ τ:Type}
end
end Go.Tx
end
section
namespace Go.Tx
open Go
theorem euclid_loop {f:Int × Int->Option ((Int × Int) ⊕ Int)} (hf:∀ s,f s = if s.2 = 0 then some (.inr s.1) else some (.inl (s.2,s.1.tmod s.2))):∀ (n:Nat) (a b:Int),b.natAbs<=n->∃ r,loopO f (a,b) = some r/\r.natAbs = Int.gcd a b:=by
 intro n;induction n with
 | zero =>
  intro a b hb;have:b = 0:=by omega
  subst this;exact ⟨a,loopO_inr (by rw [hf]; simp),by simp⟩
 | succ n ih =>
  intro a b hb;by_cases h0:b = 0
  ·subst h0;exact ⟨a,loopO_inr (by rw [hf]; simp),by simp⟩
  ·have hlt:(a.tmod b).natAbs < b.natAbs:=by
    rw [Int.natAbs_tmod]; exact Nat.mod_lt _ (by omega)
   obtain ⟨r,h1,h2⟩:=ih b (a.tmod b) (by omega);refine ⟨r,by rw [loopO_inl (s':=(b,a.tmod b)) (by rw [hf]; simp [h0])]; exact h1,?_⟩;rw [h2];unfold Int.gcd;rw [Int.natAbs_tmod,Nat.gcd_comm,<- Nat.gcd_rec,Nat.gcd_comm]
def gcdF:Nat->List Int->Nat
 | g,[]=>g
 | g,n :: l=>gcdF (Nat.gcd g n.natAbs) l
def gcdL (l:List Int):Nat:=gcdF 0 l
theorem gcdF_snoc (g:Nat) (n:Int):∀ (l:List Int),gcdF g (l ++ [n]) = Nat.gcd (gcdF g l) n.natAbs:=by
 intro l;induction l generalizing g with
 | nil=>rfl
 | cons m l ih=>simp only [List.cons_append,gcdF]; exact ih _
theorem gcdL_two (a b:Int):gcdL [a,b] = Int.gcd a b:=by simp [gcdL,gcdF,Int.gcd]
theorem gcdL_three (a b c:Int):gcdL [a,b,c] = Nat.gcd (Int.gcd a b) c.natAbs:=by simp [gcdL,gcdF,Int.gcd]
theorem gcdF_le {B:Nat}:∀ {l:List Int} {g:Nat},g<=B->(∀ x ∈ l,x.natAbs<=B)->gcdF g l<=B
 | [],g,hg,_=>hg
 | n :: l,g,hg,h=>by
  simp only [gcdF];refine gcdF_le ?_ λx hx=>h x (by simp [hx]);have h1:=h n (by simp);by_cases hg0:g = 0
  ·subst hg0; simpa using h1
  ·exact Nat.le_trans (Nat.le_of_dvd (by omega) (Nat.gcd_dvd_left g n.natAbs)) hg
theorem divisor_loop (l:List Int) (hl:l.length<=1000000000) (hb:∀ x ∈ l,x.natAbs<=4611686018427387904) :
  (loopO (λ(s2:(Int × Int)) =>
   bif decide (s2.2 < (l.length:Int)) then
    (idx l s2.2).bind λx3 =>
    (loopO (λ(s5:(Int × Int)) =>
      bif !(decide (s5.2 = 0)) then
       bif decide (s5.2 = 0) then
        none
       else
        some (.inl (s5.2,s5.1.tmod s5.2))
      else
       some (.inr s5.1)) (s2.1,x3)).bind λ(p6:Int) =>
    some (.inl (p6,IntKind.wrap .i64 (s2.2 + 1)))
   else
    some (.inr s2.1)) (0,0)).bind (λ(p7:Int)=>some (max p7 (IntKind.wrap .i64 (0 - p7)))) = some (gcdL l:Int):=by
 refine Ok.eq ?_;rw [ok_bind];refine (loop_up l.length (λi (s:Int × Int)=>s.2 = (i:Int)/\s.1.natAbs = gcdL (l.take i)) (λr:Int=>r.natAbs = gcdL l) ⟨rfl,rfl⟩ ?_).mono ?_
 ·rintro i ⟨g,s⟩ hi ⟨h1,h2⟩;simp only at h1 h2;subst h1;by_cases hlt:i < l.length
  ·have e0:decide ((i:Int) < (l.length:Int)) = true:=by simp <;> omega
   simp only [e0,cond_true];rw [idx_in 0 (by omega) (by omega)];simp only [Option.bind_some,Int.toNat_natCast];obtain ⟨r,h3,h4⟩:=euclid_loop (f:=λ(s5:(Int × Int))=>bif !(decide (s5.2 = 0)) then bif decide (s5.2 = 0) then none else some (.inl (s5.2,s5.1.tmod s5.2)) else some (.inr s5.1)) (λs=>by
    by_cases h:s.2 = 0 <;> simp [h]) (l.getD i 0).natAbs g (l.getD i 0) (Nat.le_refl _)
   rw [h3];simp only [Option.bind_some];rw [wrap_id (by omega) (by omega),rnd_inl];refine ⟨hlt,by simp,?_⟩;rw [h4,take_next 0 hlt];unfold gcdL at h2 ⊢;rw [gcdF_snoc,<- h2];rfl
  ·have:i = l.length:=by omega
   subst this;have e0:decide ((l.length:Int) < (l.length:Int)) = false:=by simp
   simp only [e0,cond_false];rw [rnd_inr];simpa using h2
 ·intro r hr;have hle:gcdL l<=4611686018427387904:=gcdF_le (by omega) hb;rw [wrap_id (by omega) (by omega),ok_some];omega
theorem Gcd_loop (a b:Int) (ha:a.natAbs<=4611686018427387904) (hb:b.natAbs<=4611686018427387904) :
  Ok (loopO (λ(s2:(Int × Int)) =>
   bif !(decide (s2.2 = 0)) then
    bif decide (s2.2 = 0) then
     none
    else
     some (.inl (s2.2,s2.1.tmod s2.2))
   else
    some (.inr s2.1)) (a,b)) λr=>r.natAbs = Int.gcd a b:=by
 obtain ⟨r,h1,h2⟩:=euclid_loop (f:=λ(s2:(Int × Int))=>bif !(decide (s2.2 = 0)) then bif decide (s2.2 = 0) then none else some (.inl (s2.2,s2.1.tmod s2.2)) else some (.inr s2.1)) (λs=>by
  by_cases h:s.2 = 0 <;> simp [h]) b.natAbs a b (Nat.le_refl _)
 exact ⟨r,h1,h2⟩
theorem gcd_le {a b:Int} {B:Nat} (ha:a.natAbs<=B) (hb:b.natAbs<=B):Int.gcd a b<=B:=by
 have:=gcdF_le (B:=B) (l:=[a,b]) (g:=0) (by omega) (by simp [ha,hb]);have e:=gcdL_two a b;unfold gcdL at e;omega
end Go.Tx
end
section
namespace Go.Tx
open Go
section
variable {α:Type}
end
end Go.Tx
end
section
namespace Go.Tx
open Go
section
variable {α β:Type}
def mkL (n:Nat) (f:Nat->α):List α:=(List.range n).map f
theorem mkL_len (n:Nat) (f:Nat->α):(mkL n f).length = n:=by simp [mkL]
theorem mkL_get {n:Nat} (f:Nat->α) {k:Nat} (h:k < n):(mkL n f)[k]? = some (f k):=by simp [mkL,h]
theorem mkL_congr {n:Nat} {f g:Nat->α} (h:∀ k,k < n->f k = g k):mkL n f = mkL n g:=List.map_congr_left λk hk=>h k (by simpa using hk)
theorem list_mkL (l:List α) (d:α):l = mkL l.length λk=>l.getD k d:=by
 apply List.ext_getElem?;intro k;by_cases h:k < l.length
 ·rw [mkL_get _ h]; simp [h]
 ·rw [List.getElem?_eq_none (by omega),List.getElem?_eq_none (by rw [mkL_len]; omega)]
theorem getD_mem {l:List α} {i:Nat} {d:α} (h:i < l.length):l.getD i d ∈ l:=by
 have:l[i]? = some (l.getD i d):=by simp [h]
 exact List.mem_of_getElem? this
theorem for_map {K:List β × Int->Option ((List β × Int) ⊕ List β)} (l:List α) (f:α->β)
  (h:∀ (i:Nat) a out,l[i]? = some a->out.length = i->K (out,(i:Int)) = some (.inl (out ++ [f a],(i:Int) + 1))) (he:∀ out,out.length = l.length->K (out,(l.length:Int)) = some (.inr out)):loopO K ([],0) = some (l.map f):=by
 refine Ok.eq (loop_up l.length (λi (s:List β × Int)=>s = ((l.take i).map f,(i:Int))) (λr=>r = l.map f) (by simp) ?_);rintro i s hi rfl;by_cases hlt:i < l.length
 ·have ha:l[i]? = some l[i]:=by simp [hlt]
  rw [h i _ _ ha (by simp; omega),rnd_inl];refine ⟨hlt,?_⟩;have e:(l.take (i + 1)).map f = (l.take i).map f ++ [f l[i]]:=by rw [List.take_add_one,ha]; simp only [List.map_append,Option.toList_some,List.map_cons,List.map_nil]
  rw [e]; rfl
 ·have:i = l.length:=by omega
  subst this;rw [he _ (by simp),rnd_inr];simp
theorem getD_ext {l m:List α} (d:α):(l.length = m.length/\∀ i,i < l.length->l.getD i d = m.getD i d) ↔ l = m:=by
 constructor
 ·rintro ⟨h1,h2⟩;rw [list_mkL l d,list_mkL m d,h1];exact mkL_congr λk hk=>h2 k (by omega)
 ·rintro rfl; exact ⟨rfl,λ_ _=>rfl⟩
theorem ints_loop [DecidableEq α] {l m:List α} (d:α) (hl:l.length = m.length) (hb:l.length<=1000000000) (e:α->α->Bool) (he:∀ a b,a ∈ l->b ∈ m->(e a b = true ↔ a = b)) {K:Int->Option (Int ⊕ (Unit ⊕ Bool))}
  (h:∀ i,i < l.length->K (i:Int) = some (if e (l.getD i d) (m.getD i d) = true then .inl ((i:Int) + 1) else .inr (.inr false))) :
  (loopO (λs=>bif decide (s < (l.length:Int)) then K s else some (.inr (.inl ()))) 0).bind (Sum.elim (λ(p5:Unit)=>some true) some) = some (decide (l = m)):=by
 refine Ok.eq (ok_elim.2 ?_);refine (loop_up l.length (λi (s:Int)=>s = (i:Int)/\∀ j,j < i->l.getD j d = m.getD j d) (λr=>(r = .inl ()/\∀ j,j < l.length->l.getD j d = m.getD j d)\/(r = .inr false/\∃ j,j < l.length/\l.getD j d ≠ m.getD j d)) ⟨rfl,by simp⟩ ?_).mono ?_
 ·rintro i s hi ⟨rfl,hI⟩;by_cases hlt:i < l.length
  ·have e0:decide ((i:Int) < (l.length:Int)) = true:=by simp <;> omega
   simp only [e0,cond_true];rw [h i hlt];have hm:=he (l.getD i d) (m.getD i d) (getD_mem hlt) (getD_mem (by omega));by_cases c:e (l.getD i d) (m.getD i d) = true
   ·rw [if_pos c,rnd_inl];refine ⟨hlt,by simp,λj hj=>?_⟩;by_cases hji:j < i
    ·exact hI j hji
    ·have:j = i:=by omega
     subst this; exact hm.1 c
   ·rw [if_neg c,rnd_inr];exact .inr ⟨rfl,i,hlt,λh=>c (hm.2 h)⟩
  ·have:i = l.length:=by omega
   subst this;have e0:decide ((l.length:Int) < (l.length:Int)) = false:=by simp
   simp only [e0,cond_false];rw [rnd_inr];exact .inl ⟨rfl,hI⟩
 ·rintro r (⟨rfl,h1⟩ | ⟨rfl,j,hj,hne⟩)
  ·simp only [ok_some]; rw [eq_comm,decide_eq_true_iff]; exact (getD_ext d).1 ⟨hl,h1⟩
  ·simp only; rw [eq_comm,decide_eq_false_iff_not]
   exact λh=>hne (by rw [h])
end
end Go.Tx
end
section
namespace Go.Dec
open Go Go.Lib
def isD (c:UInt8):Prop:=48<=c.toNat/\c.toNat<=57
instance:DecidablePred isD:=λc=>inferInstanceAs (Decidable (_/\_))
def stepD (n:Nat) (c:UInt8):Nat:=10 * n + (c.toNat - 48)
def val (l:List UInt8):Nat:=l.foldl stepD 0
theorem val_snoc (l:List UInt8) (c:UInt8):val (l ++ [c]) = 10 * val l + (c.toNat - 48):=by simp [val,stepD]
theorem ofNat_dig {d:Nat} (h:d < 10):(UInt8.ofNat (48 + d)).toNat = 48 + d:=by
 rw [UInt8.toNat_ofNat']; omega
theorem dec_small {u:Nat} (h:u < 10):decDigits u = [UInt8.ofNat (48 + u)]:=by rw [decDigits,dif_pos h]
theorem dec_big {u:Nat} (h:¬ u < 10):decDigits u = decDigits (u / 10) ++ [UInt8.ofNat (48 + u % 10)]:=by rw [decDigits,dif_neg h]
theorem dec_facts:∀ u:Nat,(∀ c ∈ decDigits u,isD c)/\decDigits u ≠ []/\val (decDigits u) = u/\(0 < u->(decDigits u).head? ≠ some 48):=by
 intro u;induction u using Nat.strongRecOn with
 | _ u ih =>
  by_cases h:u < 10
  ·rw [dec_small h];refine ⟨?_,by simp,?_,?_⟩
   ·intro c hc;rw [List.mem_singleton] at hc;subst hc;unfold isD;rw [ofNat_dig h]; omega
   ·simp only [val,List.foldl,stepD];rw [ofNat_dig h]; omega
   ·intro h0 e;simp only [List.head?_cons,Option.some.injEq] at e;have e2:=congrArg UInt8.toNat e;rw [ofNat_dig h] at e2;have:(48:UInt8).toNat = 48:=rfl;omega
  ·obtain ⟨h1,h2,h3,h4⟩:=ih (u / 10) (by omega);have hm:u % 10 < 10:=Nat.mod_lt _ (by omega);rw [dec_big h];refine ⟨λc hc=>?_,by simp,?_,λ_=>?_⟩
   ·rcases List.mem_append.1 hc with hc | hc
    ·exact h1 c hc
    ·rw [List.mem_singleton] at hc;subst hc;unfold isD;rw [ofNat_dig hm]; omega
   ·rw [val_snoc,h3,ofNat_dig hm]; omega
   ·cases hd:decDigits (u / 10) with
    | nil=>exact absurd hd h2
    | cons a t =>
     rw [hd] at h4;simpa using h4 (by omega)
theorem dec_len:∀ (k u:Nat),u < 10 ^ k->1<=k->(decDigits u).length<=k
 | 0,u,h,h1=>by omega
 | k + 1,u,h,_=>by
  by_cases h9:u < 10
  ·rw [dec_small h9]; simp
  ·rw [dec_big h9,List.length_append,List.length_singleton];have hk:1<=k:=by
    rcases Nat.eq_zero_or_pos k with rfl | h0
    ·simp at h; omega
    ·exact h0
   have:=dec_len k (u / 10) (by rw [Nat.pow_succ] at h; omega) hk;omega
theorem dec_val:∀ (n:Nat) (ds:List UInt8),ds.length<=n->ds ≠ []->(∀ c ∈ ds,isD c)->(ds.head? ≠ some 48\/ds.length = 1)->decDigits (val ds) = ds
 | 0,ds,hl,h0,_,_=>absurd (List.eq_nil_of_length_eq_zero (by omega)) h0
 | n + 1,ds,hl,h0,hd,hh=>by
  obtain ⟨es,c,rfl⟩:∃ es c,ds = es ++ [c]:=⟨ds.dropLast,ds.getLast h0,(List.dropLast_concat_getLast h0).symm⟩
  have hc:=hd c (by simp);unfold isD at hc;have hcc:UInt8.ofNat (48 + (c.toNat - 48)) = c:=by
   rw [show 48 + (c.toNat - 48) = c.toNat by omega]; simp
  rw [val_snoc];by_cases he:es = []
  ·subst he;simp only [val,List.foldl,Nat.mul_zero,Nat.zero_add,List.nil_append];rw [dec_small (by omega),hcc]
  ·have hlen:1<=es.length:=List.length_pos_iff.2 he;rw [List.length_append,List.length_singleton] at hl hh;have hh2:es.head? ≠ some 48:=by
    rcases hh with hh | hh
    ·cases es with
     | nil=>exact absurd rfl he
     | cons a t=>simpa using hh
    ·omega
   have ih:=dec_val n es (by omega) he (λx hx=>hd x (by simp [hx])) (.inl hh2);have hv:0 < val es:=by
    rcases Nat.eq_zero_or_pos (val es) with h | h
    ·rw [h] at ih;rw [<- ih,dec_small (by omega)] at hh2;exact absurd rfl hh2
    ·exact h
   rw [dec_big (by omega),show (10 * val es + (c.toNat - 48)) / 10 = val es by omega,show (10 * val es + (c.toNat - 48)) % 10 = c.toNat - 48 by omega,ih,hcc]
theorem val_lt:∀ (n:Nat) (ds:List UInt8),ds.length<=n->(∀ c ∈ ds,isD c)->val ds < 10 ^ n
 | 0,ds,hl,_=>by
  have:ds = []:=List.eq_nil_of_length_eq_zero (by omega);subst this; simp [val]
 | n + 1,ds,hl,hd=>by
  by_cases h0:ds = []
  ·subst h0; simp only [val,List.foldl]; exact Nat.pow_pos (by omega)
  ·obtain ⟨es,c,rfl⟩:∃ es c,ds = es ++ [c]:=⟨ds.dropLast,ds.getLast h0,(List.dropLast_concat_getLast h0).symm⟩
   have hc:=hd c (by simp);unfold isD at hc;rw [List.length_append,List.length_singleton] at hl;have:=val_lt n es (by omega) (λx hx=>hd x (by simp [hx]));rw [val_snoc,Nat.pow_succ]; omega
theorem fold_ge:∀ (l:List UInt8) (a:Nat),a<=l.foldl stepD a
 | [],a=>Nat.le_refl _
 | c :: l,a=>Nat.le_trans (by unfold stepD; omega) (fold_ge l (stepD a c))
theorem parse_digits:∀ (l:List UInt8) (a:Nat),(∀ c ∈ l,isD c)->l.foldl stepD a < 10 ^ 18->parseUint10 a l = .ok (l.foldl stepD a)
 | [],a,_,_=>rfl
 | c :: l,a,hd,h=>by
  have hc:=hd c (by simp);have h1:=fold_ge l (stepD a c);simp only [List.foldl_cons] at h ⊢;have h2:stepD a c < 10 ^ 18:=by omega
  unfold isD at hc;unfold parseUint10;rw [if_pos hc];have e:a * 10 + (c.toNat - 48) = stepD a c:=by unfold stepD; omega
  have h3:a * 10<=stepD a c:=by omega
  rw [if_neg (by omega),e,if_neg (by omega)];exact parse_digits l _ (λx hx=>hd x (by simp [hx])) h
def num (d:Nat) (w:List UInt8):Option Int:=match atoiAll w with
 | .ok v=>if itoa v = w/\(trimPrefix w [45]).length<=d then some v else none
 | _=>none
theorem trim_minus (r:List UInt8):trimPrefix (45 :: r) [45] = r:=by
 unfold trimPrefix hasPrefix;simp
theorem trim_other {w:List UInt8} (h:w.head? ≠ some 45):trimPrefix w [45] = w:=by
 unfold trimPrefix hasPrefix;cases w with
 | nil=>simp
 | cons c l =>
  have:¬ (45:UInt8) = c:=λe=>h (by simp [e]);simp [this]
def restOf (w:List UInt8):List UInt8:=if w.head? = some 45 then w.drop 1 else w
def badN (d:Nat) (w:List UInt8):Prop:=restOf w = []\/d < (restOf w).length\/((restOf w).head? = some 48/\1 < w.length) \/ ¬ ∀ c ∈ restOf w,isD c
instance (d:Nat) (w:List UInt8):Decidable (badN d w):=inferInstanceAs (Decidable (_\/_))
def numR (d:Nat) (w:List UInt8):Option Int:=if badN d w then none else some (if w.head? = some 45 then -((val (restOf w):Nat):Int) else ((val (restOf w):Nat):Int))
theorem numR_itoa {d:Nat} {v:Int} (h:(trimPrefix (itoa v) [45]).length<=d):numR d (itoa v) = some v:=by
 by_cases hv:v < 0
 ·have e:itoa v = 45 :: decDigits v.natAbs:=by unfold itoa; rw [if_pos hv]
  obtain ⟨h1,h2,h3,h4⟩:=dec_facts v.natAbs;have hr:restOf (45 :: decDigits v.natAbs) = decDigits v.natAbs:=by simp [restOf]
  rw [e,trim_minus] at h;rw [e];unfold numR;rw [if_neg,hr,h3]
  ·simp only [List.head?_cons,if_true]; congr 1; omega
  ·unfold badN;rw [hr];rintro (h5 | h5 | ⟨h5,_⟩ | h5)
   ·exact h2 h5
   ·omega
   ·exact h4 (by omega) h5
   ·exact h5 h1
 ·have e:itoa v = decDigits v.toNat:=by unfold itoa; rw [if_neg hv]
  obtain ⟨h1,h2,h3,h4⟩:=dec_facts v.toNat;have hh:(decDigits v.toNat).head? ≠ some 45:=by
   intro hc;cases hd:decDigits v.toNat with
   | nil=>rw [hd] at hc; cases hc
   | cons a t =>
    rw [hd] at hc;simp only [List.head?_cons,Option.some.injEq] at hc;have:=h1 a (by rw [hd]; simp);unfold isD at this;rw [hc] at this;exact absurd this.1 (by decide)
  have hr:restOf (decDigits v.toNat) = decDigits v.toNat:=by unfold restOf; rw [if_neg hh]
  rw [e,trim_other hh] at h;rw [e];unfold numR;rw [if_neg,hr,h3,if_neg hh]
  ·congr 1; omega
  ·unfold badN;rw [hr];rintro (h5 | h5 | ⟨h5,h6⟩ | h5)
   ·exact h2 h5
   ·omega
   ·rcases Nat.eq_zero_or_pos v.toNat with h0 | h0
    ·rw [h0,dec_small (by omega)] at h6; simp at h6
    ·exact h4 h0 h5
   ·exact h5 h1
theorem num_numR {d:Nat} (hd:d<=18) {w:List UInt8} {v:Int} (h:numR d w = some v):num d w = some v:=by
 unfold numR at h;split at h
 ·cases h
 ·rename_i hb;simp only [Option.some.injEq] at h;unfold badN at hb;simp only [not_or,not_and,Classical.not_not] at hb;obtain ⟨b1,b2,b3,b4⟩:=hb;have hlt:val (restOf w) < 10 ^ 18:=val_lt 18 _ (by omega) b4;have hp:parseMag (restOf w) = .ok (val (restOf w)):=by
   unfold parseMag;rw [if_neg b1];exact parse_digits _ 0 b4 hlt
  by_cases hm:w.head? = some 45
  ·rw [if_pos hm] at h;cases w with
   | nil=>cases hm
   | cons c r =>
    simp only [List.head?_cons,Option.some.injEq] at hm;subst hm;have hr:restOf (45 :: r) = r:=by simp [restOf]
    rw [hr] at b1 b2 b3 b4 hlt hp h;have h48:r.head? ≠ some 48:=λe=>by
     have:=b3 e;have h0:0 < r.length:=List.length_pos_iff.2 b1;simp only [List.length_cons] at this; omega
    have hdv:=dec_val r.length r (Nat.le_refl _) b1 b4 (.inl h48);have hpos:0 < val r:=by
     rcases Nat.eq_zero_or_pos (val r) with h0 | h0
     ·rw [h0,dec_small (by omega)] at hdv;rw [<- hdv] at h48;exact absurd rfl h48
     ·exact h0
    have ha:atoiAll (45 :: r) = .ok v:=by
     unfold atoiAll;have e45:(45:UInt8).toNat = 45:=rfl;simp only [e45,or_true,if_true,hp,not_true,false_and,if_false,true_and];rw [if_neg (by omega),h]
    have hi:itoa v = 45 :: r:=by
     rw [<- h];unfold itoa;rw [if_pos (by omega),show (-((val r:Nat):Int)).natAbs = val r by omega,hdv]
    unfold num;rw [ha];simp only
    rw [if_pos ⟨hi,by rw [trim_minus]; omega⟩]
  ·rw [if_neg hm] at h;have hr:restOf w = w:=by unfold restOf; rw [if_neg hm]
   rw [hr] at b1 b2 b3 b4 hlt hp h;have hdv:=dec_val w.length w (Nat.le_refl _) b1 b4 (by
    by_cases h48:w.head? = some 48
    ·right
     have:=b3 h48;have h0:0 < w.length:=List.length_pos_iff.2 b1;omega
    ·exact .inl h48)
   have ha:atoiAll w = .ok v:=by
    cases w with
    | nil=>exact absurd rfl b1
    | cons c r =>
     have hc:=b4 c (by simp);unfold isD at hc;unfold atoiAll;have e1:¬ (c.toNat = 43\/c.toNat = 45):=by omega
     have e2:¬ c.toNat = 45:=by omega
     simp only [if_neg e1];rw [hp];simp only [e2,not_false_eq_true,true_and,false_and,if_false];rw [if_neg (by omega),h]
   have hi:itoa v = w:=by
    rw [<- h];unfold itoa;rw [if_neg (by omega),Int.toNat_natCast,hdv]
   unfold num;rw [ha];simp only
   rw [if_pos ⟨hi,by rw [trim_other hm]; omega⟩]
theorem num_some {d:Nat} {w:List UInt8} {v:Int} (h:num d w = some v):atoiAll w = .ok v/\itoa v = w/\(trimPrefix w [45]).length<=d:=by
 unfold num at h;split at h
 ·rename_i u hu;split at h
  ·rename_i hc; cases h; exact ⟨hu,hc.1,hc.2⟩
  ·cases h
 ·cases h
theorem num_eq {d:Nat} (hd:d<=18) (w:List UInt8):numR d w = num d w:=by
 cases h:num d w with
 | some v =>
  obtain ⟨h1,h2,h3⟩:=num_some h;rw [<- h2] at h3 ⊢;exact numR_itoa h3
 | none =>
  cases h2:numR d w with
  | none=>rfl
  | some v=>rw [num_numR hd h2] at h; cases h
theorem num_itoa {d:Nat} (hd:d<=18) (h1:1<=d) {v:Int} (h:v.natAbs < 10 ^ d):num d (itoa v) = some v:=by
 refine num_numR hd (numR_itoa ?_);by_cases hv:v < 0
 ·have e:itoa v = 45 :: decDigits v.natAbs:=by unfold itoa; rw [if_pos hv]
  rw [e,trim_minus];exact dec_len d _ h h1
 ·have e:itoa v = decDigits v.toNat:=by unfold itoa; rw [if_neg hv]
  have hl:=dec_len d v.toNat (by omega) h1;rw [e];unfold trimPrefix;split
  ·rw [List.length_drop]; omega
  ·exact hl
theorem itoa_chars (v:Int):∀ c ∈ itoa v,c = 45\/isD c:=by
 intro c hc;unfold itoa at hc;split at hc
 ·rcases List.mem_cons.1 hc with h | h
  ·exact .inl h
  ·exact .inr ((dec_facts _).1 c h)
 ·exact .inr ((dec_facts _).1 c hc)
theorem itoa_no {v:Int} {c:UInt8} (h1:c ≠ 45) (h2:¬ isD c):c ∉ itoa v:=λh=>(itoa_chars v c h).elim h1 h2
theorem itoa_len {v:Int} (h : -9223372036854775808<=v/\v<=9223372036854775807):(itoa v).length<=21:=by
 unfold itoa;split
 ·have:=dec_len 20 v.natAbs (by omega) (by omega);simp only [List.length_cons] <;> omega
 ·have:=dec_len 20 v.toNat (by omega) (by omega);omega
def parts (c:UInt8):List UInt8->List (List UInt8)
 | []=>[[]]
 | b :: l=>if b = c then [] :: parts c l else match parts c l with
  | []=>[[b]]
  | p :: ps=>(b :: p) :: ps
theorem parts_ne (c:UInt8):∀ l,parts c l ≠ []
 | []=>by simp [parts]
 | b :: l=>by
  unfold parts;split
  ·simp
  ·split <;> simp
theorem parts_none {c:UInt8}:∀ {l:List UInt8},c ∉ l->parts c l = [l]
 | [],_=>rfl
 | b :: l,h=>by
  simp only [List.mem_cons,not_or] at h;unfold parts;rw [if_neg (λe=>h.1 e.symm),parts_none h.2]
theorem parts_app {c:UInt8}:∀ {p r:List UInt8},c ∉ p->parts c (p ++ c :: r) = p :: parts c r
 | [],r,_=>by simp [parts]
 | b :: p,r,h=>by
  simp only [List.mem_cons,not_or] at h;rw [List.cons_append,parts,if_neg (λe=>h.1 e.symm),parts_app h.2]
theorem parts_len (c:UInt8):∀ l:List UInt8,(parts c l).length<=l.length + 1
 | []=>by simp [parts]
 | b :: l=>by
  have:=parts_len c l;unfold parts;split
  ·simp <;> omega
  ·split
   ·simp
   ·rename_i p ps h; rw [h] at this; simp at this ⊢; omega
theorem idx_cases (c:UInt8):∀ s:List UInt8,(index s [c] = -1/\c ∉ s)\/∃ p r,s = p ++ c :: r/\c ∉ p/\index s [c] = (p.length:Int)
 | []=>.inl ⟨rfl,by simp⟩
 | b :: l=>by
  have e:index (b :: l) [c] = if [c].isPrefixOf (b :: l) then 0 else if index l [c] == -1 then -1 else index l [c] + 1:=rfl;by_cases h:c = b
  ·subst h;exact .inr ⟨[],l,rfl,List.not_mem_nil,by rw [e]; simp⟩
  ·have hp:([c].isPrefixOf (b :: l)) = false:=by simp [List.isPrefixOf,h]
   rw [e,hp];simp only [Bool.false_eq_true,if_false];rcases idx_cases c l with ⟨h1,h2⟩ | ⟨p,r,rfl,h2,h3⟩
   ·exact .inl ⟨by rw [h1]; rfl,by simp only [List.mem_cons,not_or]; exact ⟨h,h2⟩⟩
   ·refine .inr ⟨b :: p,r,rfl,by simp only [List.mem_cons,not_or]; exact ⟨h,h2⟩,?_⟩;rw [h3];have:(((p.length:Int) == -1)) = false:=by rw [beq_eq_false_iff_ne]; omega
    simp [this]
theorem join_cons2 (x y:List UInt8) (r:List (List UInt8)) (sep:List UInt8):join (x :: y :: r) sep = x ++ sep ++ join (y :: r) sep:=by
 rw [join_cons,join_cons];simp [joinTail]
theorem join_snoc (y sep:List UInt8):∀ xs:List (List UInt8),xs ≠ []->join (xs ++ [y]) sep = join xs sep ++ sep ++ y
 | [],h=>absurd rfl h
 | x :: xs,_=>by
  rw [List.cons_append,join_cons,join_cons];simp [joinTail]
theorem parts_join {c:UInt8}:∀ {ws:List (List UInt8)},ws ≠ []->(∀ w ∈ ws,c ∉ w)->parts c (join ws [c]) = ws
 | [],h,_=>absurd rfl h
 | [w],_,h=>by rw [join_one]; exact parts_none (h w (by simp))
 | w :: v :: r,_,h=>by
  rw [join_cons2];have e:w ++ [c] ++ join (v :: r) [c] = w ++ c :: join (v :: r) [c]:=by simp
  rw [e,parts_app (h w (by simp)),parts_join (by simp) (λx hx=>h x (by simp [hx]))]
theorem join_len (sep:List UInt8) {B:Nat}:∀ ws:List (List UInt8),(∀ w ∈ ws,w.length<=B)->(join ws sep).length<=ws.length * (B + sep.length)
 | [],_=>by simp [join_nil]
 | [w],h=>by
  rw [join_one];have:=h w (by simp);simp only [List.length_singleton] <;> omega
 | w :: v :: r,h=>by
  rw [join_cons2];have h1:=h w (by simp);have h2:=join_len sep (v :: r) (λx hx=>h x (by simp [hx]));simp only [List.length_append,List.length_cons] at h2 ⊢;rw [show (r.length + 1 + 1) * (B + sep.length) = (r.length + 1) * (B + sep.length) + (B + sep.length) by rw [Nat.add_mul (r.length + 1) 1,Nat.one_mul]];omega
def mapO {α β:Type} (f:α->Option β):List α->Option (List β)
 | []=>some []
 | a :: l=>(f a).bind λb=>(mapO f l).map (b :: ·)
theorem mapO_of {α β:Type} {f:α->Option β} {g:β->α}:∀ {l:List β},(∀ b ∈ l,f (g b) = some b)->mapO f (l.map g) = some l
 | [],_=>rfl
 | b :: l,h=>by
  simp only [List.map_cons,mapO];rw [h b (by simp),mapO_of (λx hx=>h x (by simp [hx]))];rfl
theorem mapO_len {α β:Type} {f:α->Option β}:∀ {l:List α} {r:List β},mapO f l = some r->r.length = l.length
 | [],r,h=>by cases h; rfl
 | a :: l,r,h=>by
  simp only [mapO] at h;obtain ⟨b,_,h⟩:=Option.bind_eq_some_iff.1 h;obtain ⟨r',hr,rfl⟩:=Option.map_eq_some_iff.1 h;simp [mapO_len hr]
end Go.Dec
end
section
namespace Go.Proofs.YteiciemjanhdcaaGreatDoor
open Go Go.Ab Go.Tx Go.Dec
def in64 (n:Int):Prop:=-9223372036854775808<=n/\n<=9223372036854775807
theorem wid {n:Int} (h1 : -9223372036854775808<=n) (h2:n<=9223372036854775807):w64 n = n:=wrap_id h1 h2
theorem Itoa_eq {n:Int} (h:in64 n):strconv_Itoa n = some (Lib.itoa n):=by
 exact if_pos h
theorem Size_eq {n:Int} (h : -9223372036854775807<=n/\n<=9223372036854775807):base_Size n = some (n.natAbs:Int):=by
 unfold base_Size;rw [wid (by omega) (by omega)];congr 1
 omega
def decD (a:Nat):List UInt8:=if a = 0 then [] else Lib.decDigits a
theorem decD_step {a:Nat} (h:a ≠ 0):decD a = decD (a / 10) ++ [UInt8.ofNat (48 + a % 10)]:=by
 unfold decD;rw [if_neg h];by_cases h9:a < 10
 ·rw [dec_small h9,if_pos (by omega)];simp only [List.nil_append];rw [Nat.mod_eq_of_lt h9]
 ·rw [dec_big h9,if_neg (by omega)]
theorem Decimal_eq {n:Int} (h:in64 n):base_Decimal n = some (Lib.itoa n):=by
 unfold base_Decimal;by_cases h0:n = 0
 ·subst h0;simp only [decide_true,cond_true];unfold Lib.itoa;rw [if_neg (by omega),show (0:Int).toNat = 0 from rfl,dec_small (by omega)];rfl
 have hz:decide (n = 0) = false:=by simp [h0]
 simp only [hz,cond_false];have hl20:(Lib.decDigits n.natAbs).length<=20:=dec_len 20 _ (by unfold in64 at h; omega) (by omega);have k1:loopO (λ(s3:(Int × (List UInt8))) =>
    bif !(decide (s3.1 = 0)) then
     (base_Size (s3.1.tmod 10)).bind λx4 =>
     (app (([IntKind.wrap .u8 (w64 (48 + x4))]).map λn=>UInt8.ofNat n.toNat) s3.2).bind λx5 =>
     some (.inl (w64 (s3.1.tdiv 10),x5))
    else
     some (.inr s3.2)) (n,[]) = some (Lib.decDigits n.natAbs):=by
  refine Ok.eq (loop_wf (λst=>st.1.natAbs) (λ(st:Int × List UInt8)=>in64 st.1/\Lib.decDigits n.natAbs = decD st.1.natAbs ++ st.2) _ ⟨h,by simp [decD,h0]⟩ ?_);rintro ⟨m,s⟩ ⟨hm,e⟩;simp only at hm e;by_cases hm0:m = 0
  ·subst hm0;simp only [decide_true,Bool.not_true,cond_false];rw [rnd_inr,e];simp [decD]
  ·have hc:(!(decide (m = 0))) = true:=by simp [hm0]
   have hml:m.tmod 10 = Int.tmod m 10:=rfl;have hd1:(m.tmod 10).natAbs = m.natAbs % 10:=by rw [Int.natAbs_tmod]; rfl
   have hd2:(m.tdiv 10).natAbs = m.natAbs / 10:=by rw [Int.natAbs_tdiv]; rfl
   have hlt:m.natAbs % 10 < 10:=Nat.mod_lt _ (by omega);have hs:s.length<=20:=by
    have:=congrArg List.length e;rw [List.length_append] at this;omega
   unfold in64 at hm;simp only [hc,cond_true];rw [Size_eq (by omega),hd1];simp only [Option.bind_some];rw [wid (by omega) (by omega)];have hw:IntKind.wrap .u8 (48 + ((m.natAbs % 10:Nat):Int)) = ((48 + m.natAbs % 10:Nat):Int):=by
    unfold IntKind.wrap;simp only [IntKind.bits,IntKind.signed,Bool.false_and,Bool.false_eq_true,if_false];omega
   rw [hw];simp only [List.map_cons,List.map_nil,Int.toNat_natCast];rw [app_in (by simp; omega)];simp only [Option.bind_some];rw [wid (by omega) (by omega),rnd_inl];refine ⟨⟨by unfold in64; omega,?_⟩,?_⟩
   ·simp only
    rw [e,decD_step (by omega),hd2];simp
   ·simp only
    rw [hd2]; omega
 by_cases hn:n < 0
 ·simp only [hn,decide_true,cond_true,Option.bind_some];rw [k1];simp only [Option.bind_some];rw [app_in (by simp; omega)];unfold Lib.itoa;rw [if_pos hn]; rfl
 ·simp only [hn,decide_false,cond_false,Option.bind_some];rw [k1];simp only [Option.bind_some];rw [app_in (by simp; omega)];unfold Lib.itoa;rw [if_neg hn,show n.natAbs = n.toNat by omega]; rfl
def txt (c:UInt8) (l:List Int):List UInt8:=Lib.join (l.map Lib.itoa) [c]
theorem txt_len {c:UInt8} {l:List Int} (h:∀ n ∈ l,in64 n):(txt c l).length<=l.length * 22:=by
 have:=join_len [c] (B:=21) (l.map Lib.itoa) (λw hw=>by
  obtain ⟨n,hn,rfl⟩:=List.mem_map.1 hw;exact itoa_len (h n hn))
 simpa [txt] using this
theorem joined_eq {l:List Int} (hl:l.length<=1000) (h:∀ n ∈ l,in64 n):sensor_joined l = some (txt 32 l):=by
 unfold sensor_joined;have k1:loopO (λ(s3:((List (List UInt8)) × Int)) =>
   bif decide (s3.2 < (l.length:Int)) then
    (idx l s3.2).bind λx4 =>
    (strconv_Itoa x4).bind λx5 =>
    (app s3.1 ([x5])).bind λx6 =>
    some (.inl (x6,w64 (s3.2 + 1)))
   else
    some (.inr s3.1)) ([],0) = some (l.map Lib.itoa):=by
  refine for_map l Lib.itoa ?_ ?_
  ·intro i a out ha ho;have hlt:=(List.getElem?_eq_some_iff.1 ha).1;have h0:decide ((i:Int) < (l.length:Int)) = true:=by simp <;> omega
   simp only [h0,cond_true,idx_of ha,Option.bind_some];rw [Itoa_eq (h a (List.mem_of_getElem? ha))];simp only [Option.bind_some];rw [app_one (by omega)];simp only [Option.bind_some];rw [wid (by omega) (by omega)]
  ·intro out ho;have h0:decide ((l.length:Int) < (l.length:Int)) = false:=by simp
   simp only [h0,cond_false]
 rw [k1];simp only [Option.bind_some];have:=txt_len (c:=32) h;unfold strings_Join;rw [if_pos ⟨by rw [List.length_map]; omega,by unfold txt at this; omega⟩];rfl
theorem txt_next {c:UInt8} {l:List Int} {i:Nat} {a:Int} (ha:l[i]? = some a) (h0:i ≠ 0):txt c (l.take (i + 1)) = txt c (l.take i) ++ [c] ++ Lib.itoa a:=by
 have hlt:=(List.getElem?_eq_some_iff.1 ha).1;unfold txt;rw [take_next a hlt,getD_at ha,List.map_append,List.map_cons,List.map_nil,join_snoc];intro e;have:=congrArg List.length e;rw [List.length_map,List.length_take,List.length_nil] at this;omega
theorem text_eq {l:List Int} (hl:l.length<=1000) (h:∀ n ∈ l,in64 n):ref07_text l = some (txt 32 l):=by
 unfold ref07_text;have key:∀ o:Option (List UInt8),Ok o (λr=>r = txt 32 l)->(o.bind λ(p8:List UInt8)=>some p8) = some (txt 32 l):=by
  intro o ho; rw [ho.eq]; rfl
 refine key _ (loop_up l.length (λi (s:List UInt8 × Int)=>s = (txt 32 (l.take i),(i:Int))) _ rfl ?_);rintro i s hi rfl;by_cases hlt:i < l.length
 ·obtain ⟨a,ha⟩:∃ a,l[i]? = some a:=⟨_,List.getElem?_eq_getElem hlt⟩
  have h0:decide ((i:Int) < (l.length:Int)) = true:=by simp <;> omega
  have hin:=h a (List.mem_of_getElem? ha);have hlen:=txt_len (c:=32) (l:=l.take i) (λn hn=>h n (List.mem_of_mem_take hn));have hil:=itoa_len hin;rw [List.length_take] at hlen;simp only [h0,cond_true];by_cases c:i = 0
  ·subst c;have e:l.take (0 + 1) = [a]:=by rw [take_next a hlt,getD_at ha]; simp
   simp only [show decide (((0:Nat):Int) > 0) = false from rfl,cond_false,Option.bind_some,idx_of ha];rw [Decimal_eq hin];simp only [Option.bind_some,List.take_zero];rw [app_in (by simp [txt,Lib.join_nil]; omega)];simp only [Option.bind_some];rw [wid (by omega) (by omega),rnd_inl,e];exact ⟨hlt,by simp [txt,Lib.join_one,Lib.join_nil]⟩
  ·have h1:decide ((i:Int) > 0) = true:=by simp <;> omega
   simp only [h1,cond_true];rw [app_one (by omega)];simp only [Option.bind_some,idx_of ha];rw [Decimal_eq hin];simp only [Option.bind_some];rw [app_in (by simp; omega)];simp only [Option.bind_some];rw [wid (by omega) (by omega),rnd_inl,txt_next ha c];exact ⟨hlt,rfl⟩
 ·have:i = l.length:=by omega
  subst this;have h0:decide ((l.length:Int) < (l.length:Int)) = false:=by simp
  simp only [h0,cond_false];rw [rnd_inr,List.take_length]
def nums (d:Nat) (s:List UInt8):Option (List Int):=mapO (num d) (parts 32 s)
theorem nums_none {d:Nat} {s:List UInt8} (h:(32:UInt8) ∉ s):nums d s = (num d s).map λn=>[n]:=by
 unfold nums;rw [parts_none h];simp only [mapO];cases num d s <;> rfl
theorem nums_app {d:Nat} {p r:List UInt8} (h:(32:UInt8) ∉ p):nums d (p ++ 32 :: r) = (num d p).bind λn=>(nums d r).map (n :: ·):=by
 unfold nums;rw [parts_app h];rfl
theorem piece_eq (d:Nat) {w:List UInt8} (hw:w.length<=100000):∃ v b,strconv_Atoi w = some (v,b) /\
  (bif !b then
   some true
  else
   (strconv_Itoa v).bind λx6 =>
   bif !(decide (x6 = w)) then
    some true
   else
    (strings_TrimPrefix w ([45])).bind λx7 =>
    some (decide ((x7.length:Int) > (d:Int)))) = some (num d w).isNone/\∀ n,num d w = some n->v = n:=by
 unfold strconv_Atoi;rw [if_pos (by omega)];unfold atoiP num;cases ha:Lib.atoiAll w with
 | ok v =>
  have hb:=Lib.atoiAll_bounds ha;simp only
  refine ⟨v,true,rfl,?_,?_⟩
  ·simp only [Bool.not_true,cond_false];rw [Itoa_eq ⟨by omega,by omega⟩];simp only [Option.bind_some];by_cases c:Lib.itoa v = w
   ·simp only [c,decide_true,Bool.not_true,cond_false,true_and];unfold strings_TrimPrefix;simp only [Option.bind_some];by_cases e:(Lib.trimPrefix w [45]).length<=d
    ·have:¬ ((Lib.trimPrefix w [45]).length:Int) > (d:Int):=by omega
     simp [e,this]
    ·have:((Lib.trimPrefix w [45]).length:Int) > (d:Int):=by omega
     simp [e,this]
   ·simp [c]
  ·intro n hn;by_cases c:Lib.itoa v = w/\(Lib.trimPrefix w [45]).length<=d
   ·rw [if_pos c] at hn; cases hn; rfl
   ·rw [if_neg c] at hn; cases hn
 | range=>exact ⟨_,false,rfl,rfl,λn hn=>by cases hn⟩
 | _=>exact ⟨0,false,rfl,rfl,λn hn=>by cases hn⟩
def resL (o:Option (List Int)):List Int × Bool:=match o with
 | some l=>(l,true)
 | none=>([],false)
theorem slc_full {l:List UInt8} {a:Nat} (h:a<=l.length):slc l (a:Int) (l.length:Int) = some (l.drop a):=by
 rw [slc_in (by omega)];simp
theorem slc_to {l:List UInt8} {a:Nat} (h:a<=l.length):slc l 0 (a:Int) = some (l.take a):=by
 rw [slc_in (by omega)];simp
theorem parsed_eq (d:Nat) {s:List UInt8} (hs:s.length<=100000):sensor_parsed s (d:Int) = some (resL (nums d s)):=by
 unfold sensor_parsed;have key:∀ (o:Option ((List Int × List UInt8) ⊕ (List Int × Bool))) (k:(List Int × List UInt8)->Option (List Int × Bool)) (r:List Int × Bool),
   Ok o (λx=>match x with | .inl p=>k p = some r | .inr q=>q = r)->(o.bind (Sum.elim k some)) = some r:=by
  rintro o k r ⟨x,rfl,h⟩;cases x with
  | inl p=>exact h
  | inr q=>exact congrArg some h
 refine key _ _ _ (loop_wf (λst=>st.2.length) (λ(st:List Int × List UInt8)=>nums d s = (nums d st.2).map (st.1 ++ ·)/\st.1.length + st.2.length<=s.length) _ ⟨by simp,by simp⟩ ?_);rintro ⟨out,r⟩ ⟨e,hl⟩;simp only at e hl;unfold strings_Index;rw [if_pos (show r.length < 4294967281 by omega)];simp only [Option.bind_some];rcases idx_cases 32 r with ⟨h1,h2⟩ | ⟨p,q,rfl,h2,h3⟩
 ·rw [h1];simp only [show decide ((-1:Int) < 0) = true from rfl,cond_true];rw [rnd_inr];simp only
  obtain ⟨v,b,p1,p2,p3⟩:=piece_eq d (w:=r) (by omega);rw [p1];simp only [Option.bind_some];rw [p2];simp only [Option.bind_some];rw [nums_none h2] at e;cases hn:num d r with
  | none =>
   rw [hn] at e;simp only [Option.isNone_none,cond_true];rw [e]; rfl
  | some n =>
   rw [hn] at e;rw [p3 n hn];simp only [Option.isNone_some,cond_false];rw [app_one (by omega),e];rfl
 ·have hq:(p ++ 32 :: q).length = p.length + 1 + q.length:=by simp <;> omega
  rw [hq] at hl;have h0:decide (((p.length:Nat):Int) < 0) = false:=by simp
  rw [h3];simp only [h0,cond_false];rw [wid (by omega) (by omega),show ((p.length:Int) + 0) = ((p.length:Nat):Int) by omega,slc_to (by rw [hq]; omega)];simp only [Option.bind_some];have ht:(p ++ 32 :: q).take p.length = p:=by simp
  rw [ht];obtain ⟨v,b,p1,p2,p3⟩:=piece_eq d (w:=p) (by omega);rw [p1];simp only [Option.bind_some];rw [p2];simp only [Option.bind_some];rw [nums_app h2] at e;cases hn:num d p with
  | none =>
   rw [hn] at e;simp only [Option.isNone_none,cond_true];rw [rnd_inr,e];rfl
  | some n =>
   rw [hn] at e;rw [p3 n hn];simp only [Option.isNone_some,cond_false];rw [app_one (by omega)];simp only [Option.bind_some];rw [wid (by omega) (by omega),show ((p.length:Int) + 1) = ((p.length + 1:Nat):Int) by omega,slc_full (by rw [hq]; omega)];simp only [Option.bind_some];have hd:(p ++ 32 :: q).drop (p.length + 1) = q:=by
    rw [show p ++ 32 :: q = (p ++ [32]) ++ q by simp,List.drop_left' (by simp)]
   rw [hd,rnd_inl];refine ⟨⟨?_,?_⟩,?_⟩
   ·simp only
    rw [e];simp only [Option.bind_some];cases nums d q <;> simp
   ·simp only [List.length_append,List.length_singleton] <;> omega
   ·simp only; rw [hq]; omega
theorem Cut_eq (c:UInt8) {s:List UInt8} (hs:s.length<=100000):base_Cut s ((c.toNat:Nat):Int) = some (parts c s):=by
 unfold base_Cut;have key:∀ (o:Option (List (List UInt8) × Int)) (k:List (List UInt8) × Int->Option (List (List UInt8))),Ok o (λp=>k p = some (parts c s))->o.bind k = some (parts c s):=by
  rintro o k ⟨p,rfl,h⟩; exact h
 have hpl:=parts_len c s;refine key _ _ (loop_up s.length (λi (st:List (List UInt8) × Int × Int)=>st.2.2 = (i:Int)/\∃ f:Nat,st.2.1 = (f:Int)/\f<=i/\parts c s = st.1 ++ parts c (s.drop f)/\c ∉ (s.drop f).take (i - f)/\st.1.length<=f) _ ⟨rfl,0,rfl,by omega,by simp,by simp,by simp⟩ ?_);rintro i ⟨out,f0,i0⟩ hi ⟨e1,f,e2,hf,e3,e4,e5⟩;simp only at e1 e2 e3 e5;subst e1; subst e2;by_cases hlt:i < s.length
 ·have h0:decide ((i:Int) < (s.length:Int)) = true:=by simp <;> omega
  obtain ⟨b,hb⟩:∃ b,s[i]? = some b:=⟨_,List.getElem?_eq_getElem hlt⟩
  simp only [h0,cond_true,idx_of hb,Option.bind_some];have hsp:s.drop f = (s.drop f).take (i - f) ++ b :: s.drop (i + 1):=by
   have h1:s.drop f = (s.drop f).take (i - f) ++ (s.drop f).drop (i - f):=(List.take_append_drop _ _).symm;rw [List.drop_drop,show f + (i - f) = i by omega,List.drop_eq_getElem_cons hlt] at h1;rw [(List.getElem?_eq_some_iff.1 hb).2] at h1;exact h1
  by_cases hc:b = c
  ·subst hc;simp only [decide_true,cond_true];rw [slc_in (by omega)];simp only [Option.bind_some,Int.toNat_natCast];rw [app_one (by omega)];simp only [Option.bind_some];rw [wid (by omega) (by omega),rnd_inl];have e6:(s.take i).drop f = (s.drop f).take (i - f):=by rw [List.drop_take]
   refine ⟨hlt,by simp,i + 1,by simp,by omega,?_,by simp,by simp; omega⟩;simp only
   rw [e3,hsp,parts_app e4,e6];simp
  ·have hn:decide (((b.toNat:Nat):Int) = ((c.toNat:Nat):Int)) = false:=by
    simp only [decide_eq_false_iff_not];intro h;exact hc (UInt8.toNat_inj.1 (by omega))
   simp only [hn,cond_false,Option.bind_some];rw [wid (by omega) (by omega),rnd_inl];refine ⟨hlt,by simp,f,rfl,by omega,e3,?_,e5⟩;have e7:(s.drop f).take (i + 1 - f) = (s.drop f).take (i - f) ++ [b]:=by
    rw [show i + 1 - f = (i - f) + 1 by omega,List.take_add_one];have:(s.drop f)[i - f]? = some b:=by rw [List.getElem?_drop,show f + (i - f) = i by omega]; exact hb
    rw [this]; rfl
   rw [e7,List.mem_append,List.mem_singleton];rintro (h | h)
   ·exact e4 h
   ·exact hc h.symm
 ·have:i = s.length:=by omega
  subst this;have h0:decide ((s.length:Int) < (s.length:Int)) = false:=by simp
  simp only [h0,cond_false];rw [rnd_inr];simp only
  rw [slc_full hf];simp only [Option.bind_some];rw [app_one (by omega)];have e8:(s.drop f).take (s.length - f) = s.drop f:=List.take_of_length_le (by simp);rw [e8] at e4;rw [parts_none e4] at e3;rw [e3];rfl
theorem digits_loop {w:List UInt8} {a:Nat} (ha:a<=w.length) (hl:(w.drop a).length<=18) (hw:w.length<=100000) :
  loopO (λ(s7:(Int × Int)) =>
    bif decide (s7.2 < (w.length:Int)) then
     ((idx w s7.2).bind λx8 =>
      bif decide ((x8.toNat:Int) < 48) then
       some true
      else
       (idx w s7.2).bind λx9 =>
       some (decide ((x9.toNat:Int) > 57))).bind λ(p10:Bool) =>
     bif p10 then
      some (.inr (.inr (0,false)))
     else
      (idx w s7.2).bind λx11 =>
      let v12:Int:=w64 ((w64 (10 * s7.1)) + (w64 (IntKind.wrap .u8 ((x11.toNat:Int) - 48))))
      some (.inl (v12,w64 (s7.2 + 1)))
    else
     some (.inr (.inl s7.1))) (0,(a:Int)) = some (if ∀ c ∈ w.drop a,isD c then (.inl ((val (w.drop a):Nat):Int):Int ⊕ (Int × Bool)) else .inr ((0:Int),false)):=by
 rw [List.length_drop] at hl;refine Ok.eq (loop_up (w.length - a) (λj (st:Int × Int)=>st = (((val ((w.drop a).take j):Nat):Int),((a + j:Nat):Int))/\∀ c ∈ (w.drop a).take j,isD c) _ ⟨by simp [val],by simp⟩ ?_);rintro j st hj ⟨rfl,hd⟩;by_cases hlt:a + j < w.length
 ·have h0:decide (((a + j:Nat):Int) < (w.length:Int)) = true:=by simp <;> omega
  obtain ⟨b,hb⟩:∃ b,w[a + j]? = some b:=⟨_,List.getElem?_eq_getElem hlt⟩
  have hb2:(w.drop a)[j]? = some b:=by rw [List.getElem?_drop]; exact hb
  have ht:(w.drop a).take (j + 1) = (w.drop a).take j ++ [b]:=by rw [List.take_add_one,hb2]; rfl
  simp only [h0,cond_true,idx_of hb,Option.bind_some];have hq:(bif decide ((b.toNat:Int) < 48) then some true else some (decide ((b.toNat:Int) > 57))) = some (!decide (isD b)):=by
   unfold isD;by_cases c1:b.toNat < 48
   ·have c1':(b.toNat:Int) < 48:=by omega
    have c2:¬ 48<=b.toNat:=by omega
    simp [c1',c2]
   ·have c1':¬ (b.toNat:Int) < 48:=by omega
    have c2:48<=b.toNat:=by omega
    by_cases c3:b.toNat<=57
    ·have c3':¬ (b.toNat:Int) > 57:=by omega
     simp [c1',c2,c3,c3']
    ·have c3':(b.toNat:Int) > 57:=by omega
     simp [c1',c2,c3,c3']
  rw [hq];simp only [Option.bind_some];by_cases c:isD b
  ·have hv:=val_lt 17 ((w.drop a).take j) (by rw [List.length_take,List.length_drop]; omega) hd;have c':=c;unfold isD at c';simp only [c,decide_true,Bool.not_true,cond_false];have hu:IntKind.wrap .u8 ((b.toNat:Int) - 48) = ((b.toNat - 48:Nat):Int):=by
    unfold IntKind.wrap;simp only [IntKind.bits,IntKind.signed,Bool.false_and,Bool.false_eq_true,if_false];omega
   rw [hu,wid (n:=((b.toNat - 48:Nat):Int)) (by omega) (by omega),wid (n:=10 * _) (by omega) (by omega),wid (by omega) (by omega),wid (by omega) (by omega),rnd_inl];refine ⟨by omega,?_,?_⟩
   ·rw [ht,val_snoc];congr 1 <;> omega
   ·intro x hx;rw [ht,List.mem_append,List.mem_singleton] at hx;rcases hx with hx | rfl
    ·exact hd x hx
    ·exact c
  ·simp only [c,decide_false,Bool.not_false,cond_true];rw [rnd_inr,if_neg];exact λh=>c (h b (List.mem_of_getElem? hb2))
 ·have hj2:j = w.length - a:=by omega
  have h0:decide (((a + j:Nat):Int) < (w.length:Int)) = false:=by simp <;> omega
  have ht:(w.drop a).take j = w.drop a:=List.take_of_length_le (by rw [List.length_drop]; omega);rw [ht] at hd ⊢;simp only [h0,cond_false];rw [rnd_inr,if_pos hd]
theorem Number_eq {d:Nat} (hd:d<=18) {w:List UInt8} (hw:w.length<=100000):base_Number w (d:Int) = some (match num d w with | some n=>(n,true) | none=>(0,false)):=by
 rw [<- num_eq hd w];unfold base_Number;cases w with
 | nil =>
  have:numR d [] = none:=by
   unfold numR;rw [if_pos (.inl rfl)]
  rw [this]; rfl
 | cons c r =>
  have h0:decide ((((c :: r).length:Nat):Int) > 0) = true:=by simp
  have hi0:idx (c :: r) 0 = some c:=by simp [idx]
  simp only [h0,cond_true,hi0,Option.bind_some]
  -- the sign
  have key:∀ (a:Nat),(a = if (c :: r).head? = some 45 then 1 else 0) ->
    ((bif decide ((((c :: r).length:Nat):Int) = (a:Int)) then
     some true
    else
     bif decide (w64 ((((c :: r).length:Nat):Int) - (a:Int)) > (d:Int)) then
      some true
     else
      (idx (c :: r) (a:Int)).bind λx4 =>
      bif decide ((x4.toNat:Int) = 48) then
       some (decide ((((c :: r).length:Nat):Int) > 1))
      else
       some false).bind λ(p5:Bool) =>
   bif p5 then
    some (0,false)
   else
    (loopO (λ(s7:(Int × Int)) =>
      bif decide (s7.2 < (((c :: r).length:Nat):Int)) then
       ((idx (c :: r) s7.2).bind λx8 =>
        bif decide ((x8.toNat:Int) < 48) then
         some true
        else
         (idx (c :: r) s7.2).bind λx9 =>
         some (decide ((x9.toNat:Int) > 57))).bind λ(p10:Bool) =>
       bif p10 then
        some (.inr (.inr (0,false)))
       else
        (idx (c :: r) s7.2).bind λx11 =>
        let v12:Int:=w64 ((w64 (10 * s7.1)) + (w64 (IntKind.wrap .u8 ((x11.toNat:Int) - 48))))
        some (.inl (v12,w64 (s7.2 + 1)))
      else
       some (.inr (.inl s7.1))) (0,(a:Int))).bind (Sum.elim (λ(p13:Int) =>
    (bif decide ((a:Int) = 1) then
      some (w64 (0 - p13))
     else
      some p13).bind λ(p14:Int) =>
    some (p14,true)) some)) = some (match numR d (c :: r) with | some n=>(n,true) | none=>(0,false)):=by
   intro a ha;have hrest:restOf (c :: r) = (c :: r).drop a:=by
    unfold restOf;rw [ha];split <;> rfl
   have ha1:a<=1:=by rw [ha]; split <;> omega
   have hlc:(c :: r).length = r.length + 1:=rfl;have hdl:((c :: r).drop a).length = (c :: r).length - a:=List.length_drop;generalize hW:c :: r = W at *;unfold numR badN;simp only [hrest];by_cases b1:W.length = a
   ·have b1':decide ((W.length:Int) = (a:Int)) = true:=by simp <;> omega
    have:W.drop a = []:=List.eq_nil_of_length_eq_zero (by omega);simp [b1',this]
   have b1':decide ((W.length:Int) = (a:Int)) = false:=by simp <;> omega
   have hne:W.drop a ≠ []:=λe=>by rw [e] at hdl; simp at hdl; omega
   simp only [b1',cond_false];have hw64:w64 ((W.length:Int) - (a:Int)) = (W.length:Int) - (a:Int):=wid (by omega) (by omega);simp only [hw64];by_cases b2:d < (W.drop a).length
   ·have b2':decide ((W.length:Int) - (a:Int) > (d:Int)) = true:=by simp <;> omega
    rw [if_pos (.inr (.inl b2))];simp only [b2',cond_true,Option.bind_some]
   have b2':decide ((W.length:Int) - (a:Int) > (d:Int)) = false:=by simp <;> omega
   simp only [b2',cond_false];obtain ⟨x,hx⟩:∃ x,W[a]? = some x:=⟨_,List.getElem?_eq_getElem (by omega)⟩
   have hhead:(W.drop a).head? = some x:=by rw [List.head?_drop]; exact hx
   rw [idx_of hx,hhead];simp only [Option.bind_some];have b3:(bif decide ((x.toNat:Int) = 48) then some (decide ((W.length:Int) > 1)) else some false) = some (decide (some x = some (48:UInt8)/\1 < W.length)):=by
    by_cases c1:x = 48
    ·subst c1;have:decide ((((48:UInt8).toNat:Nat):Int) = 48) = true:=rfl;simp only [this,cond_true,true_and];congr 1
     exact decide_eq_decide.2 (by omega)
    ·have c1':decide ((x.toNat:Int) = 48) = false:=by
      simp only [decide_eq_false_iff_not];intro h;exact c1 (UInt8.toNat_inj.1 (by have:(48:UInt8).toNat = 48:=rfl; omega))
     simp [c1',c1]
   rw [b3];simp only [Option.bind_some];by_cases b4:some x = some (48:UInt8)/\1 < W.length
   ·simp only [b4,decide_true,cond_true,and_self,true_or,or_true,if_true]
   ·rw [decide_eq_false b4];simp only [cond_false];rw [digits_loop (by omega) (by omega) hw];by_cases b5:∀ c ∈ W.drop a,isD c
    ·rw [if_pos b5,if_neg]
     ·have hv:=val_lt 18 (W.drop a) (by omega) b5;simp only [Option.bind_some,Sum.elim_inl];by_cases b6:W.head? = some 45
      ·have:a = 1:=by rw [ha,if_pos b6]
       subst this;rw [if_pos b6];simp only [show decide (((1:Nat):Int) = 1) = true from rfl,cond_true,Option.bind_some];rw [wid (by omega) (by omega)];simp
      ·have:a = 0:=by rw [ha,if_neg b6]
       subst this;rw [if_neg b6];simp only [show decide (((0:Nat):Int) = 1) = false from rfl,cond_false,Option.bind_some]
     ·rintro (h | h | h | h)
      ·exact hne h
      ·exact b2 h
      ·exact b4 h
      ·exact h b5
    ·rw [if_neg b5,if_pos (.inr (.inr (.inr b5)))];rfl
  by_cases hm:c = 45
  ·subst hm;have:=key 1 (by simp);simp only [show decide ((((45:UInt8).toNat:Nat):Int) = 45) = true from rfl,cond_true,Option.bind_some];exact this
  ·have hc:decide (((c.toNat:Nat):Int) = 45) = false:=by
    simp only [decide_eq_false_iff_not];intro h;exact hm (UInt8.toNat_inj.1 (by have:(45:UInt8).toNat = 45:=rfl; omega))
   have:=key 0 (by simp [hm]);simp only [hc,cond_false,Option.bind_some];exact this
theorem numbers_eq {d:Nat} (hd:d<=18) {s:List UInt8} (hs:s.length<=100000) (hp:∀ w ∈ parts 32 s,w.length<=100000):ref07_numbers s (d:Int) = some (resL (nums d s)):=by
 unfold ref07_numbers;rw [show ((32:Int)) = (((32:UInt8).toNat:Nat):Int) from rfl,Cut_eq 32 hs];simp only [Option.bind_some];have hpl:=parts_len 32 s;have key:∀ (o:Option (List Int ⊕ (List Int × Bool))) (k:List Int->Option (List Int × Bool)) (r:List Int × Bool),
   Ok o (λx=>match x with | .inl p=>k p = some r | .inr q=>q = r)->(o.bind (Sum.elim k some)) = some r:=by
  rintro o k r ⟨x,rfl,h⟩;cases x with
  | inl p=>exact h
  | inr q=>exact congrArg some h
 unfold nums;generalize hW:parts 32 s = ws at *;refine key _ _ _ (loop_up ws.length (λi (st:List Int × Int)=>st.2 = (i:Int)/\mapO (num d) ws = (mapO (num d) (ws.drop i)).map (st.1 ++ ·)/\st.1.length = i) _ ⟨rfl,by simp,rfl⟩ ?_);rintro i ⟨out,i0⟩ hi ⟨e1,e2,e3⟩;simp only at e1 e2 e3;subst e1;by_cases hlt:i < ws.length
 ·have h0:decide ((i:Int) < (ws.length:Int)) = true:=by simp <;> omega
  obtain ⟨w,hw⟩:∃ w,ws[i]? = some w:=⟨_,List.getElem?_eq_getElem hlt⟩
  simp only [h0,cond_true,idx_of hw,Option.bind_some];rw [Number_eq hd (hp w (List.mem_of_getElem? hw))];simp only [Option.bind_some];have hdr:ws.drop i = w :: ws.drop (i + 1):=by
   rw [List.drop_eq_getElem_cons hlt,(List.getElem?_eq_some_iff.1 hw).2]
  rw [hdr] at e2;simp only [mapO] at e2;cases hn:num d w with
  | none =>
   rw [hn] at e2;simp only [Bool.not_false,cond_true];rw [rnd_inr,e2];rfl
  | some n =>
   rw [hn] at e2;simp only [Bool.not_true,cond_false];rw [app_one (by omega)];simp only [Option.bind_some];rw [wid (by omega) (by omega),rnd_inl];refine ⟨hlt,by simp,?_,by simp [e3]⟩;simp only
   rw [e2];simp only [Option.bind_some];cases mapO (num d) (ws.drop (i + 1)) <;> simp
 ·have:i = ws.length:=by omega
  subst this;have h0:decide ((ws.length:Int) < (ws.length:Int)) = false:=by simp
  simp only [h0,cond_false];rw [rnd_inr];simp only
  rw [e2];simp [mapO,resL]
end Go.Proofs.YteiciemjanhdcaaGreatDoor
end
section
namespace Go.Proofs.YteiciemjanhdcaaGreatDoor
open Go Go.Ab Go.Tx Go.Dec
def big:Nat:=9223372036854775807
theorem within_eq (a b c:Int):sensor_within a b c = some (decide (b<=a/\a<=c)):=by
 unfold sensor_within;by_cases h:b<=a <;> simp [h]
theorem Within_eq (a b c:Int):base_Within a b c = some (decide (b<=a/\a<=c)):=by
 unfold base_Within;by_cases h:b<=a <;> simp [h]
theorem unless_eq (b:Bool) (v:Int):sensor_unless b v = some (if b then 0 else v):=by
 unfold sensor_unless;cases b <;> simp
def firstE:List Int->Int
 | []=>0
 | a :: l=>if a = 0 then firstE l else a
theorem first_eq (l:List Int) (hl:l.length<=big):sensor_first l = some (firstE l):=by
 unfold sensor_first;unfold big at hl;rw [loop_list l (λ_ a=>if a = 0 then none else some a)]
 ·rw [findI_const];simp only [Option.bind_some];clear hl;induction l with
  | nil=>rfl
  | cons a l ih =>
   simp only [List.findSome?_cons,firstE];by_cases h:a = 0
   ·simp only [h,if_true]; exact ih
   ·simp [h,toSum]
 ·intro i a hi;have hlt:i < l.length:=(List.getElem?_eq_some_iff.1 hi).1;have h1:(i:Int) < (l.length:Int):=by omega
  simp only [h1,decide_true,cond_true,idx_of hi,Option.bind_some,wrap_id (n:=(i:Int) + 1) (by omega) (by omega)];by_cases h:a = 0 <;> simp [h,stp]
 ·simp
theorem first_of {l:List Int} (hl:l.length<=100):sensor_first l = some (firstE l):=first_eq l (by unfold big; omega)
theorem sized_eq (a b:Int) (h1:0<=b) (h2:b<=9223372036854775807):sensor_sized a b = some (decide (-b<=a/\a<=b)):=by
 unfold sensor_sized;rw [within_eq];simp only [w64,wrap_id (n:=0 - b) (by omega) (by omega),Option.bind_some];congr 2
 simp
def rawE (l:List Int):Int:=if l.length = 0 then 10 else if 60 < l.length then 8 else if ∀ v ∈ l,-100000<=v/\v<=100000 then 0 else 2
theorem CheckRaw_1_eq (i a:Int):sensor_CheckRaw_1 i a = some (if -100000<=a/\a<=100000 then 0 else 2):=by
 unfold sensor_CheckRaw_1;rw [sized_eq _ _ (by omega) (by omega)];simp [unless_eq]
def gRaw (i:Nat) (a:Int):Option (Int × Int):=if -100000<=a/\a<=100000 then none else some ((i:Int),2)
theorem findI_raw:∀ (l:List Int) (k:Nat),(findI gRaw k l = none/\∀ v ∈ l,-100000<=v/\v<=100000)\/(∃ r,findI gRaw k l = some r/\r.2 = 2 /\ ¬ ∀ v ∈ l,-100000<=v/\v<=100000)
 | [],k=>.inl ⟨rfl,by simp⟩
 | a :: l,k=>by
  simp only [findI,gRaw];by_cases h : -100000<=a/\a<=100000
  ·simp only [h,if_true,and_self];rcases findI_raw l (k + 1) with ⟨h1,h2⟩ | ⟨r,h1,h2,h3⟩
   ·refine .inl ⟨h1,?_⟩;intro v hv;rcases List.mem_cons.1 hv with rfl | hv
    ·exact h
    ·exact h2 v hv
   ·exact .inr ⟨r,h1,h2,λhh=>h3 λv hv=>hh v (List.mem_cons_of_mem _ hv)⟩
  ·refine .inr ⟨((k:Int),2),by simp [h],rfl,λhh=>h (hh a (List.mem_cons_self))⟩
theorem each_eq (l:List Int) (hl:l.length<=big):sensor_each_int_of_sensor_CheckRaw_1 l = some ((findI gRaw 0 l).getD (0,0)):=by
 unfold sensor_each_int_of_sensor_CheckRaw_1;unfold big at hl;rw [loop_list l gRaw]
 ·simp only [Option.bind_some];cases findI gRaw 0 l <;> simp [toSum]
 ·intro i a hi;have hlt:i < l.length:=(List.getElem?_eq_some_iff.1 hi).1;have h1:(i:Int) < (l.length:Int):=by omega
  simp only [h1,decide_true,cond_true,idx_of hi,Option.bind_some,wrap_id (n:=(i:Int) + 1) (by omega) (by omega),CheckRaw_1_eq];by_cases h : -100000<=a/\a<=100000 <;> simp [h,stp,gRaw]
 ·simp
theorem rawErr_eq (l:List Int) (hl:l.length<=big):sensor_rawErr l = some (rawE l):=by
 unfold sensor_rawErr sensor_CheckRaw;simp only [unless_eq,Option.bind_some];rw [first_of (by simp)];simp only [Option.bind_some,firstE,each_eq l hl];unfold rawE;by_cases h0:l.length = 0
 ·simp [h0]
 ·by_cases h1:60 < l.length
  ·have a1:(l.length:Int) > 0:=by omega
   have a2:¬ (l.length:Int)<=60:=by omega
   simp [h0,h1,a1,a2]
  ·have a1:(l.length:Int) > 0:=by omega
   have a2:(l.length:Int)<=60:=by omega
   rcases findI_raw l 0 with ⟨h2,h3⟩ | ⟨r,h2,h3,h4⟩
   ·simp only [a1,a2,h0,h1,h2,decide_true,if_true,if_false,if_pos h3]; simp
   ·simp only [a1,a2,h0,h1,h2,decide_true,if_true,if_false,if_neg h4]; simp [h3]
theorem RawErr_eq (l:List Int):ref07_RawErr l = some (rawE l):=by
 unfold ref07_RawErr ref07_CheckRaw rawE;by_cases h0:l.length = 0
 ·simp [h0]
 ·by_cases h1:60 < l.length
  ·have a1:¬ (l.length:Int) = 0:=by omega
   have a2:(l.length:Int) > 60:=by omega
   simp only [a1,a2,h0,h1]; simp
  ·have a1:¬ (l.length:Int) = 0:=by omega
   have a2:¬ (l.length:Int) > 60:=by omega
   rw [loop_list l gRaw]
   ·rcases findI_raw l 0 with ⟨h2,h3⟩ | ⟨r,h2,h3,h4⟩
    ·simp only [a1,a2,h0,h1,h2,if_pos h3,toSum]; simp
    ·simp only [a1,a2,h0,h1,h2,if_neg h4,toSum]; simp [h3]
   ·intro i a hi;have hlt:i < l.length:=(List.getElem?_eq_some_iff.1 hi).1;have h1:(i:Int) < (l.length:Int):=by omega
    simp only [h1,decide_true,cond_true,idx_of hi,Option.bind_some,wrap_id (n:=(i:Int) + 1) (by omega) (by omega),Within_eq];by_cases h : -100000<=a/\a<=100000 <;> simp [h,stp,gRaw]
   ·simp
abbrev Ln:=Int × Int × Int × Unit
theorem sized_ok (a k:Int) (h0:0<=k) (h1:k<=4611686018427387904):sensor_sized a k = some (decide (-k<=a/\a<=k)):=by
 unfold sensor_sized;rw [wid (by omega) (by omega),within_eq];simp only [Option.bind_some];congr 2
 simp
theorem unless_ok (b:Bool) (e:Int):sensor_unless b e = some (if b then 0 else e):=by cases b <;> rfl
theorem divisor_ok (l:List Int) (hl:l.length<=1000000000) (hb:∀ x ∈ l,x.natAbs<=4611686018427387904):sensor_divisor l = some (gcdL l:Int):=by
 unfold sensor_divisor; exact divisor_loop l hl hb
theorem Gcd_ok {a b:Int} (ha:a.natAbs<=4611686018427387904) (hb:b.natAbs<=4611686018427387904):base_Gcd a b = some (Int.gcd a b:Int):=by
 unfold base_Gcd;refine Ok.eq ?_;rw [ok_bind];refine (Gcd_loop a b ha hb).mono λr hr=>?_;have:=gcd_le ha hb;rw [Size_eq (by omega)];simp only [Option.bind_some,ok_some];omega
def gcd3 (g o d:Int):Nat:=Nat.gcd (Int.gcd g o) d.natAbs
theorem gcd3_eq (g o d:Int):gcdL [g,o,d] = gcd3 g o d:=gcdL_three g o d
def mst (x:Ln):Prop:=(1<=x.2.2.1/\x.2.2.1<=300000000000)/\(-300000000000<=x.1/\x.1<=300000000000)/\(-300000000000<=x.2.1/\x.2.1<=300000000000)
instance (x:Ln):Decidable (mst x):=inferInstanceAs (Decidable (_/\_))
def lineE (x:Ln):Int:=if mst x then (if gcd3 x.1 x.2.1 x.2.2.1 = 1 then 0 else 3) else 2
theorem CheckLine_ok (x:Ln):sensor_CheckLine x = some (lineE x):=by
 unfold sensor_CheckLine;rw [within_eq,sized_ok _ _ (by omega) (by omega),sized_ok _ _ (by omega) (by omega)];simp only [Option.bind_some];have e:(bif decide (1<=x.2.2.1/\x.2.2.1<=300000000000) then bif decide (-300000000000<=x.1/\x.1<=300000000000) then some (decide (-300000000000<=x.2.1/\x.2.1<=300000000000)) else some false else some false) = some (decide (mst x)):=by
  unfold mst;by_cases c1:1<=x.2.2.1/\x.2.2.1<=300000000000 <;> by_cases c2 : -300000000000<=x.1/\x.1<=300000000000 <;> simp only [c1,c2,decide_true,decide_false,cond_true,cond_false,and_true,true_and,false_and,and_false,and_self] <;> rfl
 rw [e];simp only [Option.bind_some];unfold lineE;by_cases c:mst x
 ·obtain ⟨c1,c2,c3⟩:=c;have c:mst x:=⟨c1,c2,c3⟩
  rw [if_pos c];simp only [c,decide_true,Bool.not_true,cond_false];rw [divisor_ok _ (by simp) (by simp; omega),gcd3_eq];simp only [Option.bind_some,unless_ok];by_cases c4:gcd3 x.1 x.2.1 x.2.2.1 = 1
  ·simp [c4]
  ·have:¬ ((gcd3 x.1 x.2.1 x.2.2.1:Int) = 1):=by omega
   simp [c4,this]
 ·rw [if_neg c];simp only [c,decide_false,Bool.not_false,cond_true]
theorem Gcd3_ok {g o d:Int} {B:Nat} (hB:B<=4611686018427387904) (h1:g.natAbs<=B) (h2:o.natAbs<=B) (h3:d.natAbs<=B) :
  (base_Gcd g o).bind (λx1=>base_Gcd x1 d) = some (gcd3 g o d:Int):=by
 rw [Gcd_ok (by omega) (by omega)];simp only [Option.bind_some];have:=gcd_le h1 h2;rw [Gcd_ok (by omega) (by omega)];rfl
theorem LineErr_ok (x:Ln):ref07_LineErr x = some (lineE x):=by
 unfold ref07_LineErr;rw [Within_eq,Within_eq,Within_eq];simp only [Option.bind_some];have e:(bif !(decide (1<=x.2.2.1/\x.2.2.1<=300000000000)) then some true else bif !(decide (-300000000000<=x.1/\x.1<=300000000000)) then some true else some (!(decide (-300000000000<=x.2.1/\x.2.1<=300000000000)))) = some (!(decide (mst x))):=by
  unfold mst;by_cases c1:1<=x.2.2.1/\x.2.2.1<=300000000000 <;> by_cases c2 : -300000000000<=x.1/\x.1<=300000000000 <;> simp only [c1,c2,decide_true,decide_false,cond_true,cond_false,and_true,true_and,false_and,and_false,and_self,Bool.not_true,Bool.not_false] <;> rfl
 rw [e];simp only [Option.bind_some];unfold lineE;by_cases c:mst x
 ·obtain ⟨c1,c2,c3⟩:=c;have c:mst x:=⟨c1,c2,c3⟩
  rw [if_pos c];simp only [c,decide_true,Bool.not_true,cond_false];rw [<- Option.bind_assoc,Gcd3_ok (B:=300000000000) (by omega) (by omega) (by omega) (by omega)];simp only [Option.bind_some];by_cases c4:gcd3 x.1 x.2.1 x.2.2.1 = 1
  ·simp [c4]
  ·have:¬ ((gcd3 x.1 x.2.1 x.2.2.1:Int) = 1):=by omega
   simp [c4,this]
 ·rw [if_neg c];simp only [c,decide_false,Bool.not_false,cond_true]
theorem parts_short (c:UInt8):∀ {s w:List UInt8},w ∈ parts c s->w.length<=s.length
 | [],w,h=>by simp [parts] at h; simp [h]
 | b :: l,w,h=>by
  unfold parts at h;split at h
  ·rcases List.mem_cons.1 h with rfl | h
   ·simp
   ·have:=parts_short c h; simp <;> omega
  ·split at h
   ·rename_i hp; exact absurd hp (parts_ne c l)
   ·rename_i p ps hp;rcases List.mem_cons.1 h with rfl | h
    ·have:=parts_short c (s:=l) (w:=p) (by rw [hp]; simp);simp <;> omega
    ·have:=parts_short c (s:=l) (w:=w) (by rw [hp]; simp [h]);simp <;> omega
def plK (x1:List Int × Bool):Option (Ln × Int) :=
 (bif !x1.2 then
   some true
  else
   bif !(decide ((x1.1.length:Int) = 3)) then
    some true
   else
    (idx x1.1 2).bind λx2 =>
    some (decide (x2 < 0))).bind λ(p3:Bool) =>
 bif p3 then
  some ((0,0,0,()),7)
 else
  (idx x1.1 0).bind λx4 =>
  (idx x1.1 1).bind λx5 =>
  (idx x1.1 2).bind λx6 =>
  bif !(decide (lineE (x4,x5,x6,()) = 0)) then
   some ((0,0,0,()),lineE (x4,x5,x6,()))
  else
   some ((x4,x5,x6,()),0)
theorem plK_some (x:List Int × Bool):∃ r,plK x = some r:=by
 obtain ⟨l,b⟩:=x;cases b with
 | false=>exact ⟨_,rfl⟩
 | true =>
  unfold plK;by_cases h:l.length = 3
  ·match l,h with
   | [a,b,c],_ =>
    simp only [List.length_cons,List.length_nil,Bool.not_true,cond_false];have i0:idx [a,b,c] 0 = some a:=by simp [idx]
    have i1:idx [a,b,c] 1 = some b:=by simp [idx]
    have i2:idx [a,b,c] 2 = some c:=by simp [idx]
    rw [i0,i1,i2];simp only [Option.bind_some];by_cases c1:c < 0
    ·exact ⟨((0,0,0,()),7),by simp [c1]⟩
    ·by_cases c2:lineE (a,b,c,()) = 0
     ·exact ⟨((a,b,c,()),0),by simp [c1,c2]⟩
     ·exact ⟨((0,0,0,()),lineE (a,b,c,())),by simp [c1,c2]⟩
  ·have:decide ((l.length:Int) = 3) = false:=by simp <;> omega
   exact ⟨((0,0,0,()),7),by simp [this]⟩
theorem ParseLine_eq {s:List UInt8} (hs:s.length<=100000):sensor_ParseLine s = plK (resL (nums 12 s)):=by
 unfold sensor_ParseLine;rw [show (12:Int) = ((12:Nat):Int) from rfl,parsed_eq 12 hs];simp only [CheckLine_ok,Option.bind_some];rfl
theorem refParseLine_eq {s:List UInt8} (hs:s.length<=100000):ref07_ParseLine s = plK (resL (nums 12 s)):=by
 unfold ref07_ParseLine;rw [show (12:Int) = ((12:Nat):Int) from rfl,numbers_eq (by omega) hs (λw hw=>Nat.le_trans (parts_short 32 hw) hs)];simp only [LineErr_ok,Option.bind_some];rfl
def prK (x1:List Int × Bool):List Int × Int:=if x1.2 = true then (if rawE x1.1 = 0 then (x1.1,0) else ([],rawE x1.1)) else ([],7)
theorem nums_len {d:Nat} {s:List UInt8}:(resL (nums d s)).1.length<=s.length + 1:=by
 have:=parts_len 32 s;cases h:nums d s with
 | none=>simp [resL]
 | some l=>have:=mapO_len h; simp only [resL] <;> omega
theorem ParseRaw_eq {s:List UInt8} (hs:s.length<=60000):sensor_ParseRaw s = some (prK (resL (nums 6 s))):=by
 unfold sensor_ParseRaw;have h0:decide ((s.length:Int) > 60000) = false:=by simp <;> omega
 have hl:=nums_len (d:=6) (s:=s);simp only [h0,cond_false];rw [show (6:Int) = ((6:Nat):Int) from rfl,parsed_eq 6 (by omega)];simp only [Option.bind_some];rw [rawErr_eq _ (by unfold big; omega)];simp only [Option.bind_some];unfold prK;cases (resL (nums 6 s)).2 <;> simp
 split <;> simp [*]
theorem refParseRaw_eq {s:List UInt8} (hs:s.length<=60000):ref07_ParseRaw s = some (prK (resL (nums 6 s))):=by
 unfold ref07_ParseRaw;have h0:decide ((s.length:Int) > 60000) = false:=by simp <;> omega
 simp only [h0,cond_false];rw [show (6:Int) = ((6:Nat):Int) from rfl,numbers_eq (by omega) (by omega) (λw hw=>Nat.le_trans (parts_short 32 hw) (by omega))];simp only [Option.bind_some,RawErr_eq];unfold prK;cases (resL (nums 6 s)).2 <;> simp
 split <;> simp [*]
theorem Ints_eq {l m:List Int} (hl:l.length<=1000000000):base_Ints l m = some (decide (l = m)):=by
 unfold base_Ints;by_cases h:l.length = m.length
 ·have e:decide ((l.length:Int) = (m.length:Int)) = true:=by simp [h]
  simp only [e,Bool.not_true,cond_false];refine ints_loop 0 h hl (λa b=>decide (a = b)) (by simp) λi hi=>?_;rw [idx_int (by omega) (by omega),idx_int (by omega) (by omega)];simp only [Option.bind_some,Int.toNat_natCast];by_cases c:l.getD i 0 = m.getD i 0
  ·simp only [c,decide_true,Bool.not_true,cond_false,if_true]; rw [wid (by omega) (by omega)]
  ·simp only [c,decide_false,Bool.not_false,cond_true,Bool.false_eq_true,if_false]
 ·have e:decide ((l.length:Int) = (m.length:Int)) = false:=by simp <;> omega
  have:l ≠ m:=λe=>h (by rw [e]);simp [e,this]
theorem Ints_self {l:List Int} (hl:l.length<=1000000000):base_Ints l l = some true:=by rw [Ints_eq hl]; simp
theorem CopyInts_eq {l:List Int} (hl:l.length<=1000000000):base_CopyInts l = some l:=by
 unfold base_CopyInts;rw [app_nil (by omega)]; rfl
theorem nums_txt {d:Nat} (hd:d<=18) (h1:1<=d) {l:List Int} (h0:l ≠ []) (h:∀ n ∈ l,n.natAbs < 10 ^ d):nums d (txt 32 l) = some l:=by
 unfold nums txt;rw [parts_join (by simpa using h0)]
 ·exact mapO_of λn hn=>num_itoa hd h1 (h n hn)
 ·intro w hw;obtain ⟨n,hn,rfl⟩:=List.mem_map.1 hw;exact itoa_no (by decide) (by decide)
theorem SensorStrings_all (x:Ln) (raw:List Int) (s:List UInt8) (hx:in64 x.1/\in64 x.2.1/\in64 x.2.2.1) (hr:∀ n ∈ raw,in64 n):law07_SensorStrings x raw s = some true:=by
 unfold law07_SensorStrings law07_awake law07_samples;simp only [Option.bind_some,Bool.not_true,cond_false];by_cases h1:(raw.length:Int)<=62
 rotate_left
 ·simp [h1]
 by_cases h2:(s.length:Int) > 300
 ·simp [h1,h2]
 simp only [h1,h2,decide_true,decide_false,Bool.not_true,cond_false,Option.bind_some];have hl3:∀ n ∈ [x.1,x.2.1,x.2.2.1],in64 n:=by
  intro n hn;simp only [List.mem_cons,List.mem_nil_iff,or_false] at hn;rcases hn with rfl | rfl | rfl
  ·exact hx.1
  ·exact hx.2.1
  ·exact hx.2.2
 unfold sensor_FormatLine sensor_FormatRaw ref07_FormatLine ref07_FormatRaw;rw [joined_eq (by simp) hl3,CopyInts_eq (by omega)];simp only [Option.bind_some];rw [joined_eq (by omega) hr,text_eq (by simp) hl3,text_eq (by omega) hr];obtain ⟨r,hr0⟩:=plK_some (resL (nums 12 s));have hnl:=nums_len (d:=6) (s:=s);have hpl:(prK (resL (nums 6 s))).1.length<=1000:=by
  unfold prK;split
  ·split
   ·simp only <;> omega
   ·simp
  ·simp
 have t3:=txt_len (c:=32) hl3;have tr:=txt_len (c:=32) hr;simp only [List.length_cons,List.length_nil] at t3;simp only [Option.bind_some];rw [ParseLine_eq (by omega),refParseLine_eq (by omega),ParseRaw_eq (by omega),refParseRaw_eq (by omega),hr0];simp only [Option.bind_some];rw [Ints_self (by omega),LineErr_ok,RawErr_eq];simp only [Option.bind_some,decide_true,Bool.not_true,cond_false,cond_true];have raw2:(bif !(decide (rawE raw = 0)) then
     some true
    else
     (sensor_ParseRaw (txt 32 raw)).bind λx22 =>
     (bif decide (x22.2 = 0) then
       (base_Ints x22.1 raw).bind λx23 =>
       some x23
      else
       some false).bind λ(p24:Bool) =>
     some p24) = some true:=by
  by_cases c:rawE raw = 0
  ·have hne:raw ≠ []:=by
    intro e;subst e;simp [rawE] at c
   have hb:∀ n ∈ raw,-100000<=n/\n<=100000:=by
    unfold rawE at c;rw [if_neg (by intro e; exact hne (List.eq_nil_of_length_eq_zero e))] at c;split at c
    ·cases c
    ·split at c
     ·assumption
     ·cases c
   rw [ParseRaw_eq (by omega),nums_txt (by omega) (by omega) hne (λn hn=>by have:=hb n hn; omega)];simp only [c,decide_true,Bool.not_true,cond_false,Option.bind_some,prK,resL,if_true,cond_true];rw [Ints_self (by omega)];rfl
  ·simp [c]
 by_cases c:lineE x = 0
 ·have hm:mst x:=by
   unfold lineE at c;split at c
   ·assumption
   ·cases c
  have hm':=hm;unfold mst at hm';rw [ParseLine_eq (by omega),nums_txt (by omega) (by omega) (by simp) (λn hn=>by
   simp only [List.mem_cons,List.mem_nil_iff,or_false] at hn;rcases hn with rfl | rfl | rfl <;> omega)]
  have hk:plK (resL (some [x.1,x.2.1,x.2.2.1])) = some (x,0):=by
   obtain ⟨g,o,d,u⟩:=x;simp only at c hm' ⊢;unfold plK;simp only [resL,List.length_cons,List.length_nil,Bool.not_true,cond_false];have i0:idx [g,o,d] 0 = some g:=by simp [idx]
   have i1:idx [g,o,d] 1 = some o:=by simp [idx]
   have i2:idx [g,o,d] 2 = some d:=by simp [idx]
   rw [i0,i1,i2];simp only [Option.bind_some];have c1:¬ d < 0:=by omega
   have c2:lineE (g,o,d,()) = 0:=c;simp [c1,c2]
  rw [hk];simp only [c,decide_true,cond_true,Option.bind_some,Bool.not_true,cond_false,Sum.elim_inl];exact raw2
 ·simp only [decide_eq_false c,cond_false,Option.bind_some,Sum.elim_inl];exact raw2
end Go.Proofs.YteiciemjanhdcaaGreatDoor
end
section
namespace Go.Proofs.YteiciemjanhdcaaGreatDoor.sensorStrings
open Go Go.Ab Go.Tx Go.ChangeShapes Go.WideShapes Go.ChangeAt Go.RowKit
theorem true_ (x:denP ([(.pair I (.pair I (.pair I .unit))),(.sl I),.str].map Pm.ty)) (hx:RngP maxLen [(.pair I (.pair I (.pair I .unit))),(.sl I),.str] x):e_law07_SensorStrings.F x = some true:=SensorStrings_all x.1 x.2.1 x.2.2 ⟨hx.1.1,hx.1.2.1,hx.1.2.2.1⟩ hx.2.1.2
set_option maxRecDepth 100000 in
theorem contract (H:Type) (enc:TypeId × Value->H) (W:World) (base:Nat) (args:Array Value) (ds gs:List (DataW H)) (before:List MemPlace)
  (hval:∀ (j:Nat) t v,Tryz.f5.params[j]? = some t->args[j]? = some v->Value.okWide Tryz.prog W .any base t v)
  (hW:DataW.Whole enc Tryz.prog Tryz.f5.params.toList Rows.sensorStringsSpec.vars false W args.toList ds gs before) (hgl:GlOk W (cx0 W)) :
  Calls Tryz.prog 5 args W λe W'=>∃ v,e = .returned v/\Rows.sensorStringsSpec.post enc Tryz.prog Tryz.f5 false true false false W args v W' :=
 law_contract (τs:=[(.pair I (.pair I (.pair I .unit))),(.sl I),.str]) (ts:=[67,60,9]) (tb:=4) (F:=e_law07_SensorStrings.F) follows hname hlib laid_out Tryz.func5 (by kernel_rfl) (by kernel_rfl) (by kernel_rfl) (by kernel_rfl) (by kernel_rfl) (by kernel_rfl) Tryz.underlying4 o_law07_SensorStrings true_ rfl
  (λH ds h=>by
   match ds,h with
   | [d1,d2,d3],_=>rfl) H enc W base args ds gs before hval hW hgl
set_option maxRecDepth 100000 in
theorem lifted (os:Os) (started:os.Started) (H:Type) (enc:TypeId × Value->H) :
  ReturnsInHanded {} Tryz.checked os 5 .any (λw args=>(Rows.sensorStringsSpec.pre enc Tryz.prog Tryz.f5 Rows.sensorStringsRow.domain false w args/\laidMetH Tryz.prog laid7 w)/\sizedMet enc Tryz.prog Tryz.f5 (OpenSpec.ofChange Rows.sensorStringsSpec) false w args)
   (Rows.sensorStringsSpec.post enc Tryz.prog Tryz.f5 false true false false):=by
 refine returnsInHanded_of_laid_shaped (C:=Tryz.checked) (X:=λw _=>laidMetH Tryz.prog laid7 w) (λ_ _ _ hh h=>h.of_heap hh) own started (by kernel_rfl) Tryz.func5
  (ChangeSpec.witness_shaped (enc:=enc) (C:=Tryz.checked) (os:=os) (X:=λw _=>laidMetH Tryz.prog laid7 w) false (World.laidAll Tryz.prog os laid7) #[.agg #[.int .i64 0,.int .i64 0,.int .i64 0],.slice none 0 0,.string ⟨#[]⟩] 8 (World.laidAll_os _ _ _)
   (World.shaped_of_ZipB (by kernel_rfl) (by kernel_rfl)) (by kernel_rfl) (by kernel_rfl) (by kernel_rfl)
   (by rw [MakeChecks.laidMetH_plain _ _ _ (by kernel_rfl)]; exact laidMet_laidAll _ (by kernel_rfl) (by kernel_rfl))) ?_
 intro W base args ds gs before hval hW hS hL;exact contract H enc W base args ds gs before hval hW (gl_laid hS hL)
theorem said:Rows.SensorStringsSaid :=
 OpenClaim.holds_of_wide 5 Tryz.f5 rfl rfl rfl rfl rfl rfl rfl ⟨rfl,rfl,rfl,rfl,rfl⟩ rfl rfl rfl rfl rfl (by kernel_rfl) Tryz.func5 (by kernel_rfl)
  (of_decide_eq_true (by kernel_rfl)) (by unfold Func.isWrapper; first | (rw [if_pos (by decide +kernel)]; kernel_rfl) | (rw [if_neg (by decide +kernel)]; exact ⟨rfl,rfl⟩))
  (λos started H enc _=>lifted os started H enc)
theorem proved:Rows.SensorStringsCardSaid :=
 Claim7.holds_tied_plain_at .later [] [.data, .data, .data, .data, .sentinel, .sentinel, .pinned] true (true, "b047576e82b3618035bcd12881f37f9051199a02151335b10545a8d28bc60f06") true
  said (λ_ h=>by cases h) (by kernel_rfl) (λ_ h=>by cases h) sensorStrings_row_tie rfl ⟨rfl,rfl⟩ (by kernel_rfl) rfl
  (λf fn hf hfn=>by
   obtain rfl : f = 5 := Option.some.inj ((show Tryz.prog.funcNamed "ductility/ductilitylaw07.SensorStrings" = some 5 by kernel_rfl).symm.trans hf) |>.symm
   obtain rfl:fn = Tryz.f5:=(Option.some.inj (Tryz.func5.symm.trans hfn)).symm;exact ⟨by kernel_rfl,λj t ht=>by
    have hp:Tryz.f5.params = #[67,60,9]:=by kernel_rfl
    rw [hp] at ht;rcases j with _ | _ | _ | j
    ·simp at ht; subst ht; exact (show Tryz.prog.wantsStandIn 67 = false by kernel_rfl)
    ·simp at ht; subst ht; exact (show Tryz.prog.wantsStandIn 60 = false by kernel_rfl)
    ·simp at ht; subst ht; exact (show Tryz.prog.wantsStandIn 9 = false by kernel_rfl)
    ·simp at ht⟩)
  (by kernel_rfl)
end Go.Proofs.YteiciemjanhdcaaGreatDoor.sensorStrings
end
