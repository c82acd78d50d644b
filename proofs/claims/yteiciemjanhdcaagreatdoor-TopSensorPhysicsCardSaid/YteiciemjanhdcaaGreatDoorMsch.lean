/-
  ONE LAW OF A CHAPTER: its program side is run by an interpreter that is proved sound; what it computes is shown to be what the law says. No conditions. Part 8 of 8.
-/
import Derived.Test.YteiciemjanhdcaaGreatDoorMscg
import Derived.Test.YteiciemjanhdcaaGreatDoorRows
import Derived.WalkKit
import Derived.Test.YteiciemjanhdcaaGreatDoorProg
import Derived.KernelRfl
import Derived.ProofKit
import Derived.LaidMore
import Derived.OpenShut
import Derived.Stop.Joined
import Derived.Stop.LaidErr
import Derived.Lib.LaidTab
import Derived.Shelf.Vars
import Derived.ChangeArms
import Derived.HandedShaped
import Derived.Lib.AtoiAll
import Derived.Lib.ItoaNum
import Derived.Lib.Strings
import Derived.Lib.Join
import Derived.Lib.IndexMore
import Derived.Test.YteiciemjanhdcaaGreatDoorTie
import Derived.Test.YteiciemjanhdcaaGreatDoorCards
import Derived.Lay
import Derived.SevenTiedAt
set_option linter.unusedSimpArgs false
set_option linter.unusedVariables false
set_option linter.unnecessarySimpa false
section
namespace Go.Tx
open Go Go.Ab Go.RowKit Go.ChangeShapes Go.WideShapes Go.Deep
section
variable {H:Type} {enc:TypeId × Value->H} {P:Program}
theorem post_of_below {f:Func} {s:ChangeSpec} {apart fresh handsOn again:Bool} {W W':World} {args:Array Value} {v:Value} {ds gs:List (DataW H)} {before pa pv:List MemPlace}
  (hW:DataW.Whole enc P f.params.toList s.vars apart W args.toList ds gs before)
  (hres:∀ (b:Nat) (sp:Nat->Bool) (hd:Bool),DataW.TrodAll enc P W' b sp hd f.resultTypes.toList (v.resultList f.resultTypes.size) (s.fn H (ds ++ gs)).results [])
  (hargs:∀ sp:Nat->Bool,(∀ p ∈ before,sp p.block = true)->DataW.TrodAll enc P W' 0 sp true f.params.toList args.toList (s.fn H (ds ++ gs)).args pa)
  (hvars:∀ sp:Nat->Bool,(∀ p ∈ before,sp p.block = true)->DataW.TrodVars enc P W' sp s.vars (s.fn H (ds ++ gs)).vars pv)
  (hps:before = pa ++ pv) (hb:Below W.heap.size W W')
  (hok:∀ (j:Nat) (t:TypeId) (r:Value),f.resultTypes[j]? = some t->(v.resultList f.resultTypes.size)[j]? = some r->Value.okWide P W' .any 0 t r) :
  s.post enc P f apart fresh handsOn again W args v W':=by
 have hlt:∀ p ∈ before,p.block < W.heap.size:=λp hp=>hW.lt p hp;have hold:∀ p ∈ before,(λb=>decide (b < W.heap.size)) p.block = true:=λp hp=>by simpa using hlt p hp
 refine ⟨ds,gs,before,[],pa,pv,hW,hres _ _ _,hargs _ hold,hvars _ hold,World.keptBut_mono (λp hp=>⟨hp,?_⟩) (hb.frame (· ∈ before)),λ_=>?_⟩
 ·rw [hps,List.mem_append] at hp;exact Or.inr hp
 ·obtain ⟨_,_,_,_,_,hz,hn⟩:=hW;refine ⟨hok,_,_,([] ++ pa) ++ pv,⟨[] ++ pa,pv,trodAll_append (hargs _ (λ_ _=>rfl)) (hres _ _ _),hvars _ (λ_ _=>rfl),rfl,?_,?_⟩,?_⟩
  ·intro b off hp;have hin:MemPlace.cell b off ∈ before:=by rw [hps]; simpa using hp
   rw [hb.frozen (hlt _ hin)];exact hz b off hin
  ·intro ha;have:=hn ha;rw [hps] at this;simpa using this
  ·intro p hp _;rw [hps];simpa using hp
theorem trodAll_len:∀ {ts:List TypeId} {vs:List Value} {ds:List (DataW H)} {ps:List MemPlace} {w:World} {b:Nat} {sp:Nat->Bool} {hd:Bool},DataW.TrodAll enc P w b sp hd ts vs ds ps->ds.length = ts.length
 | [],[],[],_,_,_,_,_,_=>rfl
 | [],[],d :: ds,_,_,_,_,_,h=>h.elim
 | [],v :: vs,_,_,_,_,_,_,h=>by cases h
 | t :: ts,[],_,_,_,_,_,_,h=>by cases h
 | t :: ts,v :: vs,[],_,_,_,_,_,h=>by cases h
 | t :: ts,v :: vs,d :: ds,ps,w,b,sp,hd,⟨p,q,h1,h2,e⟩=>by simp [trodAll_len h2]
end
theorem sm_all {H:Type}:Sm (H:=H) maxLen (λ_=>True) where
 slice:=λes sp _ h=>⟨h,λ_ _=>trivial⟩
 agg:=λ_ _ _ _=>trivial
 str:=λ_ _ h=>h
theorem law_contract {P:Program} {H0:Hints} {lib:FuncId->Option (List V->Option V)} (hm:P.follows .mixedOrders = true) (hname:NameOk P H0)
  (hlib:∀ g h args r,lib g = some h->h args = some r->CallOk P g args [] r []) (hl:laidOutB P = true) {k:FuncId} {fn:Func} (hfn:P.funcs[k]? = some fn) (hbody:fn.body.isSome = true)
  {ts:List TypeId} {τs:List Ty} (hps:fn.params.toList = ts) (hts:ts.mapM (tyOf P) = some τs) (hok:ts.all (okT P 10) = true) (hrd:ts.all (λt=>P.readableRec t && decide (t < P.types.size)) = true)
  {tb:TypeId} (hres:fn.resultTypes = #[tb]) (htb:P.underlying tb = some .bool) {F:denP (τs.map .ty)->Option Bool}
  (he:EntryOk P H0 lib ⟨k,τs.map .ty,[(.bool,0)],F⟩) (hF:∀ x,RngP maxLen τs x->F x = some true)
  {s:ChangeSpec} (hv:s.vars = []) (hs:∀ (H:Type) (ds:List (DataW H)),ds.length = ts.length->s.fn H ds = { results:=[.lit (.bool true)],args:=ds })
  (H:Type) (enc:TypeId × Value->H) (W:World) (base:Nat) (args:Array Value) (ds gs:List (DataW H)) (before:List MemPlace)
  (hval:∀ (j:Nat) t v,fn.params[j]? = some t->args[j]? = some v->Value.okWide P W .any base t v)
  (hW:DataW.Whole enc P fn.params.toList s.vars false W args.toList ds gs before) (hgl:GlOk W (cx0 W)) :
  Calls P k args W λe W'=>∃ v,e = .returned v/\s.post enc P fn false true false false W args v W':=by
 have hW':=hW;have hlt:∀ p ∈ before,p.block < W.heap.size:=λp hp=>hW.lt p hp;obtain ⟨p,q,hA,hV,rfl,hfz,hnd⟩:=hW;rw [hv] at hV;obtain ⟨rfl,rfl⟩:=trodVars_none hV;rw [hps] at hA;have hlen:=trodAll_len hA;have hval':∀ (j:Nat) t v,ts[j]? = some t->args.toList[j]? = some v->Value.okWide P W .any base t v:=λj t v h1 h2 =>
  hval j t v (by rw [<- hps] at h1; simpa using h1) (by simpa using h2)
 refine (law_calls hm hname hlib hl sm_all hfn hbody hts hok he hF hval' hA (λ_ _=>trivial) hgl).mono λe W' ⟨h1,hb⟩=>?_;subst h1;have hfs:s.fn H (ds ++ []) = { results:=[.lit (.bool true)],args:=ds }:=by rw [List.append_nil]; exact hs H ds hlen
 refine ⟨_,rfl,post_of_below (pa:=p) (pv:=[]) hW' ?_ ?_ ?_ rfl hb ?_⟩
 ·intro b sp hd;rw [hfs,hres];exact trodAll_mk1 (shut_bool htb true)
 ·intro sp hsp;rw [hfs,hps];exact trodAll_below hl hb hrd hA (λx hx=>hlt x (by simpa using hx)) sp (λx hx=>hsp x (by simpa using hx))
 ·intro sp _;rw [hfs,hv];rfl
 ·exact ok_one hres rfl (okWide_bool_mk htb true)
end Go.Tx
namespace Go.Proofs.YteiciemjanhdcaaGreatDoor
open Go Go.Ab Go.Tx
theorem own:ownKnob Tryz.prog.godebug = none:=by kernel_rfl
theorem laid_out:laidOutB Tryz.prog = true:=by kernel_rfl
end Go.Proofs.YteiciemjanhdcaaGreatDoor
end
section
set_option maxRecDepth 100000
namespace Go.Proofs.YteiciemjanhdcaaGreatDoor
open Go Go.Ab Go.Tx
noncomputable section
@[reducible] def I:Ty:=.int .i64
@[reducible] def w64 (n:Int):Int:=IntKind.wrap .i64 n
def lookJ:List (List Tmp × FuncId × Kind × Join)->List Tmp->FuncId->Kind->Option Join
 | [],_,_,_=>none
 | (c,f,k,j) :: l,c',f',k'=>if f = f' then (if k = k' then (if c = c' then some j else lookJ l c' f' k') else lookJ l c' f' k') else lookJ l c' f' k'
def strconv_Itoa (n:Int):Option (List UInt8):=if -9223372036854775808<=n/\n<=9223372036854775807 then some (Lib.itoa n) else none
def atoiP (s:List UInt8):Int × Bool:=match Lib.atoiAll s with
 | .ok v=>(v,true)
 | .range=>(Lib.atoiSat s,false)
 | _=>(0,false)
def strconv_Atoi (s:List UInt8):Option (Int × Bool):=if s.length<=281474976710656 then some (atoiP s) else none
def strings_Join (l:List (List UInt8)) (sep:List UInt8):Option (List UInt8):=if l.length<=140737488355328/\(Lib.join l sep).length<=140737488355328 then some (Lib.join l sep) else none
def strings_TrimPrefix (s p:List UInt8):Option (List UInt8):=some (Lib.trimPrefix s p)
def strings_Index (s p:List UInt8):Option Int:=if s.length < 4294967281 then some (Lib.index s p) else none
def strings_Cut (s p:List UInt8):Option (List UInt8 × List UInt8 × Bool):=if s.length < 4294967281 then some (Lib.cut s p) else none
def hItoa:List V->Option V
 | [.val (.int .i64 n)]=>(strconv_Itoa n).map λs=>.val (.string ⟨s.toArray⟩)
 | _=>none
def hAtoi:List V->Option V
 | [.val (.string s)]=>if s.size<=281474976710656 then some (atoiV 323 s.data.toList) else none
 | _=>none
def hJoin:List V->Option V
 | [.sl _ _ l,.val (.string sep)]=>(strsOf l).bind λxs=>(strings_Join xs sep.data.toList).map λs=>.val (.string ⟨s.toArray⟩)
 | _=>none
def hTrim:List V->Option V
 | [.val (.string s),.val (.string p)]=>some (.val (.string ⟨(Lib.trimPrefix s.data.toList p.data.toList).toArray⟩))
 | _=>none
def hIndex:List V->Option V
 | [.val (.string s),.val (.string p)]=>if s.size < 4294967281 then some (.val (.int .i64 (Lib.index s.data.toList p.data.toList))) else none
 | _=>none
def hCut:List V->Option V
 | [.val (.string s),.val (.string p)]=>if s.size < 4294967281 then some (.tuple [.val (.string ⟨(Lib.cut s.data.toList p.data.toList).1.toArray⟩),.val (.string ⟨(Lib.cut s.data.toList p.data.toList).2.1.toArray⟩),.val (.bool (Lib.cut s.data.toList p.data.toList).2.2)]) else none
 | _=>none
def hAwake:List V->Option V
 | []=>some (.val (.bool true))
 | _=>none
def libT:List (FuncId × (List V->Option V)):=[(22,hAwake),(75,hItoa),(168,hAtoi),(76,hJoin),(169,hTrim),(239,hIndex),(151,hCut)]
def lookL:List (FuncId × (List V->Option V))->FuncId->Option (List V->Option V)
 | [],_=>none
 | (k,h) :: l,g=>if g = k then some h else lookL l g
def Lb:FuncId->Option (List V->Option V):=lookL libT
def mkTH (js:List (List Tmp × FuncId × Kind × Join)) (inl:List (List Tmp × FuncId × Tmp)):TH where
 lib:=λg=>(Lb g).isSome
 join:=lookJ js
 inl:=λc f d=>inl.any λ(c',f',d')=>decide (f = f') && decide (d = d') && decide (c = c')
theorem hJ {js:List (List Tmp × FuncId × Kind × Join)} {inl:List (List Tmp × FuncId × Tmp)}:∀ g,(mkTH js inl).lib g = false->Lb g = none:=λg h=>by
 simpa [mkTH] using h
theorem lib_entry {e:Entry} {h:List V->Option V} (hl:Lb e.g = some h) (hx:∀ x y,e.F x = some y->∀ vs,RVL (ofPms e.ps x) vs->∃ v,h vs = some v/\RV (packT e.rs y) v):EntryOk Tryz.prog Hn.hints Lb e:=λx y hy vs hv=>by
 obtain ⟨v,h1,h2⟩:=hx x y hy vs hv;refine ⟨v,⟨1,λm hm=>?_⟩,h2⟩;obtain ⟨m',rfl⟩:∃ m',m = m' + 1:=⟨m - 1,by omega⟩
 simp [orcN,hl,h1]
def e_strconv_Itoa:Entry:=⟨75,[.ty I],[(.str,0)],λx=>strconv_Itoa x⟩
theorem o_strconv_Itoa:EntryOk Tryz.prog Hn.hints Lb e_strconv_Itoa:=lib_entry (h:=hItoa) rfl λx y hy vs hv=>by
 simp only [e_strconv_Itoa] at hy hv x y;simp only [ofPms,ofPm,ofTy,RVL,RV,RTy] at hv;obtain ⟨v,l,rfl,rfl,rfl⟩:=hv;exact ⟨.val (.string ⟨y.toArray⟩),by simp [hItoa,hy],by simp [packT,e_strconv_Itoa,ofL,packedT,ofTy,RV,RTy]⟩
def e_strconv_Atoi:Entry:=⟨168,[.ty .str],[(I,0),(.err,0)],λx=>strconv_Atoi x⟩
theorem o_strconv_Atoi:EntryOk Tryz.prog Hn.hints Lb e_strconv_Atoi:=lib_entry (h:=hAtoi) rfl λx y hy vs hv=>by
 simp only [e_strconv_Atoi] at hy hv x y;simp only [ofPms,ofPm,ofTy,RVL,RV,RTy] at hv;obtain ⟨v,l,rfl,rfl,rfl⟩:=hv;unfold strconv_Atoi at hy;split at hy
 ·rename_i hl;cases hy;refine ⟨atoiV 323 x,?_,?_⟩
  ·have:(⟨x.toArray⟩:ByteArray).size<=281474976710656:=by simpa [ByteArray.size] using hl
   simp only [hAtoi];rw [if_pos this]
  ·unfold atoiV atoiP;cases Lib.atoiAll x <;> simp [packT,e_strconv_Atoi,ofL,packedT,ofTy,RV,RTy,RVL]
   all_goals exact ⟨_,_,⟨rfl,rfl⟩,rfl,_,rfl,_,rfl⟩
 ·cases hy
theorem strs_all2 {τ:Nat}:∀ {l:List (List UInt8)} {l':List V},All2 (RTy .str τ) l l'->strsOf l' = some l:=by
 intro l l' h;induction h with
 | nil=>rfl
 | cons h1 _ ih=>simp only [RTy] at h1; subst h1; simp [strsOf,ih]
def e_strings_Join:Entry:=⟨76,[.ty (.sl .str),.ty .str],[(.str,0)],λx=>strings_Join x.1 x.2⟩
theorem o_strings_Join:EntryOk Tryz.prog Hn.hints Lb e_strings_Join:=lib_entry (h:=hJoin) rfl λx y hy vs hv=>by
 simp only [e_strings_Join] at hy hv x y;simp only [ofPms,ofPm,ofTy,RVL,RV,RTy] at hv;obtain ⟨v,l,rfl,⟨f,c,l',rfl,_,hall⟩,v2,l2,rfl,rfl,rfl⟩:=hv;have hs:strsOf l' = some x.1:=strs_all2 (τ:=0) (hall.mono λa b h=>by simpa only [RTy] using h);exact ⟨.val (.string ⟨y.toArray⟩),by simp [hJoin,hs,hy],by simp [packT,e_strings_Join,ofL,packedT,ofTy,RV,RTy]⟩
def e_strings_TrimPrefix:Entry:=⟨169,[.ty .str,.ty .str],[(.str,0)],λx=>strings_TrimPrefix x.1 x.2⟩
theorem o_strings_TrimPrefix:EntryOk Tryz.prog Hn.hints Lb e_strings_TrimPrefix:=lib_entry (h:=hTrim) rfl λx y hy vs hv=>by
 simp only [e_strings_TrimPrefix] at hy hv x y;simp only [ofPms,ofPm,ofTy,RVL,RV,RTy] at hv;obtain ⟨v,l,rfl,rfl,v2,l2,rfl,rfl,rfl⟩:=hv;obtain rfl:Lib.trimPrefix x.1 x.2 = y:=Option.some.inj hy;exact ⟨.val (.string ⟨(Lib.trimPrefix x.1 x.2).toArray⟩),rfl,by simp [packT,e_strings_TrimPrefix,ofL,packedT,ofTy,RV,RTy]⟩
def e_strings_Index:Entry:=⟨239,[.ty .str,.ty .str],[(I,0)],λx=>strings_Index x.1 x.2⟩
theorem o_strings_Index:EntryOk Tryz.prog Hn.hints Lb e_strings_Index:=lib_entry (h:=hIndex) rfl λx y hy vs hv=>by
 simp only [e_strings_Index] at hy hv x y;simp only [ofPms,ofPm,ofTy,RVL,RV,RTy] at hv;obtain ⟨v,l,rfl,rfl,v2,l2,rfl,rfl,rfl⟩:=hv;unfold strings_Index at hy;split at hy
 ·rename_i hl;cases hy;refine ⟨.val (.int .i64 (Lib.index x.1 x.2)),?_,by simp [packT,e_strings_Index,ofL,packedT,ofTy,RV,RTy]⟩;have:(⟨x.1.toArray⟩:ByteArray).size < 4294967281:=by simpa [ByteArray.size] using hl
  simp only [hIndex];rw [if_pos this]
 ·cases hy
def top_sensorShown:Option Bool:=some true
def e_top_sensorShown:Entry:=⟨22,[],[(.bool,0)],λ_=>top_sensorShown⟩
theorem o_top_sensorShown:EntryOk Tryz.prog Hn.hints Lb e_top_sensorShown:=lib_entry (h:=hAwake) rfl λx y hy vs hv=>by
 obtain rfl:true = y:=Option.some.inj hy;simp only [e_top_sensorShown,ofPms,RVL] at hv;subst hv;exact ⟨.val (.bool true),rfl,by simp [packT,e_top_sensorShown,ofL,packedT,ofTy,RV,RTy]⟩
end
end Go.Proofs.YteiciemjanhdcaaGreatDoor
end
section
namespace Go.Proofs.YteiciemjanhdcaaGreatDoor
open Go Go.Ab Go.RowKit Go.Shelf
def lItoa_ren:Go.Shelf.Ren:=⟨λ| 171=>75 | 243=>155 | 246=>209 | 283=>245 | 284=>246 | 285=>247 | 286=>248 | 129=>271 | 317=>270 | 318=>272 | 319=>273 | 320=>274 | 337=>280 | 338=>281 | n=>n,λ| 3=>3 | 9=>9 | 2=>2 | 4=>4 | 171=>308 | 0=>0 | 53=>309 | 37=>235 | 5=>5 | 173=>312 | 212=>333 | 51=>334 | 20=>20 | 213=>335 | 46=>331 | 232=>354 | 233=>355 | n=>n,λ| 17=>1 | 18=>6 | 19=>7 | n=>n⟩
theorem lItoa:LaysM.n171 Tryz.prog lItoa_ren where
 mixed:=by kernel_rfl
 f129:=Tryz.func271.trans (congrArg some (by kernel_rfl))
 f171:=Tryz.func75.trans (congrArg some (by kernel_rfl))
 f243:=Tryz.func155.trans (congrArg some (by kernel_rfl))
 f246:=Tryz.func209.trans (congrArg some (by kernel_rfl))
 f283:=Tryz.func245.trans (congrArg some (by kernel_rfl))
 f284:=Tryz.func246.trans (congrArg some (by kernel_rfl))
 f285:=Tryz.func247.trans (congrArg some (by kernel_rfl))
 f286:=Tryz.func248.trans (congrArg some (by kernel_rfl))
 f317:=Tryz.func270.trans (congrArg some (by kernel_rfl))
 f318:=Tryz.func272.trans (congrArg some (by kernel_rfl))
 f319:=Tryz.func273.trans (congrArg some (by kernel_rfl))
 f320:=Tryz.func274.trans (congrArg some (by kernel_rfl))
 f337:=Tryz.func280.trans (congrArg some (by kernel_rfl))
 f338:=Tryz.func281.trans (congrArg some (by kernel_rfl))
 t0:=Tryz.underlying0
 a0:=Tryz.isAgg0
 z0:=Tryz.sizeOf0
 v0:=Tryz.zeroValue0
 t2:=Tryz.underlying2
 a2:=Tryz.isAgg2
 z2:=Tryz.sizeOf2
 v2:=Tryz.zeroValue2
 t3:=Tryz.underlying3
 a3:=Tryz.isAgg3
 z3:=Tryz.sizeOf3
 v3:=Tryz.zeroValue3
 t4:=Tryz.underlying4
 a4:=Tryz.isAgg4
 z4:=Tryz.sizeOf4
 v4:=Tryz.zeroValue4
 t5:=Tryz.underlying5
 a5:=Tryz.isAgg5
 z5:=Tryz.sizeOf5
 v5:=Tryz.zeroValue5
 t9:=Tryz.underlying9
 a9:=Tryz.isAgg9
 z9:=Tryz.sizeOf9
 v9:=Tryz.zeroValue9
 t20:=Tryz.underlying20
 a20:=Tryz.isAgg20
 z20:=Tryz.sizeOf20
 v20:=Tryz.zeroValue20
 t37:=Tryz.underlying235
 a37:=Tryz.isAgg235
 z37:=Tryz.sizeOf235
 v37:=Tryz.zeroValue235
 t46:=Tryz.underlying331
 a46:=Tryz.isAgg331
 z46:=Tryz.sizeOf331
 v46:=Tryz.zeroValue331
 t51:=Tryz.underlying334
 a51:=Tryz.isAgg334
 z51:=Tryz.sizeOf334
 v51:=Tryz.zeroValue334
 t53:=Tryz.underlying309
 a53:=Tryz.isAgg309
 z53:=Tryz.sizeOf309
 v53:=Tryz.zeroValue309
 t171:=Tryz.underlying308
 a171:=Tryz.isAgg308
 z171:=Tryz.sizeOf308
 v171:=Tryz.zeroValue308
 t173:=Tryz.underlying312
 a173:=Tryz.isAgg312
 z173:=Tryz.sizeOf312
 v173:=Tryz.zeroValue312
 t212:=Tryz.underlying333
 a212:=Tryz.isAgg333
 z212:=Tryz.sizeOf333
 v212:=Tryz.zeroValue333
 t213:=Tryz.underlying335
 a213:=Tryz.isAgg335
 z213:=Tryz.sizeOf335
 t232:=Tryz.underlying354
 a232:=Tryz.isAgg354
 z232:=Tryz.sizeOf354
 v232:=Tryz.zeroValue354
 t233:=Tryz.underlying355
 a233:=Tryz.isAgg355
 z233:=Tryz.sizeOf355
 v233:=Tryz.zeroValue355
 g17:=by kernel_rfl
 g18:=by kernel_rfl
 g19:=by kernel_rfl
 i0:=by kernel_rfl
 i2:=by kernel_rfl
 i3:=by kernel_rfl
 i4:=by kernel_rfl
 i5:=by kernel_rfl
 i9:=by kernel_rfl
 i20:=by kernel_rfl
 i37:=by kernel_rfl
 i46:=by kernel_rfl
 i51:=by kernel_rfl
 i53:=by kernel_rfl
 i171:=by kernel_rfl
 i173:=by kernel_rfl
 i212:=by kernel_rfl
 i232:=by kernel_rfl
 i233:=by kernel_rfl
 m17:=by kernel_rfl
 m18:=by kernel_rfl
 m19:=by kernel_rfl
def lAtoi_ren:Go.Shelf.Ren:=⟨λ| 172=>168 | 244=>223 | 245=>224 | 247=>256 | 279=>257 | 280=>258 | 281=>259 | 282=>260 | 287=>275 | 316=>276 | 171=>75 | 205=>277 | 321=>282 | 322=>283 | 243=>155 | 246=>209 | 283=>245 | 284=>246 | 285=>247 | 286=>248 | 129=>271 | 317=>270 | 318=>272 | 319=>273 | 320=>274 | 337=>280 | 338=>281 | n=>n,λ| 9=>9 | 3=>3 | 75=>240 | 76=>241 | 4=>4 | 5=>5 | 167=>320 | 37=>235 | 0=>0 | 85=>321 | 2=>2 | 168=>323 | 53=>309 | 175=>337 | 46=>331 | 210=>341 | 127=>283 | 145=>353 | 143=>351 | 21=>21 | 171=>308 | 173=>312 | 212=>333 | 51=>334 | 20=>20 | 213=>335 | 232=>354 | 233=>355 | 80=>243 | n=>n,λ| 15=>2 | 16=>3 | 17=>1 | 18=>6 | 19=>7 | n=>n⟩
theorem lAtoi:LaysC.n172 Tryz.prog lAtoi_ren where
 mixed:=by kernel_rfl
 f129:=Tryz.func271.trans (congrArg some (by kernel_rfl))
 f171:=Tryz.func75.trans (congrArg some (by kernel_rfl))
 f172:=Tryz.func168.trans (congrArg some (by kernel_rfl))
 f205:=Tryz.func277.trans (congrArg some (by kernel_rfl))
 f243:=Tryz.func155.trans (congrArg some (by kernel_rfl))
 f244:=Tryz.func223.trans (congrArg some (by kernel_rfl))
 f245:=Tryz.func224.trans (congrArg some (by kernel_rfl))
 f246:=Tryz.func209.trans (congrArg some (by kernel_rfl))
 f247:=Tryz.func256.trans (congrArg some (by kernel_rfl))
 f279:=Tryz.func257.trans (congrArg some (by kernel_rfl))
 f280:=Tryz.func258.trans (congrArg some (by kernel_rfl))
 f281:=Tryz.func259.trans (congrArg some (by kernel_rfl))
 f282:=Tryz.func260.trans (congrArg some (by kernel_rfl))
 f283:=Tryz.func245.trans (congrArg some (by kernel_rfl))
 f284:=Tryz.func246.trans (congrArg some (by kernel_rfl))
 f285:=Tryz.func247.trans (congrArg some (by kernel_rfl))
 f286:=Tryz.func248.trans (congrArg some (by kernel_rfl))
 f287:=Tryz.func275.trans (congrArg some (by kernel_rfl))
 f316:=Tryz.func276.trans (congrArg some (by kernel_rfl))
 f317:=Tryz.func270.trans (congrArg some (by kernel_rfl))
 f318:=Tryz.func272.trans (congrArg some (by kernel_rfl))
 f319:=Tryz.func273.trans (congrArg some (by kernel_rfl))
 f320:=Tryz.func274.trans (congrArg some (by kernel_rfl))
 f321:=Tryz.func282.trans (congrArg some (by kernel_rfl))
 f322:=Tryz.func283.trans (congrArg some (by kernel_rfl))
 f337:=Tryz.func280.trans (congrArg some (by kernel_rfl))
 f338:=Tryz.func281.trans (congrArg some (by kernel_rfl))
 t0:=Tryz.underlying0
 a0:=Tryz.isAgg0
 z0:=Tryz.sizeOf0
 v0:=Tryz.zeroValue0
 t2:=Tryz.underlying2
 a2:=Tryz.isAgg2
 z2:=Tryz.sizeOf2
 v2:=Tryz.zeroValue2
 t3:=Tryz.underlying3
 a3:=Tryz.isAgg3
 z3:=Tryz.sizeOf3
 v3:=Tryz.zeroValue3
 t4:=Tryz.underlying4
 a4:=Tryz.isAgg4
 z4:=Tryz.sizeOf4
 v4:=Tryz.zeroValue4
 t5:=Tryz.underlying5
 a5:=Tryz.isAgg5
 z5:=Tryz.sizeOf5
 v5:=Tryz.zeroValue5
 t9:=Tryz.underlying9
 a9:=Tryz.isAgg9
 z9:=Tryz.sizeOf9
 v9:=Tryz.zeroValue9
 t20:=Tryz.underlying20
 a20:=Tryz.isAgg20
 z20:=Tryz.sizeOf20
 v20:=Tryz.zeroValue20
 t21:=Tryz.underlying21
 a21:=Tryz.isAgg21
 z21:=Tryz.sizeOf21
 v21:=Tryz.zeroValue21
 t37:=Tryz.underlying235
 a37:=Tryz.isAgg235
 z37:=Tryz.sizeOf235
 v37:=Tryz.zeroValue235
 t46:=Tryz.underlying331
 a46:=Tryz.isAgg331
 z46:=Tryz.sizeOf331
 v46:=Tryz.zeroValue331
 t51:=Tryz.underlying334
 a51:=Tryz.isAgg334
 z51:=Tryz.sizeOf334
 v51:=Tryz.zeroValue334
 t53:=Tryz.underlying309
 a53:=Tryz.isAgg309
 z53:=Tryz.sizeOf309
 v53:=Tryz.zeroValue309
 t75:=Tryz.underlying240
 a75:=Tryz.isAgg240
 z75:=Tryz.sizeOf240
 v75:=Tryz.zeroValue240
 t76:=Tryz.underlying241
 a76:=Tryz.isAgg241
 z76:=Tryz.sizeOf241
 v76:=Tryz.zeroValue241
 t85:=Tryz.underlying321
 a85:=Tryz.isAgg321
 z85:=Tryz.sizeOf321
 v85:=Tryz.zeroValue321
 t127:=Tryz.underlying283
 a127:=Tryz.isAgg283
 z127:=Tryz.sizeOf283
 v127:=Tryz.zeroValue283
 t143:=Tryz.underlying351
 a143:=Tryz.isAgg351
 z143:=Tryz.sizeOf351
 v143:=Tryz.zeroValue351
 t145:=Tryz.underlying353
 a145:=Tryz.isAgg353
 z145:=Tryz.sizeOf353
 v145:=Tryz.zeroValue353
 t167:=Tryz.underlying320
 a167:=Tryz.isAgg320
 z167:=Tryz.sizeOf320
 v167:=Tryz.zeroValue320
 t168:=Tryz.underlying323
 a168:=Tryz.isAgg323
 z168:=Tryz.sizeOf323
 v168:=Tryz.zeroValue323
 t171:=Tryz.underlying308
 a171:=Tryz.isAgg308
 z171:=Tryz.sizeOf308
 v171:=Tryz.zeroValue308
 t173:=Tryz.underlying312
 a173:=Tryz.isAgg312
 z173:=Tryz.sizeOf312
 v173:=Tryz.zeroValue312
 t175:=Tryz.underlying337
 a175:=Tryz.isAgg337
 z175:=Tryz.sizeOf337
 v175:=Tryz.zeroValue337
 t210:=Tryz.underlying341
 a210:=Tryz.isAgg341
 z210:=Tryz.sizeOf341
 v210:=Tryz.zeroValue341
 t212:=Tryz.underlying333
 a212:=Tryz.isAgg333
 z212:=Tryz.sizeOf333
 v212:=Tryz.zeroValue333
 t213:=Tryz.underlying335
 a213:=Tryz.isAgg335
 z213:=Tryz.sizeOf335
 t232:=Tryz.underlying354
 a232:=Tryz.isAgg354
 z232:=Tryz.sizeOf354
 v232:=Tryz.zeroValue354
 t233:=Tryz.underlying355
 a233:=Tryz.isAgg355
 z233:=Tryz.sizeOf355
 v233:=Tryz.zeroValue355
 g15:=by kernel_rfl
 g16:=by kernel_rfl
 g17:=by kernel_rfl
 g18:=by kernel_rfl
 g19:=by kernel_rfl
 t80:=Tryz.underlying243
 a80:=Tryz.isAgg243
 z80:=Tryz.sizeOf243
 v80:=Tryz.zeroValue243
 i0:=by kernel_rfl
 i2:=by kernel_rfl
 i3:=by kernel_rfl
 i4:=by kernel_rfl
 i5:=by kernel_rfl
 i9:=by kernel_rfl
 i20:=by kernel_rfl
 i21:=by kernel_rfl
 i37:=by kernel_rfl
 i46:=by kernel_rfl
 i51:=by kernel_rfl
 i53:=by kernel_rfl
 i75:=by kernel_rfl
 i76:=by kernel_rfl
 i80:=by kernel_rfl
 i85:=by kernel_rfl
 i127:=by kernel_rfl
 i143:=by kernel_rfl
 i145:=by kernel_rfl
 i167:=by kernel_rfl
 i168:=by kernel_rfl
 i171:=by kernel_rfl
 i173:=by kernel_rfl
 i175:=by kernel_rfl
 i210:=by kernel_rfl
 i212:=by kernel_rfl
 i232:=by kernel_rfl
 i233:=by kernel_rfl
 m15:=by kernel_rfl
 m16:=by kernel_rfl
 m17:=by kernel_rfl
 m18:=by kernel_rfl
 m19:=by kernel_rfl
 c0:=by kernel_rfl
 c2:=by kernel_rfl
 c3:=by kernel_rfl
 c4:=by kernel_rfl
 c5:=by kernel_rfl
 c9:=by kernel_rfl
 c20:=by kernel_rfl
 c21:=by kernel_rfl
 c37:=by kernel_rfl
 c46:=by kernel_rfl
 c51:=by kernel_rfl
 c53:=by kernel_rfl
 c75:=by kernel_rfl
 c76:=by kernel_rfl
 c80:=by kernel_rfl
 c85:=by kernel_rfl
 c127:=by kernel_rfl
 c143:=by kernel_rfl
 c145:=by kernel_rfl
 c167:=by kernel_rfl
 c168:=by kernel_rfl
 c171:=by kernel_rfl
 c173:=by kernel_rfl
 c175:=by kernel_rfl
 c210:=by kernel_rfl
 c212:=by kernel_rfl
 c213:=by kernel_rfl
 c232:=by kernel_rfl
 c233:=by kernel_rfl
def lJoin_ren:Go.Shelf.Ren:=⟨λ| 156=>76 | 165=>156 | 166=>157 | 169=>158 | 240=>210 | 241=>211 | 276=>249 | 277=>250 | n=>n,λ| 31=>131 | 9=>9 | 3=>3 | 4=>4 | 0=>0 | 20=>20 | 72=>237 | 76=>241 | 70=>234 | 37=>235 | 75=>240 | 127=>283 | 164=>314 | 5=>5 | 80=>243 | n=>n,λn=>n⟩
theorem lJoin:Lays.n156 Tryz.prog lJoin_ren where
 mixed:=by kernel_rfl
 f156:=Tryz.func76.trans (congrArg some (by kernel_rfl))
 f165:=Tryz.func156.trans (congrArg some (by kernel_rfl))
 f166:=Tryz.func157.trans (congrArg some (by kernel_rfl))
 f169:=Tryz.func158.trans (congrArg some (by kernel_rfl))
 f240:=Tryz.func210.trans (congrArg some (by kernel_rfl))
 f241:=Tryz.func211.trans (congrArg some (by kernel_rfl))
 f276:=Tryz.func249.trans (congrArg some (by kernel_rfl))
 f277:=Tryz.func250.trans (congrArg some (by kernel_rfl))
 t0:=Tryz.underlying0
 a0:=Tryz.isAgg0
 z0:=Tryz.sizeOf0
 v0:=Tryz.zeroValue0
 t3:=Tryz.underlying3
 a3:=Tryz.isAgg3
 z3:=Tryz.sizeOf3
 v3:=Tryz.zeroValue3
 t4:=Tryz.underlying4
 a4:=Tryz.isAgg4
 z4:=Tryz.sizeOf4
 v4:=Tryz.zeroValue4
 t9:=Tryz.underlying9
 a9:=Tryz.isAgg9
 z9:=Tryz.sizeOf9
 v9:=Tryz.zeroValue9
 t20:=Tryz.underlying20
 a20:=Tryz.isAgg20
 z20:=Tryz.sizeOf20
 v20:=Tryz.zeroValue20
 t31:=Tryz.underlying131
 a31:=Tryz.isAgg131
 z31:=Tryz.sizeOf131
 v31:=Tryz.zeroValue131
 t37:=Tryz.underlying235
 a37:=Tryz.isAgg235
 z37:=Tryz.sizeOf235
 v37:=Tryz.zeroValue235
 t70:=Tryz.underlying234
 a70:=Tryz.isAgg234
 z70:=Tryz.sizeOf234
 v70:=Tryz.zeroValue234
 t72:=Tryz.underlying237
 a72:=Tryz.isAgg237
 z72:=Tryz.sizeOf237
 v72:=Tryz.zeroValue237
 t75:=Tryz.underlying240
 a75:=Tryz.isAgg240
 z75:=Tryz.sizeOf240
 v75:=Tryz.zeroValue240
 t76:=Tryz.underlying241
 a76:=Tryz.isAgg241
 z76:=Tryz.sizeOf241
 v76:=Tryz.zeroValue241
 t127:=Tryz.underlying283
 a127:=Tryz.isAgg283
 z127:=Tryz.sizeOf283
 v127:=Tryz.zeroValue283
 t164:=Tryz.underlying314
 a164:=Tryz.isAgg314
 z164:=Tryz.sizeOf314
 v164:=Tryz.zeroValue314
def lTrim_ren:Go.Shelf.Ren:=⟨λ| 101=>169 | 208=>225 | 206=>261 | n=>n,λ| 9=>9 | 4=>4 | 3=>3 | n=>n,λn=>n⟩
theorem lTrim:Lays.n101 Tryz.prog lTrim_ren where
 mixed:=by kernel_rfl
 f101:=Tryz.func169.trans (congrArg some (by kernel_rfl))
 f206:=Tryz.func261.trans (congrArg some (by kernel_rfl))
 f208:=Tryz.func225.trans (congrArg some (by kernel_rfl))
 t3:=Tryz.underlying3
 a3:=Tryz.isAgg3
 z3:=Tryz.sizeOf3
 v3:=Tryz.zeroValue3
 t4:=Tryz.underlying4
 a4:=Tryz.isAgg4
 z4:=Tryz.sizeOf4
 v4:=Tryz.zeroValue4
 t9:=Tryz.underlying9
 a9:=Tryz.isAgg9
 z9:=Tryz.sizeOf9
 v9:=Tryz.zeroValue9
def lIndex_ren:Go.Shelf.Ren:=⟨λ| 143=>239 | 219=>244 | 217=>266 | 225=>267 | 224=>268 | 267=>269 | 266=>278 | 314=>279 | n=>n,λ| 9=>9 | 3=>3 | 4=>4 | 5=>5 | 46=>331 | 146=>347 | 51=>334 | n=>n,λ| 1=>0 | n=>n⟩
theorem lIndex:Lays.n143 Tryz.prog lIndex_ren where
 mixed:=by kernel_rfl
 f143:=Tryz.func239.trans (congrArg some (by kernel_rfl))
 f217:=Tryz.func266.trans (congrArg some (by kernel_rfl))
 f219:=Tryz.func244.trans (congrArg some (by kernel_rfl))
 f224:=Tryz.func268.trans (congrArg some (by kernel_rfl))
 f225:=Tryz.func267.trans (congrArg some (by kernel_rfl))
 f266:=Tryz.func278.trans (congrArg some (by kernel_rfl))
 f267:=Tryz.func269.trans (congrArg some (by kernel_rfl))
 f314:=Tryz.func279.trans (congrArg some (by kernel_rfl))
 t3:=Tryz.underlying3
 a3:=Tryz.isAgg3
 z3:=Tryz.sizeOf3
 v3:=Tryz.zeroValue3
 t4:=Tryz.underlying4
 a4:=Tryz.isAgg4
 z4:=Tryz.sizeOf4
 v4:=Tryz.zeroValue4
 t5:=Tryz.underlying5
 a5:=Tryz.isAgg5
 z5:=Tryz.sizeOf5
 v5:=Tryz.zeroValue5
 t9:=Tryz.underlying9
 a9:=Tryz.isAgg9
 z9:=Tryz.sizeOf9
 v9:=Tryz.zeroValue9
 t46:=Tryz.underlying331
 a46:=Tryz.isAgg331
 z46:=Tryz.sizeOf331
 v46:=Tryz.zeroValue331
 t51:=Tryz.underlying334
 a51:=Tryz.isAgg334
 z51:=Tryz.sizeOf334
 v51:=Tryz.zeroValue334
 t146:=Tryz.underlying347
 a146:=Tryz.isAgg347
 z146:=Tryz.sizeOf347
 v146:=Tryz.zeroValue347
 g1:=by kernel_rfl
def lCut_ren:Go.Shelf.Ren:=⟨λ| 145=>151 | 220=>207 | 219=>244 | 217=>266 | 225=>267 | 224=>268 | 267=>269 | 266=>278 | 314=>279 | n=>n,λ| 9=>9 | 4=>4 | 59=>229 | 3=>3 | 5=>5 | 46=>331 | 146=>347 | 51=>334 | n=>n,λ| 1=>0 | n=>n⟩
theorem lCut:Lays.n145 Tryz.prog lCut_ren where
 mixed:=by kernel_rfl
 f145:=Tryz.func151.trans (congrArg some (by kernel_rfl))
 f217:=Tryz.func266.trans (congrArg some (by kernel_rfl))
 f219:=Tryz.func244.trans (congrArg some (by kernel_rfl))
 f220:=Tryz.func207.trans (congrArg some (by kernel_rfl))
 f224:=Tryz.func268.trans (congrArg some (by kernel_rfl))
 f225:=Tryz.func267.trans (congrArg some (by kernel_rfl))
 f266:=Tryz.func278.trans (congrArg some (by kernel_rfl))
 f267:=Tryz.func269.trans (congrArg some (by kernel_rfl))
 f314:=Tryz.func279.trans (congrArg some (by kernel_rfl))
 t3:=Tryz.underlying3
 a3:=Tryz.isAgg3
 z3:=Tryz.sizeOf3
 v3:=Tryz.zeroValue3
 t4:=Tryz.underlying4
 a4:=Tryz.isAgg4
 z4:=Tryz.sizeOf4
 v4:=Tryz.zeroValue4
 t5:=Tryz.underlying5
 a5:=Tryz.isAgg5
 z5:=Tryz.sizeOf5
 v5:=Tryz.zeroValue5
 t9:=Tryz.underlying9
 a9:=Tryz.isAgg9
 z9:=Tryz.sizeOf9
 v9:=Tryz.zeroValue9
 t46:=Tryz.underlying331
 a46:=Tryz.isAgg331
 z46:=Tryz.sizeOf331
 v46:=Tryz.zeroValue331
 t51:=Tryz.underlying334
 a51:=Tryz.isAgg334
 z51:=Tryz.sizeOf334
 v51:=Tryz.zeroValue334
 t59:=Tryz.underlying229
 a59:=Tryz.isAgg229
 z59:=Tryz.sizeOf229
 v59:=Tryz.zeroValue229
 t146:=Tryz.underlying347
 a146:=Tryz.isAgg347
 z146:=Tryz.sizeOf347
 v146:=Tryz.zeroValue347
 g1:=by kernel_rfl
theorem lExtra:Builder.Extra Tryz.prog lJoin_ren where
 sizeBuilder:=by kernel_rfl
 liesBuilder:=by kernel_rfl
 t5:=Tryz.underlying5
 a5:=Tryz.isAgg5
 z5:=Tryz.sizeOf5
 v5:=Tryz.zeroValue5
 infoByte:=by kernel_rfl
 cellsByte:=by kernel_rfl
 sizeByte:=by kernel_rfl
 neB5:=by decide
theorem tab17 {w : World} {X : Cx} (h : GlOk w X) : Lib.TabIs Tryz.prog w "internal/strconv.uint64pow10" .u64 Lib.pow10Tab := tab_is h (b := 1) (by simp [glob]) (by kernel_rfl)
theorem err_cell {w:World} {X:Cx} (h:GlOk w X) {b:Nat} (hm:(b,errCell) ∈ glob):∃ ev,w.cell? ⟨b,0,none⟩ = some ev/\(ev = .nilIface\/∃ te pe,ev = .iface te pe):=by
 obtain ⟨arr,t,fr,h1,ev,h2,h3⟩:=cell_is h hm;exact ⟨ev,by simp [World.cell?,h1,h2],h3⟩
theorem int_cell {w:World} {X:Cx} (h:GlOk w X):∃ m,w.cell? ⟨0,0,none⟩ = some (.int .i64 m):=by
 obtain ⟨arr,t,fr,h1,m,h2⟩:=cell_is h (b:=0) (p:=intCell) (by simp [glob]);exact ⟨m,by simp [World.cell?,h1,h2]⟩
theorem hItoa_ok {args:List V} {r:V} (h:hItoa args = some r):CallOk Tryz.prog 75 args [] r []:=by
 unfold hItoa at h;split at h
 ·rename_i n;obtain ⟨s,hs,rfl⟩:=Option.map_eq_some_iff.1 h;unfold strconv_Itoa at hs;split at hs
  ·rename_i hn;cases hs;exact itoa_ok lItoa (λ_ _=>enters Tryz.func75 (by kernel_rfl) (by kernel_rfl) _ _) (λw X hg=>tab17 hg) n hn.1 hn.2
  ·cases hs
 ·cases h
theorem hAtoi_ok {args:List V} {r:V} (h:hAtoi args = some r):CallOk Tryz.prog 168 args [] r []:=by
 unfold hAtoi at h;split at h
 ·rename_i s;split at h
  ·rename_i hs;cases h;exact atoi_ok lAtoi (λ_ _=>enters Tryz.func168 (by kernel_rfl) (by kernel_rfl) _ _) (λw X hg=>err_cell hg (by simp [glob,lAtoi_ren])) (λw X hg=>err_cell hg (by simp [glob,lAtoi_ren])) s hs
  ·cases h
 ·cases h
theorem hJoin_ok {args:List V} {r:V} (h:hJoin args = some r):CallOk Tryz.prog 76 args [] r []:=by
 unfold hJoin at h;split at h
 ·rename_i f c l sep;obtain ⟨xs,hxs,h⟩:=Option.bind_eq_some_iff.1 h;obtain ⟨s,hs,rfl⟩:=Option.map_eq_some_iff.1 h;unfold strings_Join at hs;split at hs
  ·rename_i hc;cases hs;exact join_ok lJoin lExtra (λ_ _=>enters Tryz.func76 (by kernel_rfl) (by kernel_rfl) _ _) f c l xs sep hxs hc.1 hc.2
  ·cases hs
 ·cases h
theorem hTrim_ok {args:List V} {r:V} (h:hTrim args = some r):CallOk Tryz.prog 169 args [] r []:=by
 unfold hTrim at h;split at h
 ·cases h;exact trimPrefix_ok lTrim (λ_ _=>enters Tryz.func169 (by kernel_rfl) (by kernel_rfl) _ _) _ _
 ·cases h
theorem hIndex_ok {args:List V} {r:V} (h:hIndex args = some r):CallOk Tryz.prog 239 args [] r []:=by
 unfold hIndex at h;split at h
 ·split at h
  ·rename_i hs;cases h;exact index_ok lIndex (λ_ _=>enters Tryz.func239 (by kernel_rfl) (by kernel_rfl) _ _) (λw X hg=>int_cell hg) _ _ hs
  ·cases h
 ·cases h
theorem hCut_ok {args:List V} {r:V} (h:hCut args = some r):CallOk Tryz.prog 151 args [] r []:=by
 unfold hCut at h;split at h
 ·split at h
  ·rename_i hs;cases h;exact cut_ok lCut (λ_ _=>enters Tryz.func151 (by kernel_rfl) (by kernel_rfl) _ _) (λw X hg=>int_cell hg) _ _ hs
  ·cases h
 ·cases h
theorem lookL_mem:∀ {l:List (FuncId × (List V->Option V))} {g:FuncId} {h:List V->Option V},lookL l g = some h->(g,h) ∈ l
 | [],_,_,h=>by cases h
 | (k,f) :: l,g,h,hh=>by
  unfold lookL at hh;split at hh
  ·rename_i e; subst e; cases hh; exact List.mem_cons_self
  ·exact List.mem_cons_of_mem _ (lookL_mem hh)
theorem hlib:∀ g h args r,Lb g = some h->h args = some r->CallOk Tryz.prog g args [] r []:=λg h args r hg hr=>by
 have hm:=lookL_mem hg;simp only [libT,List.mem_cons,Prod.mk.injEq,List.mem_nil_iff,or_false] at hm;rcases hm with ⟨rfl,rfl⟩ | ⟨rfl,rfl⟩ | ⟨rfl,rfl⟩ | ⟨rfl,rfl⟩ | ⟨rfl,rfl⟩ | ⟨rfl,rfl⟩ | ⟨rfl,rfl⟩
 ·cases args with
  | nil=>cases hr; exact awake_ok
  | cons a l=>cases hr
 ·exact hItoa_ok hr
 ·exact hAtoi_ok hr
 ·exact hJoin_ok hr
 ·exact hTrim_ok hr
 ·exact hIndex_ok hr
 ·exact hCut_ok hr
end Go.Proofs.YteiciemjanhdcaaGreatDoor
end
section
namespace Go
variable {H:Type} {enc:TypeId × Value->H}
theorem returnsInHanded_of_laid_shaped {a:Assume} {C:Checked} {os:Os} {f:FuncId} {fn:Func} {s:ChangeSpec} {conds:List PathCond} {apart fresh handsOn again:Bool} {X:World->Array Value->Prop}
  (hX:∀ (w w':World) (args:Array Value),w.heap = w'.heap->X w args->X w' args)
  (own:ownKnob C.prog.godebug = none) (started:os.Started) (noInit:C.prog.inits.idxOf? f = none) (hfn:C.prog.funcs[f]? = some fn)
  (witness:∃ (w:World) (tape:Tape) (i:Input),w.os = os/\(w.forCall tape i).Shaped C.prog/\i.vars = []/\Input.okWide C.prog (w.forCall tape i) .any w.heap.size f i /\
   ((s.pre enc C.prog fn conds apart (w.forCall tape i).memory i.args/\X (w.forCall tape i).memory i.args)/\sizedMet enc C.prog fn (OpenSpec.ofChange s) apart (w.forCall tape i).memory i.args)/\a.holds C.prog (lone (Frame.enter C.prog f i.args .normal) [] (w.forCall tape i)))
  (contract:∀ (W:World) (base:Nat) (args:Array Value) (ds gs:List (DataW H)) (before:List MemPlace),
   (∀ (j:Nat) t v,fn.params[j]? = some t->args[j]? = some v->Value.okWide C.prog W .any base t v) ->
   DataW.Whole enc C.prog fn.params.toList s.vars apart W args.toList ds gs before ->
   W.ShapedOpen C.prog->X W args ->
   Calls C.prog f args W λe W'=>∃ v,e = .returned v/\s.post enc C.prog fn apart fresh handsOn again W args v W') :
  ReturnsInHanded a C os f .any (λw args=>(s.pre enc C.prog fn conds apart w args/\X w args)/\sizedMet enc C.prog fn (OpenSpec.ofChange s) apart w args) (s.post enc C.prog fn apart fresh handsOn again):=by
 refine returnsInHanded_of_calls own started noInit witness ?_;intro w tape i _ hsh _ hok hpre hholds;obtain ⟨_,_,_,fn',hfn',_,_,_,_,hval⟩:=hok;have e:fn' = fn:=Option.some.inj (hfn'.symm.trans hfn);subst e;obtain ⟨⟨⟨ds,gs,before,hw,hc⟩,hx⟩,hz⟩:=hpre;have hw':=DataW.Whole.of_heap (w':=w.forCall tape i) (by rfl) hw;refine (contract (w.forCall tape i) w.heap.size i.args ds gs before hval hw' hsh (hX _ _ _ (by rfl) hx)).mono λe W' ⟨v,he,hp⟩=>?_;subst he;exact ChangeSpec.post_blind hp
end Go
namespace Go.Proofs.YteiciemjanhdcaaGreatDoor
open Go Go.Ab Go.Tx Go.ChangeShapes Go.WideShapes Go.ChangeAt Go.WideMaps Go.WideElems Go.RowKit
def laid7 : List (String × DataW Unit) := [("math/bits.deBruijn32tab", Rows.laid_math_bits_deBruijn32tab), ("math/bits.deBruijn64tab", Rows.laid_math_bits_deBruijn64tab), ("internal/strconv.uint64pow10", Rows.laid_internal_strconv_uint64pow10), ("unicode/utf8.acceptRanges", Rows.laid_unicode_utf8_acceptRanges), ("strconv.ErrRange", Rows.laid_strconv_ErrRange), ("strconv.ErrSyntax", Rows.laid_strconv_ErrSyntax), ("unicode/utf8.first", Rows.laid_unicode_utf8_first)]
theorem g1 : Tryz.prog.globalNamed "internal/strconv.uint64pow10" = some 1 := by kernel_rfl
theorem g2 : Tryz.prog.globalNamed "strconv.ErrSyntax" = some 2 := by kernel_rfl
theorem g3 : Tryz.prog.globalNamed "strconv.ErrRange" = some 3 := by kernel_rfl
theorem star : "*" ++ "errors.errorString" = "*errors.errorString" := by decide
theorem row351 (u : TypeId) (h : Tryz.prog.typeName? 3 u = some "*errors.errorString") : u = 351 :=
 typeName_ptr_named (nm := "errors.errorString") (by rw [star]; kernel_rfl) (by kernel_rfl) (by decide) u (by rw [star]; exact h)
theorem glE {W:World} {b n:Nat} {c:Array Value} {P:Program} {nm:String} (hg:P.globalNamed nm = some b) (h:W.var? P nm = some c):∃ t fr,W.heap[b]? = some (.cells c t fr):=by
 simp only [World.var?,hg,Option.bind_some] at h;cases hb:W.heap[b]? with
 | none=>rw [hb] at h; cases h
 | some o =>
  cases o with
  | cells a t fr=>rw [hb] at h; simp only [Option.some.injEq] at h; subst h; exact ⟨t,fr,rfl⟩
  | _=>rw [hb] at h; cases h
theorem glC {W:World} {b:Nat} {v:Value} (h:W.cell? ⟨b,0,none⟩ = some v):∃ c t fr,W.heap[b]? = some (.cells c t fr)/\c[0]? = some v:=by
 simp only [World.cell?] at h;cases hb:W.heap[b]? with
 | none=>rw [hb] at h; cases h
 | some o =>
  cases o with
  | cells a t fr=>rw [hb] at h; exact ⟨a,t,fr,rfl,h⟩
  | _=>rw [hb] at h; cases h
theorem laid_plain {W:World} (h:laidMetH Tryz.prog laid7 W):laidMet Tryz.prog laid7 W:=by
 rwa [MakeChecks.laidMetH_plain _ _ _ (by kernel_rfl)] at h
set_option maxRecDepth 100000 in
theorem tab10 {W : World} (h : laidMet Tryz.prog laid7 W) : Lib.TabIs Tryz.prog W "internal/strconv.uint64pow10" .u64 Lib.pow10Tab :=
 Lib.tabIs_of_head (t := 333) (e := 309) (n := 20) (rest := laid7.drop 3) g1 (by kernel_rfl) Tryz.underlying333 Tryz.underlying309 (by kernel_rfl) (by kernel_rfl) (show laidMet Tryz.prog (("internal/strconv.uint64pow10", Lib.tabData .u64 Lib.pow10Tab) :: laid7.drop 3) W from h.tail.tail)
theorem errRange {W : World} (h : laidMet Tryz.prog laid7 W) : ∃ a, W.var? Tryz.prog "strconv.ErrRange" = some #[.iface 351 (.pointer (some a))] := by
 obtain ⟨a,s,hv,-,-,-⟩:=laid_sentinel h.tail.tail.tail.tail g3 (show (Tryz.prog.globals[3]?).map (·.type) = some 240 by kernel_rfl) Tryz.underlying240 row351 Tryz.underlying351 Tryz.underlying353 rfl rfl Tryz.underlying9 (by kernel_rfl) (by kernel_rfl);exact ⟨a,hv⟩
theorem errSyntax {W : World} (h : laidMet Tryz.prog laid7 W) : ∃ a, W.var? Tryz.prog "strconv.ErrSyntax" = some #[.iface 351 (.pointer (some a))] := by
 obtain ⟨a,s,hv,-,-,-⟩:=laid_sentinel h.tail.tail.tail.tail.tail g2 (show (Tryz.prog.globals[2]?).map (·.type) = some 240 by kernel_rfl) Tryz.underlying240 row351 Tryz.underlying351 Tryz.underlying353 rfl rfl Tryz.underlying9 (by kernel_rfl) (by kernel_rfl);exact ⟨a,hv⟩
theorem maxLenCell {W:World} (h:W.ShapedOpen Tryz.prog):∃ m,W.cell? ⟨0,0,none⟩ = some (.int .i64 m):=by
 have hr:((begin Tryz.prog (λ_ _=>0) default).world.heap[0]?).bind Obj.row? = some (#[.int .i64 0],3):=by kernel_rfl
 exact cell_of_shapedOpen_int (t:=3) (zero:=#[.int .i64 0]) h (of_decide_eq_true (by kernel_rfl)) hr rfl (by kernel_rfl) (by kernel_rfl) Tryz.underlying3
theorem gl_laid {W:World} (hs:W.ShapedOpen Tryz.prog) (hL:laidMetH Tryz.prog laid7 W):GlOk W (cx0 W):=by
 have h:=laid_plain hL;obtain ⟨m,hm⟩:=maxLenCell hs;obtain ⟨a3,h3⟩:=errRange h;obtain ⟨a2,h2⟩:=errSyntax h;have h1:=tab10 h;unfold Lib.TabIs at h1;intro x hx;simp only [glob,List.mem_cons,List.mem_nil_iff,or_false] at hx;have om:∀ {b:Nat} {c:Array Value} {t:TypeId} {fr:Nat × Nat},W.heap[b]? = some (.cells c t fr)->∃ e,(cx0 W).ω b = some (e,true):=λ{b c t fr} hb=>⟨c.size,by simp [cx0,hb]⟩
 rcases hx with rfl | rfl | rfl | rfl
 ·obtain ⟨c,t,fr,hb,hc⟩:=glC hm;exact ⟨om hb,c,t,fr,hb,m,hc⟩
 ·obtain ⟨t,fr,hb⟩:=glE (n:=0) g1 h1;exact ⟨om hb,_,t,fr,hb,rfl⟩
 ·obtain ⟨t,fr,hb⟩:=glE (n:=0) g2 h2;exact ⟨om hb,_,t,fr,hb,_,rfl,Or.inr ⟨_,_,rfl⟩⟩
 ·obtain ⟨t,fr,hb⟩:=glE (n:=0) g3 h3;exact ⟨om hb,_,t,fr,hb,_,rfl,Or.inr ⟨_,_,rfl⟩⟩
end Go.Proofs.YteiciemjanhdcaaGreatDoor
end
section
set_option maxRecDepth 100000
namespace Go.Proofs.YteiciemjanhdcaaGreatDoor
open Go Go.Ab Go.Tx
noncomputable section
def KT (e:Entry) (j:TH) (l:List Entry) (n:Nat):Prop:=∀ x:denP e.ps,fnT Tryz.prog Hn.hints j (tabT l) n e.g (ofPms e.ps x) e.rs = e.F x
abbrev OT (e:Entry):Prop:=EntryOk Tryz.prog Hn.hints Lb e
theorem entK {e:Entry} {j:TH} {l:List Entry} {n:Nat} (h:TOk Tryz.prog Hn.hints Lb (tabT l)) (hj:∀ g,j.lib g = false->Lb g = none) (k:KT e j l n):OT e:=entry_ok h hj n e.g e.ps e.rs e.F k
abbrev gT:Ty:=.pair I (.pair I .unit)
def base_Within (a0:Int) (a1:Int) (a2:Int):Option Bool :=
 (bif decide (a1<=a0) then
   some (decide (a0<=a2))
  else
   some false).bind λ(p1:Bool) =>
 some p1
def e_base_Within:Entry:=⟨10,[.ty I,.ty I,.ty I],[(.bool,0)],λx=>base_Within x.1 x.2.1 x.2.2⟩
def j_base_Within:TH:=mkTH [([],10,.region 1,{ lv:=[⟨none,6,0⟩],ps:=[(.bool,0)],D:=⟨32704⟩ })] []
theorem k_base_Within:KT e_base_Within j_base_Within [] 40:=λx=>by kernel_rfl
theorem o_base_Within:OT e_base_Within:=entK tab_nil hJ k_base_Within
def ref01_isSized (a0:(Int × Int × Int × Int × Int × Int × Unit)) (a1:Int):Option Bool :=
 (base_Within a0.1 (w64 (0 - a1)) a1).bind λx1 =>
 bif !x1 then
  some false
 else
  (base_Within a0.2.1 (w64 (0 - a1)) a1).bind λx2 =>
  bif !x2 then
   some false
  else
   (base_Within a0.2.2.1 (w64 (0 - a1)) a1).bind λx3 =>
   bif !x3 then
    some false
   else
    (base_Within a0.2.2.2.1 (w64 (0 - a1)) a1).bind λx4 =>
    bif !x4 then
     some false
    else
     (base_Within a0.2.2.2.2.1 (w64 (0 - a1)) a1).bind λx5 =>
     bif !x5 then
      some false
     else
      (base_Within a0.2.2.2.2.2.1 (w64 (0 - a1)) a1).bind λx6 =>
      bif !x6 then
       some false
      else
       some true
def e_ref01_isSized:Entry:=⟨89,[.ty (.pair I (.pair I (.pair I (.pair I gT)))),.ty I],[(.bool,0)],λx=>ref01_isSized x.1 x.2⟩
def j_ref01_isSized:TH:=mkTH [] []
theorem k_ref01_isSized:KT e_ref01_isSized j_ref01_isSized [e_base_Within] 40:=λx=>by kernel_rfl
theorem o_ref01_isSized:OT e_ref01_isSized:=entK (tab_cons o_base_Within tab_nil) hJ k_ref01_isSized
def ref01_PieceErr (a0:(Int × Int × Int × Int × Int × Int × Int × Int × Int × Int × Int × Int × Int × Int × Int × Int × Int × Int × Int × Unit)):Option Int :=
 ((ref01_isSized (a0.1,a0.2.1,a0.2.2.1,a0.2.2.2.1,a0.2.2.2.2.1,a0.2.2.2.2.2.1,()) (1000:Int)).bind λx1 =>
  bif !x1 then
   some true
  else
   (ref01_isSized (a0.2.2.2.2.2.2.1,a0.2.2.2.2.2.2.2.1,a0.2.2.2.2.2.2.2.2.1,a0.2.2.2.2.2.2.2.2.2.1,a0.2.2.2.2.2.2.2.2.2.2.1,a0.2.2.2.2.2.2.2.2.2.2.2.1,()) (100:Int)).bind λx2 =>
   bif !x2 then
    some true
   else
    (ref01_isSized (a0.2.2.2.2.2.2.2.2.2.2.2.2.1,a0.2.2.2.2.2.2.2.2.2.2.2.2.2.1,a0.2.2.2.2.2.2.2.2.2.2.2.2.2.2.1,a0.2.2.2.2.2.2.2.2.2.2.2.2.2.2.2.1,a0.2.2.2.2.2.2.2.2.2.2.2.2.2.2.2.2.1,a0.2.2.2.2.2.2.2.2.2.2.2.2.2.2.2.2.2.1,()) (100:Int)).bind λx3 =>
    bif !x3 then
     some true
    else
     (base_Within a0.2.2.2.2.2.2.2.2.2.2.2.2.2.2.2.2.2.2.1 (1:Int) (100:Int)).bind λx4 =>
     some (!x4)).bind λ(p5:Bool) =>
 bif p5 then
  some 2
 else
  some 0
def e_ref01_PieceErr:Entry:=⟨23,[.ty (.pair I (.pair I (.pair I (.pair I (.pair I (.pair I (.pair I (.pair I (.pair I (.pair I (.pair I (.pair I (.pair I (.pair I (.pair I (.pair I (.pair I gT)))))))))))))))))],[(I,0)],λx=>ref01_PieceErr x⟩
def j_ref01_PieceErr:TH:=mkTH [([],23,.region 1,{ lv:=[⟨none,24,0⟩],ps:=[(.bool,0)],D:=⟨33554424⟩,rs:=[⟨0,1⟩],Dn:=⟨32489200⟩ })] []
theorem k_ref01_PieceErr:KT e_ref01_PieceErr j_ref01_PieceErr [e_base_Within,e_ref01_isSized] 40:=λx=>by kernel_rfl
theorem o_ref01_PieceErr:OT e_ref01_PieceErr:=entK (tab_cons o_base_Within (tab_cons o_ref01_isSized tab_nil)) hJ k_ref01_PieceErr
def base_Mod (a0:Int) (a1:Int):Option Int :=
 bif decide (a1 = 0) then
  none
 else
  (bif decide (a0.tmod a1 < 0) then
    some (w64 ((a0.tmod a1) + a1))
   else
    some (a0.tmod a1)).bind λ(p1:Int) =>
  some p1
def e_base_Mod:Entry:=⟨24,[.ty I,.ty I],[(I,0)],λx=>base_Mod x.1 x.2⟩
def j_base_Mod:TH:=mkTH [([],24,.cond 9,{ lv:=[⟨none,0,0⟩],ps:=[(I,0)],D:=⟨7169⟩ })] []
theorem k_base_Mod:KT e_base_Mod j_base_Mod [] 40:=λx=>by kernel_rfl
theorem o_base_Mod:OT e_base_Mod:=entK tab_nil hJ k_base_Mod
def ref01_At (a0:(Int × Int × Int × Int × Int × Int × Int × Int × Int × Int × Int × Int × Int × Int × Int × Int × Int × Int × Int × Unit)) (a1:Int):Option (Int × Int × Int × Int × Int × Int × Unit) :=
 let v1:Int:=w64 ((w64 (a0.1 + (w64 (a0.2.2.2.2.2.2.1 * a1)))) + (w64 ((w64 (a0.2.2.2.2.2.2.2.2.2.2.2.2.1 * a1)) * a1)))
 let v2:Int:=w64 ((w64 (a0.2.1 + (w64 (a0.2.2.2.2.2.2.2.1 * a1)))) + (w64 ((w64 (a0.2.2.2.2.2.2.2.2.2.2.2.2.2.1 * a1)) * a1)))
 let v3:Int:=w64 ((w64 (a0.2.2.1 + (w64 (a0.2.2.2.2.2.2.2.2.1 * a1)))) + (w64 ((w64 (a0.2.2.2.2.2.2.2.2.2.2.2.2.2.2.1 * a1)) * a1)))
 let v4:Int:=w64 ((w64 (a0.2.2.2.1 + (w64 (a0.2.2.2.2.2.2.2.2.2.1 * a1)))) + (w64 ((w64 (a0.2.2.2.2.2.2.2.2.2.2.2.2.2.2.2.1 * a1)) * a1)))
 let v5:Int:=w64 ((w64 (a0.2.2.2.2.1 + (w64 (a0.2.2.2.2.2.2.2.2.2.2.1 * a1)))) + (w64 ((w64 (a0.2.2.2.2.2.2.2.2.2.2.2.2.2.2.2.2.1 * a1)) * a1)))
 let v6:Int:=w64 ((w64 (a0.2.2.2.2.2.1 + (w64 (a0.2.2.2.2.2.2.2.2.2.2.2.1 * a1)))) + (w64 ((w64 (a0.2.2.2.2.2.2.2.2.2.2.2.2.2.2.2.2.2.1 * a1)) * a1)))
 some (v1,v2,v3,v4,v5,v6,())
def e_ref01_At:Entry:=⟨25,[.ty (.pair I (.pair I (.pair I (.pair I (.pair I (.pair I (.pair I (.pair I (.pair I (.pair I (.pair I (.pair I (.pair I (.pair I (.pair I (.pair I (.pair I gT))))))))))))))))),.ty I],[((.pair I (.pair I (.pair I (.pair I gT)))),0)],λx=>ref01_At x.1 x.2⟩
def j_ref01_At:TH:=mkTH [] []
theorem k_ref01_At:KT e_ref01_At j_ref01_At [] 40:=λx=>by kernel_rfl
theorem o_ref01_At:OT e_ref01_At:=entK tab_nil hJ k_ref01_At
def ref07_CheckRaw (a0:(List Int)):Option (Int × Int) :=
 bif decide ((a0.length:Int) = 0) then
  some (0,10)
 else
  bif decide ((a0.length:Int) > 60) then
   some (0,8)
  else
   (loopO (λ(s2:Int) =>
     bif decide (s2 < (a0.length:Int)) then
      (idx a0 s2).bind λx3 =>
      (base_Within x3 (-100000:Int) (100000:Int)).bind λx4 =>
      bif !x4 then
       some (.inr (.inr (s2,2)))
      else
       some (.inl (w64 (s2 + 1)))
     else
      some (.inr (.inl ()))) 0).bind (Sum.elim (λ(p5:Unit) =>
   some (0,0)) some)
def e_ref07_CheckRaw:Entry:=⟨90,[.ty (.sl I)],[(I,0),(I,0)],λx=>ref07_CheckRaw x⟩
def j_ref07_CheckRaw:TH:=mkTH [([],90,.block 0,{ lv:=[],ps:=[],abn:=true,D:=⟨16775184⟩ }),
 ([],90,.loop 0,{ lv:=[⟨none,4,0⟩],ps:=[(I,0)],D:=⟨16775184⟩ })] []
theorem k_ref07_CheckRaw:KT e_ref07_CheckRaw j_ref07_CheckRaw [e_base_Within] 40:=λx=>by kernel_rfl
theorem o_ref07_CheckRaw:OT e_ref07_CheckRaw:=entK (tab_cons o_base_Within tab_nil) hJ k_ref07_CheckRaw
def ref07_RawErr (a0:(List Int)):Option Int :=
 (ref07_CheckRaw a0).bind λx1 =>
 some x1.2
def e_ref07_RawErr:Entry:=⟨26,[.ty (.sl I)],[(I,0)],λx=>ref07_RawErr x⟩
def j_ref07_RawErr:TH:=mkTH [] []
theorem k_ref07_RawErr:KT e_ref07_RawErr j_ref07_RawErr [e_ref07_CheckRaw] 40:=λx=>by kernel_rfl
theorem o_ref07_RawErr:OT e_ref07_RawErr:=entK (tab_cons o_ref07_CheckRaw tab_nil) hJ k_ref07_RawErr
def sensor_within (a0:Int) (a1:Int) (a2:Int):Option Bool :=
 (bif decide (a1<=a0) then
   some (decide (a0<=a2))
  else
   some false).bind λ(p1:Bool) =>
 some p1
def e_sensor_within:Entry:=⟨103,[.ty I,.ty I,.ty I],[(.bool,0)],λx=>sensor_within x.1 x.2.1 x.2.2⟩
def j_sensor_within:TH:=mkTH [([],103,.region 1,{ lv:=[⟨none,6,0⟩],ps:=[(.bool,0)],D:=⟨32704⟩ })] []
theorem k_sensor_within:KT e_sensor_within j_sensor_within [] 40:=λx=>by kernel_rfl
theorem o_sensor_within:OT e_sensor_within:=entK tab_nil hJ k_sensor_within
def sensor_sized (a0:Int) (a1:Int):Option Bool :=
 (sensor_within a0 (w64 (0 - a1)) a1).bind λx1 =>
 some x1
def e_sensor_sized:Entry:=⟨104,[.ty I,.ty I],[(.bool,0)],λx=>sensor_sized x.1 x.2⟩
def j_sensor_sized:TH:=mkTH [] []
theorem k_sensor_sized:KT e_sensor_sized j_sensor_sized [e_sensor_within] 40:=λx=>by kernel_rfl
theorem o_sensor_sized:OT e_sensor_sized:=entK (tab_cons o_sensor_within tab_nil) hJ k_sensor_sized
def sensor_pairsErr_1 (a0:(Int × Int × Unit)):Option Bool :=
 ((sensor_sized a0.1 (1000:Int)).bind λx1 =>
  bif !x1 then
   some true
  else
   (sensor_sized a0.2.1 (1000:Int)).bind λx2 =>
   some (!x2)).bind λ(p3:Bool) =>
 some p3
def e_sensor_pairsErr_1:Entry:=⟨167,[.ty gT],[(.bool,0)],λx=>sensor_pairsErr_1 x⟩
def j_sensor_pairsErr_1:TH:=mkTH [([],167,.region 1,{ lv:=[⟨none,2,0⟩],ps:=[(.bool,0)],D:=⟨8188⟩,rs:=[⟨0,1⟩],Dn:=⟨7924⟩ })] []
theorem k_sensor_pairsErr_1:KT e_sensor_pairsErr_1 j_sensor_pairsErr_1 [e_sensor_sized] 40:=λx=>by kernel_rfl
theorem o_sensor_pairsErr_1:OT e_sensor_pairsErr_1:=entK (tab_cons o_sensor_sized tab_nil) hJ k_sensor_pairsErr_1
def slices_IndexFunc_Lapi_SensorPair_api_SensorPair_of_sensor_pairsErr_1 (a0:(List (Int × Int × Unit))):Option Int :=
 (loopO (λ(s2:Int) =>
   bif decide (s2 < (a0.length:Int)) then
    (idx a0 s2).bind λx3 =>
    (sensor_pairsErr_1 x3).bind λx4 =>
    bif x4 then
     some (.inr (.inr s2))
    else
     some (.inl (w64 (s2 + 1)))
   else
    some (.inr (.inl ()))) 0).bind (Sum.elim (λ(p5:Unit) =>
 some (-1)) some)
def e_slices_IndexFunc_Lapi_SensorPair_api_SensorPair_of_sensor_pairsErr_1:Entry:=⟨222,[.ty (.sl gT),.fn 167 []],[(I,0)],λx=>slices_IndexFunc_Lapi_SensorPair_api_SensorPair_of_sensor_pairsErr_1 x.1⟩
def j_slices_IndexFunc_Lapi_SensorPair_api_SensorPair_of_sensor_pairsErr_1:TH:=mkTH [([],222,.block 0,{ lv:=[],ps:=[],abn:=true,D:=⟨524064⟩ }),
 ([],222,.loop 0,{ lv:=[⟨none,8,0⟩],ps:=[(I,0)],D:=⟨524064⟩ })] []
theorem k_slices_IndexFunc_Lapi_SensorPair_api_SensorPair_of_sensor_pairsErr_1:KT e_slices_IndexFunc_Lapi_SensorPair_api_SensorPair_of_sensor_pairsErr_1 j_slices_IndexFunc_Lapi_SensorPair_api_SensorPair_of_sensor_pairsErr_1 [e_sensor_pairsErr_1] 40:=λx=>by kernel_rfl
theorem o_slices_IndexFunc_Lapi_SensorPair_api_SensorPair_of_sensor_pairsErr_1:OT e_slices_IndexFunc_Lapi_SensorPair_api_SensorPair_of_sensor_pairsErr_1:=entK (tab_cons o_sensor_pairsErr_1 tab_nil) hJ k_slices_IndexFunc_Lapi_SensorPair_api_SensorPair_of_sensor_pairsErr_1
def slices_ContainsFunc_Lapi_SensorPair_api_SensorPair_of_sensor_pairsErr_1 (a0:(List (Int × Int × Unit))):Option Bool :=
 (slices_IndexFunc_Lapi_SensorPair_api_SensorPair_of_sensor_pairsErr_1 a0).bind λx1 =>
 some (decide (x1>=0))
def e_slices_ContainsFunc_Lapi_SensorPair_api_SensorPair_of_sensor_pairsErr_1:Entry:=⟨166,[.ty (.sl gT),.fn 167 []],[(.bool,0)],λx=>slices_ContainsFunc_Lapi_SensorPair_api_SensorPair_of_sensor_pairsErr_1 x.1⟩
def j_slices_ContainsFunc_Lapi_SensorPair_api_SensorPair_of_sensor_pairsErr_1:TH:=mkTH [] []
theorem k_slices_ContainsFunc_Lapi_SensorPair_api_SensorPair_of_sensor_pairsErr_1:KT e_slices_ContainsFunc_Lapi_SensorPair_api_SensorPair_of_sensor_pairsErr_1 j_slices_ContainsFunc_Lapi_SensorPair_api_SensorPair_of_sensor_pairsErr_1 [e_slices_IndexFunc_Lapi_SensorPair_api_SensorPair_of_sensor_pairsErr_1] 40:=λx=>by kernel_rfl
theorem o_slices_ContainsFunc_Lapi_SensorPair_api_SensorPair_of_sensor_pairsErr_1:OT e_slices_ContainsFunc_Lapi_SensorPair_api_SensorPair_of_sensor_pairsErr_1:=entK (tab_cons o_slices_IndexFunc_Lapi_SensorPair_api_SensorPair_of_sensor_pairsErr_1 tab_nil) hJ k_slices_ContainsFunc_Lapi_SensorPair_api_SensorPair_of_sensor_pairsErr_1
def sensor_unless (a0:Bool) (a1:Int):Option Int :=
 bif a0 then
  some 0
 else
  some a1
def e_sensor_unless:Entry:=⟨101,[.ty .bool,.ty I],[(I,0)],λx=>sensor_unless x.1 x.2⟩
def j_sensor_unless:TH:=mkTH [] []
theorem k_sensor_unless:KT e_sensor_unless j_sensor_unless [] 40:=λx=>by kernel_rfl
theorem o_sensor_unless:OT e_sensor_unless:=entK tab_nil hJ k_sensor_unless
def sensor_first (a0:(List Int)):Option Int :=
 (loopO (λ(s2:Int) =>
   bif decide (s2 < (a0.length:Int)) then
    (idx a0 s2).bind λx3 =>
    bif !(decide (x3 = 0)) then
     some (.inr (.inr x3))
    else
     some (.inl (w64 (s2 + 1)))
   else
    some (.inr (.inl ()))) 0).bind (Sum.elim (λ(p4:Unit) =>
 some 0) some)
def e_sensor_first:Entry:=⟨99,[.ty (.sl I)],[(I,0)],λx=>sensor_first x⟩
def j_sensor_first:TH:=mkTH [([],99,.block 0,{ lv:=[],ps:=[],abn:=true,D:=⟨32656⟩ }),
 ([],99,.loop 0,{ lv:=[⟨none,7,0⟩],ps:=[(I,0)],D:=⟨32656⟩ })] []
theorem k_sensor_first:KT e_sensor_first j_sensor_first [] 40:=λx=>by kernel_rfl
theorem o_sensor_first:OT e_sensor_first:=entK tab_nil hJ k_sensor_first
def sensor_pairsErr (a0:(List (Int × Int × Unit))):Option Int :=
 (slices_ContainsFunc_Lapi_SensorPair_api_SensorPair_of_sensor_pairsErr_1 a0).bind λx1 =>
 (sensor_unless (decide ((a0.length:Int) > 0)) (10:Int)).bind λx2 =>
 (sensor_unless (decide ((a0.length:Int)<=10)) (8:Int)).bind λx3 =>
 (sensor_unless (!x1) (2:Int)).bind λx4 =>
 (sensor_first ([x2,x3,x4])).bind λx5 =>
 some x5
def e_sensor_pairsErr:Entry:=⟨91,[.ty (.sl gT)],[(I,0)],λx=>sensor_pairsErr x⟩
def j_sensor_pairsErr:TH:=mkTH [] []
theorem k_sensor_pairsErr:KT e_sensor_pairsErr j_sensor_pairsErr [e_sensor_first,e_sensor_unless,e_slices_ContainsFunc_Lapi_SensorPair_api_SensorPair_of_sensor_pairsErr_1] 40:=λx=>by kernel_rfl
theorem o_sensor_pairsErr:OT e_sensor_pairsErr:=entK (tab_cons o_sensor_first (tab_cons o_sensor_unless (tab_cons o_slices_ContainsFunc_Lapi_SensorPair_api_SensorPair_of_sensor_pairsErr_1 tab_nil))) hJ k_sensor_pairsErr
def sensor_of (a0:(List (Int × Int × Unit))):Option (Int × Int × Int × Int × Int × Unit) :=
 (loopO (λ(s2:(Int × Int × Int × Int × Int × Int)) =>
   bif decide (s2.1 < (a0.length:Int)) then
    (idx a0 s2.1).bind λx3 =>
    some (.inl (w64 (s2.1 + 1),s2.2.1,w64 (s2.2.2.1 + x3.2.1),w64 (s2.2.2.2.1 + x3.1),w64 (s2.2.2.2.2.1 + (w64 (x3.2.1 * x3.2.1))),w64 (s2.2.2.2.2.2 + (w64 (x3.2.1 * x3.1)))))
   else
    some (.inr (s2.2.1,s2.2.2.1,s2.2.2.2.1,s2.2.2.2.2.1,s2.2.2.2.2.2))) (0,(a0.length:Int),0,0,0,0)).bind λ(p4:(Int × Int × Int × Int × Int)) =>
 some (p4.1,p4.2.1,p4.2.2.1,p4.2.2.2.1,p4.2.2.2.2,())
def e_sensor_of:Entry:=⟨92,[.ty (.sl gT)],[((.pair I (.pair I (.pair I gT))),0)],λx=>sensor_of x⟩
def j_sensor_of:TH:=mkTH [([],92,.block 0,{ lv:=[⟨some 0,3,0⟩,⟨some 0,3,1⟩,⟨some 0,3,2⟩,⟨some 0,3,3⟩,⟨some 0,3,4⟩],ps:=[(I,0),(I,0),(I,0),(I,0),(I,0)],D:=⟨70368744175648⟩,wr:=[⟨0,3⟩,⟨0,5⟩] }),
 ([],92,.loop 0,{ lv:=[⟨none,11,0⟩,⟨some 0,3,0⟩,⟨some 0,3,1⟩,⟨some 0,3,2⟩,⟨some 0,3,3⟩,⟨some 0,3,4⟩],ps:=[(I,0),(I,0),(I,0),(I,0),(I,0),(I,0)],D:=⟨70368744175648⟩,wr:=[⟨0,3⟩,⟨0,5⟩],rs:=[⟨0,3⟩,⟨0,5⟩],Dn:=⟨43255985960960⟩ })] []
theorem k_sensor_of:KT e_sensor_of j_sensor_of [] 40:=λx=>by kernel_rfl
theorem o_sensor_of:OT e_sensor_of:=entK tab_nil hJ k_sensor_of
def sensor_sums_spread (a0:(Int × Int × Int × Int × Int × Unit)):Option Int :=
 some (w64 ((w64 (a0.1 * a0.2.2.2.1)) - (w64 (a0.2.1 * a0.2.1))))
def e_sensor_sums_spread:Entry:=⟨93,[.ty (.pair I (.pair I (.pair I gT)))],[(I,0)],λx=>sensor_sums_spread x⟩
def j_sensor_sums_spread:TH:=mkTH [] []
theorem k_sensor_sums_spread:KT e_sensor_sums_spread j_sensor_sums_spread [] 40:=λx=>by kernel_rfl
theorem o_sensor_sums_spread:OT e_sensor_sums_spread:=entK tab_nil hJ k_sensor_sums_spread
def sensor_divisor (a0:(List Int)):Option Int :=
 (loopO (λ(s2:(Int × Int)) =>
   bif decide (s2.2 < (a0.length:Int)) then
    (idx a0 s2.2).bind λx3 =>
    (loopO (λ(s5:(Int × Int)) =>
      bif !(decide (s5.2 = 0)) then
       bif decide (s5.2 = 0) then
        none
       else
        some (.inl (s5.2,s5.1.tmod s5.2))
      else
       some (.inr s5.1)) (s2.1,x3)).bind λ(p6:Int) =>
    some (.inl (p6,w64 (s2.2 + 1)))
   else
    some (.inr s2.1)) (0,0)).bind λ(p7:Int) =>
 some (max p7 (w64 (0 - p7)))
def e_sensor_divisor:Entry:=⟨94,[.ty (.sl I)],[(I,0)],λx=>sensor_divisor x⟩
def j_sensor_divisor:TH:=mkTH [([],94,.block 0,{ lv:=[⟨none,3,0⟩],ps:=[(I,0)],D:=⟨524072⟩ }),
 ([],94,.loop 0,{ lv:=[⟨none,3,0⟩,⟨none,8,0⟩],ps:=[(I,0),(I,0)],D:=⟨524072⟩ }),
 ([],94,.block 2,{ lv:=[⟨none,3,0⟩],ps:=[(I,0)],D:=⟨258088⟩ }),
 ([],94,.loop 2,{ lv:=[⟨none,3,0⟩,⟨none,5,0⟩],ps:=[(I,0),(I,0)],D:=⟨258088⟩ })] []
theorem k_sensor_divisor:KT e_sensor_divisor j_sensor_divisor [] 40:=λx=>by kernel_rfl
theorem o_sensor_divisor:OT e_sensor_divisor:=entK tab_nil hJ k_sensor_divisor
def sensor_CalibrationOf (a0:(List (Int × Int × Unit))):Option ((Int × Int × Int × Unit) × Int) :=
 (sensor_pairsErr a0).bind λx1 =>
 bif !(decide (x1 = 0)) then
  some ((0,0,0,()),x1)
 else
  (sensor_of a0).bind λx2 =>
  (sensor_sums_spread x2).bind λx3 =>
  bif decide (x3 = 0) then
   some ((0,0,0,()),11)
  else
   (sensor_divisor ([w64 ((w64 (x2.1 * x2.2.2.2.2.1)) - (w64 (x2.2.1 * x2.2.2.1))),w64 ((w64 (x2.2.2.1 * x2.2.2.2.1)) - (w64 (x2.2.1 * x2.2.2.2.2.1))),x3])).bind λx4 =>
   bif decide (x4 = 0) then
    none
   else
    let v5:Int:=w64 ((w64 ((w64 (x2.1 * x2.2.2.2.2.1)) - (w64 (x2.2.1 * x2.2.2.1)))).tdiv x4)
    bif decide (x4 = 0) then
     none
    else
     let v6:Int:=w64 ((w64 ((w64 (x2.2.2.1 * x2.2.2.2.1)) - (w64 (x2.2.1 * x2.2.2.2.2.1)))).tdiv x4)
     bif decide (x4 = 0) then
      none
     else
      some ((v5,v6,w64 (x3.tdiv x4),()),0)
def e_sensor_CalibrationOf:Entry:=⟨27,[.ty (.sl gT)],[((.pair I gT),0),(I,0)],λx=>sensor_CalibrationOf x⟩
def j_sensor_CalibrationOf:TH:=mkTH [] []
theorem k_sensor_CalibrationOf:KT e_sensor_CalibrationOf j_sensor_CalibrationOf [e_sensor_divisor,e_sensor_of,e_sensor_pairsErr,e_sensor_sums_spread] 40:=λx=>by kernel_rfl
theorem o_sensor_CalibrationOf:OT e_sensor_CalibrationOf:=entK (tab_cons o_sensor_divisor (tab_cons o_sensor_of (tab_cons o_sensor_pairsErr (tab_cons o_sensor_sums_spread tab_nil)))) hJ k_sensor_CalibrationOf
def sensor_joined (a0:(List Int)):Option (List UInt8) :=
 (loopO (λ(s3:((List (List UInt8)) × Int)) =>
   bif decide (s3.2 < (a0.length:Int)) then
    (idx a0 s3.2).bind λx4 =>
    (strconv_Itoa x4).bind λx5 =>
    (app s3.1 ([x5])).bind λx6 =>
    some (.inl (x6,w64 (s3.2 + 1)))
   else
    some (.inr s3.1)) ([],0)).bind λ(p7:(List (List UInt8))) =>
 (strings_Join p7 ([32])).bind λx8 =>
 some x8
def e_sensor_joined:Entry:=⟨97,[.ty (.sl I)],[(.str,0)],λx=>sensor_joined x⟩
def j_sensor_joined:TH:=mkTH [([],97,.block 0,{ lv:=[⟨none,3,0⟩],ps:=[((.sl .str),1)],D:=⟨261928⟩ }),
 ([],97,.loop 0,{ lv:=[⟨none,3,0⟩,⟨none,8,0⟩],ps:=[((.sl .str),1),(I,0)],D:=⟨261928⟩ })] []
theorem k_sensor_joined:KT e_sensor_joined j_sensor_joined [e_strconv_Itoa,e_strings_Join] 40:=λx=>by kernel_rfl
theorem o_sensor_joined:OT e_sensor_joined:=entK (tab_cons o_strconv_Itoa (tab_cons o_strings_Join tab_nil)) hJ k_sensor_joined
def sensor_FormatLine (a0:(Int × Int × Int × Unit)):Option (List UInt8) :=
 (sensor_joined ([a0.1,a0.2.1,a0.2.2.1])).bind λx1 =>
 some x1
def e_sensor_FormatLine:Entry:=⟨29,[.ty (.pair I gT)],[(.str,0)],λx=>sensor_FormatLine x⟩
def j_sensor_FormatLine:TH:=mkTH [] []
theorem k_sensor_FormatLine:KT e_sensor_FormatLine j_sensor_FormatLine [e_sensor_joined] 40:=λx=>by kernel_rfl
theorem o_sensor_FormatLine:OT e_sensor_FormatLine:=entK (tab_cons o_sensor_joined tab_nil) hJ k_sensor_FormatLine
def sensor_parsed (a0:(List UInt8)) (a1:Int):Option ((List Int) × Bool) :=
 (loopO (λ(s2:((List Int) × (List UInt8))) =>
   (strings_Index s2.2 ([32])).bind λx3 =>
   bif decide (x3 < 0) then
    some (.inr (.inl (s2.1,s2.2)))
   else
    (slc s2.2 0 (w64 (x3 + 0))).bind λx4 =>
    (strconv_Atoi x4).bind λx5 =>
    (bif !x5.2 then
      some true
     else
      (strconv_Itoa x5.1).bind λx6 =>
      bif !(decide (x6 = x4)) then
       some true
      else
       (strings_TrimPrefix x4 ([45])).bind λx7 =>
       some (decide ((x7.length:Int) > a1))).bind λ(p8:Bool) =>
    bif p8 then
     some (.inr (.inr ([],false)))
    else
     (app s2.1 ([x5.1])).bind λx9 =>
     (slc s2.2 (w64 (x3 + 1)) (s2.2.length:Int)).bind λx10 =>
     some (.inl (x9,x10))) ([],a0)).bind (Sum.elim (λ(p11:((List Int) × (List UInt8))) =>
 (strconv_Atoi p11.2).bind λx12 =>
 (bif !x12.2 then
   some true
  else
   (strconv_Itoa x12.1).bind λx13 =>
   bif !(decide (x13 = p11.2)) then
    some true
   else
    (strings_TrimPrefix p11.2 ([45])).bind λx14 =>
    some (decide ((x14.length:Int) > a1))).bind λ(p15:Bool) =>
 bif p15 then
  some ([],false)
 else
  (app p11.1 ([x12.1])).bind λx16 =>
  some (x16,true)) some)
def e_sensor_parsed:Entry:=⟨95,[.ty .str,.ty I],[((.sl I),2000),(.bool,0)],λx=>sensor_parsed x.1 x.2⟩
def j_sensor_parsed:TH:=mkTH [([12],237,.block 2,{ lv:=[⟨some 0,6,0⟩,⟨some 0,11,0⟩],ps:=[((.sl I),1),(.str,0)],abn:=true,D:=⟨562949416550784⟩,wr:=[⟨0,6⟩,⟨0,11⟩] }),
 ([12],237,.loop 2,{ lv:=[⟨some 0,6,0⟩,⟨some 0,11,0⟩],ps:=[((.sl I),1),(.str,0)],D:=⟨562949416550784⟩,wr:=[⟨0,6⟩,⟨0,11⟩],rs:=[⟨0,12⟩],Dn:=⟨562399660736896⟩ }),
 ([41,12],95,.region 5,{ lv:=[⟨none,32,0⟩],ps:=[(.bool,0)],D:=⟨8589672448⟩ }),
 ([51,12],95,.region 5,{ lv:=[⟨none,32,0⟩],ps:=[(.bool,0)],D:=⟨8589672448⟩ })] []
theorem k_sensor_parsed:KT e_sensor_parsed j_sensor_parsed [e_strconv_Atoi,e_strconv_Itoa,e_strings_Index,e_strings_TrimPrefix] 40:=λx=>by kernel_rfl
theorem o_sensor_parsed:OT e_sensor_parsed:=entK (tab_cons o_strconv_Atoi (tab_cons o_strconv_Itoa (tab_cons o_strings_Index (tab_cons o_strings_TrimPrefix tab_nil)))) hJ k_sensor_parsed
def sensor_CheckLine (a0:(Int × Int × Int × Unit)):Option Int :=
 ((sensor_within a0.2.2.1 (1:Int) (300000000000:Int)).bind λx1 =>
  bif x1 then
   (sensor_sized a0.1 (300000000000:Int)).bind λx2 =>
   bif x2 then
    (sensor_sized a0.2.1 (300000000000:Int)).bind λx3 =>
    some x3
   else
    some false
  else
   some false).bind λ(p4:Bool) =>
 bif !p4 then
  some 2
 else
  (sensor_divisor ([a0.1,a0.2.1,a0.2.2.1])).bind λx5 =>
  (sensor_unless (decide (x5 = 1)) (3:Int)).bind λx6 =>
  some x6
def e_sensor_CheckLine:Entry:=⟨96,[.ty (.pair I gT)],[(I,0)],λx=>sensor_CheckLine x⟩
def j_sensor_CheckLine:TH:=mkTH [([],96,.region 1,{ lv:=[⟨none,3,0⟩],ps:=[(.bool,0)],D:=⟨131064⟩,rs:=[⟨0,1⟩],Dn:=⟨122600⟩ })] []
theorem k_sensor_CheckLine:KT e_sensor_CheckLine j_sensor_CheckLine [e_sensor_divisor,e_sensor_sized,e_sensor_unless,e_sensor_within] 40:=λx=>by kernel_rfl
theorem o_sensor_CheckLine:OT e_sensor_CheckLine:=entK (tab_cons o_sensor_divisor (tab_cons o_sensor_sized (tab_cons o_sensor_unless (tab_cons o_sensor_within tab_nil)))) hJ k_sensor_CheckLine
def sensor_ParseLine (a0:(List UInt8)):Option ((Int × Int × Int × Unit) × Int) :=
 (sensor_parsed a0 (12:Int)).bind λx1 =>
 (bif !x1.2 then
   some true
  else
   bif !(decide ((x1.1.length:Int) = 3)) then
    some true
   else
    (idx x1.1 2).bind λx2 =>
    some (decide (x2 < 0))).bind λ(p3:Bool) =>
 bif p3 then
  some ((0,0,0,()),7)
 else
  (idx x1.1 0).bind λx4 =>
  (idx x1.1 1).bind λx5 =>
  (idx x1.1 2).bind λx6 =>
  (sensor_CheckLine (x4,x5,x6,())).bind λx7 =>
  bif !(decide (x7 = 0)) then
   some ((0,0,0,()),x7)
  else
   some ((x4,x5,x6,()),0)
def e_sensor_ParseLine:Entry:=⟨28,[.ty .str],[((.pair I gT),0),(I,0)],λx=>sensor_ParseLine x⟩
def j_sensor_ParseLine:TH:=mkTH [([],28,.region 2,{ lv:=[⟨none,26,0⟩],ps:=[(.bool,0)],D:=⟨134201344⟩ })] []
theorem k_sensor_ParseLine:KT e_sensor_ParseLine j_sensor_ParseLine [e_sensor_CheckLine,e_sensor_parsed] 40:=λx=>by kernel_rfl
theorem o_sensor_ParseLine:OT e_sensor_ParseLine:=entK (tab_cons o_sensor_CheckLine (tab_cons o_sensor_parsed tab_nil)) hJ k_sensor_ParseLine
def base_CopyInts (a0:(List Int)):Option (List Int) :=
 (app [] a0).bind λx1 =>
 some x1
def e_base_CopyInts:Entry:=⟨32,[.ty (.sl I)],[((.sl I),1)],λx=>base_CopyInts x⟩
def j_base_CopyInts:TH:=mkTH [] []
theorem k_base_CopyInts:KT e_base_CopyInts j_base_CopyInts [] 40:=λx=>by kernel_rfl
theorem o_base_CopyInts:OT e_base_CopyInts:=entK tab_nil hJ k_base_CopyInts
def sensor_FormatRaw (a0:(List Int)):Option (List UInt8) :=
 (sensor_joined a0).bind λx1 =>
 some x1
def e_sensor_FormatRaw:Entry:=⟨31,[.ty (.sl I)],[(.str,0)],λx=>sensor_FormatRaw x⟩
def j_sensor_FormatRaw:TH:=mkTH [] []
theorem k_sensor_FormatRaw:KT e_sensor_FormatRaw j_sensor_FormatRaw [e_sensor_joined] 40:=λx=>by kernel_rfl
theorem o_sensor_FormatRaw:OT e_sensor_FormatRaw:=entK (tab_cons o_sensor_joined tab_nil) hJ k_sensor_FormatRaw
def sensor_CheckRaw_1 (a0:Int) (a1:Int):Option Int :=
 (sensor_sized a1 (100000:Int)).bind λx1 =>
 (sensor_unless x1 (2:Int)).bind λx2 =>
 some x2
def e_sensor_CheckRaw_1:Entry:=⟨227,[.ty I,.ty I],[(I,0)],λx=>sensor_CheckRaw_1 x.1 x.2⟩
def j_sensor_CheckRaw_1:TH:=mkTH [] []
theorem k_sensor_CheckRaw_1:KT e_sensor_CheckRaw_1 j_sensor_CheckRaw_1 [e_sensor_sized,e_sensor_unless] 40:=λx=>by kernel_rfl
theorem o_sensor_CheckRaw_1:OT e_sensor_CheckRaw_1:=entK (tab_cons o_sensor_sized (tab_cons o_sensor_unless tab_nil)) hJ k_sensor_CheckRaw_1
def sensor_each_int_of_sensor_CheckRaw_1 (a0:(List Int)):Option (Int × Int) :=
 (loopO (λ(s2:Int) =>
   bif decide (s2 < (a0.length:Int)) then
    (idx a0 s2).bind λx3 =>
    (sensor_CheckRaw_1 s2 x3).bind λx4 =>
    bif !(decide (x4 = 0)) then
     some (.inr (.inr (s2,x4)))
    else
     some (.inl (w64 (s2 + 1)))
   else
    some (.inr (.inl ()))) 0).bind (Sum.elim (λ(p5:Unit) =>
 some (0,0)) some)
def e_sensor_each_int_of_sensor_CheckRaw_1:Entry:=⟨226,[.ty (.sl I),.fn 227 []],[(I,0),(I,0)],λx=>sensor_each_int_of_sensor_CheckRaw_1 x.1⟩
def j_sensor_each_int_of_sensor_CheckRaw_1:TH:=mkTH [([],226,.block 0,{ lv:=[],ps:=[],abn:=true,D:=⟨33552832⟩ }),
 ([],226,.loop 0,{ lv:=[⟨none,11,0⟩],ps:=[(I,0)],D:=⟨33552832⟩ })] []
theorem k_sensor_each_int_of_sensor_CheckRaw_1:KT e_sensor_each_int_of_sensor_CheckRaw_1 j_sensor_each_int_of_sensor_CheckRaw_1 [e_sensor_CheckRaw_1] 40:=λx=>by kernel_rfl
theorem o_sensor_each_int_of_sensor_CheckRaw_1:OT e_sensor_each_int_of_sensor_CheckRaw_1:=entK (tab_cons o_sensor_CheckRaw_1 tab_nil) hJ k_sensor_each_int_of_sensor_CheckRaw_1
def sensor_CheckRaw (a0:(List Int)):Option (Int × Int) :=
 (sensor_unless (decide ((a0.length:Int) > 0)) (10:Int)).bind λx1 =>
 (sensor_unless (decide ((a0.length:Int)<=60)) (8:Int)).bind λx2 =>
 (sensor_first ([x1,x2])).bind λx3 =>
 bif !(decide (x3 = 0)) then
  some (0,x3)
 else
  (sensor_each_int_of_sensor_CheckRaw_1 a0).bind λx4 =>
  some (x4.1,x4.2)
def e_sensor_CheckRaw:Entry:=⟨170,[.ty (.sl I)],[(I,0),(I,0)],λx=>sensor_CheckRaw x⟩
def j_sensor_CheckRaw:TH:=mkTH [] []
theorem k_sensor_CheckRaw:KT e_sensor_CheckRaw j_sensor_CheckRaw [e_sensor_each_int_of_sensor_CheckRaw_1,e_sensor_first,e_sensor_unless] 40:=λx=>by kernel_rfl
theorem o_sensor_CheckRaw:OT e_sensor_CheckRaw:=entK (tab_cons o_sensor_each_int_of_sensor_CheckRaw_1 (tab_cons o_sensor_first (tab_cons o_sensor_unless tab_nil))) hJ k_sensor_CheckRaw
def sensor_rawErr (a0:(List Int)):Option Int :=
 (sensor_CheckRaw a0).bind λx1 =>
 some x1.2
def e_sensor_rawErr:Entry:=⟨98,[.ty (.sl I)],[(I,0)],λx=>sensor_rawErr x⟩
def j_sensor_rawErr:TH:=mkTH [] []
theorem k_sensor_rawErr:KT e_sensor_rawErr j_sensor_rawErr [e_sensor_CheckRaw] 40:=λx=>by kernel_rfl
theorem o_sensor_rawErr:OT e_sensor_rawErr:=entK (tab_cons o_sensor_CheckRaw tab_nil) hJ k_sensor_rawErr
def sensor_ParseRaw (a0:(List UInt8)):Option ((List Int) × Int) :=
 bif decide ((a0.length:Int) > 60000) then
  some ([],8)
 else
  (sensor_parsed a0 (6:Int)).bind λx1 =>
  bif !x1.2 then
   some ([],7)
  else
   (sensor_rawErr x1.1).bind λx2 =>
   bif !(decide (x2 = 0)) then
    some ([],x2)
   else
    some (x1.1,0)
def e_sensor_ParseRaw:Entry:=⟨30,[.ty .str],[((.sl I),2000),(I,0)],λx=>sensor_ParseRaw x⟩
def j_sensor_ParseRaw:TH:=mkTH [] []
theorem k_sensor_ParseRaw:KT e_sensor_ParseRaw j_sensor_ParseRaw [e_sensor_parsed,e_sensor_rawErr] 40:=λx=>by kernel_rfl
theorem o_sensor_ParseRaw:OT e_sensor_ParseRaw:=entK (tab_cons o_sensor_parsed (tab_cons o_sensor_rawErr tab_nil)) hJ k_sensor_ParseRaw
def base_Ints (a0:(List Int)) (a1:(List Int)):Option Bool :=
 bif !(decide ((a0.length:Int) = (a1.length:Int))) then
  some false
 else
  (loopO (λ(s2:Int) =>
    bif decide (s2 < (a0.length:Int)) then
     (idx a0 s2).bind λx3 =>
     (idx a1 s2).bind λx4 =>
     bif !(decide (x3 = x4)) then
      some (.inr (.inr false))
     else
      some (.inl (w64 (s2 + 1)))
    else
     some (.inr (.inl ()))) 0).bind (Sum.elim (λ(p5:Unit) =>
  some true) some)
def e_base_Ints:Entry:=⟨33,[.ty (.sl I),.ty (.sl I)],[(.bool,0)],λx=>base_Ints x.1 x.2⟩
def j_base_Ints:TH:=mkTH [([],33,.block 0,{ lv:=[],ps:=[],abn:=true,D:=⟨67106848⟩ }),
 ([],33,.loop 0,{ lv:=[⟨none,5,0⟩],ps:=[(I,0)],D:=⟨67106848⟩ })] []
theorem k_base_Ints:KT e_base_Ints j_base_Ints [] 40:=λx=>by kernel_rfl
theorem o_base_Ints:OT e_base_Ints:=entK tab_nil hJ k_base_Ints
def slices_Clone_Lint_int (a0:(List Int)):Option (List Int) :=
 bif List.isEmpty a0 then
  none
 else
  (app [] a0).bind λx1 =>
  some x1
def e_slices_Clone_Lint_int:Entry:=⟨100,[.ty (.sl I)],[((.sl I),1)],λx=>slices_Clone_Lint_int x⟩
def j_slices_Clone_Lint_int:TH:=mkTH [] []
theorem k_slices_Clone_Lint_int:KT e_slices_Clone_Lint_int j_slices_Clone_Lint_int [] 40:=λx=>by kernel_rfl
theorem o_slices_Clone_Lint_int:OT e_slices_Clone_Lint_int:=entK tab_nil hJ k_slices_Clone_Lint_int
def sensor_CorrectedOf (a0:(Int × Int × Int × Unit)) (a1:(List Int)):Option ((Int × (List Int) × Unit) × Int) :=
 (sensor_CheckLine a0).bind λx1 =>
 (sensor_rawErr a1).bind λx2 =>
 (sensor_first ([x1,x2])).bind λx3 =>
 bif !(decide (x3 = 0)) then
  some ((0,[],()),x3)
 else
  (loopO (λ(s6:(Int × Int × (List Int))) =>
    bif decide (s6.1 < (a1.length:Int)) then
     (idx a1 s6.1).bind λx7 =>
     (app s6.2.2 ([w64 ((w64 (a0.1 * x7)) + a0.2.1)])).bind λx8 =>
     some (.inl (w64 (s6.1 + 1),s6.2.1,x8))
    else
     some (.inr (s6.2.1,s6.2.2))) (0,a0.2.2.1,[])).bind λ(p9:(Int × (List Int))) =>
  (slices_Clone_Lint_int p9.2).bind λx10 =>
  (app x10 ([p9.1])).bind λx11 =>
  (sensor_divisor x11).bind λx12 =>
  bif decide (x12 = 0) then
   none
  else
   (loopO (λ(s14:(Int × Int × (List Int))) =>
     bif decide (s14.1 < (p9.2.length:Int)) then
      (idx s14.2.2 s14.1).bind λx15 =>
      bif decide (x12 = 0) then
       none
      else
       (idx s14.2.2 s14.1).bind λx16 =>
       (idx s14.2.2 s14.1).bind λx17 =>
       let l18:(List Int):=List.set s14.2.2 s14.1.toNat (w64 (x15.tdiv x12))
       some (.inl (w64 (s14.1 + 1),s14.2.1,l18))
     else
      some (.inr (s14.2.1,s14.2.2))) (0,w64 (p9.1.tdiv x12),p9.2)).bind λ(p19:(Int × (List Int))) =>
   some ((p19.1,p19.2,()),0)
def e_sensor_CorrectedOf:Entry:=⟨34,[.ty (.pair I gT),.ty (.sl I)],[((.pair I (.pair (.sl I) .unit)),2000),(I,0)],λx=>sensor_CorrectedOf x.1 x.2⟩
def j_sensor_CorrectedOf:TH:=mkTH [([],34,.block 0,{ lv:=[⟨some 0,7,0⟩,⟨some 0,7,1⟩],ps:=[(I,0),((.sl I),1)],D:=⟨17592051827200⟩,wr:=[⟨0,7⟩] }),
 ([],34,.loop 0,{ lv:=[⟨none,27,0⟩,⟨some 0,7,0⟩,⟨some 0,7,1⟩],ps:=[(I,0),(I,0),((.sl I),1)],D:=⟨17592051827200⟩,wr:=[⟨0,7⟩],rs:=[⟨0,2⟩,⟨0,7⟩],Dn:=⟨13045828944384⟩ }),
 ([],34,.block 2,{ lv:=[⟨some 0,7,0⟩,⟨some 0,7,1⟩],ps:=[(I,0),((.sl I),1)],D:=⟨4721503586144166676480⟩,wr:=[⟨0,7⟩] }),
 ([],34,.loop 2,{ lv:=[⟨none,60,0⟩,⟨some 0,7,0⟩,⟨some 0,7,1⟩],ps:=[(I,0),(I,0),((.sl I),1)],D:=⟨4721503586144166676480⟩,wr:=[⟨0,7⟩],rs:=[⟨0,7⟩],Dn:=⟨4712280214107311900672⟩ })] []
theorem k_sensor_CorrectedOf:KT e_sensor_CorrectedOf j_sensor_CorrectedOf [e_sensor_CheckLine,e_sensor_divisor,e_sensor_first,e_sensor_rawErr,e_slices_Clone_Lint_int] 40:=λx=>by kernel_rfl
theorem o_sensor_CorrectedOf:OT e_sensor_CorrectedOf:=entK (tab_cons o_sensor_CheckLine (tab_cons o_sensor_divisor (tab_cons o_sensor_first (tab_cons o_sensor_rawErr (tab_cons o_slices_Clone_Lint_int tab_nil))))) hJ k_sensor_CorrectedOf
def sensor_curve (a0:(List Int)) (a1:Int):Option Int :=
 (idx a0 (w64 (a1 - 1))).bind λx1 =>
 (idx a0 a1).bind λx2 =>
 (idx a0 (w64 (a1 + 1))).bind λx3 =>
 some (w64 ((w64 (x1 - (w64 (2 * x2)))) + x3))
def e_sensor_curve:Entry:=⟨102,[.ty (.sl I),.ty I],[(I,0)],λx=>sensor_curve x.1 x.2⟩
def j_sensor_curve:TH:=mkTH [] []
theorem k_sensor_curve:KT e_sensor_curve j_sensor_curve [] 40:=λx=>by kernel_rfl
theorem o_sensor_curve:OT e_sensor_curve:=entK tab_nil hJ k_sensor_curve
def sensor_CurvesOf (a0:(List Int)):Option ((List Int) × Int) :=
 (sensor_rawErr a0).bind λx1 =>
 (sensor_unless (decide ((a0.length:Int) > 2)) (12:Int)).bind λx2 =>
 (sensor_first ([x1,x2])).bind λx3 =>
 bif !(decide (x3 = 0)) then
  some ([],x3)
 else
  (loopO (λ(s6:((List Int) × Int)) =>
    bif decide (s6.2 < w64 ((a0.length:Int) - 1)) then
     (sensor_curve a0 s6.2).bind λx7 =>
     (app s6.1 ([x7])).bind λx8 =>
     some (.inl (x8,w64 (s6.2 + 1)))
    else
     some (.inr s6.1)) ([],1)).bind λ(p9:(List Int)) =>
  some (p9,0)
def e_sensor_CurvesOf:Entry:=⟨35,[.ty (.sl I)],[((.sl I),1),(I,0)],λx=>sensor_CurvesOf x⟩
def j_sensor_CurvesOf:TH:=mkTH [([],35,.block 0,{ lv:=[⟨none,5,0⟩],ps:=[((.sl I),1)],D:=⟨2147221600⟩ }),
 ([],35,.loop 0,{ lv:=[⟨none,5,0⟩,⟨none,6,0⟩],ps:=[((.sl I),1),(I,0)],D:=⟨2147221600⟩ })] []
theorem k_sensor_CurvesOf:KT e_sensor_CurvesOf j_sensor_CurvesOf [e_sensor_curve,e_sensor_first,e_sensor_rawErr,e_sensor_unless] 40:=λx=>by kernel_rfl
theorem o_sensor_CurvesOf:OT e_sensor_CurvesOf:=entK (tab_cons o_sensor_curve (tab_cons o_sensor_first (tab_cons o_sensor_rawErr (tab_cons o_sensor_unless tab_nil)))) hJ k_sensor_CurvesOf
def sensor_StrangeIn (a0:(List Int)) (a1:(List Int)) (a2:Int):Option ((List Int) × Int) :=
 (sensor_rawErr a0).bind λx1 =>
 (sensor_rawErr a1).bind λx2 =>
 (sensor_unless (decide ((a0.length:Int) = (a1.length:Int))) (13:Int)).bind λx3 =>
 (sensor_within a2 (0:Int) (100000:Int)).bind λx4 =>
 (sensor_unless x4 (2:Int)).bind λx5 =>
 (sensor_first ([x1,x2,x3,x5])).bind λx6 =>
 bif !(decide (x6 = 0)) then
  some ([],x6)
 else
  (loopO (λ(s8:((List Int) × Int)) =>
    bif decide (s8.2 < w64 ((a0.length:Int) - 1)) then
     (sensor_curve a0 s8.2).bind λx9 =>
     (idx a1 s8.2).bind λx10 =>
     (sensor_sized (w64 (x9 - x10)) a2).bind λx11 =>
     (bif !x11 then
       (app s8.1 ([s8.2])).bind λx12 =>
       some x12
      else
       some s8.1).bind λ(p13:(List Int)) =>
     some (.inl (p13,w64 (s8.2 + 1)))
    else
     some (.inr s8.1)) ([],1)).bind λ(p14:(List Int)) =>
  some (p14,0)
def e_sensor_StrangeIn:Entry:=⟨36,[.ty (.sl I),.ty (.sl I),.ty I],[((.sl I),1),(I,0)],λx=>sensor_StrangeIn x.1 x.2.1 x.2.2⟩
def j_sensor_StrangeIn:TH:=mkTH [([],36,.block 0,{ lv:=[⟨none,9,0⟩],ps:=[((.sl I),1)],D:=⟨2251799276815872⟩ }),
 ([],36,.loop 0,{ lv:=[⟨none,9,0⟩,⟨none,10,0⟩],ps:=[((.sl I),1),(I,0)],D:=⟨2251799276815872⟩ }),
 ([],36,.cond 46,{ lv:=[⟨none,9,0⟩],ps:=[((.sl I),1)],D:=⟨2111062325330432⟩ })] []
theorem k_sensor_StrangeIn:KT e_sensor_StrangeIn j_sensor_StrangeIn [e_sensor_curve,e_sensor_first,e_sensor_rawErr,e_sensor_sized,e_sensor_unless,e_sensor_within] 40:=λx=>by kernel_rfl
theorem o_sensor_StrangeIn:OT e_sensor_StrangeIn:=entK (tab_cons o_sensor_curve (tab_cons o_sensor_first (tab_cons o_sensor_rawErr (tab_cons o_sensor_sized (tab_cons o_sensor_unless (tab_cons o_sensor_within tab_nil)))))) hJ k_sensor_StrangeIn
def top_TopSensorPhysics (a0:(Int × Int × Int × Int × Int × Int × Int × Int × Int × Int × Int × Int × Int × Int × Int × Int × Int × Int × Int × Unit)) (a1:(Int × Int × Int × Unit)):Option Bool :=
 (top_sensorShown).bind λx1 =>
 bif !x1 then
  some false
 else
  ((ref01_PieceErr a0).bind λx2 =>
   bif !(decide (x2 = 0)) then
    some true
   else
    bif decide (a0.2.2.2.2.2.2.2.2.2.2.2.2.2.2.2.2.2.2.1 < 2) then
     some true
    else
     some (decide (a0.2.2.2.2.2.2.2.2.2.2.2.2.2.2.2.2.2.2.1 > 20))).bind λ(p3:Bool) =>
  bif p3 then
   some true
  else
   (base_Mod a1.1 (6:Int)).bind λx4 =>
   (base_Mod a1.2.1 (9:Int)).bind λx5 =>
   (base_Mod a1.2.2.1 (41:Int)).bind λx6 =>
   (loopO (λ(s8:((List Int) × (List Int) × (List Int) × (List Int) × Int)) =>
     bif decide (s8.2.2.2.2<=a0.2.2.2.2.2.2.2.2.2.2.2.2.2.2.2.2.2.2.1) then
      ((ref01_At a0 s8.2.2.2.2).bind λx9 =>
       bif decide (x4 = 0) then
        (app s8.1 ([x9.1])).bind λx10 =>
        some x10
       else
        bif decide (x4 = 1) then
         (app s8.1 ([x9.2.1])).bind λx11 =>
         some x11
        else
         bif decide (x4 = 2) then
          (app s8.1 ([x9.2.2.1])).bind λx12 =>
          some x12
         else
          bif decide (x4 = 3) then
           (app s8.1 ([x9.2.2.2.1])).bind λx13 =>
           some x13
          else
           bif decide (x4 = 4) then
            (app s8.1 ([x9.2.2.2.2.1])).bind λx14 =>
            some x14
           else
            bif decide (x4 = 5) then
             (app s8.1 ([x9.2.2.2.2.2.1])).bind λx15 =>
             some x15
            else
             none).bind λ(p16:(List Int)) =>
      ((ref01_At a0 s8.2.2.2.2).bind λx17 =>
       bif decide (x4 = 0) then
        (app s8.2.1 ([w64 ((w64 ((w64 (1 + x5)) * x17.1)) + (w64 (x6 - 20)))])).bind λx18 =>
        some x18
       else
        bif decide (x4 = 1) then
         (app s8.2.1 ([w64 ((w64 ((w64 (1 + x5)) * x17.2.1)) + (w64 (x6 - 20)))])).bind λx19 =>
         some x19
        else
         bif decide (x4 = 2) then
          (app s8.2.1 ([w64 ((w64 ((w64 (1 + x5)) * x17.2.2.1)) + (w64 (x6 - 20)))])).bind λx20 =>
          some x20
         else
          bif decide (x4 = 3) then
           (app s8.2.1 ([w64 ((w64 ((w64 (1 + x5)) * x17.2.2.2.1)) + (w64 (x6 - 20)))])).bind λx21 =>
           some x21
          else
           bif decide (x4 = 4) then
            (app s8.2.1 ([w64 ((w64 ((w64 (1 + x5)) * x17.2.2.2.2.1)) + (w64 (x6 - 20)))])).bind λx22 =>
            some x22
           else
            bif decide (x4 = 5) then
             (app s8.2.1 ([w64 ((w64 ((w64 (1 + x5)) * x17.2.2.2.2.2.1)) + (w64 (x6 - 20)))])).bind λx23 =>
             some x23
            else
             none).bind λ(p24:(List Int)) =>
      (bif decide (x4 = 0) then
        (app s8.2.2.1 ([w64 ((w64 (2 * (w64 (1 + x5)))) * a0.2.2.2.2.2.2.2.2.2.2.2.2.1)])).bind λx25 =>
        some x25
       else
        bif decide (x4 = 1) then
         (app s8.2.2.1 ([w64 ((w64 (2 * (w64 (1 + x5)))) * a0.2.2.2.2.2.2.2.2.2.2.2.2.2.1)])).bind λx26 =>
         some x26
        else
         bif decide (x4 = 2) then
          (app s8.2.2.1 ([w64 ((w64 (2 * (w64 (1 + x5)))) * a0.2.2.2.2.2.2.2.2.2.2.2.2.2.2.1)])).bind λx27 =>
          some x27
         else
          bif decide (x4 = 3) then
           (app s8.2.2.1 ([w64 ((w64 (2 * (w64 (1 + x5)))) * a0.2.2.2.2.2.2.2.2.2.2.2.2.2.2.2.1)])).bind λx28 =>
           some x28
          else
           bif decide (x4 = 4) then
            let v29:Int:=w64 ((w64 (2 * (w64 (1 + x5)))) * a0.2.2.2.2.2.2.2.2.2.2.2.2.2.2.2.2.1)
            (app s8.2.2.1 ([v29])).bind λx30 =>
            some x30
           else
            bif decide (x4 = 5) then
             let v31:Int:=w64 ((w64 (2 * (w64 (1 + x5)))) * a0.2.2.2.2.2.2.2.2.2.2.2.2.2.2.2.2.2.1)
             (app s8.2.2.1 ([v31])).bind λx32 =>
             some x32
            else
             none).bind λ(p33:(List Int)) =>
      (bif decide (x4 = 0) then
        (app s8.2.2.2.1 ([w64 ((w64 ((-2) * (w64 (1 + x5)))) * a0.2.2.2.2.2.2.2.2.2.2.2.2.1)])).bind λx34 =>
        some x34
       else
        bif decide (x4 = 1) then
         (app s8.2.2.2.1 ([w64 ((w64 ((-2) * (w64 (1 + x5)))) * a0.2.2.2.2.2.2.2.2.2.2.2.2.2.1)])).bind λx35 =>
         some x35
        else
         bif decide (x4 = 2) then
          (app s8.2.2.2.1 ([w64 ((w64 ((-2) * (w64 (1 + x5)))) * a0.2.2.2.2.2.2.2.2.2.2.2.2.2.2.1)])).bind λx36 =>
          some x36
         else
          bif decide (x4 = 3) then
           let v37:Int:=w64 ((w64 ((-2) * (w64 (1 + x5)))) * a0.2.2.2.2.2.2.2.2.2.2.2.2.2.2.2.1)
           (app s8.2.2.2.1 ([v37])).bind λx38 =>
           some x38
          else
           bif decide (x4 = 4) then
            let v39:Int:=w64 ((w64 ((-2) * (w64 (1 + x5)))) * a0.2.2.2.2.2.2.2.2.2.2.2.2.2.2.2.2.1)
            (app s8.2.2.2.1 ([v39])).bind λx40 =>
            some x40
           else
            bif decide (x4 = 5) then
             let v41:Int:=w64 ((w64 ((-2) * (w64 (1 + x5)))) * a0.2.2.2.2.2.2.2.2.2.2.2.2.2.2.2.2.2.1)
             (app s8.2.2.2.1 ([v41])).bind λx42 =>
             some x42
            else
             none).bind λ(p43:(List Int)) =>
      some (.inl (p16,p24,p33,p43,w64 (s8.2.2.2.2 + 1)))
     else
      some (.inr (s8.1,s8.2.1,s8.2.2.1,s8.2.2.2.1))) ([],[],[],[],0)).bind λ(p44:((List Int) × (List Int) × (List Int) × (List Int))) =>
   ((ref07_RawErr p44.1).bind λx45 =>
    bif !(decide (x45 = 0)) then
     some true
    else
     (ref07_RawErr p44.2.1).bind λx46 =>
     some (!(decide (x46 = 0)))).bind λ(p47:Bool) =>
   bif p47 then
    some true
   else
    (sensor_CalibrationOf ([(w64 (x6 - 20),0,()),(w64 ((w64 (1 + x5)) + (w64 (x6 - 20))),1,()),(w64 ((w64 ((-2) * (w64 (1 + x5)))) + (w64 (x6 - 20))),(-2),())])).bind λx48 =>
    (sensor_FormatLine x48.1).bind λx49 =>
    (sensor_ParseLine x49).bind λx50 =>
    (base_CopyInts p44.1).bind λx51 =>
    (sensor_FormatRaw x51).bind λx52 =>
    (sensor_ParseRaw x52).bind λx53 =>
    (bif !(decide (x48.2 = 0)) then
      some true
     else
      let v54:Bool:=!(bif decide (x48.1.1 = w64 (1 + x5)) then (bif decide (x48.1.2.1 = w64 (x6 - 20)) then (bif decide (x48.1.2.2.1 = 1) then true else false) else false) else false)
      bif v54 then
       some true
      else
       bif !(decide (x50.2 = 0)) then
        some true
       else
        let v55:Bool:=!(bif decide (x50.1.1 = x48.1.1) then (bif decide (x50.1.2.1 = x48.1.2.1) then (bif decide (x50.1.2.2.1 = x48.1.2.2.1) then true else false) else false) else false)
        bif v55 then
         some true
        else
         bif !(decide (x53.2 = 0)) then
          some true
         else
          (base_Ints x53.1 p44.1).bind λx56 =>
          some (!x56)).bind λ(p57:Bool) =>
    bif p57 then
     some false
    else
     (sensor_CorrectedOf x50.1 x53.1).bind λx58 =>
     (base_CopyInts p44.2.1).bind λx59 =>
     (sensor_CurvesOf x59).bind λx60 =>
     (base_CopyInts p44.2.1).bind λx61 =>
     (sensor_StrangeIn x61 p44.2.2.1 (0:Int)).bind λx62 =>
     (base_CopyInts p44.2.1).bind λx63 =>
     (sensor_StrangeIn x63 p44.2.2.2 (0:Int)).bind λx64 =>
     (bif !(decide (x58.2 = 0)) then
       some true
      else
       bif !(decide (x58.1.1 = 1)) then
        some true
       else
        (base_Ints x58.1.2.1 p44.2.1).bind λx65 =>
        bif !x65 then
         some true
        else
         bif !(decide (x60.2 = 0)) then
          some true
         else
          bif !(decide ((x60.1.length:Int) = w64 ((p44.2.1.length:Int) - 2))) then
           some true
          else
           bif !(decide (x62.2 = 0)) then
            some true
           else
            bif !(decide ((x62.1.length:Int) = 0)) then
             some true
            else
             some (!(decide (x64.2 = 0)))).bind λ(p66:Bool) =>
     bif p66 then
      some false
     else
      (loopO (λ(s68:Int) =>
        bif decide (s68 < (x60.1.length:Int)) then
         ((idx x60.1 s68).bind λx69 =>
          bif decide (x4 = 0) then
           let v70:Bool:=!(decide (x69 = w64 ((w64 (2 * (w64 (1 + x5)))) * a0.2.2.2.2.2.2.2.2.2.2.2.2.1)))
           some v70
          else
           bif decide (x4 = 1) then
            let v71:Bool:=!(decide (x69 = w64 ((w64 (2 * (w64 (1 + x5)))) * a0.2.2.2.2.2.2.2.2.2.2.2.2.2.1)))
            some v71
           else
            bif decide (x4 = 2) then
             let v72:Bool:=!(decide (x69 = w64 ((w64 (2 * (w64 (1 + x5)))) * a0.2.2.2.2.2.2.2.2.2.2.2.2.2.2.1)))
             some v72
            else
             bif decide (x4 = 3) then
              let v73:Bool:=!(decide (x69 = w64 ((w64 (2 * (w64 (1 + x5)))) * a0.2.2.2.2.2.2.2.2.2.2.2.2.2.2.2.1)))
              some v73
             else
              bif decide (x4 = 4) then
               let v74:Int:=w64 ((w64 (2 * (w64 (1 + x5)))) * a0.2.2.2.2.2.2.2.2.2.2.2.2.2.2.2.2.1)
               some (!(decide (x69 = v74)))
              else
               bif decide (x4 = 5) then
                let v75:Int:=w64 ((w64 (2 * (w64 (1 + x5)))) * a0.2.2.2.2.2.2.2.2.2.2.2.2.2.2.2.2.2.1)
                some (!(decide (x69 = v75)))
               else
                none).bind λ(p76:Bool) =>
         bif p76 then
          some (.inr (.inr false))
         else
          some (.inl (w64 (s68 + 1)))
        else
         some (.inr (.inl ()))) 0).bind (Sum.elim (λ(p77:Unit) =>
      (bif decide (x4 = 0) then
        bif decide (a0.2.2.2.2.2.2.2.2.2.2.2.2.1 = 0) then
         bif decide ((x64.1.length:Int) = 0) then
          some true
         else
          bif decide (x4 = 0) then
           bif !(decide (a0.2.2.2.2.2.2.2.2.2.2.2.2.1 = 0)) then
            some (decide ((x64.1.length:Int) = w64 ((p44.2.1.length:Int) - 2)))
           else
            some false
          else
           bif decide (x4 = 1) then
            bif !(decide (a0.2.2.2.2.2.2.2.2.2.2.2.2.2.1 = 0)) then
             some (decide ((x64.1.length:Int) = w64 ((p44.2.1.length:Int) - 2)))
            else
             some false
           else
            bif decide (x4 = 2) then
             bif !(decide (a0.2.2.2.2.2.2.2.2.2.2.2.2.2.2.1 = 0)) then
              some (decide ((x64.1.length:Int) = w64 ((p44.2.1.length:Int) - 2)))
             else
              some false
            else
             bif decide (x4 = 3) then
              bif !(decide (a0.2.2.2.2.2.2.2.2.2.2.2.2.2.2.2.1 = 0)) then
               some (decide ((x64.1.length:Int) = w64 ((p44.2.1.length:Int) - 2)))
              else
               some false
             else
              bif decide (x4 = 4) then
               bif !(decide (a0.2.2.2.2.2.2.2.2.2.2.2.2.2.2.2.2.1 = 0)) then
                some (decide ((x64.1.length:Int) = w64 ((p44.2.1.length:Int) - 2)))
               else
                some false
              else
               bif decide (x4 = 5) then
                bif !(decide (a0.2.2.2.2.2.2.2.2.2.2.2.2.2.2.2.2.2.1 = 0)) then
                 some (decide ((x64.1.length:Int) = w64 ((p44.2.1.length:Int) - 2)))
                else
                 some false
               else
                none
        else
         bif decide (x4 = 0) then
          bif !(decide (a0.2.2.2.2.2.2.2.2.2.2.2.2.1 = 0)) then
           some (decide ((x64.1.length:Int) = w64 ((p44.2.1.length:Int) - 2)))
          else
           some false
         else
          bif decide (x4 = 1) then
           bif !(decide (a0.2.2.2.2.2.2.2.2.2.2.2.2.2.1 = 0)) then
            some (decide ((x64.1.length:Int) = w64 ((p44.2.1.length:Int) - 2)))
           else
            some false
          else
           bif decide (x4 = 2) then
            bif !(decide (a0.2.2.2.2.2.2.2.2.2.2.2.2.2.2.1 = 0)) then
             some (decide ((x64.1.length:Int) = w64 ((p44.2.1.length:Int) - 2)))
            else
             some false
           else
            bif decide (x4 = 3) then
             bif !(decide (a0.2.2.2.2.2.2.2.2.2.2.2.2.2.2.2.1 = 0)) then
              some (decide ((x64.1.length:Int) = w64 ((p44.2.1.length:Int) - 2)))
             else
              some false
            else
             bif decide (x4 = 4) then
              bif !(decide (a0.2.2.2.2.2.2.2.2.2.2.2.2.2.2.2.2.1 = 0)) then
               some (decide ((x64.1.length:Int) = w64 ((p44.2.1.length:Int) - 2)))
              else
               some false
             else
              bif decide (x4 = 5) then
               bif !(decide (a0.2.2.2.2.2.2.2.2.2.2.2.2.2.2.2.2.2.1 = 0)) then
                some (decide ((x64.1.length:Int) = w64 ((p44.2.1.length:Int) - 2)))
               else
                some false
              else
               none
       else
        bif decide (x4 = 1) then
         bif decide (a0.2.2.2.2.2.2.2.2.2.2.2.2.2.1 = 0) then
          bif decide ((x64.1.length:Int) = 0) then
           some true
          else
           bif decide (x4 = 0) then
            bif !(decide (a0.2.2.2.2.2.2.2.2.2.2.2.2.1 = 0)) then
             some (decide ((x64.1.length:Int) = w64 ((p44.2.1.length:Int) - 2)))
            else
             some false
           else
            bif decide (x4 = 1) then
             bif !(decide (a0.2.2.2.2.2.2.2.2.2.2.2.2.2.1 = 0)) then
              some (decide ((x64.1.length:Int) = w64 ((p44.2.1.length:Int) - 2)))
             else
              some false
            else
             bif decide (x4 = 2) then
              bif !(decide (a0.2.2.2.2.2.2.2.2.2.2.2.2.2.2.1 = 0)) then
               some (decide ((x64.1.length:Int) = w64 ((p44.2.1.length:Int) - 2)))
              else
               some false
             else
              bif decide (x4 = 3) then
               bif !(decide (a0.2.2.2.2.2.2.2.2.2.2.2.2.2.2.2.1 = 0)) then
                some (decide ((x64.1.length:Int) = w64 ((p44.2.1.length:Int) - 2)))
               else
                some false
              else
               bif decide (x4 = 4) then
                bif !(decide (a0.2.2.2.2.2.2.2.2.2.2.2.2.2.2.2.2.1 = 0)) then
                 some (decide ((x64.1.length:Int) = w64 ((p44.2.1.length:Int) - 2)))
                else
                 some false
               else
                bif decide (x4 = 5) then
                 bif !(decide (a0.2.2.2.2.2.2.2.2.2.2.2.2.2.2.2.2.2.1 = 0)) then
                  some (decide ((x64.1.length:Int) = w64 ((p44.2.1.length:Int) - 2)))
                 else
                  some false
                else
                 none
         else
          bif decide (x4 = 0) then
           bif !(decide (a0.2.2.2.2.2.2.2.2.2.2.2.2.1 = 0)) then
            some (decide ((x64.1.length:Int) = w64 ((p44.2.1.length:Int) - 2)))
           else
            some false
          else
           bif decide (x4 = 1) then
            bif !(decide (a0.2.2.2.2.2.2.2.2.2.2.2.2.2.1 = 0)) then
             some (decide ((x64.1.length:Int) = w64 ((p44.2.1.length:Int) - 2)))
            else
             some false
           else
            bif decide (x4 = 2) then
             bif !(decide (a0.2.2.2.2.2.2.2.2.2.2.2.2.2.2.1 = 0)) then
              some (decide ((x64.1.length:Int) = w64 ((p44.2.1.length:Int) - 2)))
             else
              some false
            else
             bif decide (x4 = 3) then
              bif !(decide (a0.2.2.2.2.2.2.2.2.2.2.2.2.2.2.2.1 = 0)) then
               some (decide ((x64.1.length:Int) = w64 ((p44.2.1.length:Int) - 2)))
              else
               some false
             else
              bif decide (x4 = 4) then
               bif !(decide (a0.2.2.2.2.2.2.2.2.2.2.2.2.2.2.2.2.1 = 0)) then
                some (decide ((x64.1.length:Int) = w64 ((p44.2.1.length:Int) - 2)))
               else
                some false
              else
               bif decide (x4 = 5) then
                bif !(decide (a0.2.2.2.2.2.2.2.2.2.2.2.2.2.2.2.2.2.1 = 0)) then
                 some (decide ((x64.1.length:Int) = w64 ((p44.2.1.length:Int) - 2)))
                else
                 some false
               else
                none
        else
         bif decide (x4 = 2) then
          bif decide (a0.2.2.2.2.2.2.2.2.2.2.2.2.2.2.1 = 0) then
           bif decide ((x64.1.length:Int) = 0) then
            some true
           else
            bif decide (x4 = 0) then
             bif !(decide (a0.2.2.2.2.2.2.2.2.2.2.2.2.1 = 0)) then
              some (decide ((x64.1.length:Int) = w64 ((p44.2.1.length:Int) - 2)))
             else
              some false
            else
             bif decide (x4 = 1) then
              bif !(decide (a0.2.2.2.2.2.2.2.2.2.2.2.2.2.1 = 0)) then
               some (decide ((x64.1.length:Int) = w64 ((p44.2.1.length:Int) - 2)))
              else
               some false
             else
              bif decide (x4 = 2) then
               bif !(decide (a0.2.2.2.2.2.2.2.2.2.2.2.2.2.2.1 = 0)) then
                some (decide ((x64.1.length:Int) = w64 ((p44.2.1.length:Int) - 2)))
               else
                some false
              else
               bif decide (x4 = 3) then
                bif !(decide (a0.2.2.2.2.2.2.2.2.2.2.2.2.2.2.2.1 = 0)) then
                 some (decide ((x64.1.length:Int) = w64 ((p44.2.1.length:Int) - 2)))
                else
                 some false
               else
                bif decide (x4 = 4) then
                 bif !(decide (a0.2.2.2.2.2.2.2.2.2.2.2.2.2.2.2.2.1 = 0)) then
                  some (decide ((x64.1.length:Int) = w64 ((p44.2.1.length:Int) - 2)))
                 else
                  some false
                else
                 bif decide (x4 = 5) then
                  bif !(decide (a0.2.2.2.2.2.2.2.2.2.2.2.2.2.2.2.2.2.1 = 0)) then
                   some (decide ((x64.1.length:Int) = w64 ((p44.2.1.length:Int) - 2)))
                  else
                   some false
                 else
                  none
          else
           bif decide (x4 = 0) then
            bif !(decide (a0.2.2.2.2.2.2.2.2.2.2.2.2.1 = 0)) then
             some (decide ((x64.1.length:Int) = w64 ((p44.2.1.length:Int) - 2)))
            else
             some false
           else
            bif decide (x4 = 1) then
             bif !(decide (a0.2.2.2.2.2.2.2.2.2.2.2.2.2.1 = 0)) then
              some (decide ((x64.1.length:Int) = w64 ((p44.2.1.length:Int) - 2)))
             else
              some false
            else
             bif decide (x4 = 2) then
              bif !(decide (a0.2.2.2.2.2.2.2.2.2.2.2.2.2.2.1 = 0)) then
               some (decide ((x64.1.length:Int) = w64 ((p44.2.1.length:Int) - 2)))
              else
               some false
             else
              bif decide (x4 = 3) then
               bif !(decide (a0.2.2.2.2.2.2.2.2.2.2.2.2.2.2.2.1 = 0)) then
                some (decide ((x64.1.length:Int) = w64 ((p44.2.1.length:Int) - 2)))
               else
                some false
              else
               bif decide (x4 = 4) then
                bif !(decide (a0.2.2.2.2.2.2.2.2.2.2.2.2.2.2.2.2.1 = 0)) then
                 some (decide ((x64.1.length:Int) = w64 ((p44.2.1.length:Int) - 2)))
                else
                 some false
               else
                bif decide (x4 = 5) then
                 bif !(decide (a0.2.2.2.2.2.2.2.2.2.2.2.2.2.2.2.2.2.1 = 0)) then
                  some (decide ((x64.1.length:Int) = w64 ((p44.2.1.length:Int) - 2)))
                 else
                  some false
                else
                 none
         else
          bif decide (x4 = 3) then
           bif decide (a0.2.2.2.2.2.2.2.2.2.2.2.2.2.2.2.1 = 0) then
            bif decide ((x64.1.length:Int) = 0) then
             some true
            else
             bif decide (x4 = 0) then
              bif !(decide (a0.2.2.2.2.2.2.2.2.2.2.2.2.1 = 0)) then
               some (decide ((x64.1.length:Int) = w64 ((p44.2.1.length:Int) - 2)))
              else
               some false
             else
              bif decide (x4 = 1) then
               bif !(decide (a0.2.2.2.2.2.2.2.2.2.2.2.2.2.1 = 0)) then
                some (decide ((x64.1.length:Int) = w64 ((p44.2.1.length:Int) - 2)))
               else
                some false
              else
               bif decide (x4 = 2) then
                bif !(decide (a0.2.2.2.2.2.2.2.2.2.2.2.2.2.2.1 = 0)) then
                 some (decide ((x64.1.length:Int) = w64 ((p44.2.1.length:Int) - 2)))
                else
                 some false
               else
                bif decide (x4 = 3) then
                 bif !(decide (a0.2.2.2.2.2.2.2.2.2.2.2.2.2.2.2.1 = 0)) then
                  some (decide ((x64.1.length:Int) = w64 ((p44.2.1.length:Int) - 2)))
                 else
                  some false
                else
                 bif decide (x4 = 4) then
                  bif !(decide (a0.2.2.2.2.2.2.2.2.2.2.2.2.2.2.2.2.1 = 0)) then
                   some (decide ((x64.1.length:Int) = w64 ((p44.2.1.length:Int) - 2)))
                  else
                   some false
                 else
                  bif decide (x4 = 5) then
                   bif !(decide (a0.2.2.2.2.2.2.2.2.2.2.2.2.2.2.2.2.2.1 = 0)) then
                    some (decide ((x64.1.length:Int) = w64 ((p44.2.1.length:Int) - 2)))
                   else
                    some false
                  else
                   none
           else
            bif decide (x4 = 0) then
             bif !(decide (a0.2.2.2.2.2.2.2.2.2.2.2.2.1 = 0)) then
              some (decide ((x64.1.length:Int) = w64 ((p44.2.1.length:Int) - 2)))
             else
              some false
            else
             bif decide (x4 = 1) then
              bif !(decide (a0.2.2.2.2.2.2.2.2.2.2.2.2.2.1 = 0)) then
               some (decide ((x64.1.length:Int) = w64 ((p44.2.1.length:Int) - 2)))
              else
               some false
             else
              bif decide (x4 = 2) then
               bif !(decide (a0.2.2.2.2.2.2.2.2.2.2.2.2.2.2.1 = 0)) then
                some (decide ((x64.1.length:Int) = w64 ((p44.2.1.length:Int) - 2)))
               else
                some false
              else
               bif decide (x4 = 3) then
                bif !(decide (a0.2.2.2.2.2.2.2.2.2.2.2.2.2.2.2.1 = 0)) then
                 some (decide ((x64.1.length:Int) = w64 ((p44.2.1.length:Int) - 2)))
                else
                 some false
               else
                bif decide (x4 = 4) then
                 bif !(decide (a0.2.2.2.2.2.2.2.2.2.2.2.2.2.2.2.2.1 = 0)) then
                  some (decide ((x64.1.length:Int) = w64 ((p44.2.1.length:Int) - 2)))
                 else
                  some false
                else
                 bif decide (x4 = 5) then
                  bif !(decide (a0.2.2.2.2.2.2.2.2.2.2.2.2.2.2.2.2.2.1 = 0)) then
                   some (decide ((x64.1.length:Int) = w64 ((p44.2.1.length:Int) - 2)))
                  else
                   some false
                 else
                  none
          else
           bif decide (x4 = 4) then
            bif decide (a0.2.2.2.2.2.2.2.2.2.2.2.2.2.2.2.2.1 = 0) then
             bif decide ((x64.1.length:Int) = 0) then
              some true
             else
              bif decide (x4 = 0) then
               bif !(decide (a0.2.2.2.2.2.2.2.2.2.2.2.2.1 = 0)) then
                some (decide ((x64.1.length:Int) = w64 ((p44.2.1.length:Int) - 2)))
               else
                some false
              else
               bif decide (x4 = 1) then
                bif !(decide (a0.2.2.2.2.2.2.2.2.2.2.2.2.2.1 = 0)) then
                 some (decide ((x64.1.length:Int) = w64 ((p44.2.1.length:Int) - 2)))
                else
                 some false
               else
                bif decide (x4 = 2) then
                 bif !(decide (a0.2.2.2.2.2.2.2.2.2.2.2.2.2.2.1 = 0)) then
                  some (decide ((x64.1.length:Int) = w64 ((p44.2.1.length:Int) - 2)))
                 else
                  some false
                else
                 bif decide (x4 = 3) then
                  bif !(decide (a0.2.2.2.2.2.2.2.2.2.2.2.2.2.2.2.1 = 0)) then
                   some (decide ((x64.1.length:Int) = w64 ((p44.2.1.length:Int) - 2)))
                  else
                   some false
                 else
                  bif decide (x4 = 4) then
                   bif !(decide (a0.2.2.2.2.2.2.2.2.2.2.2.2.2.2.2.2.1 = 0)) then
                    some (decide ((x64.1.length:Int) = w64 ((p44.2.1.length:Int) - 2)))
                   else
                    some false
                  else
                   bif decide (x4 = 5) then
                    bif !(decide (a0.2.2.2.2.2.2.2.2.2.2.2.2.2.2.2.2.2.1 = 0)) then
                     some (decide ((x64.1.length:Int) = w64 ((p44.2.1.length:Int) - 2)))
                    else
                     some false
                   else
                    none
            else
             bif decide (x4 = 0) then
              bif !(decide (a0.2.2.2.2.2.2.2.2.2.2.2.2.1 = 0)) then
               some (decide ((x64.1.length:Int) = w64 ((p44.2.1.length:Int) - 2)))
              else
               some false
             else
              bif decide (x4 = 1) then
               bif !(decide (a0.2.2.2.2.2.2.2.2.2.2.2.2.2.1 = 0)) then
                some (decide ((x64.1.length:Int) = w64 ((p44.2.1.length:Int) - 2)))
               else
                some false
              else
               bif decide (x4 = 2) then
                bif !(decide (a0.2.2.2.2.2.2.2.2.2.2.2.2.2.2.1 = 0)) then
                 some (decide ((x64.1.length:Int) = w64 ((p44.2.1.length:Int) - 2)))
                else
                 some false
               else
                bif decide (x4 = 3) then
                 bif !(decide (a0.2.2.2.2.2.2.2.2.2.2.2.2.2.2.2.1 = 0)) then
                  some (decide ((x64.1.length:Int) = w64 ((p44.2.1.length:Int) - 2)))
                 else
                  some false
                else
                 bif decide (x4 = 4) then
                  bif !(decide (a0.2.2.2.2.2.2.2.2.2.2.2.2.2.2.2.2.1 = 0)) then
                   some (decide ((x64.1.length:Int) = w64 ((p44.2.1.length:Int) - 2)))
                  else
                   some false
                 else
                  bif decide (x4 = 5) then
                   bif !(decide (a0.2.2.2.2.2.2.2.2.2.2.2.2.2.2.2.2.2.1 = 0)) then
                    some (decide ((x64.1.length:Int) = w64 ((p44.2.1.length:Int) - 2)))
                   else
                    some false
                  else
                   none
           else
            bif decide (x4 = 5) then
             bif decide (a0.2.2.2.2.2.2.2.2.2.2.2.2.2.2.2.2.2.1 = 0) then
              bif decide ((x64.1.length:Int) = 0) then
               some true
              else
               bif decide (x4 = 0) then
                bif !(decide (a0.2.2.2.2.2.2.2.2.2.2.2.2.1 = 0)) then
                 some (decide ((x64.1.length:Int) = w64 ((p44.2.1.length:Int) - 2)))
                else
                 some false
               else
                bif decide (x4 = 1) then
                 bif !(decide (a0.2.2.2.2.2.2.2.2.2.2.2.2.2.1 = 0)) then
                  some (decide ((x64.1.length:Int) = w64 ((p44.2.1.length:Int) - 2)))
                 else
                  some false
                else
                 bif decide (x4 = 2) then
                  bif !(decide (a0.2.2.2.2.2.2.2.2.2.2.2.2.2.2.1 = 0)) then
                   some (decide ((x64.1.length:Int) = w64 ((p44.2.1.length:Int) - 2)))
                  else
                   some false
                 else
                  bif decide (x4 = 3) then
                   bif !(decide (a0.2.2.2.2.2.2.2.2.2.2.2.2.2.2.2.1 = 0)) then
                    some (decide ((x64.1.length:Int) = w64 ((p44.2.1.length:Int) - 2)))
                   else
                    some false
                  else
                   bif decide (x4 = 4) then
                    bif !(decide (a0.2.2.2.2.2.2.2.2.2.2.2.2.2.2.2.2.1 = 0)) then
                     some (decide ((x64.1.length:Int) = w64 ((p44.2.1.length:Int) - 2)))
                    else
                     some false
                   else
                    bif decide (x4 = 5) then
                     bif !(decide (a0.2.2.2.2.2.2.2.2.2.2.2.2.2.2.2.2.2.1 = 0)) then
                      some (decide ((x64.1.length:Int) = w64 ((p44.2.1.length:Int) - 2)))
                     else
                      some false
                    else
                     none
             else
              bif decide (x4 = 0) then
               bif !(decide (a0.2.2.2.2.2.2.2.2.2.2.2.2.1 = 0)) then
                some (decide ((x64.1.length:Int) = w64 ((p44.2.1.length:Int) - 2)))
               else
                some false
              else
               bif decide (x4 = 1) then
                bif !(decide (a0.2.2.2.2.2.2.2.2.2.2.2.2.2.1 = 0)) then
                 some (decide ((x64.1.length:Int) = w64 ((p44.2.1.length:Int) - 2)))
                else
                 some false
               else
                bif decide (x4 = 2) then
                 bif !(decide (a0.2.2.2.2.2.2.2.2.2.2.2.2.2.2.1 = 0)) then
                  some (decide ((x64.1.length:Int) = w64 ((p44.2.1.length:Int) - 2)))
                 else
                  some false
                else
                 bif decide (x4 = 3) then
                  bif !(decide (a0.2.2.2.2.2.2.2.2.2.2.2.2.2.2.2.1 = 0)) then
                   some (decide ((x64.1.length:Int) = w64 ((p44.2.1.length:Int) - 2)))
                  else
                   some false
                 else
                  bif decide (x4 = 4) then
                   bif !(decide (a0.2.2.2.2.2.2.2.2.2.2.2.2.2.2.2.2.1 = 0)) then
                    some (decide ((x64.1.length:Int) = w64 ((p44.2.1.length:Int) - 2)))
                   else
                    some false
                  else
                   bif decide (x4 = 5) then
                    bif !(decide (a0.2.2.2.2.2.2.2.2.2.2.2.2.2.2.2.2.2.1 = 0)) then
                     some (decide ((x64.1.length:Int) = w64 ((p44.2.1.length:Int) - 2)))
                    else
                     some false
                   else
                    none
            else
             none).bind λ(p78:Bool) =>
      some p78) some)
def e_top_TopSensorPhysics:Entry:=⟨4,[.ty (.pair I (.pair I (.pair I (.pair I (.pair I (.pair I (.pair I (.pair I (.pair I (.pair I (.pair I (.pair I (.pair I (.pair I (.pair I (.pair I (.pair I gT))))))))))))))))),.ty (.pair I gT)],[(.bool,0)],λx=>top_TopSensorPhysics x.1 x.2⟩
def j_top_TopSensorPhysics:TH:=mkTH [([],4,.region 3,{ lv:=[⟨none,43,0⟩],ps:=[(.bool,0)],D:=⟨17590038560768⟩,rs:=[⟨0,2⟩],Dn:=⟨16456167194624⟩ }),
 ([],4,.block 0,{ lv:=[⟨none,8,0⟩,⟨none,9,0⟩,⟨none,10,0⟩,⟨none,11,0⟩],ps:=[((.sl I),1),((.sl I),1),((.sl I),1),((.sl I),1)],D:=⟨2535301200456422774196404502272⟩,rs:=[⟨0,2⟩],Dn:=⟨2535301200456350716602366574336⟩ }),
 ([],4,.loop 0,{ lv:=[⟨none,8,0⟩,⟨none,9,0⟩,⟨none,10,0⟩,⟨none,11,0⟩,⟨none,12,0⟩],ps:=[((.sl I),1),((.sl I),1),((.sl I),1),((.sl I),1),(I,0)],D:=⟨2535301200456422774196404502272⟩,rs:=[⟨0,2⟩],Dn:=⟨2416342899806271205811278855936⟩ }),
 ([],4,.region 10,{ lv:=[⟨none,8,0⟩],ps:=[((.sl I),1)],D:=⟨587989967349491958016⟩ }),
 ([],4,.region 11,{ lv:=[⟨none,9,0⟩],ps:=[((.sl I),1)],D:=⟨2417261343418899643761152⟩ }),
 ([],4,.region 12,{ lv:=[⟨none,10,0⟩],ps:=[((.sl I),1)],D:=⟨2473462226931531291448837120⟩,rs:=[⟨0,2⟩],Dn:=⟨2357405348248526890677044224⟩ }),
 ([],4,.region 13,{ lv:=[⟨none,11,0⟩],ps:=[((.sl I),1)],D:=⟨2532825320377888042443608164352⟩,rs:=[⟨0,2⟩],Dn:=⟨2413983076606491536053292238848⟩ }),
 ([],4,.region 14,{ lv:=[⟨none,108,0⟩],ps:=[(.bool,0)],D:=⟨646501806116396994763318634741760⟩ }),
 ([],4,.region 20,{ lv:=[⟨none,166,0⟩],ps:=[(.bool,0)],D:=⟨187072208881457286075989685414693030495698068439296⟩ }),
 ([],4,.region 26,{ lv:=[⟨none,231,0⟩],ps:=[(.bool,0)],D:=⟨6901746346778009583963982500749353873604693639338181844273596171550720⟩,rs:=[⟨0,20⟩],Dn:=⟨6901746343463699867679815057444057058151045771636138169596585948741632⟩ }),
 ([],4,.block 2,{ lv:=[],ps:=[],abn:=true,D:=⟨1809244492586718762929509206004886283181891059291661642729969587599704337664⟩ }),
 ([],4,.loop 2,{ lv:=[⟨none,28,0⟩],ps:=[(I,0)],D:=⟨1809244492586718762929509206004886283181891059291661642729969587599704337664⟩,rs:=[⟨0,2⟩],Dn:=⟨1639627174367993867289512645933566105662452605191602222750295392275612839168⟩ }),
 ([],4,.region 31,{ lv:=[⟨none,249,0⟩],ps:=[(.bool,0)],D:=⟨1808809682566870957410900816385562830578386639426414908376994348573319495680⟩,rs:=[⟨0,2⟩],Dn:=⟨1639192364348146061770904256314242653058948185326355488397320153249227997184⟩ }),
 ([],4,.region 33,{ lv:=[⟨none,4,0⟩],ps:=[(.bool,0)],D:=⟨60708401072802639133167631094938325071826653513035849638485324687816008789020115472⟩,rs:=[⟨0,2⟩],Dn:=⟨60686158136160708425252984506036812429027464431918984246386870132537988726273344016⟩ })] []
theorem k_top_TopSensorPhysics:KT e_top_TopSensorPhysics j_top_TopSensorPhysics [e_base_CopyInts,e_base_Ints,e_base_Mod,e_ref01_At,e_ref01_PieceErr,e_ref07_RawErr,e_sensor_CalibrationOf,e_sensor_CorrectedOf,e_sensor_CurvesOf,e_sensor_FormatLine,e_sensor_FormatRaw,e_sensor_ParseLine,e_sensor_ParseRaw,e_sensor_StrangeIn,e_top_sensorShown] 40:=λx=>by kernel_rfl
theorem o_top_TopSensorPhysics:OT e_top_TopSensorPhysics:=entK (tab_cons o_base_CopyInts (tab_cons o_base_Ints (tab_cons o_base_Mod (tab_cons o_ref01_At (tab_cons o_ref01_PieceErr (tab_cons o_ref07_RawErr (tab_cons o_sensor_CalibrationOf (tab_cons o_sensor_CorrectedOf (tab_cons o_sensor_CurvesOf (tab_cons o_sensor_FormatLine (tab_cons o_sensor_FormatRaw (tab_cons o_sensor_ParseLine (tab_cons o_sensor_ParseRaw (tab_cons o_sensor_StrangeIn (tab_cons o_top_sensorShown tab_nil))))))))))))))) hJ k_top_TopSensorPhysics
end
end Go.Proofs.YteiciemjanhdcaaGreatDoor
end
section
namespace Go.Tx
open Go
theorem wrap_id {n:Int} (h1 : -9223372036854775808<=n) (h2:n<=9223372036854775807):IntKind.wrap .i64 n = n:=by
 rw [IntKind.wrap_i64]; omega
theorem idx_of {α:Type} {l:List α} {i:Nat} {a:α} (h:l[i]? = some a):idx l (i:Int) = some a:=by simp [idx,h]
theorem app_of {α:Type} {l l2:List α} (h:l.length + l2.length<=4294967296):app l l2 = some (l ++ l2):=by simp [app,h]
section
variable {σ ρ:Type} {f:σ->Option (σ ⊕ ρ)}
theorem loopN_mono:∀ {n m:Nat} {s:σ} {r:ρ},loopN f n s = some r->n<=m->loopN f m s = some r
 | 0,m,s,r,h,_=>by simp [loopN] at h
 | n + 1,0,s,r,h,hm=>by omega
 | n + 1,m + 1,s,r,h,hm=>by
  simp only [loopN] at h ⊢;cases hf:f s with
  | none=>rw [hf] at h; cases h
  | some x =>
   rw [hf] at h;cases x with
   | inl s'=>exact loopN_mono h (by omega)
   | inr r'=>exact h
theorem loopO_of {n:Nat} {s:σ} {r:ρ} (h:loopN f n s = some r):loopO f s = some r:=by
 have hex:∃ n r,loopN f n s = some r:=⟨n,r,h⟩
 cases hl:loopO f s with
 | none=>exfalso; unfold loopO at hl; rw [dif_pos hex] at hl; cases hl
 | some r' =>
  obtain ⟨m,hm⟩:=loopO_some hl;have h1:=loopN_mono h (Nat.le_max_left n m);have h2:=loopN_mono hm (Nat.le_max_right n m);rw [<- h1,<- h2]
theorem loopO_inl {s s':σ} (h:f s = some (.inl s')):loopO f s = loopO f s':=by
 cases hl:loopO f s' with
 | some r =>
  obtain ⟨n,hn⟩:=loopO_some hl;exact loopO_of (n:=n + 1) (by simp [loopN,h,hn])
 | none =>
  cases hl2:loopO f s with
  | none=>rfl
  | some r =>
   obtain ⟨n,hn⟩:=loopO_some hl2;cases n with
   | zero=>simp [loopN] at hn
   | succ n =>
    simp only [loopN,h] at hn;rw [loopO_of hn] at hl;cases hl
theorem loopO_inr {s:σ} {r:ρ} (h:f s = some (.inr r)):loopO f s = some r:=loopO_of (n:=1) (by simp [loopN,h])
theorem loop_inv (n:Nat) (I:Nat->σ->Prop) (Q:ρ->Prop)
  (hs:∀ i s,i<=n->I i s->(∃ s',f s = some (.inl s')/\i < n/\I (i + 1) s')\/(∃ r,f s = some (.inr r)/\Q r)) {s:σ} (h0:I 0 s):∃ r,loopO f s = some r/\Q r:=by
 have h:∀ k i s,n - i = k->i<=n->I i s->∃ r,loopO f s = some r/\Q r:=by
  intro k;induction k with
  | zero =>
   intro i s hk hi hI;rcases hs i s hi hI with ⟨s',_,h,_⟩ | ⟨r,h,hq⟩
   ·omega
   ·exact ⟨r,loopO_inr h,hq⟩
  | succ k ih =>
   intro i s hk hi hI;rcases hs i s hi hI with ⟨s',h,hlt,hI'⟩ | ⟨r,h,hq⟩
   ·obtain ⟨r,hr,hq⟩:=ih (i + 1) s' (by omega) (by omega) hI';exact ⟨r,by rw [loopO_inl h,hr],hq⟩
   ·exact ⟨r,loopO_inr h,hq⟩
 exact h n 0 s (by omega) (by omega) h0
end
def findI {α ρ:Type} (g:Nat->α->Option ρ):Nat->List α->Option ρ
 | _,[]=>none
 | k,a :: l=>match g k a with
  | some r=>some r
  | none=>findI g (k + 1) l
theorem findI_const {α ρ:Type} (g:α->Option ρ):∀ (l:List α) (k:Nat),findI (λ_ a=>g a) k l = l.findSome? g
 | [],k=>rfl
 | a :: l,k=>by simp only [findI,List.findSome?_cons]; cases g a <;> simp [findI_const g l]
def toSum {ρ:Type}:Option ρ->Unit ⊕ ρ
 | some r=>.inr r
 | none=>.inl ()
def stp {ρ:Type} (i:Nat):Option ρ->Int ⊕ (Unit ⊕ ρ)
 | some r=>.inr (.inr r)
 | none=>.inl ((i:Int) + 1)
theorem loop_list {α ρ:Type} (l:List α) {f:Int->Option (Int ⊕ (Unit ⊕ ρ))} (g:Nat->α->Option ρ)
  (h:∀ (i:Nat) (a:α),l[i]? = some a->f i = some (stp i (g i a)))
  (he:f l.length = some (.inr (.inl ()))):loopO f 0 = some (toSum (findI g 0 l)):=by
 have key:∀ (l2 l1:List α),l1 ++ l2 = l->loopO f (l1.length:Nat) = some (toSum (findI g l1.length l2)):=by
  intro l2;induction l2 with
  | nil =>
   intro l1 e;have:l1 = l:=by simpa using e
   subst this;rw [loopO_inr he]; rfl
  | cons a l2 ih =>
   intro l1 e;have hi:l[l1.length]? = some a:=by rw [<- e]; simp
   have hf:=h _ _ hi;simp only [findI];cases hg:g l1.length a with
   | some r=>rw [hg] at hf; rw [loopO_inr hf]; rfl
   | none =>
    rw [hg] at hf;rw [loopO_inl hf];have:=ih (l1 ++ [a]) (by simp [e]);simpa using this
 simpa using key l [] rfl
end Go.Tx
end
section
namespace Go.Tx
open Go
def Ok {α:Type} (o:Option α) (Q:α->Prop):Prop:=∃ a,o = some a/\Q a
section
variable {α β σ ρ τ:Type}
theorem ok_some {a:α} {Q:α->Prop}:Ok (some a) Q ↔ Q a:=⟨λ⟨_,h,hq⟩=>by cases h; exact hq,λh=>⟨a,rfl,h⟩⟩
theorem ok_none {Q:α->Prop}:Ok (none:Option α) Q ↔ False:=⟨λ⟨_,h,_⟩=>(by cases h),λh=>h.elim⟩
theorem ok_eq {o:Option α} {a:α}:Ok o (λr=>r = a) ↔ o = some a:=⟨λ⟨_,h,hq⟩=>by rw [h,hq],λh=>⟨a,h,rfl⟩⟩
theorem Ok.eq {o:Option α} {a:α} (h:Ok o (λr=>r = a)):o = some a:=ok_eq.1 h
theorem Ok.mono {o:Option α} {P Q:α->Prop} (h:Ok o P) (hq:∀ a,P a->Q a):Ok o Q:=by obtain ⟨a,h1,h2⟩:=h; exact ⟨a,h1,hq a h2⟩
theorem Ok.bind {o:Option α} {k:α->Option β} {P:α->Prop} {Q:β->Prop} (h:Ok o P) (hk:∀ a,P a->Ok (k a) Q):Ok (o.bind k) Q:=by
 obtain ⟨a,h1,h2⟩:=h; rw [h1]; exact hk a h2
theorem ok_bind {o:Option α} {k:α->Option β} {Q:β->Prop}:Ok (o.bind k) Q ↔ Ok o λa=>Ok (k a) Q:=by
 cases o with
 | none=>simp [ok_none]
 | some a=>simp [ok_some]
theorem idx_in {l:List α} {n:Int} (d:α) (h0:0<=n) (h1:n < l.length):idx l n = some (l.getD n.toNat d):=by
 unfold idx;rw [if_pos h0];have:n.toNat < l.length:=by omega
 simp [this]
theorem idx_int {l:List Int} {n:Int} (h0:0<=n) (h1:n < l.length):idx l n = some (l.getD n.toNat 0):=idx_in 0 h0 h1
theorem app_one {l:List α} {a:α} (h:l.length<=4294967295):app l [a] = some (l ++ [a]):=app_of (by simp; omega)
theorem app_nil {l2:List α} (h:l2.length<=4294967296):app [] l2 = some l2:=by rw [app_of (by simpa using h)]; rfl
theorem slc_in {l:List α} {a b:Int} (h:0<=a/\a<=b/\b<=l.length):slc l a b = some ((l.take b.toNat).drop a.toNat):=by unfold slc; rw [if_pos h]
def Rnd (o:Option (σ ⊕ ρ)) (I:σ->Prop) (Q:ρ->Prop):Prop:=Ok o λx=>match x with
 | .inl s=>I s
 | .inr r=>Q r
theorem rnd_inl {s:σ} {I:σ->Prop} {Q:ρ->Prop}:Rnd (some (.inl s)) I Q ↔ I s:=ok_some
theorem rnd_inr {r:ρ} {I:σ->Prop} {Q:ρ->Prop}:Rnd (some (.inr r):Option (σ ⊕ ρ)) I Q ↔ Q r:=ok_some
theorem loop_wf {f:σ->Option (σ ⊕ ρ)} (μ:σ->Nat) (I:σ->Prop) (Q:ρ->Prop) {s:σ} (h0:I s)
  (hs:∀ s,I s->Rnd (f s) (λs'=>I s'/\μ s' < μ s) Q):Ok (loopO f s) Q:=by
 have key:∀ n s,μ s<=n->I s->Ok (loopO f s) Q:=by
  intro n;induction n with
  | zero =>
   intro s hn hI;obtain ⟨x,hx,h⟩:=hs s hI;cases x with
   | inl s'=>exact absurd h.2 (by omega)
   | inr r=>exact ⟨r,loopO_inr hx,h⟩
  | succ n ih =>
   intro s hn hI;obtain ⟨x,hx,h⟩:=hs s hI;cases x with
   | inl s'=>rw [loopO_inl hx]; exact ih s' (by have:=h.2; omega) h.1
   | inr r=>exact ⟨r,loopO_inr hx,h⟩
 exact key _ s (Nat.le_refl _) h0
theorem loop_up {f:σ->Option (σ ⊕ ρ)} (n:Nat) (I:Nat->σ->Prop) (Q:ρ->Prop) {s:σ} (h0:I 0 s)
  (hs:∀ i s,i<=n->I i s->Rnd (f s) (λs'=>i < n/\I (i + 1) s') Q):Ok (loopO f s) Q:=by
 obtain ⟨r,h1,h2⟩:=loop_inv n I Q (λi s hi hI=>by
  obtain ⟨x,hx,h⟩:=hs i s hi hI;cases x with
  | inl s'=>exact .inl ⟨s',hx,h⟩
  | inr r=>exact .inr ⟨r,hx,h⟩) h0
 exact ⟨r,h1,h2⟩
theorem ok_elim {o:Option (α ⊕ β)} {k:α->Option β} {Q:β->Prop}:Ok (o.bind (Sum.elim k some)) Q ↔ Ok o λx=>match x with
  | .inl a=>Ok (k a) Q
  | .inr b=>Q b:=by
 rw [ok_bind];cases o with
 | none=>simp [ok_none]
 | some x=>cases x <;> simp [ok_some]
end
theorem getD_at {α:Type} {l:List α} {i:Nat} {a d:α} (h:l[i]? = some a):l.getD i d = a:=by simp [h]
theorem take_next {α:Type} {l:List α} {i:Nat} (d:α) (h:i < l.length):l.take (i + 1) = l.take i ++ [l.getD i d]:=by
 rw [List.take_add_one]; simp [h]
end Go.Tx
end
section
namespace Go.Tx
open Go
section
variable {α β ρ τ:Type}
theorem len_lt {l:List α} {i:Nat} {a:α} (h:l[i]? = some a):i < l.length:=(List.getElem?_eq_some_iff.1 h).1
theorem for_find (l:List α) (K:Int->Option (Int ⊕ (Unit ⊕ ρ))) (g:Nat->α->Option ρ) (h:∀ (i:Nat) (a:α),l[i]? = some a->K i = some (stp i (g i a))) :
  loopO (λs=>bif decide (s < (l.length:Int)) then K s else some (.inr (.inl ()))) 0 = some (toSum (findI g 0 l)):=by
 refine loop_list l g (λi a hi=>?_) ?_
 ·have:=len_lt hi;have e:decide ((i:Int) < (l.length:Int)) = true:=by simp <;> omega
  simp only [e,cond_true];exact h i a hi
 ·simp
theorem elim_toSum {o:Option ρ} {k:Unit->Option ρ}:(some (toSum o)).bind (Sum.elim k some) = (match o with
  | some r=>some r
  | none=>k ()):=by cases o <;> rfl
theorem findI_none {g:Nat->α->Option ρ}:∀ {l:List α} {k:Nat},findI g k l = none ↔ ∀ i a,l[i]? = some a->g (k + i) a = none
 | [],k=>by simp [findI]
 | a :: l,k=>by
  simp only [findI];cases hg:g k a with
  | some r =>
   simp only [reduceCtorEq,false_iff];intro h;have:=h 0 a rfl;simp [hg] at this
  | none =>
   simp only
   rw [findI_none (l:=l) (k:=k + 1)];constructor
   ·intro h i b hb;cases i with
    | zero=>simp at hb; subst hb; simpa using hg
    | succ i=>have:=h i b (by simpa using hb); rw [<- this]; congr 1; omega
   ·intro h i b hb;have:=h (i + 1) b (by simpa using hb);rw [<- this]; congr 1; omega
theorem findI_some {g:Nat->α->Option ρ} {r:ρ}:∀ {l:List α} {k:Nat},findI g k l = some r->∃ i a,l[i]? = some a/\g (k + i) a = some r/\∀ j b,j < i->l[j]? = some b->g (k + j) b = none
 | [],k,h=>by simp [findI] at h
 | a :: l,k,h=>by
  simp only [findI] at h;cases hg:g k a with
  | some r' =>
   rw [hg] at h;simp only [Option.some.injEq] at h;subst h;exact ⟨0,a,rfl,by simpa using hg,λj b hj=>by omega⟩
  | none =>
   rw [hg] at h;obtain ⟨i,b,h1,h2,h3⟩:=findI_some (l:=l) (k:=k + 1) h;refine ⟨i + 1,b,by simpa using h1,by rw [<- h2]; congr 1; omega,λj c hj hc=>?_⟩;cases j with
   | zero=>simp at hc; subst hc; simpa using hg
   | succ j=>have:=h3 j c (by omega) (by simpa using hc); rw [<- this]; congr 1; omega
theorem for_any (l:List α) (pf:α->Option Bool) (p:α->Bool) (h:∀ x ∈ l,pf x = some (p x)) (hl:l.length<=1000000000) :
  ((loopO (λ(s2:Int) =>
   bif decide (s2 < (l.length:Int)) then
    (idx l s2).bind λx3 =>
    (pf x3).bind λx4 =>
    bif x4 then
     some (.inr (.inr s2))
    else
     some (.inl (IntKind.wrap .i64 (s2 + 1)))
   else
    some (.inr (.inl ()))) 0).bind (Sum.elim (λ(p5:Unit) =>
  some (-1)) some)).bind (λx1=>some (decide (x1>=0))) = some (l.any p):=by
 rw [for_find l _ (λi a=>if p a then some (i:Int) else none) (λi a hi=>by
  have:=len_lt hi;rw [idx_of hi];simp only [Option.bind_some];rw [h a (List.mem_of_getElem? hi)];simp only [Option.bind_some];cases hp:p a
  ·simp only [cond_false,Bool.false_eq_true,if_false,stp]; rw [wrap_id (by omega) (by omega)]
  ·simp [stp]),elim_toSum]
 cases hf:findI (λi a=>if p a then some (i:Int) else none) 0 l with
 | none =>
  rw [findI_none] at hf;have:l.any p = false:=by
   rw [List.any_eq_false];intro x hx;obtain ⟨i,hi⟩:=List.mem_iff_getElem?.1 hx;have:=hf i x hi;simpa using this
  rw [this]; rfl
 | some r =>
  obtain ⟨i,a,h1,h2,_⟩:=findI_some hf;have hp:p a = true:=by
   cases hp:p a
   ·simp [hp] at h2
   ·rfl
  have:l.any p = true:=List.any_eq_true.2 ⟨a,List.mem_of_getElem? h1,hp⟩;rw [this];simp only [hp,if_true,Option.some.injEq] at h2;simp only [Option.bind_some];have:decide (r>=0) = true:=by simp <;> omega
  rw [this]
end
end Go.Tx
end
section
namespace Go.Tx
open Go
theorem euclid_loop {f:Int × Int->Option ((Int × Int) ⊕ Int)} (hf:∀ s,f s = if s.2 = 0 then some (.inr s.1) else some (.inl (s.2,s.1.tmod s.2))):∀ (n:Nat) (a b:Int),b.natAbs<=n->∃ r,loopO f (a,b) = some r/\r.natAbs = Int.gcd a b:=by
 intro n;induction n with
 | zero =>
  intro a b hb;have:b = 0:=by omega
  subst this;exact ⟨a,loopO_inr (by rw [hf]; simp),by simp⟩
 | succ n ih =>
  intro a b hb;by_cases h0:b = 0
  ·subst h0;exact ⟨a,loopO_inr (by rw [hf]; simp),by simp⟩
  ·have hlt:(a.tmod b).natAbs < b.natAbs:=by
    rw [Int.natAbs_tmod]; exact Nat.mod_lt _ (by omega)
   obtain ⟨r,h1,h2⟩:=ih b (a.tmod b) (by omega);refine ⟨r,by rw [loopO_inl (s':=(b,a.tmod b)) (by rw [hf]; simp [h0])]; exact h1,?_⟩;rw [h2];unfold Int.gcd;rw [Int.natAbs_tmod,Nat.gcd_comm,<- Nat.gcd_rec,Nat.gcd_comm]
def gcdF:Nat->List Int->Nat
 | g,[]=>g
 | g,n :: l=>gcdF (Nat.gcd g n.natAbs) l
def gcdL (l:List Int):Nat:=gcdF 0 l
theorem gcdF_snoc (g:Nat) (n:Int):∀ (l:List Int),gcdF g (l ++ [n]) = Nat.gcd (gcdF g l) n.natAbs:=by
 intro l;induction l generalizing g with
 | nil=>rfl
 | cons m l ih=>simp only [List.cons_append,gcdF]; exact ih _
theorem gcdL_three (a b c:Int):gcdL [a,b,c] = Nat.gcd (Int.gcd a b) c.natAbs:=by simp [gcdL,gcdF,Int.gcd]
theorem gcdF_le {B:Nat}:∀ {l:List Int} {g:Nat},g<=B->(∀ x ∈ l,x.natAbs<=B)->gcdF g l<=B
 | [],g,hg,_=>hg
 | n :: l,g,hg,h=>by
  simp only [gcdF];refine gcdF_le ?_ λx hx=>h x (by simp [hx]);have h1:=h n (by simp);by_cases hg0:g = 0
  ·subst hg0; simpa using h1
  ·exact Nat.le_trans (Nat.le_of_dvd (by omega) (Nat.gcd_dvd_left g n.natAbs)) hg
theorem divisor_loop (l:List Int) (hl:l.length<=1000000000) (hb:∀ x ∈ l,x.natAbs<=4611686018427387904) :
  (loopO (λ(s2:(Int × Int)) =>
   bif decide (s2.2 < (l.length:Int)) then
    (idx l s2.2).bind λx3 =>
    (loopO (λ(s5:(Int × Int)) =>
      bif !(decide (s5.2 = 0)) then
       bif decide (s5.2 = 0) then
        none
       else
        some (.inl (s5.2,s5.1.tmod s5.2))
      else
       some (.inr s5.1)) (s2.1,x3)).bind λ(p6:Int) =>
    some (.inl (p6,IntKind.wrap .i64 (s2.2 + 1)))
   else
    some (.inr s2.1)) (0,0)).bind (λ(p7:Int)=>some (max p7 (IntKind.wrap .i64 (0 - p7)))) = some (gcdL l:Int):=by
 refine Ok.eq ?_;rw [ok_bind];refine (loop_up l.length (λi (s:Int × Int)=>s.2 = (i:Int)/\s.1.natAbs = gcdL (l.take i)) (λr:Int=>r.natAbs = gcdL l) ⟨rfl,rfl⟩ ?_).mono ?_
 ·rintro i ⟨g,s⟩ hi ⟨h1,h2⟩;simp only at h1 h2;subst h1;by_cases hlt:i < l.length
  ·have e0:decide ((i:Int) < (l.length:Int)) = true:=by simp <;> omega
   simp only [e0,cond_true];rw [idx_in 0 (by omega) (by omega)];simp only [Option.bind_some,Int.toNat_natCast];obtain ⟨r,h3,h4⟩:=euclid_loop (f:=λ(s5:(Int × Int))=>bif !(decide (s5.2 = 0)) then bif decide (s5.2 = 0) then none else some (.inl (s5.2,s5.1.tmod s5.2)) else some (.inr s5.1)) (λs=>by
    by_cases h:s.2 = 0 <;> simp [h]) (l.getD i 0).natAbs g (l.getD i 0) (Nat.le_refl _)
   rw [h3];simp only [Option.bind_some];rw [wrap_id (by omega) (by omega),rnd_inl];refine ⟨hlt,by simp,?_⟩;rw [h4,take_next 0 hlt];unfold gcdL at h2 ⊢;rw [gcdF_snoc,<- h2];rfl
  ·have:i = l.length:=by omega
   subst this;have e0:decide ((l.length:Int) < (l.length:Int)) = false:=by simp
   simp only [e0,cond_false];rw [rnd_inr];simpa using h2
 ·intro r hr;have hle:gcdL l<=4611686018427387904:=gcdF_le (by omega) hb;rw [wrap_id (by omega) (by omega),ok_some];omega
end Go.Tx
end
section
namespace Go.Tx
open Go
section
variable {α:Type}
theorem abs_mul_le {a b A B:Int} (h1 : -A<=a/\a<=A) (h2 : -B<=b/\b<=B) : -(A * B)<=a * b/\a * b<=A * B:=by
 have hA:0<=A:=by omega
 have hB:0<=B:=by omega
 have e:(a * b).natAbs = a.natAbs * b.natAbs:=Int.natAbs_mul a b;have h3:a.natAbs * b.natAbs<=A.natAbs * B.natAbs:=Nat.mul_le_mul (by omega) (by omega);have h4:((A.natAbs * B.natAbs:Nat):Int) = A * B:=by
  rw [Int.natCast_mul]; congr 1 <;> omega
 omega
end
end Go.Tx
end
section
namespace Go.Tx
open Go
section
variable {α β:Type}
def mkL (n:Nat) (f:Nat->α):List α:=(List.range n).map f
theorem mkL_len (n:Nat) (f:Nat->α):(mkL n f).length = n:=by simp [mkL]
theorem mkL_get {n:Nat} (f:Nat->α) {k:Nat} (h:k < n):(mkL n f)[k]? = some (f k):=by simp [mkL,h]
theorem mkL_succ (n:Nat) (f:Nat->α):mkL (n + 1) f = mkL n f ++ [f n]:=by simp [mkL,List.range_succ]
theorem mkL_congr {n:Nat} {f g:Nat->α} (h:∀ k,k < n->f k = g k):mkL n f = mkL n g:=List.map_congr_left λk hk=>h k (by simpa using hk)
theorem mkL_mem {n:Nat} {f:Nat->α} {x:α} (h:x ∈ mkL n f):∃ k,k < n/\x = f k:=by
 obtain ⟨k,hk,rfl⟩:=List.mem_map.1 h;exact ⟨k,by simpa using hk,rfl⟩
theorem mem_mkL {n:Nat} {f:Nat->α} {k:Nat} (h:k < n):f k ∈ mkL n f:=List.mem_map.2 ⟨k,by simpa using h,rfl⟩
theorem list_mkL (l:List α) (d:α):l = mkL l.length λk=>l.getD k d:=by
 apply List.ext_getElem?;intro k;by_cases h:k < l.length
 ·rw [mkL_get _ h]; simp [h]
 ·rw [List.getElem?_eq_none (by omega),List.getElem?_eq_none (by rw [mkL_len]; omega)]
theorem map_mkL {n:Nat} (f:Nat->α) (g:α->β):(mkL n f).map g = mkL n λk=>g (f k):=by simp [mkL]
theorem getD_mem {l:List α} {i:Nat} {d:α} (h:i < l.length):l.getD i d ∈ l:=by
 have:l[i]? = some (l.getD i d):=by simp [h]
 exact List.mem_of_getElem? this
theorem for_map {K:List β × Int->Option ((List β × Int) ⊕ List β)} (l:List α) (f:α->β)
  (h:∀ (i:Nat) a out,l[i]? = some a->out.length = i->K (out,(i:Int)) = some (.inl (out ++ [f a],(i:Int) + 1))) (he:∀ out,out.length = l.length->K (out,(l.length:Int)) = some (.inr out)):loopO K ([],0) = some (l.map f):=by
 refine Ok.eq (loop_up l.length (λi (s:List β × Int)=>s = ((l.take i).map f,(i:Int))) (λr=>r = l.map f) (by simp) ?_);rintro i s hi rfl;by_cases hlt:i < l.length
 ·have ha:l[i]? = some l[i]:=by simp [hlt]
  rw [h i _ _ ha (by simp; omega),rnd_inl];refine ⟨hlt,?_⟩;have e:(l.take (i + 1)).map f = (l.take i).map f ++ [f l[i]]:=by rw [List.take_add_one,ha]; simp only [List.map_append,Option.toList_some,List.map_cons,List.map_nil]
  rw [e]; rfl
 ·have:i = l.length:=by omega
  subst this;rw [he _ (by simp),rnd_inr];simp
theorem getD_ext {l m:List α} (d:α):(l.length = m.length/\∀ i,i < l.length->l.getD i d = m.getD i d) ↔ l = m:=by
 constructor
 ·rintro ⟨h1,h2⟩;rw [list_mkL l d,list_mkL m d,h1];exact mkL_congr λk hk=>h2 k (by omega)
 ·rintro rfl; exact ⟨rfl,λ_ _=>rfl⟩
theorem ints_loop [DecidableEq α] {l m:List α} (d:α) (hl:l.length = m.length) (hb:l.length<=1000000000) (e:α->α->Bool) (he:∀ a b,a ∈ l->b ∈ m->(e a b = true ↔ a = b)) {K:Int->Option (Int ⊕ (Unit ⊕ Bool))}
  (h:∀ i,i < l.length->K (i:Int) = some (if e (l.getD i d) (m.getD i d) = true then .inl ((i:Int) + 1) else .inr (.inr false))) :
  (loopO (λs=>bif decide (s < (l.length:Int)) then K s else some (.inr (.inl ()))) 0).bind (Sum.elim (λ(p5:Unit)=>some true) some) = some (decide (l = m)):=by
 refine Ok.eq (ok_elim.2 ?_);refine (loop_up l.length (λi (s:Int)=>s = (i:Int)/\∀ j,j < i->l.getD j d = m.getD j d) (λr=>(r = .inl ()/\∀ j,j < l.length->l.getD j d = m.getD j d)\/(r = .inr false/\∃ j,j < l.length/\l.getD j d ≠ m.getD j d)) ⟨rfl,by simp⟩ ?_).mono ?_
 ·rintro i s hi ⟨rfl,hI⟩;by_cases hlt:i < l.length
  ·have e0:decide ((i:Int) < (l.length:Int)) = true:=by simp <;> omega
   simp only [e0,cond_true];rw [h i hlt];have hm:=he (l.getD i d) (m.getD i d) (getD_mem hlt) (getD_mem (by omega));by_cases c:e (l.getD i d) (m.getD i d) = true
   ·rw [if_pos c,rnd_inl];refine ⟨hlt,by simp,λj hj=>?_⟩;by_cases hji:j < i
    ·exact hI j hji
    ·have:j = i:=by omega
     subst this; exact hm.1 c
   ·rw [if_neg c,rnd_inr];exact .inr ⟨rfl,i,hlt,λh=>c (hm.2 h)⟩
  ·have:i = l.length:=by omega
   subst this;have e0:decide ((l.length:Int) < (l.length:Int)) = false:=by simp
   simp only [e0,cond_false];rw [rnd_inr];exact .inl ⟨rfl,hI⟩
 ·rintro r (⟨rfl,h1⟩ | ⟨rfl,j,hj,hne⟩)
  ·simp only [ok_some]; rw [eq_comm,decide_eq_true_iff]; exact (getD_ext d).1 ⟨hl,h1⟩
  ·simp only; rw [eq_comm,decide_eq_false_iff_not]
   exact λh=>hne (by rw [h])
end
end Go.Tx
end
section
namespace Go.Dec
open Go Go.Lib
def isD (c:UInt8):Prop:=48<=c.toNat/\c.toNat<=57
instance:DecidablePred isD:=λc=>inferInstanceAs (Decidable (_/\_))
def stepD (n:Nat) (c:UInt8):Nat:=10 * n + (c.toNat - 48)
def val (l:List UInt8):Nat:=l.foldl stepD 0
theorem val_snoc (l:List UInt8) (c:UInt8):val (l ++ [c]) = 10 * val l + (c.toNat - 48):=by simp [val,stepD]
theorem ofNat_dig {d:Nat} (h:d < 10):(UInt8.ofNat (48 + d)).toNat = 48 + d:=by
 rw [UInt8.toNat_ofNat']; omega
theorem dec_small {u:Nat} (h:u < 10):decDigits u = [UInt8.ofNat (48 + u)]:=by rw [decDigits,dif_pos h]
theorem dec_big {u:Nat} (h:¬ u < 10):decDigits u = decDigits (u / 10) ++ [UInt8.ofNat (48 + u % 10)]:=by rw [decDigits,dif_neg h]
theorem dec_facts:∀ u:Nat,(∀ c ∈ decDigits u,isD c)/\decDigits u ≠ []/\val (decDigits u) = u/\(0 < u->(decDigits u).head? ≠ some 48):=by
 intro u;induction u using Nat.strongRecOn with
 | _ u ih =>
  by_cases h:u < 10
  ·rw [dec_small h];refine ⟨?_,by simp,?_,?_⟩
   ·intro c hc;rw [List.mem_singleton] at hc;subst hc;unfold isD;rw [ofNat_dig h]; omega
   ·simp only [val,List.foldl,stepD];rw [ofNat_dig h]; omega
   ·intro h0 e;simp only [List.head?_cons,Option.some.injEq] at e;have e2:=congrArg UInt8.toNat e;rw [ofNat_dig h] at e2;have:(48:UInt8).toNat = 48:=rfl;omega
  ·obtain ⟨h1,h2,h3,h4⟩:=ih (u / 10) (by omega);have hm:u % 10 < 10:=Nat.mod_lt _ (by omega);rw [dec_big h];refine ⟨λc hc=>?_,by simp,?_,λ_=>?_⟩
   ·rcases List.mem_append.1 hc with hc | hc
    ·exact h1 c hc
    ·rw [List.mem_singleton] at hc;subst hc;unfold isD;rw [ofNat_dig hm]; omega
   ·rw [val_snoc,h3,ofNat_dig hm]; omega
   ·cases hd:decDigits (u / 10) with
    | nil=>exact absurd hd h2
    | cons a t =>
     rw [hd] at h4;simpa using h4 (by omega)
theorem dec_len:∀ (k u:Nat),u < 10 ^ k->1<=k->(decDigits u).length<=k
 | 0,u,h,h1=>by omega
 | k + 1,u,h,_=>by
  by_cases h9:u < 10
  ·rw [dec_small h9]; simp
  ·rw [dec_big h9,List.length_append,List.length_singleton];have hk:1<=k:=by
    rcases Nat.eq_zero_or_pos k with rfl | h0
    ·simp at h; omega
    ·exact h0
   have:=dec_len k (u / 10) (by rw [Nat.pow_succ] at h; omega) hk;omega
theorem dec_val:∀ (n:Nat) (ds:List UInt8),ds.length<=n->ds ≠ []->(∀ c ∈ ds,isD c)->(ds.head? ≠ some 48\/ds.length = 1)->decDigits (val ds) = ds
 | 0,ds,hl,h0,_,_=>absurd (List.eq_nil_of_length_eq_zero (by omega)) h0
 | n + 1,ds,hl,h0,hd,hh=>by
  obtain ⟨es,c,rfl⟩:∃ es c,ds = es ++ [c]:=⟨ds.dropLast,ds.getLast h0,(List.dropLast_concat_getLast h0).symm⟩
  have hc:=hd c (by simp);unfold isD at hc;have hcc:UInt8.ofNat (48 + (c.toNat - 48)) = c:=by
   rw [show 48 + (c.toNat - 48) = c.toNat by omega]; simp
  rw [val_snoc];by_cases he:es = []
  ·subst he;simp only [val,List.foldl,Nat.mul_zero,Nat.zero_add,List.nil_append];rw [dec_small (by omega),hcc]
  ·have hlen:1<=es.length:=List.length_pos_iff.2 he;rw [List.length_append,List.length_singleton] at hl hh;have hh2:es.head? ≠ some 48:=by
    rcases hh with hh | hh
    ·cases es with
     | nil=>exact absurd rfl he
     | cons a t=>simpa using hh
    ·omega
   have ih:=dec_val n es (by omega) he (λx hx=>hd x (by simp [hx])) (.inl hh2);have hv:0 < val es:=by
    rcases Nat.eq_zero_or_pos (val es) with h | h
    ·rw [h] at ih;rw [<- ih,dec_small (by omega)] at hh2;exact absurd rfl hh2
    ·exact h
   rw [dec_big (by omega),show (10 * val es + (c.toNat - 48)) / 10 = val es by omega,show (10 * val es + (c.toNat - 48)) % 10 = c.toNat - 48 by omega,ih,hcc]
theorem val_lt:∀ (n:Nat) (ds:List UInt8),ds.length<=n->(∀ c ∈ ds,isD c)->val ds < 10 ^ n
 | 0,ds,hl,_=>by
  have:ds = []:=List.eq_nil_of_length_eq_zero (by omega);subst this; simp [val]
 | n + 1,ds,hl,hd=>by
  by_cases h0:ds = []
  ·subst h0; simp only [val,List.foldl]; exact Nat.pow_pos (by omega)
  ·obtain ⟨es,c,rfl⟩:∃ es c,ds = es ++ [c]:=⟨ds.dropLast,ds.getLast h0,(List.dropLast_concat_getLast h0).symm⟩
   have hc:=hd c (by simp);unfold isD at hc;rw [List.length_append,List.length_singleton] at hl;have:=val_lt n es (by omega) (λx hx=>hd x (by simp [hx]));rw [val_snoc,Nat.pow_succ]; omega
theorem fold_ge:∀ (l:List UInt8) (a:Nat),a<=l.foldl stepD a
 | [],a=>Nat.le_refl _
 | c :: l,a=>Nat.le_trans (by unfold stepD; omega) (fold_ge l (stepD a c))
theorem parse_digits:∀ (l:List UInt8) (a:Nat),(∀ c ∈ l,isD c)->l.foldl stepD a < 10 ^ 18->parseUint10 a l = .ok (l.foldl stepD a)
 | [],a,_,_=>rfl
 | c :: l,a,hd,h=>by
  have hc:=hd c (by simp);have h1:=fold_ge l (stepD a c);simp only [List.foldl_cons] at h ⊢;have h2:stepD a c < 10 ^ 18:=by omega
  unfold isD at hc;unfold parseUint10;rw [if_pos hc];have e:a * 10 + (c.toNat - 48) = stepD a c:=by unfold stepD; omega
  have h3:a * 10<=stepD a c:=by omega
  rw [if_neg (by omega),e,if_neg (by omega)];exact parse_digits l _ (λx hx=>hd x (by simp [hx])) h
def num (d:Nat) (w:List UInt8):Option Int:=match atoiAll w with
 | .ok v=>if itoa v = w/\(trimPrefix w [45]).length<=d then some v else none
 | _=>none
theorem trim_minus (r:List UInt8):trimPrefix (45 :: r) [45] = r:=by
 unfold trimPrefix hasPrefix;simp
theorem trim_other {w:List UInt8} (h:w.head? ≠ some 45):trimPrefix w [45] = w:=by
 unfold trimPrefix hasPrefix;cases w with
 | nil=>simp
 | cons c l =>
  have:¬ (45:UInt8) = c:=λe=>h (by simp [e]);simp [this]
def restOf (w:List UInt8):List UInt8:=if w.head? = some 45 then w.drop 1 else w
def badN (d:Nat) (w:List UInt8):Prop:=restOf w = []\/d < (restOf w).length\/((restOf w).head? = some 48/\1 < w.length) \/ ¬ ∀ c ∈ restOf w,isD c
instance (d:Nat) (w:List UInt8):Decidable (badN d w):=inferInstanceAs (Decidable (_\/_))
def numR (d:Nat) (w:List UInt8):Option Int:=if badN d w then none else some (if w.head? = some 45 then -((val (restOf w):Nat):Int) else ((val (restOf w):Nat):Int))
theorem numR_itoa {d:Nat} {v:Int} (h:(trimPrefix (itoa v) [45]).length<=d):numR d (itoa v) = some v:=by
 by_cases hv:v < 0
 ·have e:itoa v = 45 :: decDigits v.natAbs:=by unfold itoa; rw [if_pos hv]
  obtain ⟨h1,h2,h3,h4⟩:=dec_facts v.natAbs;have hr:restOf (45 :: decDigits v.natAbs) = decDigits v.natAbs:=by simp [restOf]
  rw [e,trim_minus] at h;rw [e];unfold numR;rw [if_neg,hr,h3]
  ·simp only [List.head?_cons,if_true]; congr 1; omega
  ·unfold badN;rw [hr];rintro (h5 | h5 | ⟨h5,_⟩ | h5)
   ·exact h2 h5
   ·omega
   ·exact h4 (by omega) h5
   ·exact h5 h1
 ·have e:itoa v = decDigits v.toNat:=by unfold itoa; rw [if_neg hv]
  obtain ⟨h1,h2,h3,h4⟩:=dec_facts v.toNat;have hh:(decDigits v.toNat).head? ≠ some 45:=by
   intro hc;cases hd:decDigits v.toNat with
   | nil=>rw [hd] at hc; cases hc
   | cons a t =>
    rw [hd] at hc;simp only [List.head?_cons,Option.some.injEq] at hc;have:=h1 a (by rw [hd]; simp);unfold isD at this;rw [hc] at this;exact absurd this.1 (by decide)
  have hr:restOf (decDigits v.toNat) = decDigits v.toNat:=by unfold restOf; rw [if_neg hh]
  rw [e,trim_other hh] at h;rw [e];unfold numR;rw [if_neg,hr,h3,if_neg hh]
  ·congr 1; omega
  ·unfold badN;rw [hr];rintro (h5 | h5 | ⟨h5,h6⟩ | h5)
   ·exact h2 h5
   ·omega
   ·rcases Nat.eq_zero_or_pos v.toNat with h0 | h0
    ·rw [h0,dec_small (by omega)] at h6; simp at h6
    ·exact h4 h0 h5
   ·exact h5 h1
theorem num_numR {d:Nat} (hd:d<=18) {w:List UInt8} {v:Int} (h:numR d w = some v):num d w = some v:=by
 unfold numR at h;split at h
 ·cases h
 ·rename_i hb;simp only [Option.some.injEq] at h;unfold badN at hb;simp only [not_or,not_and,Classical.not_not] at hb;obtain ⟨b1,b2,b3,b4⟩:=hb;have hlt:val (restOf w) < 10 ^ 18:=val_lt 18 _ (by omega) b4;have hp:parseMag (restOf w) = .ok (val (restOf w)):=by
   unfold parseMag;rw [if_neg b1];exact parse_digits _ 0 b4 hlt
  by_cases hm:w.head? = some 45
  ·rw [if_pos hm] at h;cases w with
   | nil=>cases hm
   | cons c r =>
    simp only [List.head?_cons,Option.some.injEq] at hm;subst hm;have hr:restOf (45 :: r) = r:=by simp [restOf]
    rw [hr] at b1 b2 b3 b4 hlt hp h;have h48:r.head? ≠ some 48:=λe=>by
     have:=b3 e;have h0:0 < r.length:=List.length_pos_iff.2 b1;simp only [List.length_cons] at this; omega
    have hdv:=dec_val r.length r (Nat.le_refl _) b1 b4 (.inl h48);have hpos:0 < val r:=by
     rcases Nat.eq_zero_or_pos (val r) with h0 | h0
     ·rw [h0,dec_small (by omega)] at hdv;rw [<- hdv] at h48;exact absurd rfl h48
     ·exact h0
    have ha:atoiAll (45 :: r) = .ok v:=by
     unfold atoiAll;have e45:(45:UInt8).toNat = 45:=rfl;simp only [e45,or_true,if_true,hp,not_true,false_and,if_false,true_and];rw [if_neg (by omega),h]
    have hi:itoa v = 45 :: r:=by
     rw [<- h];unfold itoa;rw [if_pos (by omega),show (-((val r:Nat):Int)).natAbs = val r by omega,hdv]
    unfold num;rw [ha];simp only
    rw [if_pos ⟨hi,by rw [trim_minus]; omega⟩]
  ·rw [if_neg hm] at h;have hr:restOf w = w:=by unfold restOf; rw [if_neg hm]
   rw [hr] at b1 b2 b3 b4 hlt hp h;have hdv:=dec_val w.length w (Nat.le_refl _) b1 b4 (by
    by_cases h48:w.head? = some 48
    ·right
     have:=b3 h48;have h0:0 < w.length:=List.length_pos_iff.2 b1;omega
    ·exact .inl h48)
   have ha:atoiAll w = .ok v:=by
    cases w with
    | nil=>exact absurd rfl b1
    | cons c r =>
     have hc:=b4 c (by simp);unfold isD at hc;unfold atoiAll;have e1:¬ (c.toNat = 43\/c.toNat = 45):=by omega
     have e2:¬ c.toNat = 45:=by omega
     simp only [if_neg e1];rw [hp];simp only [e2,not_false_eq_true,true_and,false_and,if_false];rw [if_neg (by omega),h]
   have hi:itoa v = w:=by
    rw [<- h];unfold itoa;rw [if_neg (by omega),Int.toNat_natCast,hdv]
   unfold num;rw [ha];simp only
   rw [if_pos ⟨hi,by rw [trim_other hm]; omega⟩]
theorem num_itoa {d:Nat} (hd:d<=18) (h1:1<=d) {v:Int} (h:v.natAbs < 10 ^ d):num d (itoa v) = some v:=by
 refine num_numR hd (numR_itoa ?_);by_cases hv:v < 0
 ·have e:itoa v = 45 :: decDigits v.natAbs:=by unfold itoa; rw [if_pos hv]
  rw [e,trim_minus];exact dec_len d _ h h1
 ·have e:itoa v = decDigits v.toNat:=by unfold itoa; rw [if_neg hv]
  have hl:=dec_len d v.toNat (by omega) h1;rw [e];unfold trimPrefix;split
  ·rw [List.length_drop]; omega
  ·exact hl
theorem itoa_chars (v:Int):∀ c ∈ itoa v,c = 45\/isD c:=by
 intro c hc;unfold itoa at hc;split at hc
 ·rcases List.mem_cons.1 hc with h | h
  ·exact .inl h
  ·exact .inr ((dec_facts _).1 c h)
 ·exact .inr ((dec_facts _).1 c hc)
theorem itoa_no {v:Int} {c:UInt8} (h1:c ≠ 45) (h2:¬ isD c):c ∉ itoa v:=λh=>(itoa_chars v c h).elim h1 h2
theorem itoa_len {v:Int} (h : -9223372036854775808<=v/\v<=9223372036854775807):(itoa v).length<=21:=by
 unfold itoa;split
 ·have:=dec_len 20 v.natAbs (by omega) (by omega);simp only [List.length_cons] <;> omega
 ·have:=dec_len 20 v.toNat (by omega) (by omega);omega
def parts (c:UInt8):List UInt8->List (List UInt8)
 | []=>[[]]
 | b :: l=>if b = c then [] :: parts c l else match parts c l with
  | []=>[[b]]
  | p :: ps=>(b :: p) :: ps
theorem parts_none {c:UInt8}:∀ {l:List UInt8},c ∉ l->parts c l = [l]
 | [],_=>rfl
 | b :: l,h=>by
  simp only [List.mem_cons,not_or] at h;unfold parts;rw [if_neg (λe=>h.1 e.symm),parts_none h.2]
theorem parts_app {c:UInt8}:∀ {p r:List UInt8},c ∉ p->parts c (p ++ c :: r) = p :: parts c r
 | [],r,_=>by simp [parts]
 | b :: p,r,h=>by
  simp only [List.mem_cons,not_or] at h;rw [List.cons_append,parts,if_neg (λe=>h.1 e.symm),parts_app h.2]
theorem parts_len (c:UInt8):∀ l:List UInt8,(parts c l).length<=l.length + 1
 | []=>by simp [parts]
 | b :: l=>by
  have:=parts_len c l;unfold parts;split
  ·simp <;> omega
  ·split
   ·simp
   ·rename_i p ps h; rw [h] at this; simp at this ⊢; omega
theorem idx_cases (c:UInt8):∀ s:List UInt8,(index s [c] = -1/\c ∉ s)\/∃ p r,s = p ++ c :: r/\c ∉ p/\index s [c] = (p.length:Int)
 | []=>.inl ⟨rfl,by simp⟩
 | b :: l=>by
  have e:index (b :: l) [c] = if [c].isPrefixOf (b :: l) then 0 else if index l [c] == -1 then -1 else index l [c] + 1:=rfl;by_cases h:c = b
  ·subst h;exact .inr ⟨[],l,rfl,List.not_mem_nil,by rw [e]; simp⟩
  ·have hp:([c].isPrefixOf (b :: l)) = false:=by simp [List.isPrefixOf,h]
   rw [e,hp];simp only [Bool.false_eq_true,if_false];rcases idx_cases c l with ⟨h1,h2⟩ | ⟨p,r,rfl,h2,h3⟩
   ·exact .inl ⟨by rw [h1]; rfl,by simp only [List.mem_cons,not_or]; exact ⟨h,h2⟩⟩
   ·refine .inr ⟨b :: p,r,rfl,by simp only [List.mem_cons,not_or]; exact ⟨h,h2⟩,?_⟩;rw [h3];have:(((p.length:Int) == -1)) = false:=by rw [beq_eq_false_iff_ne]; omega
    simp [this]
theorem join_cons2 (x y:List UInt8) (r:List (List UInt8)) (sep:List UInt8):join (x :: y :: r) sep = x ++ sep ++ join (y :: r) sep:=by
 rw [join_cons,join_cons];simp [joinTail]
theorem parts_join {c:UInt8}:∀ {ws:List (List UInt8)},ws ≠ []->(∀ w ∈ ws,c ∉ w)->parts c (join ws [c]) = ws
 | [],h,_=>absurd rfl h
 | [w],_,h=>by rw [join_one]; exact parts_none (h w (by simp))
 | w :: v :: r,_,h=>by
  rw [join_cons2];have e:w ++ [c] ++ join (v :: r) [c] = w ++ c :: join (v :: r) [c]:=by simp
  rw [e,parts_app (h w (by simp)),parts_join (by simp) (λx hx=>h x (by simp [hx]))]
theorem join_len (sep:List UInt8) {B:Nat}:∀ ws:List (List UInt8),(∀ w ∈ ws,w.length<=B)->(join ws sep).length<=ws.length * (B + sep.length)
 | [],_=>by simp [join_nil]
 | [w],h=>by
  rw [join_one];have:=h w (by simp);simp only [List.length_singleton] <;> omega
 | w :: v :: r,h=>by
  rw [join_cons2];have h1:=h w (by simp);have h2:=join_len sep (v :: r) (λx hx=>h x (by simp [hx]));simp only [List.length_append,List.length_cons] at h2 ⊢;rw [show (r.length + 1 + 1) * (B + sep.length) = (r.length + 1) * (B + sep.length) + (B + sep.length) by rw [Nat.add_mul (r.length + 1) 1,Nat.one_mul]];omega
def mapO {α β:Type} (f:α->Option β):List α->Option (List β)
 | []=>some []
 | a :: l=>(f a).bind λb=>(mapO f l).map (b :: ·)
theorem mapO_of {α β:Type} {f:α->Option β} {g:β->α}:∀ {l:List β},(∀ b ∈ l,f (g b) = some b)->mapO f (l.map g) = some l
 | [],_=>rfl
 | b :: l,h=>by
  simp only [List.map_cons,mapO];rw [h b (by simp),mapO_of (λx hx=>h x (by simp [hx]))];rfl
theorem mapO_len {α β:Type} {f:α->Option β}:∀ {l:List α} {r:List β},mapO f l = some r->r.length = l.length
 | [],r,h=>by cases h; rfl
 | a :: l,r,h=>by
  simp only [mapO] at h;obtain ⟨b,_,h⟩:=Option.bind_eq_some_iff.1 h;obtain ⟨r',hr,rfl⟩:=Option.map_eq_some_iff.1 h;simp [mapO_len hr]
end Go.Dec
end
section
namespace Go.Proofs.YteiciemjanhdcaaGreatDoor
open Go Go.Ab Go.Tx Go.Dec
def in64 (n:Int):Prop:=-9223372036854775808<=n/\n<=9223372036854775807
theorem wid {n:Int} (h1 : -9223372036854775808<=n) (h2:n<=9223372036854775807):w64 n = n:=wrap_id h1 h2
theorem Itoa_eq {n:Int} (h:in64 n):strconv_Itoa n = some (Lib.itoa n):=by
 exact if_pos h
def txt (c:UInt8) (l:List Int):List UInt8:=Lib.join (l.map Lib.itoa) [c]
theorem txt_len {c:UInt8} {l:List Int} (h:∀ n ∈ l,in64 n):(txt c l).length<=l.length * 22:=by
 have:=join_len [c] (B:=21) (l.map Lib.itoa) (λw hw=>by
  obtain ⟨n,hn,rfl⟩:=List.mem_map.1 hw;exact itoa_len (h n hn))
 simpa [txt] using this
theorem joined_eq {l:List Int} (hl:l.length<=1000) (h:∀ n ∈ l,in64 n):sensor_joined l = some (txt 32 l):=by
 unfold sensor_joined;have k1:loopO (λ(s3:((List (List UInt8)) × Int)) =>
   bif decide (s3.2 < (l.length:Int)) then
    (idx l s3.2).bind λx4 =>
    (strconv_Itoa x4).bind λx5 =>
    (app s3.1 ([x5])).bind λx6 =>
    some (.inl (x6,w64 (s3.2 + 1)))
   else
    some (.inr s3.1)) ([],0) = some (l.map Lib.itoa):=by
  refine for_map l Lib.itoa ?_ ?_
  ·intro i a out ha ho;have hlt:=(List.getElem?_eq_some_iff.1 ha).1;have h0:decide ((i:Int) < (l.length:Int)) = true:=by simp <;> omega
   simp only [h0,cond_true,idx_of ha,Option.bind_some];rw [Itoa_eq (h a (List.mem_of_getElem? ha))];simp only [Option.bind_some];rw [app_one (by omega)];simp only [Option.bind_some];rw [wid (by omega) (by omega)]
  ·intro out ho;have h0:decide ((l.length:Int) < (l.length:Int)) = false:=by simp
   simp only [h0,cond_false]
 rw [k1];simp only [Option.bind_some];have:=txt_len (c:=32) h;unfold strings_Join;rw [if_pos ⟨by rw [List.length_map]; omega,by unfold txt at this; omega⟩];rfl
def nums (d:Nat) (s:List UInt8):Option (List Int):=mapO (num d) (parts 32 s)
theorem nums_none {d:Nat} {s:List UInt8} (h:(32:UInt8) ∉ s):nums d s = (num d s).map λn=>[n]:=by
 unfold nums;rw [parts_none h];simp only [mapO];cases num d s <;> rfl
theorem nums_app {d:Nat} {p r:List UInt8} (h:(32:UInt8) ∉ p):nums d (p ++ 32 :: r) = (num d p).bind λn=>(nums d r).map (n :: ·):=by
 unfold nums;rw [parts_app h];rfl
theorem piece_eq (d:Nat) {w:List UInt8} (hw:w.length<=100000):∃ v b,strconv_Atoi w = some (v,b) /\
  (bif !b then
   some true
  else
   (strconv_Itoa v).bind λx6 =>
   bif !(decide (x6 = w)) then
    some true
   else
    (strings_TrimPrefix w ([45])).bind λx7 =>
    some (decide ((x7.length:Int) > (d:Int)))) = some (num d w).isNone/\∀ n,num d w = some n->v = n:=by
 unfold strconv_Atoi;rw [if_pos (by omega)];unfold atoiP num;cases ha:Lib.atoiAll w with
 | ok v =>
  have hb:=Lib.atoiAll_bounds ha;simp only
  refine ⟨v,true,rfl,?_,?_⟩
  ·simp only [Bool.not_true,cond_false];rw [Itoa_eq ⟨by omega,by omega⟩];simp only [Option.bind_some];by_cases c:Lib.itoa v = w
   ·simp only [c,decide_true,Bool.not_true,cond_false,true_and];unfold strings_TrimPrefix;simp only [Option.bind_some];by_cases e:(Lib.trimPrefix w [45]).length<=d
    ·have:¬ ((Lib.trimPrefix w [45]).length:Int) > (d:Int):=by omega
     simp [e,this]
    ·have:((Lib.trimPrefix w [45]).length:Int) > (d:Int):=by omega
     simp [e,this]
   ·simp [c]
  ·intro n hn;by_cases c:Lib.itoa v = w/\(Lib.trimPrefix w [45]).length<=d
   ·rw [if_pos c] at hn; cases hn; rfl
   ·rw [if_neg c] at hn; cases hn
 | range=>exact ⟨_,false,rfl,rfl,λn hn=>by cases hn⟩
 | _=>exact ⟨0,false,rfl,rfl,λn hn=>by cases hn⟩
def resL (o:Option (List Int)):List Int × Bool:=match o with
 | some l=>(l,true)
 | none=>([],false)
theorem slc_full {l:List UInt8} {a:Nat} (h:a<=l.length):slc l (a:Int) (l.length:Int) = some (l.drop a):=by
 rw [slc_in (by omega)];simp
theorem slc_to {l:List UInt8} {a:Nat} (h:a<=l.length):slc l 0 (a:Int) = some (l.take a):=by
 rw [slc_in (by omega)];simp
theorem parsed_eq (d:Nat) {s:List UInt8} (hs:s.length<=100000):sensor_parsed s (d:Int) = some (resL (nums d s)):=by
 unfold sensor_parsed;have key:∀ (o:Option ((List Int × List UInt8) ⊕ (List Int × Bool))) (k:(List Int × List UInt8)->Option (List Int × Bool)) (r:List Int × Bool),
   Ok o (λx=>match x with | .inl p=>k p = some r | .inr q=>q = r)->(o.bind (Sum.elim k some)) = some r:=by
  rintro o k r ⟨x,rfl,h⟩;cases x with
  | inl p=>exact h
  | inr q=>exact congrArg some h
 refine key _ _ _ (loop_wf (λst=>st.2.length) (λ(st:List Int × List UInt8)=>nums d s = (nums d st.2).map (st.1 ++ ·)/\st.1.length + st.2.length<=s.length) _ ⟨by simp,by simp⟩ ?_);rintro ⟨out,r⟩ ⟨e,hl⟩;simp only at e hl;unfold strings_Index;rw [if_pos (show r.length < 4294967281 by omega)];simp only [Option.bind_some];rcases idx_cases 32 r with ⟨h1,h2⟩ | ⟨p,q,rfl,h2,h3⟩
 ·rw [h1];simp only [show decide ((-1:Int) < 0) = true from rfl,cond_true];rw [rnd_inr];simp only
  obtain ⟨v,b,p1,p2,p3⟩:=piece_eq d (w:=r) (by omega);rw [p1];simp only [Option.bind_some];rw [p2];simp only [Option.bind_some];rw [nums_none h2] at e;cases hn:num d r with
  | none =>
   rw [hn] at e;simp only [Option.isNone_none,cond_true];rw [e]; rfl
  | some n =>
   rw [hn] at e;rw [p3 n hn];simp only [Option.isNone_some,cond_false];rw [app_one (by omega),e];rfl
 ·have hq:(p ++ 32 :: q).length = p.length + 1 + q.length:=by simp <;> omega
  rw [hq] at hl;have h0:decide (((p.length:Nat):Int) < 0) = false:=by simp
  rw [h3];simp only [h0,cond_false];rw [wid (by omega) (by omega),show ((p.length:Int) + 0) = ((p.length:Nat):Int) by omega,slc_to (by rw [hq]; omega)];simp only [Option.bind_some];have ht:(p ++ 32 :: q).take p.length = p:=by simp
  rw [ht];obtain ⟨v,b,p1,p2,p3⟩:=piece_eq d (w:=p) (by omega);rw [p1];simp only [Option.bind_some];rw [p2];simp only [Option.bind_some];rw [nums_app h2] at e;cases hn:num d p with
  | none =>
   rw [hn] at e;simp only [Option.isNone_none,cond_true];rw [rnd_inr,e];rfl
  | some n =>
   rw [hn] at e;rw [p3 n hn];simp only [Option.isNone_some,cond_false];rw [app_one (by omega)];simp only [Option.bind_some];rw [wid (by omega) (by omega),show ((p.length:Int) + 1) = ((p.length + 1:Nat):Int) by omega,slc_full (by rw [hq]; omega)];simp only [Option.bind_some];have hd:(p ++ 32 :: q).drop (p.length + 1) = q:=by
    rw [show p ++ 32 :: q = (p ++ [32]) ++ q by simp,List.drop_left' (by simp)]
   rw [hd,rnd_inl];refine ⟨⟨?_,?_⟩,?_⟩
   ·simp only
    rw [e];simp only [Option.bind_some];cases nums d q <;> simp
   ·simp only [List.length_append,List.length_singleton] <;> omega
   ·simp only; rw [hq]; omega
end Go.Proofs.YteiciemjanhdcaaGreatDoor
end
section
namespace Go.Proofs.YteiciemjanhdcaaGreatDoor
open Go Go.Ab Go.Tx Go.Dec
def big:Nat:=9223372036854775807
theorem within_eq (a b c:Int):sensor_within a b c = some (decide (b<=a/\a<=c)):=by
 unfold sensor_within;by_cases h:b<=a <;> simp [h]
theorem Within_eq (a b c:Int):base_Within a b c = some (decide (b<=a/\a<=c)):=by
 unfold base_Within;by_cases h:b<=a <;> simp [h]
theorem unless_eq (b:Bool) (v:Int):sensor_unless b v = some (if b then 0 else v):=by
 unfold sensor_unless;cases b <;> simp
def firstE:List Int->Int
 | []=>0
 | a :: l=>if a = 0 then firstE l else a
theorem first_eq (l:List Int) (hl:l.length<=big):sensor_first l = some (firstE l):=by
 unfold sensor_first;unfold big at hl;rw [loop_list l (λ_ a=>if a = 0 then none else some a)]
 ·rw [findI_const];simp only [Option.bind_some];clear hl;induction l with
  | nil=>rfl
  | cons a l ih =>
   simp only [List.findSome?_cons,firstE];by_cases h:a = 0
   ·simp only [h,if_true]; exact ih
   ·simp [h,toSum]
 ·intro i a hi;have hlt:i < l.length:=(List.getElem?_eq_some_iff.1 hi).1;have h1:(i:Int) < (l.length:Int):=by omega
  simp only [h1,decide_true,cond_true,idx_of hi,Option.bind_some,wrap_id (n:=(i:Int) + 1) (by omega) (by omega)];by_cases h:a = 0 <;> simp [h,stp]
 ·simp
theorem first_of {l:List Int} (hl:l.length<=100):sensor_first l = some (firstE l):=first_eq l (by unfold big; omega)
theorem sized_eq (a b:Int) (h1:0<=b) (h2:b<=9223372036854775807):sensor_sized a b = some (decide (-b<=a/\a<=b)):=by
 unfold sensor_sized;rw [within_eq];simp only [w64,wrap_id (n:=0 - b) (by omega) (by omega),Option.bind_some];congr 2
 simp
def rawE (l:List Int):Int:=if l.length = 0 then 10 else if 60 < l.length then 8 else if ∀ v ∈ l,-100000<=v/\v<=100000 then 0 else 2
theorem CheckRaw_1_eq (i a:Int):sensor_CheckRaw_1 i a = some (if -100000<=a/\a<=100000 then 0 else 2):=by
 unfold sensor_CheckRaw_1;rw [sized_eq _ _ (by omega) (by omega)];simp [unless_eq]
def gRaw (i:Nat) (a:Int):Option (Int × Int):=if -100000<=a/\a<=100000 then none else some ((i:Int),2)
theorem findI_raw:∀ (l:List Int) (k:Nat),(findI gRaw k l = none/\∀ v ∈ l,-100000<=v/\v<=100000)\/(∃ r,findI gRaw k l = some r/\r.2 = 2 /\ ¬ ∀ v ∈ l,-100000<=v/\v<=100000)
 | [],k=>.inl ⟨rfl,by simp⟩
 | a :: l,k=>by
  simp only [findI,gRaw];by_cases h : -100000<=a/\a<=100000
  ·simp only [h,if_true,and_self];rcases findI_raw l (k + 1) with ⟨h1,h2⟩ | ⟨r,h1,h2,h3⟩
   ·refine .inl ⟨h1,?_⟩;intro v hv;rcases List.mem_cons.1 hv with rfl | hv
    ·exact h
    ·exact h2 v hv
   ·exact .inr ⟨r,h1,h2,λhh=>h3 λv hv=>hh v (List.mem_cons_of_mem _ hv)⟩
  ·refine .inr ⟨((k:Int),2),by simp [h],rfl,λhh=>h (hh a (List.mem_cons_self))⟩
theorem each_eq (l:List Int) (hl:l.length<=big):sensor_each_int_of_sensor_CheckRaw_1 l = some ((findI gRaw 0 l).getD (0,0)):=by
 unfold sensor_each_int_of_sensor_CheckRaw_1;unfold big at hl;rw [loop_list l gRaw]
 ·simp only [Option.bind_some];cases findI gRaw 0 l <;> simp [toSum]
 ·intro i a hi;have hlt:i < l.length:=(List.getElem?_eq_some_iff.1 hi).1;have h1:(i:Int) < (l.length:Int):=by omega
  simp only [h1,decide_true,cond_true,idx_of hi,Option.bind_some,wrap_id (n:=(i:Int) + 1) (by omega) (by omega),CheckRaw_1_eq];by_cases h : -100000<=a/\a<=100000 <;> simp [h,stp,gRaw]
 ·simp
theorem rawErr_eq (l:List Int) (hl:l.length<=big):sensor_rawErr l = some (rawE l):=by
 unfold sensor_rawErr sensor_CheckRaw;simp only [unless_eq,Option.bind_some];rw [first_of (by simp)];simp only [Option.bind_some,firstE,each_eq l hl];unfold rawE;by_cases h0:l.length = 0
 ·simp [h0]
 ·by_cases h1:60 < l.length
  ·have a1:(l.length:Int) > 0:=by omega
   have a2:¬ (l.length:Int)<=60:=by omega
   simp [h0,h1,a1,a2]
  ·have a1:(l.length:Int) > 0:=by omega
   have a2:(l.length:Int)<=60:=by omega
   rcases findI_raw l 0 with ⟨h2,h3⟩ | ⟨r,h2,h3,h4⟩
   ·simp only [a1,a2,h0,h1,h2,decide_true,if_true,if_false,if_pos h3]; simp
   ·simp only [a1,a2,h0,h1,h2,decide_true,if_true,if_false,if_neg h4]; simp [h3]
theorem RawErr_eq (l:List Int):ref07_RawErr l = some (rawE l):=by
 unfold ref07_RawErr ref07_CheckRaw rawE;by_cases h0:l.length = 0
 ·simp [h0]
 ·by_cases h1:60 < l.length
  ·have a1:¬ (l.length:Int) = 0:=by omega
   have a2:(l.length:Int) > 60:=by omega
   simp only [a1,a2,h0,h1]; simp
  ·have a1:¬ (l.length:Int) = 0:=by omega
   have a2:¬ (l.length:Int) > 60:=by omega
   rw [loop_list l gRaw]
   ·rcases findI_raw l 0 with ⟨h2,h3⟩ | ⟨r,h2,h3,h4⟩
    ·simp only [a1,a2,h0,h1,h2,if_pos h3,toSum]; simp
    ·simp only [a1,a2,h0,h1,h2,if_neg h4,toSum]; simp [h3]
   ·intro i a hi;have hlt:i < l.length:=(List.getElem?_eq_some_iff.1 hi).1;have h1:(i:Int) < (l.length:Int):=by omega
    simp only [h1,decide_true,cond_true,idx_of hi,Option.bind_some,wrap_id (n:=(i:Int) + 1) (by omega) (by omega),Within_eq];by_cases h : -100000<=a/\a<=100000 <;> simp [h,stp,gRaw]
   ·simp
abbrev Ln:=Int × Int × Int × Unit
theorem sized_ok (a k:Int) (h0:0<=k) (h1:k<=4611686018427387904):sensor_sized a k = some (decide (-k<=a/\a<=k)):=by
 unfold sensor_sized;rw [wid (by omega) (by omega),within_eq];simp only [Option.bind_some];congr 2
 simp
theorem unless_ok (b:Bool) (e:Int):sensor_unless b e = some (if b then 0 else e):=by cases b <;> rfl
theorem divisor_ok (l:List Int) (hl:l.length<=1000000000) (hb:∀ x ∈ l,x.natAbs<=4611686018427387904):sensor_divisor l = some (gcdL l:Int):=by
 unfold sensor_divisor; exact divisor_loop l hl hb
def gcd3 (g o d:Int):Nat:=Nat.gcd (Int.gcd g o) d.natAbs
theorem gcd3_eq (g o d:Int):gcdL [g,o,d] = gcd3 g o d:=gcdL_three g o d
def mst (x:Ln):Prop:=(1<=x.2.2.1/\x.2.2.1<=300000000000)/\(-300000000000<=x.1/\x.1<=300000000000)/\(-300000000000<=x.2.1/\x.2.1<=300000000000)
instance (x:Ln):Decidable (mst x):=inferInstanceAs (Decidable (_/\_))
def lineE (x:Ln):Int:=if mst x then (if gcd3 x.1 x.2.1 x.2.2.1 = 1 then 0 else 3) else 2
theorem CheckLine_ok (x:Ln):sensor_CheckLine x = some (lineE x):=by
 unfold sensor_CheckLine;rw [within_eq,sized_ok _ _ (by omega) (by omega),sized_ok _ _ (by omega) (by omega)];simp only [Option.bind_some];have e:(bif decide (1<=x.2.2.1/\x.2.2.1<=300000000000) then bif decide (-300000000000<=x.1/\x.1<=300000000000) then some (decide (-300000000000<=x.2.1/\x.2.1<=300000000000)) else some false else some false) = some (decide (mst x)):=by
  unfold mst;by_cases c1:1<=x.2.2.1/\x.2.2.1<=300000000000 <;> by_cases c2 : -300000000000<=x.1/\x.1<=300000000000 <;> simp only [c1,c2,decide_true,decide_false,cond_true,cond_false,and_true,true_and,false_and,and_false,and_self] <;> rfl
 rw [e];simp only [Option.bind_some];unfold lineE;by_cases c:mst x
 ·obtain ⟨c1,c2,c3⟩:=c;have c:mst x:=⟨c1,c2,c3⟩
  rw [if_pos c];simp only [c,decide_true,Bool.not_true,cond_false];rw [divisor_ok _ (by simp) (by simp; omega),gcd3_eq];simp only [Option.bind_some,unless_ok];by_cases c4:gcd3 x.1 x.2.1 x.2.2.1 = 1
  ·simp [c4]
  ·have:¬ ((gcd3 x.1 x.2.1 x.2.2.1:Int) = 1):=by omega
   simp [c4,this]
 ·rw [if_neg c];simp only [c,decide_false,Bool.not_false,cond_true]
def plK (x1:List Int × Bool):Option (Ln × Int) :=
 (bif !x1.2 then
   some true
  else
   bif !(decide ((x1.1.length:Int) = 3)) then
    some true
   else
    (idx x1.1 2).bind λx2 =>
    some (decide (x2 < 0))).bind λ(p3:Bool) =>
 bif p3 then
  some ((0,0,0,()),7)
 else
  (idx x1.1 0).bind λx4 =>
  (idx x1.1 1).bind λx5 =>
  (idx x1.1 2).bind λx6 =>
  bif !(decide (lineE (x4,x5,x6,()) = 0)) then
   some ((0,0,0,()),lineE (x4,x5,x6,()))
  else
   some ((x4,x5,x6,()),0)
theorem ParseLine_eq {s:List UInt8} (hs:s.length<=100000):sensor_ParseLine s = plK (resL (nums 12 s)):=by
 unfold sensor_ParseLine;rw [show (12:Int) = ((12:Nat):Int) from rfl,parsed_eq 12 hs];simp only [CheckLine_ok,Option.bind_some];rfl
def prK (x1:List Int × Bool):List Int × Int:=if x1.2 = true then (if rawE x1.1 = 0 then (x1.1,0) else ([],rawE x1.1)) else ([],7)
theorem nums_len {d:Nat} {s:List UInt8}:(resL (nums d s)).1.length<=s.length + 1:=by
 have:=parts_len 32 s;cases h:nums d s with
 | none=>simp [resL]
 | some l=>have:=mapO_len h; simp only [resL] <;> omega
theorem ParseRaw_eq {s:List UInt8} (hs:s.length<=60000):sensor_ParseRaw s = some (prK (resL (nums 6 s))):=by
 unfold sensor_ParseRaw;have h0:decide ((s.length:Int) > 60000) = false:=by simp <;> omega
 have hl:=nums_len (d:=6) (s:=s);simp only [h0,cond_false];rw [show (6:Int) = ((6:Nat):Int) from rfl,parsed_eq 6 (by omega)];simp only [Option.bind_some];rw [rawErr_eq _ (by unfold big; omega)];simp only [Option.bind_some];unfold prK;cases (resL (nums 6 s)).2 <;> simp
 split <;> simp [*]
theorem Ints_eq {l m:List Int} (hl:l.length<=1000000000):base_Ints l m = some (decide (l = m)):=by
 unfold base_Ints;by_cases h:l.length = m.length
 ·have e:decide ((l.length:Int) = (m.length:Int)) = true:=by simp [h]
  simp only [e,Bool.not_true,cond_false];refine ints_loop 0 h hl (λa b=>decide (a = b)) (by simp) λi hi=>?_;rw [idx_int (by omega) (by omega),idx_int (by omega) (by omega)];simp only [Option.bind_some,Int.toNat_natCast];by_cases c:l.getD i 0 = m.getD i 0
  ·simp only [c,decide_true,Bool.not_true,cond_false,if_true]; rw [wid (by omega) (by omega)]
  ·simp only [c,decide_false,Bool.not_false,cond_true,Bool.false_eq_true,if_false]
 ·have e:decide ((l.length:Int) = (m.length:Int)) = false:=by simp <;> omega
  have:l ≠ m:=λe=>h (by rw [e]);simp [e,this]
theorem Ints_self {l:List Int} (hl:l.length<=1000000000):base_Ints l l = some true:=by rw [Ints_eq hl]; simp
theorem CopyInts_eq {l:List Int} (hl:l.length<=1000000000):base_CopyInts l = some l:=by
 unfold base_CopyInts;rw [app_nil (by omega)]; rfl
theorem nums_txt {d:Nat} (hd:d<=18) (h1:1<=d) {l:List Int} (h0:l ≠ []) (h:∀ n ∈ l,n.natAbs < 10 ^ d):nums d (txt 32 l) = some l:=by
 unfold nums txt;rw [parts_join (by simpa using h0)]
 ·exact mapO_of λn hn=>num_itoa hd h1 (h n hn)
 ·intro w hw;obtain ⟨n,hn,rfl⟩:=List.mem_map.1 hw;exact itoa_no (by decide) (by decide)
end Go.Proofs.YteiciemjanhdcaaGreatDoor
end
section
namespace Go.Proofs.YteiciemjanhdcaaGreatDoor
open Go Go.Ab Go.Tx Go.Dec
noncomputable section
def atK (fr sp ha t:Int):Option Int:=some (w64 ((w64 (fr + (w64 (sp * t)))) + (w64 ((w64 (ha * t)) * t))))
def core (fr sp ha T x5 x6:Int):Option Bool :=
 (loopO (λ(s8:((List Int) × (List Int) × (List Int) × (List Int) × Int)) =>
   bif decide (s8.2.2.2.2<=T) then
    ((atK fr sp ha s8.2.2.2.2).bind λx9 =>
     (app s8.1 ([x9])).bind λx10 =>
      some x10).bind λ(p16:(List Int)) =>
    ((atK fr sp ha s8.2.2.2.2).bind λx17 =>
     (app s8.2.1 ([w64 ((w64 ((w64 (1 + x5)) * x17)) + (w64 (x6 - 20)))])).bind λx18 =>
      some x18).bind λ(p24:(List Int)) =>
    ((app s8.2.2.1 ([w64 ((w64 (2 * (w64 (1 + x5)))) * ha)])).bind λx25 =>
      some x25).bind λ(p33:(List Int)) =>
    ((app s8.2.2.2.1 ([w64 ((w64 ((-2) * (w64 (1 + x5)))) * ha)])).bind λx34 =>
      some x34).bind λ(p43:(List Int)) =>
    some (.inl (p16,p24,p33,p43,w64 (s8.2.2.2.2 + 1)))
   else
    some (.inr (s8.1,s8.2.1,s8.2.2.1,s8.2.2.2.1))) ([],[],[],[],0)).bind λ(p44:((List Int) × (List Int) × (List Int) × (List Int))) =>
 ((ref07_RawErr p44.1).bind λx45 =>
  bif !(decide (x45 = 0)) then
   some true
  else
   (ref07_RawErr p44.2.1).bind λx46 =>
   some (!(decide (x46 = 0)))).bind λ(p47:Bool) =>
 bif p47 then
  some true
 else
  (sensor_CalibrationOf ([(w64 (x6 - 20),0,()),(w64 ((w64 (1 + x5)) + (w64 (x6 - 20))),1,()),(w64 ((w64 ((-2) * (w64 (1 + x5)))) + (w64 (x6 - 20))),(-2),())])).bind λx48 =>
  (sensor_FormatLine x48.1).bind λx49 =>
  (sensor_ParseLine x49).bind λx50 =>
  (base_CopyInts p44.1).bind λx51 =>
  (sensor_FormatRaw x51).bind λx52 =>
  (sensor_ParseRaw x52).bind λx53 =>
  (bif !(decide (x48.2 = 0)) then
    some true
   else
    let v54:Bool:=!(bif decide (x48.1.1 = w64 (1 + x5)) then (bif decide (x48.1.2.1 = w64 (x6 - 20)) then (bif decide (x48.1.2.2.1 = 1) then true else false) else false) else false)
    bif v54 then
     some true
    else
     bif !(decide (x50.2 = 0)) then
      some true
     else
      let v55:Bool:=!(bif decide (x50.1.1 = x48.1.1) then (bif decide (x50.1.2.1 = x48.1.2.1) then (bif decide (x50.1.2.2.1 = x48.1.2.2.1) then true else false) else false) else false)
      bif v55 then
       some true
      else
       bif !(decide (x53.2 = 0)) then
        some true
       else
        (base_Ints x53.1 p44.1).bind λx56 =>
        some (!x56)).bind λ(p57:Bool) =>
  bif p57 then
   some false
  else
   (sensor_CorrectedOf x50.1 x53.1).bind λx58 =>
   (base_CopyInts p44.2.1).bind λx59 =>
   (sensor_CurvesOf x59).bind λx60 =>
   (base_CopyInts p44.2.1).bind λx61 =>
   (sensor_StrangeIn x61 p44.2.2.1 (0:Int)).bind λx62 =>
   (base_CopyInts p44.2.1).bind λx63 =>
   (sensor_StrangeIn x63 p44.2.2.2 (0:Int)).bind λx64 =>
   (bif !(decide (x58.2 = 0)) then
     some true
    else
     bif !(decide (x58.1.1 = 1)) then
      some true
     else
      (base_Ints x58.1.2.1 p44.2.1).bind λx65 =>
      bif !x65 then
       some true
      else
       bif !(decide (x60.2 = 0)) then
        some true
       else
        bif !(decide ((x60.1.length:Int) = w64 ((p44.2.1.length:Int) - 2))) then
         some true
        else
         bif !(decide (x62.2 = 0)) then
          some true
         else
          bif !(decide ((x62.1.length:Int) = 0)) then
           some true
          else
           some (!(decide (x64.2 = 0)))).bind λ(p66:Bool) =>
   bif p66 then
    some false
   else
    (loopO (λ(s68:Int) =>
      bif decide (s68 < (x60.1.length:Int)) then
       ((idx x60.1 s68).bind λx69 =>
        some (!(decide (x69 = w64 ((w64 (2 * (w64 (1 + x5)))) * ha))))).bind λ(p76:Bool) =>
       bif p76 then
        some (.inr (.inr false))
       else
        some (.inl (w64 (s68 + 1)))
      else
       some (.inr (.inl ()))) 0).bind (Sum.elim (λ(p77:Unit) =>
    (bif decide (ha = 0) then
     (bif decide ((x64.1.length:Int) = 0) then some true else (bif !(decide (ha = 0)) then some (decide ((x64.1.length:Int) = w64 ((p44.2.1.length:Int) - 2))) else some false))
    else (bif !(decide (ha = 0)) then some (decide ((x64.1.length:Int) = w64 ((p44.2.1.length:Int) - 2))) else some false)).bind λ(p78:Bool) =>
    some p78) some)
end
def S (m v:Int):Prop:=-m<=v/\v<=m
instance (m v:Int):Decidable (S m v):=inferInstanceAs (Decidable (_/\_))
abbrev W6:=Int × Int × Int × Int × Int × Int × Unit
theorem isz (x:W6) (m:Int) (h:0<=m/\m<=1000):ref01_isSized x m = some (decide (S m x.1/\S m x.2.1/\S m x.2.2.1/\S m x.2.2.2.1/\S m x.2.2.2.2.1/\S m x.2.2.2.2.2.1)):=by
 unfold ref01_isSized;rw [wid (by omega) (by omega),show (0:Int) - m = -m by omega];simp only [Within_eq,Option.bind_some];unfold S;by_cases c1 : -m<=x.1/\x.1<=m
 case neg=>simp [c1]
 by_cases c2 : -m<=x.2.1/\x.2.1<=m
 case neg=>simp [c1,c2]
 by_cases c3 : -m<=x.2.2.1/\x.2.2.1<=m
 case neg=>simp [c1,c2,c3]
 by_cases c4 : -m<=x.2.2.2.1/\x.2.2.2.1<=m
 case neg=>simp [c1,c2,c3,c4]
 by_cases c5 : -m<=x.2.2.2.2.1/\x.2.2.2.2.1<=m
 case neg=>simp [c1,c2,c3,c4,c5]
 by_cases c6 : -m<=x.2.2.2.2.2.1/\x.2.2.2.2.2.1<=m
 case neg=>simp [c1,c2,c3,c4,c5,c6]
 simp [c1,c2,c3,c4,c5,c6]
theorem Mod_ok (n m:Int) (h1:0 < m) (h2:m<=100):∃ r,base_Mod n m = some r/\0<=r/\r < m:=by
 unfold base_Mod;have h0:decide (m = 0) = false:=by simp <;> omega
 simp only [h0,cond_false];have ha:(n.tmod m).natAbs < m.natAbs:=by rw [Int.natAbs_tmod]; exact Nat.mod_lt _ (by omega)
 by_cases c:n.tmod m < 0
 ·simp only [c,decide_true,cond_true,Option.bind_some];rw [wid (by omega) (by omega)];exact ⟨_,rfl,by omega,by omega⟩
 ·simp only [c,decide_false,cond_false,Option.bind_some];exact ⟨_,rfl,by omega,by omega⟩
theorem PieceErr_ok (x:(Int × Int × Int × Int × Int × Int × Int × Int × Int × Int × Int × Int × Int × Int × Int × Int × Int × Int × Int × Unit)) :
  ∃ e,ref01_PieceErr x = some e/\(e = 0->(S 1000 x.1/\S 1000 x.2.1/\S 1000 x.2.2.1/\S 1000 x.2.2.2.1/\S 1000 x.2.2.2.2.1/\S 1000 x.2.2.2.2.2.1) /\
   (S 100 x.2.2.2.2.2.2.1/\S 100 x.2.2.2.2.2.2.2.1/\S 100 x.2.2.2.2.2.2.2.2.1/\S 100 x.2.2.2.2.2.2.2.2.2.1/\S 100 x.2.2.2.2.2.2.2.2.2.2.1/\S 100 x.2.2.2.2.2.2.2.2.2.2.2.1) /\
   (S 100 x.2.2.2.2.2.2.2.2.2.2.2.2.1/\S 100 x.2.2.2.2.2.2.2.2.2.2.2.2.2.1/\S 100 x.2.2.2.2.2.2.2.2.2.2.2.2.2.2.1/\S 100 x.2.2.2.2.2.2.2.2.2.2.2.2.2.2.2.1/\S 100 x.2.2.2.2.2.2.2.2.2.2.2.2.2.2.2.2.1/\S 100 x.2.2.2.2.2.2.2.2.2.2.2.2.2.2.2.2.2.1)):=by
 unfold ref01_PieceErr;rw [isz _ 1000 (by omega),isz _ 100 (by omega),isz _ 100 (by omega),Within_eq];simp only [Option.bind_some];generalize hc1:decide (S 1000 x.1/\S 1000 x.2.1/\S 1000 x.2.2.1/\S 1000 x.2.2.2.1/\S 1000 x.2.2.2.2.1/\S 1000 x.2.2.2.2.2.1) = b1;generalize hc2:decide (S 100 x.2.2.2.2.2.2.1/\S 100 x.2.2.2.2.2.2.2.1/\S 100 x.2.2.2.2.2.2.2.2.1/\S 100 x.2.2.2.2.2.2.2.2.2.1/\S 100 x.2.2.2.2.2.2.2.2.2.2.1/\S 100 x.2.2.2.2.2.2.2.2.2.2.2.1) = b2;generalize hc3:decide (S 100 x.2.2.2.2.2.2.2.2.2.2.2.2.1/\S 100 x.2.2.2.2.2.2.2.2.2.2.2.2.2.1/\S 100 x.2.2.2.2.2.2.2.2.2.2.2.2.2.2.1/\S 100 x.2.2.2.2.2.2.2.2.2.2.2.2.2.2.2.1/\S 100 x.2.2.2.2.2.2.2.2.2.2.2.2.2.2.2.2.1/\S 100 x.2.2.2.2.2.2.2.2.2.2.2.2.2.2.2.2.2.1) = b3;cases b1 with
 | false=>exact ⟨2,rfl,λh=>by cases h⟩
 | true =>
  cases b2 with
  | false=>exact ⟨2,rfl,λh=>by cases h⟩
  | true =>
   cases b3 with
   | false=>exact ⟨2,rfl,λh=>by cases h⟩
   | true =>
    simp only [Bool.not_true,cond_false,Option.bind_some];generalize decide (1<=x.2.2.2.2.2.2.2.2.2.2.2.2.2.2.2.2.2.2.1/\x.2.2.2.2.2.2.2.2.2.2.2.2.2.2.2.2.2.2.1<=100) = b4;cases b4
    ·exact ⟨2,rfl,λh=>by cases h⟩
    ·exact ⟨0,rfl,λ_=>⟨of_decide_eq_true hc1,of_decide_eq_true hc2,of_decide_eq_true hc3⟩⟩
end Go.Proofs.YteiciemjanhdcaaGreatDoor
end
section
namespace Go.Proofs.YteiciemjanhdcaaGreatDoor
open Go Go.Ab Go.Tx Go.Dec
theorem of3 (a b c:Int × Int × Unit):sensor_of [a,b,c] = some (3,w64 (w64 (w64 (0 + a.2.1) + b.2.1) + c.2.1),w64 (w64 (w64 (0 + a.1) + b.1) + c.1),w64 (w64 (w64 (0 + w64 (a.2.1 * a.2.1)) + w64 (b.2.1 * b.2.1)) + w64 (c.2.1 * c.2.1)),w64 (w64 (w64 (0 + w64 (a.2.1 * a.1)) + w64 (b.2.1 * b.1)) + w64 (c.2.1 * c.1)),()):=by
 unfold sensor_of;rw [loopO_of (n:=4) (r:=((3:Int),w64 (w64 (w64 (0 + a.2.1) + b.2.1) + c.2.1),w64 (w64 (w64 (0 + a.1) + b.1) + c.1),w64 (w64 (w64 (0 + w64 (a.2.1 * a.2.1)) + w64 (b.2.1 * b.2.1)) + w64 (c.2.1 * c.2.1)),w64 (w64 (w64 (0 + w64 (a.2.1 * a.1)) + w64 (b.2.1 * b.1)) + w64 (c.2.1 * c.1)))) (by kernel_rfl)];rfl
theorem calib {g o:Int} (hg:1<=g/\g<=9) (ho : -20<=o/\o<=20):sensor_CalibrationOf [(o,0,()),(g + o,1,()),((-2) * g + o,-2,())] = some ((g,o,1,()),0):=by
 unfold sensor_CalibrationOf;have h1:sensor_pairsErr [(o,0,()),(g + o,1,()),((-2) * g + o,-2,())] = some 0:=by
  unfold sensor_pairsErr;have hc:slices_ContainsFunc_Lapi_SensorPair_api_SensorPair_of_sensor_pairsErr_1 [(o,0,()),(g + o,1,()),((-2) * g + o,-2,())] = some ([(o,0,()),(g + o,1,()),((-2) * g + o,-2,())].any λz=>!(decide ((-1000<=z.1/\z.1<=1000)/\(-1000<=z.2.1/\z.2.1<=1000)))):=by
   unfold slices_ContainsFunc_Lapi_SensorPair_api_SensorPair_of_sensor_pairsErr_1 slices_IndexFunc_Lapi_SensorPair_api_SensorPair_of_sensor_pairsErr_1;refine for_any _ sensor_pairsErr_1 _ (λx _=>?_) (by simp);unfold sensor_pairsErr_1;rw [sized_eq _ _ (by omega) (by omega),sized_eq _ _ (by omega) (by omega)];by_cases c1 : -1000<=x.1/\x.1<=1000 <;> by_cases c2 : -1000<=x.2.1/\x.2.1<=1000 <;> simp [c1,c2]
  have hb:([(o,0,()),(g + o,1,()),((-2) * g + o,-2,())].any λz:Int × Int × Unit=>!(decide ((-1000<=z.1/\z.1<=1000)/\(-1000<=z.2.1/\z.2.1<=1000)))) = false:=by
   rw [List.any_eq_false];intro z hz;simp only [List.mem_cons,List.mem_nil_iff,or_false] at hz;rcases hz with rfl | rfl | rfl <;> simp <;> omega
  rw [hc,hb];simp only [Option.bind_some,unless_eq];rw [first_of (by simp)];rfl
 rw [h1];simp only [Option.bind_some,decide_true,Bool.not_true,cond_false];rw [of3];have e1:w64 (w64 (w64 (0 + (0:Int)) + 1) + (-2)) = -1:=by decide
 have e2:w64 (w64 (w64 (0 + o) + (g + o)) + ((-2) * g + o)) = 3 * o - g:=by
  rw [wid (n:=0 + o) (by omega) (by omega),wid (n:=0 + o + (g + o)) (by omega) (by omega),wid (by omega) (by omega)]; omega
 have e3:w64 (w64 (w64 (0 + w64 ((0:Int) * 0)) + w64 ((1:Int) * 1)) + w64 ((-2:Int) * (-2))) = 5:=by decide
 have e4:w64 (w64 (w64 (0 + w64 ((0:Int) * o)) + w64 (1 * (g + o))) + w64 ((-2) * ((-2) * g + o))) = 5 * g - o:=by
  rw [wid (n:=(0:Int) * o) (by omega) (by omega),wid (n:=1 * (g + o)) (by omega) (by omega),wid (n:=(-2) * ((-2) * g + o)) (by omega) (by omega),
   wid (n:=0 + (0:Int) * o) (by omega) (by omega),wid (n:=0 + (0:Int) * o + 1 * (g + o)) (by omega) (by omega),wid (by omega) (by omega)]; omega
 simp only [Option.bind_some,e1,e2,e3,e4];unfold sensor_sums_spread;have e5:w64 (w64 ((3:Int) * 5) - w64 ((-1:Int) * (-1))) = 14:=by decide
 simp only [e5,Option.bind_some,show decide ((14:Int) = 0) = false from rfl,cond_false];have e6:w64 (w64 (3 * (5 * g - o)) - w64 ((-1) * (3 * o - g))) = 14 * g:=by
  rw [wid (n:=3 * (5 * g - o)) (by omega) (by omega),wid (n:=(-1) * (3 * o - g)) (by omega) (by omega),wid (by omega) (by omega)]; omega
 have e7:w64 (w64 ((3 * o - g) * 5) - w64 ((-1) * (5 * g - o))) = 14 * o:=by
  rw [wid (n:=(3 * o - g) * 5) (by omega) (by omega),wid (n:=(-1) * (5 * g - o)) (by omega) (by omega),wid (by omega) (by omega)]; omega
 simp only [e6,e7];rw [divisor_ok _ (by simp) (λx hx=>by
  simp only [List.mem_cons,List.mem_nil_iff,or_false] at hx;rcases hx with rfl | rfl | rfl <;> omega)]
 have e8:((gcdL [14 * g,14 * o,14]:Nat):Int) = 14:=by
  rw [gcdL_three];have:(14:Nat) ∣ Int.gcd (14 * g) (14 * o):=Int.dvd_gcd (Int.dvd_mul_right 14 g) (Int.dvd_mul_right 14 o);rw [show ((14:Int)).natAbs = 14 from rfl,Nat.gcd_eq_right this]; rfl
 rw [e8];simp only [Option.bind_some,show decide ((14:Int) = 0) = false from rfl,cond_false];rw [Int.mul_tdiv_cancel_left g (by omega),Int.mul_tdiv_cancel_left o (by omega),wid (by omega) (by omega),wid (by omega) (by omega)];rfl
def okR (l:List Int):Prop:=l ≠ []/\l.length<=60/\∀ v ∈ l,-100000<=v/\v<=100000
theorem rawE_of {l:List Int} (h:okR l):rawE l = 0:=by
 obtain ⟨h1,h2,h3⟩:=h;unfold rawE;rw [if_neg (by intro e; exact h1 (List.eq_nil_of_length_eq_zero e)),if_neg (by omega),if_pos h3]
theorem of_rawE {l:List Int} (h:rawE l = 0):okR l:=by
 unfold rawE at h;split at h
 ·cases h
 ·rename_i h1;split at h
  ·cases h
  ·rename_i h2;split at h
   ·rename_i h3; exact ⟨λe=>by subst e; exact h1 rfl,by omega,h3⟩
   ·cases h
theorem Clone_eq {l:List Int} (h:l ≠ []) (hl:l.length<=1000):slices_Clone_Lint_int l = some l:=by
 unfold slices_Clone_Lint_int;have:l.isEmpty = false:=by cases l with
  | nil=>exact absurd rfl h
  | cons a t=>rfl
 rw [this];simp only [cond_false];rw [app_nil (by omega)]; rfl
theorem corrected {g o:Int} (hg:1<=g/\g<=9) (ho : -20<=o/\o<=20) {raw:List Int} (h:okR raw) :
  sensor_CorrectedOf (g,o,1,()) raw = some ((1,raw.map λr=>g * r + o,()),0):=by
 obtain ⟨h1,h2,h3⟩:=h;unfold sensor_CorrectedOf;have hl:lineE (g,o,1,()) = 0:=by
  unfold lineE;rw [if_pos (by unfold mst; simp only; omega),if_pos (by unfold gcd3; simp)]
 rw [CheckLine_ok,hl,rawErr_eq _ (by unfold big; omega),rawE_of ⟨h1,h2,h3⟩];simp only [Option.bind_some];rw [first_of (by simp)];have hm:∀ {r:Int},-100000<=r/\r<=100000 -> -900000<=g * r/\g * r<=900000:=λ{r} hr=>abs_mul_le (A:=9) (B:=100000) (by omega) hr;have k1:loopO (λ(s6:(Int × Int × (List Int))) =>
    bif decide (s6.1 < (raw.length:Int)) then
     (idx raw s6.1).bind λx7 =>
     (app s6.2.2 ([w64 ((w64 (g * x7)) + o)])).bind λx8 =>
     some (.inl (w64 (s6.1 + 1),s6.2.1,x8))
    else
     some (.inr (s6.2.1,s6.2.2))) (0,1,[]) = some (1,raw.map λr=>g * r + o):=by
  refine Ok.eq (loop_up raw.length (λi (s:Int × Int × List Int)=>s = ((i:Int),1,(raw.take i).map λr=>g * r + o)) _ rfl ?_);rintro i s hi rfl;by_cases hlt:i < raw.length
  ·obtain ⟨a,ha⟩:∃ a,raw[i]? = some a:=⟨_,List.getElem?_eq_getElem hlt⟩
   have h0:decide ((i:Int) < (raw.length:Int)) = true:=by simp <;> omega
   have hb:=hm (h3 a (List.mem_of_getElem? ha));simp only [h0,cond_true,idx_of ha,Option.bind_some];rw [app_one (by rw [List.length_map,List.length_take]; omega)];simp only [Option.bind_some];rw [wid (n:=g * a) (by omega) (by omega),wid (n:=g * a + o) (by omega) (by omega),wid (by omega) (by omega),rnd_inl,take_next a hlt,getD_at ha];exact ⟨hlt,by simp⟩
  ·have:i = raw.length:=by omega
   subst this;have h0:decide ((raw.length:Int) < (raw.length:Int)) = false:=by simp
   simp only [h0,cond_false];rw [rnd_inr,List.take_length]
 have hne:(raw.map λr=>g * r + o) ≠ []:=by simpa using h1
 have hlen:(raw.map λr=>g * r + o).length = raw.length:=List.length_map _;simp only [Option.bind_some,show (!(decide (firstE [0,0] = 0))) = false from rfl,cond_false];rw [k1];simp only [Option.bind_some];rw [Clone_eq hne (by omega)];simp only [Option.bind_some];rw [app_one (by omega)];simp only [Option.bind_some];have hd:sensor_divisor ((raw.map λr=>g * r + o) ++ [1]) = some 1:=by
  rw [divisor_ok _ (by simp; omega) (λx hx=>by
   rcases List.mem_append.1 hx with hx | hx
   ·obtain ⟨r,hr,rfl⟩:=List.mem_map.1 hx;have:=hm (h3 r hr);omega
   ·simp only [List.mem_singleton] at hx; subst hx; decide)]
  unfold gcdL;rw [gcdF_snoc];simp
 rw [hd];simp only [Option.bind_some,show decide ((1:Int) = 0) = false from rfl,cond_false,Int.tdiv_one];have k2:loopO (λ(s14:(Int × Int × (List Int))) =>
     bif decide (s14.1 < ((raw.map λr=>g * r + o).length:Int)) then
      (idx s14.2.2 s14.1).bind λx15 =>
      (idx s14.2.2 s14.1).bind λx16 =>
      (idx s14.2.2 s14.1).bind λx17 =>
      some (.inl (w64 (s14.1 + 1),s14.2.1,List.set s14.2.2 s14.1.toNat (w64 x15)))
     else
      some (.inr (s14.2.1,s14.2.2))) (0,w64 1,raw.map λr=>g * r + o) = some (1,raw.map λr=>g * r + o):=by
  refine Ok.eq (loop_up raw.length (λi (s:Int × Int × List Int)=>s = ((i:Int),1,raw.map λr=>g * r + o)) _ (by rw [wid (by omega) (by omega)]; rfl) ?_);rintro i s hi rfl;by_cases hlt:i < raw.length
  ·obtain ⟨a,ha⟩:∃ a,raw[i]? = some a:=⟨_,List.getElem?_eq_getElem hlt⟩
   have ha2:(raw.map λr=>g * r + o)[i]? = some (g * a + o):=by simp [ha]
   have h0:decide ((i:Int) < ((raw.map λr=>g * r + o).length:Int)) = true:=by rw [hlen]; simp <;> omega
   have hb:=hm (h3 a (List.mem_of_getElem? ha));simp only [h0,cond_true,idx_of ha2,Option.bind_some];rw [wid (n:=g * a + o) (by omega) (by omega),wid (by omega) (by omega),rnd_inl];refine ⟨hlt,?_⟩;have:(raw.map λr=>g * r + o).set ((i:Int).toNat) (g * a + o) = raw.map λr=>g * r + o:=by
    rw [Int.toNat_natCast];apply List.ext_getElem?;intro j;rw [List.getElem?_set];by_cases hj:i = j
    ·subst hj; rw [if_pos rfl,if_pos (by rw [hlen]; omega),ha2]
    ·rw [if_neg hj]
   rw [this];simp
  ·have:i = raw.length:=by omega
   subst this;have h0:decide ((raw.length:Int) < ((raw.map λr=>g * r + o).length:Int)) = false:=by rw [hlen]; simp
   simp only [h0,cond_false];rw [rnd_inr]
 rw [k2];rfl
def Pl (fr sp ha:Int) (t:Nat):Int:=fr + sp * (t:Int) + ha * (t:Int) * (t:Int)
def Ql (fr sp ha g o:Int) (t:Nat):Int:=g * Pl fr sp ha t + o
theorem curve_id (fr sp ha g o:Int) (t:Nat):Ql fr sp ha g o t - 2 * Ql fr sp ha g o (t + 1) + Ql fr sp ha g o (t + 2) = 2 * (g * ha):=by
 have h:Pl fr sp ha (t + 2) = 2 * ha + 2 * Pl fr sp ha (t + 1) - Pl fr sp ha t:=by
  unfold Pl;have c1:((t + 1:Nat):Int) = (t:Int) + 1:=by omega
  have c2:((t + 2:Nat):Int) = (t:Int) + 2:=by omega
  rw [c1,c2];simp only [Int.mul_add,Int.add_mul,Int.mul_one];have h2:ha * 2 * (t:Int) = 2 * (ha * (t:Int)):=by rw [Int.mul_comm ha 2,Int.mul_assoc]
  omega
 unfold Ql;have h2:g * Pl fr sp ha (t + 2) = 2 * (g * ha) + 2 * (g * Pl fr sp ha (t + 1)) - g * Pl fr sp ha t:=by
  rw [h,Int.mul_sub,Int.mul_add,Int.mul_left_comm g 2,Int.mul_left_comm g 2]
 omega
theorem curve_eq {fr sp ha g o:Int} {n:Nat} (hb:∀ t,t < n -> -100000<=Ql fr sp ha g o t/\Ql fr sp ha g o t<=100000) {t:Nat} (h:t + 2 < n) (hn:n<=100) :
  sensor_curve (mkL n (Ql fr sp ha g o)) ((t + 1:Nat):Int) = some (2 * (g * ha)):=by
 unfold sensor_curve;have b0:=hb t (by omega);have b1:=hb (t + 1) (by omega);have b2:=hb (t + 2) (by omega);have e:=curve_id fr sp ha g o t;rw [wid (n:=((t + 1:Nat):Int) - 1) (by omega) (by omega),wid (n:=((t + 1:Nat):Int) + 1) (by omega) (by omega),
  show (((t + 1:Nat):Int) - 1) = ((t:Nat):Int) by omega,show (((t + 1:Nat):Int) + 1) = ((t + 2:Nat):Int) by omega,
  idx_of (mkL_get _ (by omega)),idx_of (mkL_get _ (by omega)),idx_of (mkL_get _ (by omega))]
 simp only [Option.bind_some];rw [wid (n:=2 * Ql fr sp ha g o (t + 1)) (by omega) (by omega),wid (n:=Ql fr sp ha g o t - 2 * Ql fr sp ha g o (t + 1)) (by omega) (by omega),wid (by omega) (by omega),e]
theorem okR_mk {n:Nat} {f:Nat->Int} (h1:1<=n) (h2:n<=60) (h:∀ t,t < n -> -100000<=f t/\f t<=100000):okR (mkL n f):=by
 refine ⟨?_,by rw [mkL_len]; exact h2,λv hv=>?_⟩
 ·intro e;have:=congrArg List.length e;rw [mkL_len] at this;simp at this; omega
 ·obtain ⟨k,hk,rfl⟩:=mkL_mem hv;exact h k hk
theorem CurvesOf_eq {fr sp ha g o:Int} {n:Nat} (h3:3<=n) (hn:n<=60) (hb:∀ t,t < n -> -100000<=Ql fr sp ha g o t/\Ql fr sp ha g o t<=100000) :
  sensor_CurvesOf (mkL n (Ql fr sp ha g o)) = some (mkL (n - 2) λ_=>2 * (g * ha),0):=by
 unfold sensor_CurvesOf;rw [rawErr_eq _ (by rw [mkL_len]; unfold big; omega),rawE_of (okR_mk (by omega) hn hb)];simp only [Option.bind_some,mkL_len,unless_eq];have h0:decide ((n:Int) > 2) = true:=by simp <;> omega
 rw [h0];simp only [if_true];rw [first_of (by simp)];simp only [Option.bind_some,show (!(decide (firstE [0,0] = 0))) = false from rfl,cond_false];have k1:loopO (λ(s6:((List Int) × Int)) =>
    bif decide (s6.2 < w64 ((n:Int) - 1)) then
     (sensor_curve (mkL n (Ql fr sp ha g o)) s6.2).bind λx7 =>
     (app s6.1 ([x7])).bind λx8 =>
     some (.inl (x8,w64 (s6.2 + 1)))
    else
     some (.inr s6.1)) ([],1) = some (mkL (n - 2) λ_=>2 * (g * ha)):=by
  refine Ok.eq (loop_up (n - 2) (λi (s:List Int × Int)=>s = (mkL i (λ_=>2 * (g * ha)),((i + 1:Nat):Int))) _ rfl ?_);rintro i s hi rfl;rw [wid (n:=(n:Int) - 1) (by omega) (by omega)];by_cases hlt:i < n - 2
  ·have h1:decide (((i + 1:Nat):Int) < (n:Int) - 1) = true:=by simp only [decide_eq_true_eq] <;> omega
   simp only [h1,cond_true];rw [curve_eq hb (by omega) (by omega)];simp only [Option.bind_some];rw [app_one (by rw [mkL_len]; omega)];simp only [Option.bind_some];rw [wid (by omega) (by omega),rnd_inl,mkL_succ];exact ⟨hlt,rfl⟩
  ·have:i = n - 2:=by omega
   subst this;have h1:decide (((n - 2 + 1:Nat):Int) < (n:Int) - 1) = false:=by simp only [decide_eq_false_iff_not] <;> omega
   simp only [h1,cond_false];rw [rnd_inr]
 rw [k1];rfl
theorem StrangeIn_eq {fr sp ha g o e:Int} {n:Nat} (h3:3<=n) (hn:n<=60) (hb:∀ t,t < n -> -100000<=Ql fr sp ha g o t/\Ql fr sp ha g o t<=100000) (he : -10000<=e/\e<=10000) (hgh : -10000<=g * ha/\g * ha<=10000) :
  ∃ r,sensor_StrangeIn (mkL n (Ql fr sp ha g o)) (mkL n λ_=>e) 0 = some (r,0)/\r.length = if e = 2 * (g * ha) then 0 else n - 2:=by
 unfold sensor_StrangeIn;rw [rawErr_eq _ (by rw [mkL_len]; unfold big; omega),rawE_of (okR_mk (by omega) hn hb),rawErr_eq _ (by rw [mkL_len]; unfold big; omega),rawE_of (okR_mk (by omega) hn (λt _=>⟨by omega,by omega⟩))];simp only [Option.bind_some,mkL_len,unless_eq,within_eq,decide_true];rw [first_of (by simp)];simp only [Option.bind_some,if_true,show (if decide ((0:Int)<=0/\(0:Int)<=100000) = true then (0:Int) else 2) = 0 from rfl,show (!(decide (firstE [0,0,0,0] = 0))) = false from rfl,cond_false];have k1:Ok (loopO (λ(s8:((List Int) × Int)) =>
    bif decide (s8.2 < w64 ((n:Int) - 1)) then
     (sensor_curve (mkL n (Ql fr sp ha g o)) s8.2).bind λx9 =>
     (idx (mkL n λ_=>e) s8.2).bind λx10 =>
     (sensor_sized (w64 (x9 - x10)) 0).bind λx11 =>
     (bif !x11 then
       (app s8.1 ([s8.2])).bind λx12 =>
       some x12
      else
       some s8.1).bind λ(p13:(List Int)) =>
     some (.inl (p13,w64 (s8.2 + 1)))
    else
     some (.inr s8.1)) ([],1)) λr=>r.length = if e = 2 * (g * ha) then 0 else n - 2:=by
  refine loop_up (n - 2) (λi (s:List Int × Int)=>s.2 = ((i + 1:Nat):Int)/\s.1.length = if e = 2 * (g * ha) then 0 else i) _ ⟨rfl,by simp⟩ ?_;rintro i ⟨out,i1⟩ hi ⟨e1,e2⟩;simp only at e1 e2;subst e1;rw [wid (n:=(n:Int) - 1) (by omega) (by omega)];by_cases hlt:i < n - 2
  ·have h1:decide (((i + 1:Nat):Int) < (n:Int) - 1) = true:=by simp only [decide_eq_true_eq] <;> omega
   simp only [h1,cond_true];rw [curve_eq hb (by omega) (by omega),idx_of (mkL_get _ (by omega))];simp only [Option.bind_some];rw [wid (n:=2 * (g * ha) - e) (by omega) (by omega),sized_eq _ _ (by omega) (by omega)];simp only [Option.bind_some];by_cases c:e = 2 * (g * ha)
   ·have c':decide (-0<=2 * (g * ha) - e/\2 * (g * ha) - e<=0) = true:=by simp only [decide_eq_true_eq] <;> omega
    simp only [c',Bool.not_true,cond_false,Option.bind_some];rw [wid (by omega) (by omega),rnd_inl];rw [if_pos c] at e2 ⊢;exact ⟨hlt,by simp,e2⟩
   ·have c':decide (-0<=2 * (g * ha) - e/\2 * (g * ha) - e<=0) = false:=by simp only [decide_eq_false_iff_not] <;> omega
    rw [if_neg c] at e2 ⊢;simp only [c',Bool.not_false,cond_true];rw [app_one (by omega)];simp only [Option.bind_some];rw [wid (by omega) (by omega),rnd_inl];exact ⟨hlt,by simp,by simp [e2]⟩
  ·have:i = n - 2:=by omega
   subst this;have h1:decide (((n - 2 + 1:Nat):Int) < (n:Int) - 1) = false:=by simp only [decide_eq_false_iff_not] <;> omega
   simp only [h1,cond_false];rw [rnd_inr];exact e2
 obtain ⟨r,h1,h2⟩:=k1;refine ⟨r,?_,h2⟩;rw [h1];rfl
end Go.Proofs.YteiciemjanhdcaaGreatDoor
end
section
namespace Go.Proofs.YteiciemjanhdcaaGreatDoor
open Go Go.Ab Go.Tx Go.Dec
theorem plK_own {g o:Int} (hg:1<=g/\g<=9) (ho : -20<=o/\o<=20):plK (resL (some [g,o,1])) = some ((g,o,1,()),0):=by
 have hl:lineE (g,o,1,()) = 0:=by
  unfold lineE;rw [if_pos (by unfold mst; simp only; omega),if_pos (by unfold gcd3; simp)]
 unfold plK;simp only [resL,List.length_cons,List.length_nil,Bool.not_true,cond_false];have i0:idx [g,o,1] 0 = some g:=by simp [idx]
 have i1:idx [g,o,1] 1 = some o:=by simp [idx]
 have i2:idx [g,o,1] 2 = some 1:=by simp [idx]
 rw [i0,i1,i2];simp only [Option.bind_some];simp [hl]
theorem core_true {fr sp ha g o:Int} {T:Nat} (hf:S 1000 fr) (hs:S 100 sp) (hh:S 100 ha) (hg:1<=g/\g<=9) (ho : -20<=o/\o<=20) (hT:2<=T/\T<=20) :
  core fr sp ha (T:Int) (g - 1) (o + 20) = some true:=by
 unfold S at hf hs hh;have hgh : -900<=g * ha/\g * ha<=900:=abs_mul_le (A:=9) (B:=100) (by omega) hh;have eg:w64 (1 + (g - 1)) = g:=by rw [wid (by omega) (by omega)]; omega
 have eo:w64 (o + 20 - 20) = o:=by rw [wid (by omega) (by omega)]; omega
 have e2:w64 (w64 (2 * g) * ha) = 2 * (g * ha):=by rw [wid (n:=2 * g) (by omega) (by omega),Int.mul_assoc,wid (by omega) (by omega)]
 have e3:w64 (w64 ((-2) * g) * ha) = (-2) * (g * ha):=by rw [wid (n:=(-2) * g) (by omega) (by omega),Int.mul_assoc,wid (by omega) (by omega)]
 have e4:w64 (g + o) = g + o:=wid (by omega) (by omega);have e5:w64 (w64 ((-2) * g) + o) = (-2) * g + o:=by rw [wid (n:=(-2) * g) (by omega) (by omega),wid (by omega) (by omega)]
 have hP:∀ t:Nat,t<=20->atK fr sp ha (t:Int) = some (Pl fr sp ha t) /\ -43000<=Pl fr sp ha t/\Pl fr sp ha t<=43000:=by
  intro t ht;have b1 : -(100 * 20)<=sp * (t:Int)/\sp * (t:Int)<=100 * 20:=abs_mul_le (A:=100) (B:=20) hs ⟨by omega,by omega⟩;have b2 : -(100 * 20)<=ha * (t:Int)/\ha * (t:Int)<=100 * 20:=abs_mul_le (A:=100) (B:=20) hh ⟨by omega,by omega⟩;have b3 : -((100 * 20) * 20)<=ha * (t:Int) * (t:Int)/\ha * (t:Int) * (t:Int)<=(100 * 20) * 20:=abs_mul_le (A:=100 * 20) (B:=20) b2 ⟨by omega,by omega⟩;unfold atK Pl;rw [wid (n:=sp * (t:Int)) (by omega) (by omega),wid (n:=ha * (t:Int)) (by omega) (by omega),wid (n:=ha * (t:Int) * (t:Int)) (by omega) (by omega),wid (n:=fr + sp * (t:Int)) (by omega) (by omega),wid (by omega) (by omega)];exact ⟨rfl,by omega,by omega⟩
 have hQ:∀ t:Nat,t<=20->w64 (w64 (g * Pl fr sp ha t) + o) = Ql fr sp ha g o t:=by
  intro t ht;obtain ⟨_,b⟩:=hP t ht;have b1 : -(9 * 43000)<=g * Pl fr sp ha t/\g * Pl fr sp ha t<=9 * 43000:=abs_mul_le (A:=9) (B:=43000) (by omega) b;rw [wid (n:=g * Pl fr sp ha t) (by omega) (by omega),wid (by omega) (by omega)]; rfl
 unfold core;simp only [eg,eo,e2,e3,e4,e5];have k1:loopO (λ(s8:((List Int) × (List Int) × (List Int) × (List Int) × Int)) =>
   bif decide (s8.2.2.2.2<=(T:Int)) then
    ((atK fr sp ha s8.2.2.2.2).bind λx9 =>
     (app s8.1 ([x9])).bind λx10 =>
      some x10).bind λ(p16:(List Int)) =>
    ((atK fr sp ha s8.2.2.2.2).bind λx17 =>
     (app s8.2.1 ([w64 (w64 (g * x17) + o)])).bind λx18 =>
      some x18).bind λ(p24:(List Int)) =>
    ((app s8.2.2.1 ([2 * (g * ha)])).bind λx25 =>
      some x25).bind λ(p33:(List Int)) =>
    ((app s8.2.2.2.1 ([(-2) * (g * ha)])).bind λx34 =>
      some x34).bind λ(p43:(List Int)) =>
    some (.inl (p16,p24,p33,p43,w64 (s8.2.2.2.2 + 1)))
   else
    some (.inr (s8.1,s8.2.1,s8.2.2.1,s8.2.2.2.1))) ([],[],[],[],0) = some (mkL (T + 1) (Pl fr sp ha),mkL (T + 1) (Ql fr sp ha g o),mkL (T + 1) (λ_=>2 * (g * ha)),mkL (T + 1) (λ_=>(-2) * (g * ha))):=by
  refine Ok.eq (loop_up (T + 1) (λi (s:List Int × List Int × List Int × List Int × Int)=>s = (mkL i (Pl fr sp ha),mkL i (Ql fr sp ha g o),mkL i (λ_=>2 * (g * ha)),mkL i (λ_=>(-2) * (g * ha)),(i:Int))) _ rfl ?_);rintro i s hi rfl;by_cases hlt:i < T + 1
  ·have h0:decide ((i:Int)<=(T:Int)) = true:=by simp only [decide_eq_true_eq] <;> omega
   simp only [h0,cond_true];rw [(hP i (by omega)).1];simp only [Option.bind_some];rw [hQ i (by omega),app_one (by rw [mkL_len]; omega),app_one (by rw [mkL_len]; omega),app_one (by rw [mkL_len]; omega),app_one (by rw [mkL_len]; omega)];simp only [Option.bind_some];rw [wid (by omega) (by omega),rnd_inl,mkL_succ,mkL_succ,mkL_succ,mkL_succ];exact ⟨hlt,rfl⟩
  ·have:i = T + 1:=by omega
   subst this;have h0:decide (((T + 1:Nat):Int)<=(T:Int)) = false:=by simp only [decide_eq_false_iff_not] <;> omega
   simp only [h0,cond_false];rw [rnd_inr]
 rw [k1];simp only [Option.bind_some];have oP:okR (mkL (T + 1) (Pl fr sp ha)):=okR_mk (by omega) (by omega) (λt ht=>by have:=(hP t (by omega)).2; omega);rw [RawErr_eq,rawE_of oP];simp only [Option.bind_some,decide_true,Bool.not_true,cond_false];rw [RawErr_eq];simp only [Option.bind_some];by_cases c:rawE (mkL (T + 1) (Ql fr sp ha g o)) = 0
 case neg=>simp [c]
 simp only [c,decide_true,Bool.not_true,cond_false];have oQ:=of_rawE c;have hb:∀ t,t < T + 1 -> -100000<=Ql fr sp ha g o t/\Ql fr sp ha g o t<=100000:=λt ht=>oQ.2.2 _ (mem_mkL ht);rw [calib hg ho];simp only [Option.bind_some];have hl3:∀ n ∈ [g,o,(1:Int)],in64 n:=by
  intro n hn;simp only [List.mem_cons,List.mem_nil_iff,or_false] at hn;unfold in64;rcases hn with rfl | rfl | rfl <;> omega
 have hrw:∀ n ∈ mkL (T + 1) (Pl fr sp ha),in64 n:=by
  intro n hn;have:=oP.2.2 n hn;unfold in64; omega
 have t3:=txt_len (c:=32) hl3;have tr:=txt_len (c:=32) hrw;rw [mkL_len] at tr;simp only [List.length_cons,List.length_nil] at t3;have hFL:sensor_FormatLine (g,o,1,()) = some (txt 32 [g,o,1]):=by
  unfold sensor_FormatLine;rw [joined_eq (by simp) hl3]; rfl
 have hFR:sensor_FormatRaw (mkL (T + 1) (Pl fr sp ha)) = some (txt 32 (mkL (T + 1) (Pl fr sp ha))):=by
  unfold sensor_FormatRaw;rw [joined_eq (by rw [mkL_len]; omega) hrw]; rfl
 rw [hFL];simp only [Option.bind_some];rw [ParseLine_eq (by omega),nums_txt (by omega) (by omega) (by simp) (λn hn=>by
   simp only [List.mem_cons,List.mem_nil_iff,or_false] at hn;rcases hn with rfl | rfl | rfl <;> omega),plK_own hg ho]
 simp only [Option.bind_some];rw [CopyInts_eq (by rw [mkL_len]; omega)];simp only [Option.bind_some];rw [hFR];simp only [Option.bind_some];rw [ParseRaw_eq (by omega),nums_txt (by omega) (by omega) oP.1 (λn hn=>by have:=oP.2.2 n hn; omega)];simp only [Option.bind_some,resL,prK,rawE_of oP,if_true,decide_true,Bool.not_true,cond_false,cond_true];rw [Ints_self (by rw [mkL_len]; omega)];simp only [Option.bind_some,Bool.not_true,cond_false];rw [corrected hg ho oP,map_mkL];have eQ:(mkL (T + 1) λk=>g * Pl fr sp ha k + o) = mkL (T + 1) (Ql fr sp ha g o):=rfl;rw [eQ,CopyInts_eq (by rw [mkL_len]; omega)];simp only [Option.bind_some];rw [CurvesOf_eq (by omega) (by omega) hb];simp only [Option.bind_some];obtain ⟨r1,s1,l1⟩:=StrangeIn_eq (e:=2 * (g * ha)) (fr:=fr) (sp:=sp) (ha:=ha) (g:=g) (o:=o) (n:=T + 1) (by omega) (by omega) hb (by omega) (by omega);obtain ⟨r2,s2,l2⟩:=StrangeIn_eq (e:=(-2) * (g * ha)) (fr:=fr) (sp:=sp) (ha:=ha) (g:=g) (o:=o) (n:=T + 1) (by omega) (by omega) hb (by omega) (by omega);rw [if_pos rfl] at l1;rw [s1,s2];simp only [Option.bind_some,decide_true,Bool.not_true,cond_false,mkL_len];rw [Ints_self (by rw [mkL_len]; omega)];have w2:w64 (((T + 1:Nat):Int) - 2) = ((T + 1 - 2:Nat):Int):=by rw [wid (by omega) (by omega)]; omega
 simp only [Option.bind_some,w2,l1,decide_true,Bool.not_true,cond_false,Int.natCast_zero];have k2:loopO (λ(s68:Int) =>
      bif decide (s68 < ((T + 1 - 2:Nat):Int)) then
       ((idx (mkL (T + 1 - 2) λ_=>2 * (g * ha)) s68).bind λx69 =>
        some (!(decide (x69 = 2 * (g * ha))))).bind λ(p76:Bool) =>
       bif p76 then
        some (.inr (.inr false))
       else
        some (.inl (w64 (s68 + 1)))
      else
       some (.inr (.inl ()))) 0 = some (.inl ():Unit ⊕ Bool):=by
  refine Ok.eq (loop_up (T + 1 - 2) (λi (s:Int)=>s = (i:Int)) _ rfl ?_);rintro i s hi rfl;by_cases hlt:i < T + 1 - 2
  ·have h0:decide ((i:Int) < ((T + 1 - 2:Nat):Int)) = true:=by simp only [decide_eq_true_eq] <;> omega
   simp only [h0,cond_true];rw [idx_of (mkL_get _ hlt)];simp only [Option.bind_some,decide_true,Bool.not_true,cond_false];rw [wid (by omega) (by omega),rnd_inl];exact ⟨hlt,by omega⟩
  ·have:i = T + 1 - 2:=by omega
   subst this;have h0:decide (((T + 1 - 2:Nat):Int) < ((T + 1 - 2:Nat):Int)) = false:=by simp
   simp only [h0,cond_false];rw [rnd_inr]
 rw [k2];simp only [Option.bind_some,Sum.elim_inl];by_cases ch:ha = 0
 ·have:g * ha = 0:=by rw [ch,Int.mul_zero]
  rw [if_pos (by omega)] at l2;simp [ch,l2]
 ·have:g * ha ≠ 0:=Int.mul_ne_zero (by omega) ch;rw [if_neg (by omega)] at l2;simp [ch,l2]
set_option maxRecDepth 100000 in
theorem TopSensorPhysics_all (x:(Int × Int × Int × Int × Int × Int × Int × Int × Int × Int × Int × Int × Int × Int × Int × Int × Int × Int × Int × Unit)) (y:Int × Int × Int × Unit):top_TopSensorPhysics x y = some true:=by
 unfold top_TopSensorPhysics top_sensorShown;rw [Option.bind_some];simp only [Bool.not_true,cond_false];obtain ⟨e,he,hp⟩:=PieceErr_ok x;rw [he,Option.bind_some];by_cases c1:e = 0
 case neg =>
  rw [show (!(decide (e = 0))) = true by simp [c1],cond_true,Option.bind_some,cond_true]
 obtain ⟨⟨f0,f1,f2,f3,f4,f5⟩,⟨s0,s1,s2,s3,s4,s5⟩,⟨h0,h1,h2,h3,h4,h5⟩⟩:=hp c1;rw [show (!(decide (e = 0))) = false by simp [c1],cond_false];by_cases c2:x.2.2.2.2.2.2.2.2.2.2.2.2.2.2.2.2.2.2.1 < 2
 ·rw [show decide (x.2.2.2.2.2.2.2.2.2.2.2.2.2.2.2.2.2.2.1 < 2) = true by simp [c2],cond_true,Option.bind_some,cond_true]
 rw [show decide (x.2.2.2.2.2.2.2.2.2.2.2.2.2.2.2.2.2.2.1 < 2) = false by simp [c2],cond_false,Option.bind_some];by_cases c3:x.2.2.2.2.2.2.2.2.2.2.2.2.2.2.2.2.2.2.1 > 20
 ·rw [show decide (x.2.2.2.2.2.2.2.2.2.2.2.2.2.2.2.2.2.2.1 > 20) = true by simp [c3],cond_true]
 rw [show decide (x.2.2.2.2.2.2.2.2.2.2.2.2.2.2.2.2.2.2.1 > 20) = false by simp [c3],cond_false];obtain ⟨T,hT⟩:=Int.eq_ofNat_of_zero_le (show 0<=x.2.2.2.2.2.2.2.2.2.2.2.2.2.2.2.2.2.2.1 by omega);obtain ⟨k,m1,k0,k1⟩:=Mod_ok y.1 6 (by omega) (by omega);obtain ⟨g',m2,g0,g1⟩:=Mod_ok y.2.1 9 (by omega) (by omega);obtain ⟨o',m3,o0,o1⟩:=Mod_ok y.2.2.1 41 (by omega) (by omega);rw [m1,Option.bind_some,m2,Option.bind_some,m3,Option.bind_some];have key:∀ fr sp ha:Int,S 1000 fr->S 100 sp->S 100 ha->core fr sp ha x.2.2.2.2.2.2.2.2.2.2.2.2.2.2.2.2.2.2.1 g' o' = some true:=λfr sp ha a b c=>by
  have:=core_true (fr:=fr) (sp:=sp) (ha:=ha) (g:=g' + 1) (o:=o' - 20) (T:=T) a b c (by omega) (by omega) (by omega);rw [show g' + 1 - 1 = g' by omega,show o' - 20 + 20 = o' by omega] at this;rw [hT]; exact this
 have hk:k = 0\/k = 1\/k = 2\/k = 3\/k = 4\/k = 5:=by omega
 rcases hk with rfl | rfl | rfl | rfl | rfl | rfl
 ·exact Eq.trans (b:=core x.1 x.2.2.2.2.2.2.1 x.2.2.2.2.2.2.2.2.2.2.2.2.1 x.2.2.2.2.2.2.2.2.2.2.2.2.2.2.2.2.2.2.1 g' o') (by kernel_rfl) (key _ _ _ f0 s0 h0)
 ·exact Eq.trans (b:=core x.2.1 x.2.2.2.2.2.2.2.1 x.2.2.2.2.2.2.2.2.2.2.2.2.2.1 x.2.2.2.2.2.2.2.2.2.2.2.2.2.2.2.2.2.2.1 g' o') (by kernel_rfl) (key _ _ _ f1 s1 h1)
 ·exact Eq.trans (b:=core x.2.2.1 x.2.2.2.2.2.2.2.2.1 x.2.2.2.2.2.2.2.2.2.2.2.2.2.2.1 x.2.2.2.2.2.2.2.2.2.2.2.2.2.2.2.2.2.2.1 g' o') (by kernel_rfl) (key _ _ _ f2 s2 h2)
 ·exact Eq.trans (b:=core x.2.2.2.1 x.2.2.2.2.2.2.2.2.2.1 x.2.2.2.2.2.2.2.2.2.2.2.2.2.2.2.1 x.2.2.2.2.2.2.2.2.2.2.2.2.2.2.2.2.2.2.1 g' o') (by kernel_rfl) (key _ _ _ f3 s3 h3)
 ·exact Eq.trans (b:=core x.2.2.2.2.1 x.2.2.2.2.2.2.2.2.2.2.1 x.2.2.2.2.2.2.2.2.2.2.2.2.2.2.2.2.1 x.2.2.2.2.2.2.2.2.2.2.2.2.2.2.2.2.2.2.1 g' o') (by kernel_rfl) (key _ _ _ f4 s4 h4)
 ·exact Eq.trans (b:=core x.2.2.2.2.2.1 x.2.2.2.2.2.2.2.2.2.2.2.1 x.2.2.2.2.2.2.2.2.2.2.2.2.2.2.2.2.2.1 x.2.2.2.2.2.2.2.2.2.2.2.2.2.2.2.2.2.2.1 g' o') (by kernel_rfl) (key _ _ _ f5 s5 h5)
end Go.Proofs.YteiciemjanhdcaaGreatDoor
end
section
namespace Go.Proofs.YteiciemjanhdcaaGreatDoor.topSensorPhysics
open Go Go.Ab Go.Tx Go.ChangeShapes Go.WideShapes Go.ChangeAt Go.RowKit
theorem true_ (x:denP ([(.pair I (.pair I (.pair I (.pair I (.pair I (.pair I (.pair I (.pair I (.pair I (.pair I (.pair I (.pair I (.pair I (.pair I (.pair I (.pair I (.pair I (.pair I (.pair I .unit))))))))))))))))))),(.pair I (.pair I (.pair I .unit)))].map Pm.ty)) (hx:RngP maxLen [(.pair I (.pair I (.pair I (.pair I (.pair I (.pair I (.pair I (.pair I (.pair I (.pair I (.pair I (.pair I (.pair I (.pair I (.pair I (.pair I (.pair I (.pair I (.pair I .unit))))))))))))))))))),(.pair I (.pair I (.pair I .unit)))] x):e_top_TopSensorPhysics.F x = some true:=TopSensorPhysics_all x.1 x.2
set_option maxRecDepth 100000 in
theorem contract (H:Type) (enc:TypeId × Value->H) (W:World) (base:Nat) (args:Array Value) (ds gs:List (DataW H)) (before:List MemPlace)
  (hval:∀ (j:Nat) t v,Tryz.f4.params[j]? = some t->args[j]? = some v->Value.okWide Tryz.prog W .any base t v)
  (hW:DataW.Whole enc Tryz.prog Tryz.f4.params.toList Rows.topSensorPhysicsSpec.vars false W args.toList ds gs before) (hgl:GlOk W (cx0 W)) :
  Calls Tryz.prog 4 args W λe W'=>∃ v,e = .returned v/\Rows.topSensorPhysicsSpec.post enc Tryz.prog Tryz.f4 false true false false W args v W' :=
 law_contract (τs:=[(.pair I (.pair I (.pair I (.pair I (.pair I (.pair I (.pair I (.pair I (.pair I (.pair I (.pair I (.pair I (.pair I (.pair I (.pair I (.pair I (.pair I (.pair I (.pair I .unit))))))))))))))))))),(.pair I (.pair I (.pair I .unit)))]) (ts:=[55,57]) (tb:=4) (F:=e_top_TopSensorPhysics.F) follows hname hlib laid_out Tryz.func4 (by kernel_rfl) (by kernel_rfl) (by kernel_rfl) (by kernel_rfl) (by kernel_rfl) (by kernel_rfl) Tryz.underlying4 o_top_TopSensorPhysics true_ rfl
  (λH ds h=>by
   match ds,h with
   | [d1,d2],_=>rfl) H enc W base args ds gs before hval hW hgl
set_option maxRecDepth 100000 in
theorem lifted (os:Os) (started:os.Started) (H:Type) (enc:TypeId × Value->H) :
  ReturnsInHanded {} Tryz.checked os 4 .any (λw args=>(Rows.topSensorPhysicsSpec.pre enc Tryz.prog Tryz.f4 Rows.topSensorPhysicsRow.domain false w args/\laidMetH Tryz.prog laid7 w)/\sizedMet enc Tryz.prog Tryz.f4 (OpenSpec.ofChange Rows.topSensorPhysicsSpec) false w args)
   (Rows.topSensorPhysicsSpec.post enc Tryz.prog Tryz.f4 false true false false):=by
 refine returnsInHanded_of_laid_shaped (C:=Tryz.checked) (X:=λw _=>laidMetH Tryz.prog laid7 w) (λ_ _ _ hh h=>h.of_heap hh) own started (by kernel_rfl) Tryz.func4
  (ChangeSpec.witness_shaped (enc:=enc) (C:=Tryz.checked) (os:=os) (X:=λw _=>laidMetH Tryz.prog laid7 w) false (World.laidAll Tryz.prog os laid7) #[.agg #[.int .i64 0,.int .i64 0,.int .i64 0,.int .i64 0,.int .i64 0,.int .i64 0,.int .i64 0,.int .i64 0,.int .i64 0,.int .i64 0,.int .i64 0,.int .i64 0,.int .i64 0,.int .i64 0,.int .i64 0,.int .i64 0,.int .i64 0,.int .i64 0,.int .i64 0],.agg #[.int .i64 0,.int .i64 0,.int .i64 0]] 8 (World.laidAll_os _ _ _)
   (World.shaped_of_ZipB (by kernel_rfl) (by kernel_rfl)) (by kernel_rfl) (by kernel_rfl) (by kernel_rfl)
   (by rw [MakeChecks.laidMetH_plain _ _ _ (by kernel_rfl)]; exact laidMet_laidAll _ (by kernel_rfl) (by kernel_rfl))) ?_
 intro W base args ds gs before hval hW hS hL;exact contract H enc W base args ds gs before hval hW (gl_laid hS hL)
theorem said:Rows.TopSensorPhysicsSaid :=
 OpenClaim.holds_of_wide 4 Tryz.f4 rfl rfl rfl rfl rfl rfl rfl ⟨rfl,rfl,rfl,rfl,rfl⟩ rfl rfl rfl rfl rfl (by kernel_rfl) Tryz.func4 (by kernel_rfl)
  (of_decide_eq_true (by kernel_rfl)) (by unfold Func.isWrapper; first | (rw [if_pos (by decide +kernel)]; kernel_rfl) | (rw [if_neg (by decide +kernel)]; exact ⟨rfl,rfl⟩))
  (λos started H enc _=>lifted os started H enc)
theorem proved:Rows.TopSensorPhysicsCardSaid :=
 Claim7.holds_tied_plain_at .later [] [.data, .data, .data, .data, .sentinel, .sentinel, .pinned] true (true, "b047576e82b3618035bcd12881f37f9051199a02151335b10545a8d28bc60f06") true
  said (λ_ h=>by cases h) (by kernel_rfl) (λ_ h=>by cases h) topSensorPhysics_row_tie rfl ⟨rfl,rfl⟩ (by kernel_rfl) rfl
  (λf fn hf hfn=>by
   obtain rfl : f = 4 := Option.some.inj ((show Tryz.prog.funcNamed "ductility/ductilitytop.TopSensorPhysics" = some 4 by kernel_rfl).symm.trans hf) |>.symm
   obtain rfl:fn = Tryz.f4:=(Option.some.inj (Tryz.func4.symm.trans hfn)).symm;exact ⟨by kernel_rfl,λj t ht=>by
    have hp:Tryz.f4.params = #[55,57]:=by kernel_rfl
    rw [hp] at ht;rcases j with _ | _ | j
    ·simp at ht; subst ht; exact (show Tryz.prog.wantsStandIn 55 = false by kernel_rfl)
    ·simp at ht; subst ht; exact (show Tryz.prog.wantsStandIn 57 = false by kernel_rfl)
    ·simp at ht⟩)
  (by kernel_rfl)
end Go.Proofs.YteiciemjanhdcaaGreatDoor.topSensorPhysics
end
