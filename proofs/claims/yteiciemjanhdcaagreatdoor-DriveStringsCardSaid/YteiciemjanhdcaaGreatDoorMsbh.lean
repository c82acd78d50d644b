/-
  ONE LAW OF A CHAPTER: its program side is run by an interpreter that is proved sound; what it computes is shown to be what the law says. No conditions. Part 8 of 8.
-/
import Derived.Test.YteiciemjanhdcaaGreatDoorMsbg
import Derived.Test.YteiciemjanhdcaaGreatDoorRows
import Derived.WalkKit
import Derived.Test.YteiciemjanhdcaaGreatDoorProg
import Derived.KernelRfl
import Derived.ProofKit
import Derived.LaidMore
import Derived.OpenShut
import Derived.Stop.Joined
import Derived.Stop.LaidErr
import Derived.Lib.LaidTab
import Derived.Shelf.Vars
import Derived.ChangeArms
import Derived.HandedShaped
import Derived.Lib.AtoiAll
import Derived.Lib.ItoaNum
import Derived.Lib.Strings
import Derived.Lib.Join
import Derived.Lib.IndexMore
import Derived.Test.YteiciemjanhdcaaGreatDoorTie
import Derived.Test.YteiciemjanhdcaaGreatDoorCards
import Derived.Lay
import Derived.SevenTiedAt
set_option linter.unusedSimpArgs false
set_option linter.unusedVariables false
set_option linter.unnecessarySimpa false
section
namespace Go.Tx
open Go Go.Ab Go.RowKit Go.ChangeShapes Go.WideShapes Go.Deep
section
variable {H:Type} {enc:TypeId × Value->H} {P:Program}
theorem post_of_below {f:Func} {s:ChangeSpec} {apart fresh handsOn again:Bool} {W W':World} {args:Array Value} {v:Value} {ds gs:List (DataW H)} {before pa pv:List MemPlace}
  (hW:DataW.Whole enc P f.params.toList s.vars apart W args.toList ds gs before)
  (hres:∀ (b:Nat) (sp:Nat->Bool) (hd:Bool),DataW.TrodAll enc P W' b sp hd f.resultTypes.toList (v.resultList f.resultTypes.size) (s.fn H (ds ++ gs)).results [])
  (hargs:∀ sp:Nat->Bool,(∀ p ∈ before,sp p.block = true)->DataW.TrodAll enc P W' 0 sp true f.params.toList args.toList (s.fn H (ds ++ gs)).args pa)
  (hvars:∀ sp:Nat->Bool,(∀ p ∈ before,sp p.block = true)->DataW.TrodVars enc P W' sp s.vars (s.fn H (ds ++ gs)).vars pv)
  (hps:before = pa ++ pv) (hb:Below W.heap.size W W')
  (hok:∀ (j:Nat) (t:TypeId) (r:Value),f.resultTypes[j]? = some t->(v.resultList f.resultTypes.size)[j]? = some r->Value.okWide P W' .any 0 t r) :
  s.post enc P f apart fresh handsOn again W args v W':=by
 have hlt:∀ p ∈ before,p.block < W.heap.size:=λp hp=>hW.lt p hp;have hold:∀ p ∈ before,(λb=>decide (b < W.heap.size)) p.block = true:=λp hp=>by simpa using hlt p hp
 refine ⟨ds,gs,before,[],pa,pv,hW,hres _ _ _,hargs _ hold,hvars _ hold,World.keptBut_mono (λp hp=>⟨hp,?_⟩) (hb.frame (· ∈ before)),λ_=>?_⟩
 ·rw [hps,List.mem_append] at hp;exact Or.inr hp
 ·obtain ⟨_,_,_,_,_,hz,hn⟩:=hW;refine ⟨hok,_,_,([] ++ pa) ++ pv,⟨[] ++ pa,pv,trodAll_append (hargs _ (λ_ _=>rfl)) (hres _ _ _),hvars _ (λ_ _=>rfl),rfl,?_,?_⟩,?_⟩
  ·intro b off hp;have hin:MemPlace.cell b off ∈ before:=by rw [hps]; simpa using hp
   rw [hb.frozen (hlt _ hin)];exact hz b off hin
  ·intro ha;have:=hn ha;rw [hps] at this;simpa using this
  ·intro p hp _;rw [hps];simpa using hp
theorem trodAll_len:∀ {ts:List TypeId} {vs:List Value} {ds:List (DataW H)} {ps:List MemPlace} {w:World} {b:Nat} {sp:Nat->Bool} {hd:Bool},DataW.TrodAll enc P w b sp hd ts vs ds ps->ds.length = ts.length
 | [],[],[],_,_,_,_,_,_=>rfl
 | [],[],d :: ds,_,_,_,_,_,h=>h.elim
 | [],v :: vs,_,_,_,_,_,_,h=>by cases h
 | t :: ts,[],_,_,_,_,_,_,h=>by cases h
 | t :: ts,v :: vs,[],_,_,_,_,_,h=>by cases h
 | t :: ts,v :: vs,d :: ds,ps,w,b,sp,hd,⟨p,q,h1,h2,e⟩=>by simp [trodAll_len h2]
end
theorem sm_all {H:Type}:Sm (H:=H) maxLen (λ_=>True) where
 slice:=λes sp _ h=>⟨h,λ_ _=>trivial⟩
 agg:=λ_ _ _ _=>trivial
 str:=λ_ _ h=>h
theorem law_contract {P:Program} {H0:Hints} {lib:FuncId->Option (List V->Option V)} (hm:P.follows .mixedOrders = true) (hname:NameOk P H0)
  (hlib:∀ g h args r,lib g = some h->h args = some r->CallOk P g args [] r []) (hl:laidOutB P = true) {k:FuncId} {fn:Func} (hfn:P.funcs[k]? = some fn) (hbody:fn.body.isSome = true)
  {ts:List TypeId} {τs:List Ty} (hps:fn.params.toList = ts) (hts:ts.mapM (tyOf P) = some τs) (hok:ts.all (okT P 10) = true) (hrd:ts.all (λt=>P.readableRec t && decide (t < P.types.size)) = true)
  {tb:TypeId} (hres:fn.resultTypes = #[tb]) (htb:P.underlying tb = some .bool) {F:denP (τs.map .ty)->Option Bool}
  (he:EntryOk P H0 lib ⟨k,τs.map .ty,[(.bool,0)],F⟩) (hF:∀ x,RngP maxLen τs x->F x = some true)
  {s:ChangeSpec} (hv:s.vars = []) (hs:∀ (H:Type) (ds:List (DataW H)),ds.length = ts.length->s.fn H ds = { results:=[.lit (.bool true)],args:=ds })
  (H:Type) (enc:TypeId × Value->H) (W:World) (base:Nat) (args:Array Value) (ds gs:List (DataW H)) (before:List MemPlace)
  (hval:∀ (j:Nat) t v,fn.params[j]? = some t->args[j]? = some v->Value.okWide P W .any base t v)
  (hW:DataW.Whole enc P fn.params.toList s.vars false W args.toList ds gs before) (hgl:GlOk W (cx0 W)) :
  Calls P k args W λe W'=>∃ v,e = .returned v/\s.post enc P fn false true false false W args v W':=by
 have hW':=hW;have hlt:∀ p ∈ before,p.block < W.heap.size:=λp hp=>hW.lt p hp;obtain ⟨p,q,hA,hV,rfl,hfz,hnd⟩:=hW;rw [hv] at hV;obtain ⟨rfl,rfl⟩:=trodVars_none hV;rw [hps] at hA;have hlen:=trodAll_len hA;have hval':∀ (j:Nat) t v,ts[j]? = some t->args.toList[j]? = some v->Value.okWide P W .any base t v:=λj t v h1 h2 =>
  hval j t v (by rw [<- hps] at h1; simpa using h1) (by simpa using h2)
 refine (law_calls hm hname hlib hl sm_all hfn hbody hts hok he hF hval' hA (λ_ _=>trivial) hgl).mono λe W' ⟨h1,hb⟩=>?_;subst h1;have hfs:s.fn H (ds ++ []) = { results:=[.lit (.bool true)],args:=ds }:=by rw [List.append_nil]; exact hs H ds hlen
 refine ⟨_,rfl,post_of_below (pa:=p) (pv:=[]) hW' ?_ ?_ ?_ rfl hb ?_⟩
 ·intro b sp hd;rw [hfs,hres];exact trodAll_mk1 (shut_bool htb true)
 ·intro sp hsp;rw [hfs,hps];exact trodAll_below hl hb hrd hA (λx hx=>hlt x (by simpa using hx)) sp (λx hx=>hsp x (by simpa using hx))
 ·intro sp _;rw [hfs,hv];rfl
 ·exact ok_one hres rfl (okWide_bool_mk htb true)
end Go.Tx
namespace Go.Proofs.YteiciemjanhdcaaGreatDoor
open Go Go.Ab Go.Tx
theorem own:ownKnob Tryz.prog.godebug = none:=by kernel_rfl
theorem laid_out:laidOutB Tryz.prog = true:=by kernel_rfl
end Go.Proofs.YteiciemjanhdcaaGreatDoor
end
section
set_option maxRecDepth 100000
namespace Go.Proofs.YteiciemjanhdcaaGreatDoor
open Go Go.Ab Go.Tx
noncomputable section
@[reducible] def I:Ty:=.int .i64
@[reducible] def w64 (n:Int):Int:=IntKind.wrap .i64 n
def lookJ:List (List Tmp × FuncId × Kind × Join)->List Tmp->FuncId->Kind->Option Join
 | [],_,_,_=>none
 | (c,f,k,j) :: l,c',f',k'=>if f = f' then (if k = k' then (if c = c' then some j else lookJ l c' f' k') else lookJ l c' f' k') else lookJ l c' f' k'
def strconv_Itoa (n:Int):Option (List UInt8):=if -9223372036854775808<=n/\n<=9223372036854775807 then some (Lib.itoa n) else none
def atoiP (s:List UInt8):Int × Bool:=match Lib.atoiAll s with
 | .ok v=>(v,true)
 | .range=>(Lib.atoiSat s,false)
 | _=>(0,false)
def strconv_Atoi (s:List UInt8):Option (Int × Bool):=if s.length<=281474976710656 then some (atoiP s) else none
def strings_Join (l:List (List UInt8)) (sep:List UInt8):Option (List UInt8):=if l.length<=140737488355328/\(Lib.join l sep).length<=140737488355328 then some (Lib.join l sep) else none
def strings_TrimPrefix (s p:List UInt8):Option (List UInt8):=some (Lib.trimPrefix s p)
def strings_Index (s p:List UInt8):Option Int:=if s.length < 4294967281 then some (Lib.index s p) else none
def strings_Cut (s p:List UInt8):Option (List UInt8 × List UInt8 × Bool):=if s.length < 4294967281 then some (Lib.cut s p) else none
def hItoa:List V->Option V
 | [.val (.int .i64 n)]=>(strconv_Itoa n).map λs=>.val (.string ⟨s.toArray⟩)
 | _=>none
def hAtoi:List V->Option V
 | [.val (.string s)]=>if s.size<=281474976710656 then some (atoiV 323 s.data.toList) else none
 | _=>none
def hJoin:List V->Option V
 | [.sl _ _ l,.val (.string sep)]=>(strsOf l).bind λxs=>(strings_Join xs sep.data.toList).map λs=>.val (.string ⟨s.toArray⟩)
 | _=>none
def hTrim:List V->Option V
 | [.val (.string s),.val (.string p)]=>some (.val (.string ⟨(Lib.trimPrefix s.data.toList p.data.toList).toArray⟩))
 | _=>none
def hIndex:List V->Option V
 | [.val (.string s),.val (.string p)]=>if s.size < 4294967281 then some (.val (.int .i64 (Lib.index s.data.toList p.data.toList))) else none
 | _=>none
def hCut:List V->Option V
 | [.val (.string s),.val (.string p)]=>if s.size < 4294967281 then some (.tuple [.val (.string ⟨(Lib.cut s.data.toList p.data.toList).1.toArray⟩),.val (.string ⟨(Lib.cut s.data.toList p.data.toList).2.1.toArray⟩),.val (.bool (Lib.cut s.data.toList p.data.toList).2.2)]) else none
 | _=>none
def hAwake:List V->Option V
 | []=>some (.val (.bool true))
 | _=>none
def libT:List (FuncId × (List V->Option V)):=[(44,hAwake),(75,hItoa),(168,hAtoi),(76,hJoin),(169,hTrim),(239,hIndex),(151,hCut)]
def lookL:List (FuncId × (List V->Option V))->FuncId->Option (List V->Option V)
 | [],_=>none
 | (k,h) :: l,g=>if g = k then some h else lookL l g
def Lb:FuncId->Option (List V->Option V):=lookL libT
def mkTH (js:List (List Tmp × FuncId × Kind × Join)) (inl:List (List Tmp × FuncId × Tmp)):TH where
 lib:=λg=>(Lb g).isSome
 join:=lookJ js
 inl:=λc f d=>inl.any λ(c',f',d')=>decide (f = f') && decide (d = d') && decide (c = c')
theorem hJ {js:List (List Tmp × FuncId × Kind × Join)} {inl:List (List Tmp × FuncId × Tmp)}:∀ g,(mkTH js inl).lib g = false->Lb g = none:=λg h=>by
 simpa [mkTH] using h
theorem lib_entry {e:Entry} {h:List V->Option V} (hl:Lb e.g = some h) (hx:∀ x y,e.F x = some y->∀ vs,RVL (ofPms e.ps x) vs->∃ v,h vs = some v/\RV (packT e.rs y) v):EntryOk Tryz.prog Hn.hints Lb e:=λx y hy vs hv=>by
 obtain ⟨v,h1,h2⟩:=hx x y hy vs hv;refine ⟨v,⟨1,λm hm=>?_⟩,h2⟩;obtain ⟨m',rfl⟩:∃ m',m = m' + 1:=⟨m - 1,by omega⟩
 simp [orcN,hl,h1]
def e_strconv_Itoa:Entry:=⟨75,[.ty I],[(.str,0)],λx=>strconv_Itoa x⟩
theorem o_strconv_Itoa:EntryOk Tryz.prog Hn.hints Lb e_strconv_Itoa:=lib_entry (h:=hItoa) rfl λx y hy vs hv=>by
 simp only [e_strconv_Itoa] at hy hv x y;simp only [ofPms,ofPm,ofTy,RVL,RV,RTy] at hv;obtain ⟨v,l,rfl,rfl,rfl⟩:=hv;exact ⟨.val (.string ⟨y.toArray⟩),by simp [hItoa,hy],by simp [packT,e_strconv_Itoa,ofL,packedT,ofTy,RV,RTy]⟩
def e_strconv_Atoi:Entry:=⟨168,[.ty .str],[(I,0),(.err,0)],λx=>strconv_Atoi x⟩
theorem o_strconv_Atoi:EntryOk Tryz.prog Hn.hints Lb e_strconv_Atoi:=lib_entry (h:=hAtoi) rfl λx y hy vs hv=>by
 simp only [e_strconv_Atoi] at hy hv x y;simp only [ofPms,ofPm,ofTy,RVL,RV,RTy] at hv;obtain ⟨v,l,rfl,rfl,rfl⟩:=hv;unfold strconv_Atoi at hy;split at hy
 ·rename_i hl;cases hy;refine ⟨atoiV 323 x,?_,?_⟩
  ·have:(⟨x.toArray⟩:ByteArray).size<=281474976710656:=by simpa [ByteArray.size] using hl
   simp only [hAtoi];rw [if_pos this]
  ·unfold atoiV atoiP;cases Lib.atoiAll x <;> simp [packT,e_strconv_Atoi,ofL,packedT,ofTy,RV,RTy,RVL]
   all_goals exact ⟨_,_,⟨rfl,rfl⟩,rfl,_,rfl,_,rfl⟩
 ·cases hy
theorem strs_all2 {τ:Nat}:∀ {l:List (List UInt8)} {l':List V},All2 (RTy .str τ) l l'->strsOf l' = some l:=by
 intro l l' h;induction h with
 | nil=>rfl
 | cons h1 _ ih=>simp only [RTy] at h1; subst h1; simp [strsOf,ih]
def e_strings_Join:Entry:=⟨76,[.ty (.sl .str),.ty .str],[(.str,0)],λx=>strings_Join x.1 x.2⟩
theorem o_strings_Join:EntryOk Tryz.prog Hn.hints Lb e_strings_Join:=lib_entry (h:=hJoin) rfl λx y hy vs hv=>by
 simp only [e_strings_Join] at hy hv x y;simp only [ofPms,ofPm,ofTy,RVL,RV,RTy] at hv;obtain ⟨v,l,rfl,⟨f,c,l',rfl,_,hall⟩,v2,l2,rfl,rfl,rfl⟩:=hv;have hs:strsOf l' = some x.1:=strs_all2 (τ:=0) (hall.mono λa b h=>by simpa only [RTy] using h);exact ⟨.val (.string ⟨y.toArray⟩),by simp [hJoin,hs,hy],by simp [packT,e_strings_Join,ofL,packedT,ofTy,RV,RTy]⟩
def e_strings_TrimPrefix:Entry:=⟨169,[.ty .str,.ty .str],[(.str,0)],λx=>strings_TrimPrefix x.1 x.2⟩
theorem o_strings_TrimPrefix:EntryOk Tryz.prog Hn.hints Lb e_strings_TrimPrefix:=lib_entry (h:=hTrim) rfl λx y hy vs hv=>by
 simp only [e_strings_TrimPrefix] at hy hv x y;simp only [ofPms,ofPm,ofTy,RVL,RV,RTy] at hv;obtain ⟨v,l,rfl,rfl,v2,l2,rfl,rfl,rfl⟩:=hv;obtain rfl:Lib.trimPrefix x.1 x.2 = y:=Option.some.inj hy;exact ⟨.val (.string ⟨(Lib.trimPrefix x.1 x.2).toArray⟩),rfl,by simp [packT,e_strings_TrimPrefix,ofL,packedT,ofTy,RV,RTy]⟩
def e_strings_Index:Entry:=⟨239,[.ty .str,.ty .str],[(I,0)],λx=>strings_Index x.1 x.2⟩
theorem o_strings_Index:EntryOk Tryz.prog Hn.hints Lb e_strings_Index:=lib_entry (h:=hIndex) rfl λx y hy vs hv=>by
 simp only [e_strings_Index] at hy hv x y;simp only [ofPms,ofPm,ofTy,RVL,RV,RTy] at hv;obtain ⟨v,l,rfl,rfl,v2,l2,rfl,rfl,rfl⟩:=hv;unfold strings_Index at hy;split at hy
 ·rename_i hl;cases hy;refine ⟨.val (.int .i64 (Lib.index x.1 x.2)),?_,by simp [packT,e_strings_Index,ofL,packedT,ofTy,RV,RTy]⟩;have:(⟨x.1.toArray⟩:ByteArray).size < 4294967281:=by simpa [ByteArray.size] using hl
  simp only [hIndex];rw [if_pos this]
 ·cases hy
def e_strings_Cut:Entry:=⟨151,[.ty .str,.ty .str],[(.str,0),(.str,0),(.bool,0)],λx=>strings_Cut x.1 x.2⟩
theorem o_strings_Cut:EntryOk Tryz.prog Hn.hints Lb e_strings_Cut:=lib_entry (h:=hCut) rfl λx y hy vs hv=>by
 simp only [e_strings_Cut] at hy hv x y;simp only [ofPms,ofPm,ofTy,RVL,RV,RTy] at hv;obtain ⟨v,l,rfl,rfl,v2,l2,rfl,rfl,rfl⟩:=hv;unfold strings_Cut at hy;split at hy
 ·rename_i hl;cases hy;refine ⟨.tuple [.val (.string ⟨(Lib.cut x.1 x.2).1.toArray⟩),.val (.string ⟨(Lib.cut x.1 x.2).2.1.toArray⟩),.val (.bool (Lib.cut x.1 x.2).2.2)],?_,by simp [packT,e_strings_Cut,ofL,packedT,ofTy,RV,RTy,RVL]⟩;have:(⟨x.1.toArray⟩:ByteArray).size < 4294967281:=by simpa [ByteArray.size] using hl
  simp only [hCut];rw [if_pos this]
 ·cases hy
def law04_awake:Option Bool:=some true
def e_law04_awake:Entry:=⟨44,[],[(.bool,0)],λ_=>law04_awake⟩
theorem o_law04_awake:EntryOk Tryz.prog Hn.hints Lb e_law04_awake:=lib_entry (h:=hAwake) rfl λx y hy vs hv=>by
 obtain rfl:true = y:=Option.some.inj hy;simp only [e_law04_awake,ofPms,RVL] at hv;subst hv;exact ⟨.val (.bool true),rfl,by simp [packT,e_law04_awake,ofL,packedT,ofTy,RV,RTy]⟩
end
end Go.Proofs.YteiciemjanhdcaaGreatDoor
end
section
namespace Go.Proofs.YteiciemjanhdcaaGreatDoor
open Go Go.Ab Go.RowKit Go.Shelf
def lItoa_ren:Go.Shelf.Ren:=⟨λ| 171=>75 | 243=>155 | 246=>209 | 283=>245 | 284=>246 | 285=>247 | 286=>248 | 129=>271 | 317=>270 | 318=>272 | 319=>273 | 320=>274 | 337=>280 | 338=>281 | n=>n,λ| 3=>3 | 9=>9 | 2=>2 | 4=>4 | 171=>308 | 0=>0 | 53=>309 | 37=>235 | 5=>5 | 173=>312 | 212=>333 | 51=>334 | 20=>20 | 213=>335 | 46=>331 | 232=>354 | 233=>355 | n=>n,λ| 17=>1 | 18=>6 | 19=>7 | n=>n⟩
theorem lItoa:LaysM.n171 Tryz.prog lItoa_ren where
 mixed:=by kernel_rfl
 f129:=Tryz.func271.trans (congrArg some (by kernel_rfl))
 f171:=Tryz.func75.trans (congrArg some (by kernel_rfl))
 f243:=Tryz.func155.trans (congrArg some (by kernel_rfl))
 f246:=Tryz.func209.trans (congrArg some (by kernel_rfl))
 f283:=Tryz.func245.trans (congrArg some (by kernel_rfl))
 f284:=Tryz.func246.trans (congrArg some (by kernel_rfl))
 f285:=Tryz.func247.trans (congrArg some (by kernel_rfl))
 f286:=Tryz.func248.trans (congrArg some (by kernel_rfl))
 f317:=Tryz.func270.trans (congrArg some (by kernel_rfl))
 f318:=Tryz.func272.trans (congrArg some (by kernel_rfl))
 f319:=Tryz.func273.trans (congrArg some (by kernel_rfl))
 f320:=Tryz.func274.trans (congrArg some (by kernel_rfl))
 f337:=Tryz.func280.trans (congrArg some (by kernel_rfl))
 f338:=Tryz.func281.trans (congrArg some (by kernel_rfl))
 t0:=Tryz.underlying0
 a0:=Tryz.isAgg0
 z0:=Tryz.sizeOf0
 v0:=Tryz.zeroValue0
 t2:=Tryz.underlying2
 a2:=Tryz.isAgg2
 z2:=Tryz.sizeOf2
 v2:=Tryz.zeroValue2
 t3:=Tryz.underlying3
 a3:=Tryz.isAgg3
 z3:=Tryz.sizeOf3
 v3:=Tryz.zeroValue3
 t4:=Tryz.underlying4
 a4:=Tryz.isAgg4
 z4:=Tryz.sizeOf4
 v4:=Tryz.zeroValue4
 t5:=Tryz.underlying5
 a5:=Tryz.isAgg5
 z5:=Tryz.sizeOf5
 v5:=Tryz.zeroValue5
 t9:=Tryz.underlying9
 a9:=Tryz.isAgg9
 z9:=Tryz.sizeOf9
 v9:=Tryz.zeroValue9
 t20:=Tryz.underlying20
 a20:=Tryz.isAgg20
 z20:=Tryz.sizeOf20
 v20:=Tryz.zeroValue20
 t37:=Tryz.underlying235
 a37:=Tryz.isAgg235
 z37:=Tryz.sizeOf235
 v37:=Tryz.zeroValue235
 t46:=Tryz.underlying331
 a46:=Tryz.isAgg331
 z46:=Tryz.sizeOf331
 v46:=Tryz.zeroValue331
 t51:=Tryz.underlying334
 a51:=Tryz.isAgg334
 z51:=Tryz.sizeOf334
 v51:=Tryz.zeroValue334
 t53:=Tryz.underlying309
 a53:=Tryz.isAgg309
 z53:=Tryz.sizeOf309
 v53:=Tryz.zeroValue309
 t171:=Tryz.underlying308
 a171:=Tryz.isAgg308
 z171:=Tryz.sizeOf308
 v171:=Tryz.zeroValue308
 t173:=Tryz.underlying312
 a173:=Tryz.isAgg312
 z173:=Tryz.sizeOf312
 v173:=Tryz.zeroValue312
 t212:=Tryz.underlying333
 a212:=Tryz.isAgg333
 z212:=Tryz.sizeOf333
 v212:=Tryz.zeroValue333
 t213:=Tryz.underlying335
 a213:=Tryz.isAgg335
 z213:=Tryz.sizeOf335
 t232:=Tryz.underlying354
 a232:=Tryz.isAgg354
 z232:=Tryz.sizeOf354
 v232:=Tryz.zeroValue354
 t233:=Tryz.underlying355
 a233:=Tryz.isAgg355
 z233:=Tryz.sizeOf355
 v233:=Tryz.zeroValue355
 g17:=by kernel_rfl
 g18:=by kernel_rfl
 g19:=by kernel_rfl
 i0:=by kernel_rfl
 i2:=by kernel_rfl
 i3:=by kernel_rfl
 i4:=by kernel_rfl
 i5:=by kernel_rfl
 i9:=by kernel_rfl
 i20:=by kernel_rfl
 i37:=by kernel_rfl
 i46:=by kernel_rfl
 i51:=by kernel_rfl
 i53:=by kernel_rfl
 i171:=by kernel_rfl
 i173:=by kernel_rfl
 i212:=by kernel_rfl
 i232:=by kernel_rfl
 i233:=by kernel_rfl
 m17:=by kernel_rfl
 m18:=by kernel_rfl
 m19:=by kernel_rfl
def lAtoi_ren:Go.Shelf.Ren:=⟨λ| 172=>168 | 244=>223 | 245=>224 | 247=>256 | 279=>257 | 280=>258 | 281=>259 | 282=>260 | 287=>275 | 316=>276 | 171=>75 | 205=>277 | 321=>282 | 322=>283 | 243=>155 | 246=>209 | 283=>245 | 284=>246 | 285=>247 | 286=>248 | 129=>271 | 317=>270 | 318=>272 | 319=>273 | 320=>274 | 337=>280 | 338=>281 | n=>n,λ| 9=>9 | 3=>3 | 75=>240 | 76=>241 | 4=>4 | 5=>5 | 167=>320 | 37=>235 | 0=>0 | 85=>321 | 2=>2 | 168=>323 | 53=>309 | 175=>337 | 46=>331 | 210=>341 | 127=>283 | 145=>353 | 143=>351 | 21=>21 | 171=>308 | 173=>312 | 212=>333 | 51=>334 | 20=>20 | 213=>335 | 232=>354 | 233=>355 | 80=>243 | n=>n,λ| 15=>2 | 16=>3 | 17=>1 | 18=>6 | 19=>7 | n=>n⟩
theorem lAtoi:LaysC.n172 Tryz.prog lAtoi_ren where
 mixed:=by kernel_rfl
 f129:=Tryz.func271.trans (congrArg some (by kernel_rfl))
 f171:=Tryz.func75.trans (congrArg some (by kernel_rfl))
 f172:=Tryz.func168.trans (congrArg some (by kernel_rfl))
 f205:=Tryz.func277.trans (congrArg some (by kernel_rfl))
 f243:=Tryz.func155.trans (congrArg some (by kernel_rfl))
 f244:=Tryz.func223.trans (congrArg some (by kernel_rfl))
 f245:=Tryz.func224.trans (congrArg some (by kernel_rfl))
 f246:=Tryz.func209.trans (congrArg some (by kernel_rfl))
 f247:=Tryz.func256.trans (congrArg some (by kernel_rfl))
 f279:=Tryz.func257.trans (congrArg some (by kernel_rfl))
 f280:=Tryz.func258.trans (congrArg some (by kernel_rfl))
 f281:=Tryz.func259.trans (congrArg some (by kernel_rfl))
 f282:=Tryz.func260.trans (congrArg some (by kernel_rfl))
 f283:=Tryz.func245.trans (congrArg some (by kernel_rfl))
 f284:=Tryz.func246.trans (congrArg some (by kernel_rfl))
 f285:=Tryz.func247.trans (congrArg some (by kernel_rfl))
 f286:=Tryz.func248.trans (congrArg some (by kernel_rfl))
 f287:=Tryz.func275.trans (congrArg some (by kernel_rfl))
 f316:=Tryz.func276.trans (congrArg some (by kernel_rfl))
 f317:=Tryz.func270.trans (congrArg some (by kernel_rfl))
 f318:=Tryz.func272.trans (congrArg some (by kernel_rfl))
 f319:=Tryz.func273.trans (congrArg some (by kernel_rfl))
 f320:=Tryz.func274.trans (congrArg some (by kernel_rfl))
 f321:=Tryz.func282.trans (congrArg some (by kernel_rfl))
 f322:=Tryz.func283.trans (congrArg some (by kernel_rfl))
 f337:=Tryz.func280.trans (congrArg some (by kernel_rfl))
 f338:=Tryz.func281.trans (congrArg some (by kernel_rfl))
 t0:=Tryz.underlying0
 a0:=Tryz.isAgg0
 z0:=Tryz.sizeOf0
 v0:=Tryz.zeroValue0
 t2:=Tryz.underlying2
 a2:=Tryz.isAgg2
 z2:=Tryz.sizeOf2
 v2:=Tryz.zeroValue2
 t3:=Tryz.underlying3
 a3:=Tryz.isAgg3
 z3:=Tryz.sizeOf3
 v3:=Tryz.zeroValue3
 t4:=Tryz.underlying4
 a4:=Tryz.isAgg4
 z4:=Tryz.sizeOf4
 v4:=Tryz.zeroValue4
 t5:=Tryz.underlying5
 a5:=Tryz.isAgg5
 z5:=Tryz.sizeOf5
 v5:=Tryz.zeroValue5
 t9:=Tryz.underlying9
 a9:=Tryz.isAgg9
 z9:=Tryz.sizeOf9
 v9:=Tryz.zeroValue9
 t20:=Tryz.underlying20
 a20:=Tryz.isAgg20
 z20:=Tryz.sizeOf20
 v20:=Tryz.zeroValue20
 t21:=Tryz.underlying21
 a21:=Tryz.isAgg21
 z21:=Tryz.sizeOf21
 v21:=Tryz.zeroValue21
 t37:=Tryz.underlying235
 a37:=Tryz.isAgg235
 z37:=Tryz.sizeOf235
 v37:=Tryz.zeroValue235
 t46:=Tryz.underlying331
 a46:=Tryz.isAgg331
 z46:=Tryz.sizeOf331
 v46:=Tryz.zeroValue331
 t51:=Tryz.underlying334
 a51:=Tryz.isAgg334
 z51:=Tryz.sizeOf334
 v51:=Tryz.zeroValue334
 t53:=Tryz.underlying309
 a53:=Tryz.isAgg309
 z53:=Tryz.sizeOf309
 v53:=Tryz.zeroValue309
 t75:=Tryz.underlying240
 a75:=Tryz.isAgg240
 z75:=Tryz.sizeOf240
 v75:=Tryz.zeroValue240
 t76:=Tryz.underlying241
 a76:=Tryz.isAgg241
 z76:=Tryz.sizeOf241
 v76:=Tryz.zeroValue241
 t85:=Tryz.underlying321
 a85:=Tryz.isAgg321
 z85:=Tryz.sizeOf321
 v85:=Tryz.zeroValue321
 t127:=Tryz.underlying283
 a127:=Tryz.isAgg283
 z127:=Tryz.sizeOf283
 v127:=Tryz.zeroValue283
 t143:=Tryz.underlying351
 a143:=Tryz.isAgg351
 z143:=Tryz.sizeOf351
 v143:=Tryz.zeroValue351
 t145:=Tryz.underlying353
 a145:=Tryz.isAgg353
 z145:=Tryz.sizeOf353
 v145:=Tryz.zeroValue353
 t167:=Tryz.underlying320
 a167:=Tryz.isAgg320
 z167:=Tryz.sizeOf320
 v167:=Tryz.zeroValue320
 t168:=Tryz.underlying323
 a168:=Tryz.isAgg323
 z168:=Tryz.sizeOf323
 v168:=Tryz.zeroValue323
 t171:=Tryz.underlying308
 a171:=Tryz.isAgg308
 z171:=Tryz.sizeOf308
 v171:=Tryz.zeroValue308
 t173:=Tryz.underlying312
 a173:=Tryz.isAgg312
 z173:=Tryz.sizeOf312
 v173:=Tryz.zeroValue312
 t175:=Tryz.underlying337
 a175:=Tryz.isAgg337
 z175:=Tryz.sizeOf337
 v175:=Tryz.zeroValue337
 t210:=Tryz.underlying341
 a210:=Tryz.isAgg341
 z210:=Tryz.sizeOf341
 v210:=Tryz.zeroValue341
 t212:=Tryz.underlying333
 a212:=Tryz.isAgg333
 z212:=Tryz.sizeOf333
 v212:=Tryz.zeroValue333
 t213:=Tryz.underlying335
 a213:=Tryz.isAgg335
 z213:=Tryz.sizeOf335
 t232:=Tryz.underlying354
 a232:=Tryz.isAgg354
 z232:=Tryz.sizeOf354
 v232:=Tryz.zeroValue354
 t233:=Tryz.underlying355
 a233:=Tryz.isAgg355
 z233:=Tryz.sizeOf355
 v233:=Tryz.zeroValue355
 g15:=by kernel_rfl
 g16:=by kernel_rfl
 g17:=by kernel_rfl
 g18:=by kernel_rfl
 g19:=by kernel_rfl
 t80:=Tryz.underlying243
 a80:=Tryz.isAgg243
 z80:=Tryz.sizeOf243
 v80:=Tryz.zeroValue243
 i0:=by kernel_rfl
 i2:=by kernel_rfl
 i3:=by kernel_rfl
 i4:=by kernel_rfl
 i5:=by kernel_rfl
 i9:=by kernel_rfl
 i20:=by kernel_rfl
 i21:=by kernel_rfl
 i37:=by kernel_rfl
 i46:=by kernel_rfl
 i51:=by kernel_rfl
 i53:=by kernel_rfl
 i75:=by kernel_rfl
 i76:=by kernel_rfl
 i80:=by kernel_rfl
 i85:=by kernel_rfl
 i127:=by kernel_rfl
 i143:=by kernel_rfl
 i145:=by kernel_rfl
 i167:=by kernel_rfl
 i168:=by kernel_rfl
 i171:=by kernel_rfl
 i173:=by kernel_rfl
 i175:=by kernel_rfl
 i210:=by kernel_rfl
 i212:=by kernel_rfl
 i232:=by kernel_rfl
 i233:=by kernel_rfl
 m15:=by kernel_rfl
 m16:=by kernel_rfl
 m17:=by kernel_rfl
 m18:=by kernel_rfl
 m19:=by kernel_rfl
 c0:=by kernel_rfl
 c2:=by kernel_rfl
 c3:=by kernel_rfl
 c4:=by kernel_rfl
 c5:=by kernel_rfl
 c9:=by kernel_rfl
 c20:=by kernel_rfl
 c21:=by kernel_rfl
 c37:=by kernel_rfl
 c46:=by kernel_rfl
 c51:=by kernel_rfl
 c53:=by kernel_rfl
 c75:=by kernel_rfl
 c76:=by kernel_rfl
 c80:=by kernel_rfl
 c85:=by kernel_rfl
 c127:=by kernel_rfl
 c143:=by kernel_rfl
 c145:=by kernel_rfl
 c167:=by kernel_rfl
 c168:=by kernel_rfl
 c171:=by kernel_rfl
 c173:=by kernel_rfl
 c175:=by kernel_rfl
 c210:=by kernel_rfl
 c212:=by kernel_rfl
 c213:=by kernel_rfl
 c232:=by kernel_rfl
 c233:=by kernel_rfl
def lJoin_ren:Go.Shelf.Ren:=⟨λ| 156=>76 | 165=>156 | 166=>157 | 169=>158 | 240=>210 | 241=>211 | 276=>249 | 277=>250 | n=>n,λ| 31=>131 | 9=>9 | 3=>3 | 4=>4 | 0=>0 | 20=>20 | 72=>237 | 76=>241 | 70=>234 | 37=>235 | 75=>240 | 127=>283 | 164=>314 | 5=>5 | 80=>243 | n=>n,λn=>n⟩
theorem lJoin:Lays.n156 Tryz.prog lJoin_ren where
 mixed:=by kernel_rfl
 f156:=Tryz.func76.trans (congrArg some (by kernel_rfl))
 f165:=Tryz.func156.trans (congrArg some (by kernel_rfl))
 f166:=Tryz.func157.trans (congrArg some (by kernel_rfl))
 f169:=Tryz.func158.trans (congrArg some (by kernel_rfl))
 f240:=Tryz.func210.trans (congrArg some (by kernel_rfl))
 f241:=Tryz.func211.trans (congrArg some (by kernel_rfl))
 f276:=Tryz.func249.trans (congrArg some (by kernel_rfl))
 f277:=Tryz.func250.trans (congrArg some (by kernel_rfl))
 t0:=Tryz.underlying0
 a0:=Tryz.isAgg0
 z0:=Tryz.sizeOf0
 v0:=Tryz.zeroValue0
 t3:=Tryz.underlying3
 a3:=Tryz.isAgg3
 z3:=Tryz.sizeOf3
 v3:=Tryz.zeroValue3
 t4:=Tryz.underlying4
 a4:=Tryz.isAgg4
 z4:=Tryz.sizeOf4
 v4:=Tryz.zeroValue4
 t9:=Tryz.underlying9
 a9:=Tryz.isAgg9
 z9:=Tryz.sizeOf9
 v9:=Tryz.zeroValue9
 t20:=Tryz.underlying20
 a20:=Tryz.isAgg20
 z20:=Tryz.sizeOf20
 v20:=Tryz.zeroValue20
 t31:=Tryz.underlying131
 a31:=Tryz.isAgg131
 z31:=Tryz.sizeOf131
 v31:=Tryz.zeroValue131
 t37:=Tryz.underlying235
 a37:=Tryz.isAgg235
 z37:=Tryz.sizeOf235
 v37:=Tryz.zeroValue235
 t70:=Tryz.underlying234
 a70:=Tryz.isAgg234
 z70:=Tryz.sizeOf234
 v70:=Tryz.zeroValue234
 t72:=Tryz.underlying237
 a72:=Tryz.isAgg237
 z72:=Tryz.sizeOf237
 v72:=Tryz.zeroValue237
 t75:=Tryz.underlying240
 a75:=Tryz.isAgg240
 z75:=Tryz.sizeOf240
 v75:=Tryz.zeroValue240
 t76:=Tryz.underlying241
 a76:=Tryz.isAgg241
 z76:=Tryz.sizeOf241
 v76:=Tryz.zeroValue241
 t127:=Tryz.underlying283
 a127:=Tryz.isAgg283
 z127:=Tryz.sizeOf283
 v127:=Tryz.zeroValue283
 t164:=Tryz.underlying314
 a164:=Tryz.isAgg314
 z164:=Tryz.sizeOf314
 v164:=Tryz.zeroValue314
def lTrim_ren:Go.Shelf.Ren:=⟨λ| 101=>169 | 208=>225 | 206=>261 | n=>n,λ| 9=>9 | 4=>4 | 3=>3 | n=>n,λn=>n⟩
theorem lTrim:Lays.n101 Tryz.prog lTrim_ren where
 mixed:=by kernel_rfl
 f101:=Tryz.func169.trans (congrArg some (by kernel_rfl))
 f206:=Tryz.func261.trans (congrArg some (by kernel_rfl))
 f208:=Tryz.func225.trans (congrArg some (by kernel_rfl))
 t3:=Tryz.underlying3
 a3:=Tryz.isAgg3
 z3:=Tryz.sizeOf3
 v3:=Tryz.zeroValue3
 t4:=Tryz.underlying4
 a4:=Tryz.isAgg4
 z4:=Tryz.sizeOf4
 v4:=Tryz.zeroValue4
 t9:=Tryz.underlying9
 a9:=Tryz.isAgg9
 z9:=Tryz.sizeOf9
 v9:=Tryz.zeroValue9
def lIndex_ren:Go.Shelf.Ren:=⟨λ| 143=>239 | 219=>244 | 217=>266 | 225=>267 | 224=>268 | 267=>269 | 266=>278 | 314=>279 | n=>n,λ| 9=>9 | 3=>3 | 4=>4 | 5=>5 | 46=>331 | 146=>347 | 51=>334 | n=>n,λ| 1=>0 | n=>n⟩
theorem lIndex:Lays.n143 Tryz.prog lIndex_ren where
 mixed:=by kernel_rfl
 f143:=Tryz.func239.trans (congrArg some (by kernel_rfl))
 f217:=Tryz.func266.trans (congrArg some (by kernel_rfl))
 f219:=Tryz.func244.trans (congrArg some (by kernel_rfl))
 f224:=Tryz.func268.trans (congrArg some (by kernel_rfl))
 f225:=Tryz.func267.trans (congrArg some (by kernel_rfl))
 f266:=Tryz.func278.trans (congrArg some (by kernel_rfl))
 f267:=Tryz.func269.trans (congrArg some (by kernel_rfl))
 f314:=Tryz.func279.trans (congrArg some (by kernel_rfl))
 t3:=Tryz.underlying3
 a3:=Tryz.isAgg3
 z3:=Tryz.sizeOf3
 v3:=Tryz.zeroValue3
 t4:=Tryz.underlying4
 a4:=Tryz.isAgg4
 z4:=Tryz.sizeOf4
 v4:=Tryz.zeroValue4
 t5:=Tryz.underlying5
 a5:=Tryz.isAgg5
 z5:=Tryz.sizeOf5
 v5:=Tryz.zeroValue5
 t9:=Tryz.underlying9
 a9:=Tryz.isAgg9
 z9:=Tryz.sizeOf9
 v9:=Tryz.zeroValue9
 t46:=Tryz.underlying331
 a46:=Tryz.isAgg331
 z46:=Tryz.sizeOf331
 v46:=Tryz.zeroValue331
 t51:=Tryz.underlying334
 a51:=Tryz.isAgg334
 z51:=Tryz.sizeOf334
 v51:=Tryz.zeroValue334
 t146:=Tryz.underlying347
 a146:=Tryz.isAgg347
 z146:=Tryz.sizeOf347
 v146:=Tryz.zeroValue347
 g1:=by kernel_rfl
def lCut_ren:Go.Shelf.Ren:=⟨λ| 145=>151 | 220=>207 | 219=>244 | 217=>266 | 225=>267 | 224=>268 | 267=>269 | 266=>278 | 314=>279 | n=>n,λ| 9=>9 | 4=>4 | 59=>229 | 3=>3 | 5=>5 | 46=>331 | 146=>347 | 51=>334 | n=>n,λ| 1=>0 | n=>n⟩
theorem lCut:Lays.n145 Tryz.prog lCut_ren where
 mixed:=by kernel_rfl
 f145:=Tryz.func151.trans (congrArg some (by kernel_rfl))
 f217:=Tryz.func266.trans (congrArg some (by kernel_rfl))
 f219:=Tryz.func244.trans (congrArg some (by kernel_rfl))
 f220:=Tryz.func207.trans (congrArg some (by kernel_rfl))
 f224:=Tryz.func268.trans (congrArg some (by kernel_rfl))
 f225:=Tryz.func267.trans (congrArg some (by kernel_rfl))
 f266:=Tryz.func278.trans (congrArg some (by kernel_rfl))
 f267:=Tryz.func269.trans (congrArg some (by kernel_rfl))
 f314:=Tryz.func279.trans (congrArg some (by kernel_rfl))
 t3:=Tryz.underlying3
 a3:=Tryz.isAgg3
 z3:=Tryz.sizeOf3
 v3:=Tryz.zeroValue3
 t4:=Tryz.underlying4
 a4:=Tryz.isAgg4
 z4:=Tryz.sizeOf4
 v4:=Tryz.zeroValue4
 t5:=Tryz.underlying5
 a5:=Tryz.isAgg5
 z5:=Tryz.sizeOf5
 v5:=Tryz.zeroValue5
 t9:=Tryz.underlying9
 a9:=Tryz.isAgg9
 z9:=Tryz.sizeOf9
 v9:=Tryz.zeroValue9
 t46:=Tryz.underlying331
 a46:=Tryz.isAgg331
 z46:=Tryz.sizeOf331
 v46:=Tryz.zeroValue331
 t51:=Tryz.underlying334
 a51:=Tryz.isAgg334
 z51:=Tryz.sizeOf334
 v51:=Tryz.zeroValue334
 t59:=Tryz.underlying229
 a59:=Tryz.isAgg229
 z59:=Tryz.sizeOf229
 v59:=Tryz.zeroValue229
 t146:=Tryz.underlying347
 a146:=Tryz.isAgg347
 z146:=Tryz.sizeOf347
 v146:=Tryz.zeroValue347
 g1:=by kernel_rfl
theorem lExtra:Builder.Extra Tryz.prog lJoin_ren where
 sizeBuilder:=by kernel_rfl
 liesBuilder:=by kernel_rfl
 t5:=Tryz.underlying5
 a5:=Tryz.isAgg5
 z5:=Tryz.sizeOf5
 v5:=Tryz.zeroValue5
 infoByte:=by kernel_rfl
 cellsByte:=by kernel_rfl
 sizeByte:=by kernel_rfl
 neB5:=by decide
theorem tab17 {w : World} {X : Cx} (h : GlOk w X) : Lib.TabIs Tryz.prog w "internal/strconv.uint64pow10" .u64 Lib.pow10Tab := tab_is h (b := 1) (by simp [glob]) (by kernel_rfl)
theorem err_cell {w:World} {X:Cx} (h:GlOk w X) {b:Nat} (hm:(b,errCell) ∈ glob):∃ ev,w.cell? ⟨b,0,none⟩ = some ev/\(ev = .nilIface\/∃ te pe,ev = .iface te pe):=by
 obtain ⟨arr,t,fr,h1,ev,h2,h3⟩:=cell_is h hm;exact ⟨ev,by simp [World.cell?,h1,h2],h3⟩
theorem int_cell {w:World} {X:Cx} (h:GlOk w X):∃ m,w.cell? ⟨0,0,none⟩ = some (.int .i64 m):=by
 obtain ⟨arr,t,fr,h1,m,h2⟩:=cell_is h (b:=0) (p:=intCell) (by simp [glob]);exact ⟨m,by simp [World.cell?,h1,h2]⟩
theorem hItoa_ok {args:List V} {r:V} (h:hItoa args = some r):CallOk Tryz.prog 75 args [] r []:=by
 unfold hItoa at h;split at h
 ·rename_i n;obtain ⟨s,hs,rfl⟩:=Option.map_eq_some_iff.1 h;unfold strconv_Itoa at hs;split at hs
  ·rename_i hn;cases hs;exact itoa_ok lItoa (λ_ _=>enters Tryz.func75 (by kernel_rfl) (by kernel_rfl) _ _) (λw X hg=>tab17 hg) n hn.1 hn.2
  ·cases hs
 ·cases h
theorem hAtoi_ok {args:List V} {r:V} (h:hAtoi args = some r):CallOk Tryz.prog 168 args [] r []:=by
 unfold hAtoi at h;split at h
 ·rename_i s;split at h
  ·rename_i hs;cases h;exact atoi_ok lAtoi (λ_ _=>enters Tryz.func168 (by kernel_rfl) (by kernel_rfl) _ _) (λw X hg=>err_cell hg (by simp [glob,lAtoi_ren])) (λw X hg=>err_cell hg (by simp [glob,lAtoi_ren])) s hs
  ·cases h
 ·cases h
theorem hJoin_ok {args:List V} {r:V} (h:hJoin args = some r):CallOk Tryz.prog 76 args [] r []:=by
 unfold hJoin at h;split at h
 ·rename_i f c l sep;obtain ⟨xs,hxs,h⟩:=Option.bind_eq_some_iff.1 h;obtain ⟨s,hs,rfl⟩:=Option.map_eq_some_iff.1 h;unfold strings_Join at hs;split at hs
  ·rename_i hc;cases hs;exact join_ok lJoin lExtra (λ_ _=>enters Tryz.func76 (by kernel_rfl) (by kernel_rfl) _ _) f c l xs sep hxs hc.1 hc.2
  ·cases hs
 ·cases h
theorem hTrim_ok {args:List V} {r:V} (h:hTrim args = some r):CallOk Tryz.prog 169 args [] r []:=by
 unfold hTrim at h;split at h
 ·cases h;exact trimPrefix_ok lTrim (λ_ _=>enters Tryz.func169 (by kernel_rfl) (by kernel_rfl) _ _) _ _
 ·cases h
theorem hIndex_ok {args:List V} {r:V} (h:hIndex args = some r):CallOk Tryz.prog 239 args [] r []:=by
 unfold hIndex at h;split at h
 ·split at h
  ·rename_i hs;cases h;exact index_ok lIndex (λ_ _=>enters Tryz.func239 (by kernel_rfl) (by kernel_rfl) _ _) (λw X hg=>int_cell hg) _ _ hs
  ·cases h
 ·cases h
theorem hCut_ok {args:List V} {r:V} (h:hCut args = some r):CallOk Tryz.prog 151 args [] r []:=by
 unfold hCut at h;split at h
 ·split at h
  ·rename_i hs;cases h;exact cut_ok lCut (λ_ _=>enters Tryz.func151 (by kernel_rfl) (by kernel_rfl) _ _) (λw X hg=>int_cell hg) _ _ hs
  ·cases h
 ·cases h
theorem lookL_mem:∀ {l:List (FuncId × (List V->Option V))} {g:FuncId} {h:List V->Option V},lookL l g = some h->(g,h) ∈ l
 | [],_,_,h=>by cases h
 | (k,f) :: l,g,h,hh=>by
  unfold lookL at hh;split at hh
  ·rename_i e; subst e; cases hh; exact List.mem_cons_self
  ·exact List.mem_cons_of_mem _ (lookL_mem hh)
theorem hlib:∀ g h args r,Lb g = some h->h args = some r->CallOk Tryz.prog g args [] r []:=λg h args r hg hr=>by
 have hm:=lookL_mem hg;simp only [libT,List.mem_cons,Prod.mk.injEq,List.mem_nil_iff,or_false] at hm;rcases hm with ⟨rfl,rfl⟩ | ⟨rfl,rfl⟩ | ⟨rfl,rfl⟩ | ⟨rfl,rfl⟩ | ⟨rfl,rfl⟩ | ⟨rfl,rfl⟩ | ⟨rfl,rfl⟩
 ·cases args with
  | nil=>cases hr; exact awake_ok
  | cons a l=>cases hr
 ·exact hItoa_ok hr
 ·exact hAtoi_ok hr
 ·exact hJoin_ok hr
 ·exact hTrim_ok hr
 ·exact hIndex_ok hr
 ·exact hCut_ok hr
end Go.Proofs.YteiciemjanhdcaaGreatDoor
end
section
namespace Go
variable {H:Type} {enc:TypeId × Value->H}
theorem returnsInHanded_of_laid_shaped {a:Assume} {C:Checked} {os:Os} {f:FuncId} {fn:Func} {s:ChangeSpec} {conds:List PathCond} {apart fresh handsOn again:Bool} {X:World->Array Value->Prop}
  (hX:∀ (w w':World) (args:Array Value),w.heap = w'.heap->X w args->X w' args)
  (own:ownKnob C.prog.godebug = none) (started:os.Started) (noInit:C.prog.inits.idxOf? f = none) (hfn:C.prog.funcs[f]? = some fn)
  (witness:∃ (w:World) (tape:Tape) (i:Input),w.os = os/\(w.forCall tape i).Shaped C.prog/\i.vars = []/\Input.okWide C.prog (w.forCall tape i) .any w.heap.size f i /\
   ((s.pre enc C.prog fn conds apart (w.forCall tape i).memory i.args/\X (w.forCall tape i).memory i.args)/\sizedMet enc C.prog fn (OpenSpec.ofChange s) apart (w.forCall tape i).memory i.args)/\a.holds C.prog (lone (Frame.enter C.prog f i.args .normal) [] (w.forCall tape i)))
  (contract:∀ (W:World) (base:Nat) (args:Array Value) (ds gs:List (DataW H)) (before:List MemPlace),
   (∀ (j:Nat) t v,fn.params[j]? = some t->args[j]? = some v->Value.okWide C.prog W .any base t v) ->
   DataW.Whole enc C.prog fn.params.toList s.vars apart W args.toList ds gs before ->
   W.ShapedOpen C.prog->X W args ->
   Calls C.prog f args W λe W'=>∃ v,e = .returned v/\s.post enc C.prog fn apart fresh handsOn again W args v W') :
  ReturnsInHanded a C os f .any (λw args=>(s.pre enc C.prog fn conds apart w args/\X w args)/\sizedMet enc C.prog fn (OpenSpec.ofChange s) apart w args) (s.post enc C.prog fn apart fresh handsOn again):=by
 refine returnsInHanded_of_calls own started noInit witness ?_;intro w tape i _ hsh _ hok hpre hholds;obtain ⟨_,_,_,fn',hfn',_,_,_,_,hval⟩:=hok;have e:fn' = fn:=Option.some.inj (hfn'.symm.trans hfn);subst e;obtain ⟨⟨⟨ds,gs,before,hw,hc⟩,hx⟩,hz⟩:=hpre;have hw':=DataW.Whole.of_heap (w':=w.forCall tape i) (by rfl) hw;refine (contract (w.forCall tape i) w.heap.size i.args ds gs before hval hw' hsh (hX _ _ _ (by rfl) hx)).mono λe W' ⟨v,he,hp⟩=>?_;subst he;exact ChangeSpec.post_blind hp
end Go
namespace Go.Proofs.YteiciemjanhdcaaGreatDoor
open Go Go.Ab Go.Tx Go.ChangeShapes Go.WideShapes Go.ChangeAt Go.WideMaps Go.WideElems Go.RowKit
def laid7 : List (String × DataW Unit) := [("math/bits.deBruijn32tab", Rows.laid_math_bits_deBruijn32tab), ("math/bits.deBruijn64tab", Rows.laid_math_bits_deBruijn64tab), ("internal/strconv.uint64pow10", Rows.laid_internal_strconv_uint64pow10), ("unicode/utf8.acceptRanges", Rows.laid_unicode_utf8_acceptRanges), ("strconv.ErrRange", Rows.laid_strconv_ErrRange), ("strconv.ErrSyntax", Rows.laid_strconv_ErrSyntax), ("unicode/utf8.first", Rows.laid_unicode_utf8_first)]
theorem g1 : Tryz.prog.globalNamed "internal/strconv.uint64pow10" = some 1 := by kernel_rfl
theorem g2 : Tryz.prog.globalNamed "strconv.ErrSyntax" = some 2 := by kernel_rfl
theorem g3 : Tryz.prog.globalNamed "strconv.ErrRange" = some 3 := by kernel_rfl
theorem star : "*" ++ "errors.errorString" = "*errors.errorString" := by decide
theorem row351 (u : TypeId) (h : Tryz.prog.typeName? 3 u = some "*errors.errorString") : u = 351 :=
 typeName_ptr_named (nm := "errors.errorString") (by rw [star]; kernel_rfl) (by kernel_rfl) (by decide) u (by rw [star]; exact h)
theorem glE {W:World} {b n:Nat} {c:Array Value} {P:Program} {nm:String} (hg:P.globalNamed nm = some b) (h:W.var? P nm = some c):∃ t fr,W.heap[b]? = some (.cells c t fr):=by
 simp only [World.var?,hg,Option.bind_some] at h;cases hb:W.heap[b]? with
 | none=>rw [hb] at h; cases h
 | some o =>
  cases o with
  | cells a t fr=>rw [hb] at h; simp only [Option.some.injEq] at h; subst h; exact ⟨t,fr,rfl⟩
  | _=>rw [hb] at h; cases h
theorem glC {W:World} {b:Nat} {v:Value} (h:W.cell? ⟨b,0,none⟩ = some v):∃ c t fr,W.heap[b]? = some (.cells c t fr)/\c[0]? = some v:=by
 simp only [World.cell?] at h;cases hb:W.heap[b]? with
 | none=>rw [hb] at h; cases h
 | some o =>
  cases o with
  | cells a t fr=>rw [hb] at h; exact ⟨a,t,fr,rfl,h⟩
  | _=>rw [hb] at h; cases h
theorem laid_plain {W:World} (h:laidMetH Tryz.prog laid7 W):laidMet Tryz.prog laid7 W:=by
 rwa [MakeChecks.laidMetH_plain _ _ _ (by kernel_rfl)] at h
set_option maxRecDepth 100000 in
theorem tab10 {W : World} (h : laidMet Tryz.prog laid7 W) : Lib.TabIs Tryz.prog W "internal/strconv.uint64pow10" .u64 Lib.pow10Tab :=
 Lib.tabIs_of_head (t := 333) (e := 309) (n := 20) (rest := laid7.drop 3) g1 (by kernel_rfl) Tryz.underlying333 Tryz.underlying309 (by kernel_rfl) (by kernel_rfl) (show laidMet Tryz.prog (("internal/strconv.uint64pow10", Lib.tabData .u64 Lib.pow10Tab) :: laid7.drop 3) W from h.tail.tail)
theorem errRange {W : World} (h : laidMet Tryz.prog laid7 W) : ∃ a, W.var? Tryz.prog "strconv.ErrRange" = some #[.iface 351 (.pointer (some a))] := by
 obtain ⟨a,s,hv,-,-,-⟩:=laid_sentinel h.tail.tail.tail.tail g3 (show (Tryz.prog.globals[3]?).map (·.type) = some 240 by kernel_rfl) Tryz.underlying240 row351 Tryz.underlying351 Tryz.underlying353 rfl rfl Tryz.underlying9 (by kernel_rfl) (by kernel_rfl);exact ⟨a,hv⟩
theorem errSyntax {W : World} (h : laidMet Tryz.prog laid7 W) : ∃ a, W.var? Tryz.prog "strconv.ErrSyntax" = some #[.iface 351 (.pointer (some a))] := by
 obtain ⟨a,s,hv,-,-,-⟩:=laid_sentinel h.tail.tail.tail.tail.tail g2 (show (Tryz.prog.globals[2]?).map (·.type) = some 240 by kernel_rfl) Tryz.underlying240 row351 Tryz.underlying351 Tryz.underlying353 rfl rfl Tryz.underlying9 (by kernel_rfl) (by kernel_rfl);exact ⟨a,hv⟩
theorem maxLenCell {W:World} (h:W.ShapedOpen Tryz.prog):∃ m,W.cell? ⟨0,0,none⟩ = some (.int .i64 m):=by
 have hr:((begin Tryz.prog (λ_ _=>0) default).world.heap[0]?).bind Obj.row? = some (#[.int .i64 0],3):=by kernel_rfl
 exact cell_of_shapedOpen_int (t:=3) (zero:=#[.int .i64 0]) h (of_decide_eq_true (by kernel_rfl)) hr rfl (by kernel_rfl) (by kernel_rfl) Tryz.underlying3
theorem gl_laid {W:World} (hs:W.ShapedOpen Tryz.prog) (hL:laidMetH Tryz.prog laid7 W):GlOk W (cx0 W):=by
 have h:=laid_plain hL;obtain ⟨m,hm⟩:=maxLenCell hs;obtain ⟨a3,h3⟩:=errRange h;obtain ⟨a2,h2⟩:=errSyntax h;have h1:=tab10 h;unfold Lib.TabIs at h1;intro x hx;simp only [glob,List.mem_cons,List.mem_nil_iff,or_false] at hx;have om:∀ {b:Nat} {c:Array Value} {t:TypeId} {fr:Nat × Nat},W.heap[b]? = some (.cells c t fr)->∃ e,(cx0 W).ω b = some (e,true):=λ{b c t fr} hb=>⟨c.size,by simp [cx0,hb]⟩
 rcases hx with rfl | rfl | rfl | rfl
 ·obtain ⟨c,t,fr,hb,hc⟩:=glC hm;exact ⟨om hb,c,t,fr,hb,m,hc⟩
 ·obtain ⟨t,fr,hb⟩:=glE (n:=0) g1 h1;exact ⟨om hb,_,t,fr,hb,rfl⟩
 ·obtain ⟨t,fr,hb⟩:=glE (n:=0) g2 h2;exact ⟨om hb,_,t,fr,hb,_,rfl,Or.inr ⟨_,_,rfl⟩⟩
 ·obtain ⟨t,fr,hb⟩:=glE (n:=0) g3 h3;exact ⟨om hb,_,t,fr,hb,_,rfl,Or.inr ⟨_,_,rfl⟩⟩
end Go.Proofs.YteiciemjanhdcaaGreatDoor
end
section
set_option maxRecDepth 100000
namespace Go.Proofs.YteiciemjanhdcaaGreatDoor
open Go Go.Ab Go.Tx
noncomputable section
def KT (e:Entry) (j:TH) (l:List Entry) (n:Nat):Prop:=∀ x:denP e.ps,fnT Tryz.prog Hn.hints j (tabT l) n e.g (ofPms e.ps x) e.rs = e.F x
abbrev OT (e:Entry):Prop:=EntryOk Tryz.prog Hn.hints Lb e
theorem entK {e:Entry} {j:TH} {l:List Entry} {n:Nat} (h:TOk Tryz.prog Hn.hints Lb (tabT l)) (hj:∀ g,j.lib g = false->Lb g = none) (k:KT e j l n):OT e:=entry_ok h hj n e.g e.ps e.rs e.F k
abbrev gT:Ty:=.pair I (.pair I .unit)
def law04_fewOf (a0:(List (List (Int × Int × Unit)))) (a1:Int):Option Bool :=
 bif decide ((a0.length:Int) > a1) then
  some false
 else
  (loopO (λ(s2:Int) =>
    bif decide (s2 < (a0.length:Int)) then
     (idx a0 s2).bind λx3 =>
     bif decide ((x3.length:Int) > 5) then
      some (.inr (.inr false))
     else
      some (.inl (w64 (s2 + 1)))
    else
     some (.inr (.inl ()))) 0).bind (Sum.elim (λ(p4:Unit) =>
  some true) some)
def e_law04_fewOf:Entry:=⟨123,[.ty (.sl (.sl gT)),.ty I],[(.bool,0)],λx=>law04_fewOf x.1 x.2⟩
def j_law04_fewOf:TH:=mkTH [([],123,.block 0,{ lv:=[],ps:=[],abn:=true,D:=⟨4193312⟩ }),
 ([],123,.loop 0,{ lv:=[⟨none,5,0⟩],ps:=[(I,0)],D:=⟨4193312⟩ })] []
theorem k_law04_fewOf:KT e_law04_fewOf j_law04_fewOf [] 40:=λx=>by kernel_rfl
theorem o_law04_fewOf:OT e_law04_fewOf:=entK tab_nil hJ k_law04_fewOf
def law04_few (a0:(List (List (Int × Int × Unit)))):Option Bool :=
 (law04_fewOf a0 (5:Int)).bind λx1 =>
 some x1
def e_law04_few:Entry:=⟨45,[.ty (.sl (.sl gT))],[(.bool,0)],λx=>law04_few x⟩
def j_law04_few:TH:=mkTH [] []
theorem k_law04_few:KT e_law04_few j_law04_few [e_law04_fewOf] 40:=λx=>by kernel_rfl
theorem o_law04_few:OT e_law04_few:=entK (tab_cons o_law04_fewOf tab_nil) hJ k_law04_few
def base_CopyGausses (a0:(List (Int × Int × Unit))):Option (List (Int × Int × Unit)) :=
 (app [] a0).bind λx1 =>
 some x1
def e_base_CopyGausses:Entry:=⟨13,[.ty (.sl gT)],[((.sl gT),1)],λx=>base_CopyGausses x⟩
def j_base_CopyGausses:TH:=mkTH [] []
theorem k_base_CopyGausses:KT e_base_CopyGausses j_base_CopyGausses [] 40:=λx=>by kernel_rfl
theorem o_base_CopyGausses:OT e_base_CopyGausses:=entK tab_nil hJ k_base_CopyGausses
def ref04_CopyMatrix (a0:(List (List (Int × Int × Unit)))):Option (List (List (Int × Int × Unit))) :=
 (loopO (λ(s3:((List (List (Int × Int × Unit))) × Int)) =>
   bif decide (s3.2 < (a0.length:Int)) then
    (idx a0 s3.2).bind λx4 =>
    (base_CopyGausses x4).bind λx5 =>
    (app s3.1 ([x5])).bind λx6 =>
    some (.inl (x6,w64 (s3.2 + 1)))
   else
    some (.inr s3.1)) ([],0)).bind λ(p7:(List (List (Int × Int × Unit)))) =>
 some p7
def e_ref04_CopyMatrix:Entry:=⟨47,[.ty (.sl (.sl gT))],[((.sl (.sl gT)),2)],λx=>ref04_CopyMatrix x⟩
def j_ref04_CopyMatrix:TH:=mkTH [([],47,.block 0,{ lv:=[⟨none,3,0⟩],ps:=[((.sl (.sl gT)),2)],D:=⟨524280⟩ }),
 ([],47,.loop 0,{ lv:=[⟨none,3,0⟩,⟨none,4,0⟩],ps:=[((.sl (.sl gT)),2),(I,0)],D:=⟨524280⟩ })] []
theorem k_ref04_CopyMatrix:KT e_ref04_CopyMatrix j_ref04_CopyMatrix [e_base_CopyGausses] 40:=λx=>by kernel_rfl
theorem o_ref04_CopyMatrix:OT e_ref04_CopyMatrix:=entK (tab_cons o_base_CopyGausses tab_nil) hJ k_ref04_CopyMatrix
def drive_FormatDrive (a0:(List (Int × Int × Unit))):Option (List UInt8) :=
 (loopO (λ(s3:((List (List UInt8)) × Int)) =>
   bif decide (s3.2 < (a0.length:Int)) then
    (idx a0 s3.2).bind λx4 =>
    (strconv_Itoa x4.1).bind λx5 =>
    (app x5 ([44])).bind λx6 =>
    (strconv_Itoa x4.2.1).bind λx7 =>
    (app x6 x7).bind λx8 =>
    (app s3.1 ([x8])).bind λx9 =>
    some (.inl (x9,w64 (s3.2 + 1)))
   else
    some (.inr s3.1)) ([],0)).bind λ(p10:(List (List UInt8))) =>
 (strings_Join p10 ([32])).bind λx11 =>
 some x11
def e_drive_FormatDrive:Entry:=⟨15,[.ty (.sl gT)],[(.str,0)],λx=>drive_FormatDrive x⟩
def j_drive_FormatDrive:TH:=mkTH [([],15,.block 0,{ lv:=[⟨none,3,0⟩],ps:=[((.sl .str),1)],D:=⟨16777000⟩,wr:=[⟨0,5⟩] }),
 ([],15,.loop 0,{ lv:=[⟨none,3,0⟩,⟨none,8,0⟩],ps:=[((.sl .str),1),(I,0)],D:=⟨16777000⟩,wr:=[⟨0,5⟩],rs:=[⟨0,5⟩],Dn:=⟨16637704⟩ })] []
theorem k_drive_FormatDrive:KT e_drive_FormatDrive j_drive_FormatDrive [e_strconv_Itoa,e_strings_Join] 40:=λx=>by kernel_rfl
theorem o_drive_FormatDrive:OT e_drive_FormatDrive:=entK (tab_cons o_strconv_Itoa (tab_cons o_strings_Join tab_nil)) hJ k_drive_FormatDrive
def drive_FormatMatrix (a0:(List (List (Int × Int × Unit)))):Option (List UInt8) :=
 (loopO (λ(s3:((List (List UInt8)) × Int)) =>
   bif decide (s3.2 < (a0.length:Int)) then
    (idx a0 s3.2).bind λx4 =>
    (drive_FormatDrive x4).bind λx5 =>
    (app s3.1 ([x5])).bind λx6 =>
    some (.inl (x6,w64 (s3.2 + 1)))
   else
    some (.inr s3.1)) ([],0)).bind λ(p7:(List (List UInt8))) =>
 (strings_Join p7 ([124])).bind λx8 =>
 some x8
def e_drive_FormatMatrix:Entry:=⟨46,[.ty (.sl (.sl gT))],[(.str,0)],λx=>drive_FormatMatrix x⟩
def j_drive_FormatMatrix:TH:=mkTH [([],46,.block 0,{ lv:=[⟨none,3,0⟩],ps:=[((.sl .str),1)],D:=⟨261928⟩ }),
 ([],46,.loop 0,{ lv:=[⟨none,3,0⟩,⟨none,8,0⟩],ps:=[((.sl .str),1),(I,0)],D:=⟨261928⟩ })] []
theorem k_drive_FormatMatrix:KT e_drive_FormatMatrix j_drive_FormatMatrix [e_drive_FormatDrive,e_strings_Join] 40:=λx=>by kernel_rfl
theorem o_drive_FormatMatrix:OT e_drive_FormatMatrix:=entK (tab_cons o_drive_FormatDrive (tab_cons o_strings_Join tab_nil)) hJ k_drive_FormatMatrix
def drive_part (a0:(List UInt8)) (a1:Int):Option (Int × Bool) :=
 (strconv_Atoi a0).bind λx1 =>
 (bif x1.2 then
   (strconv_Itoa x1.1).bind λx2 =>
   bif decide (x2 = a0) then
    (strings_TrimPrefix a0 ([45])).bind λx3 =>
    some (x1.1,decide ((x3.length:Int)<=a1))
   else
    some (x1.1,false)
  else
   some (x1.1,false)).bind λ(p4:(Int × Bool)) =>
 some (p4.1,p4.2)
def e_drive_part:Entry:=⟨152,[.ty .str,.ty I],[(I,0),(.bool,0)],λx=>drive_part x.1 x.2⟩
def j_drive_part:TH:=mkTH [([],152,.region 2,{ lv:=[⟨none,4,0⟩,⟨none,5,0⟩],ps:=[(I,0),(.bool,0)],D:=⟨536862768⟩ })] []
theorem k_drive_part:KT e_drive_part j_drive_part [e_strconv_Atoi,e_strconv_Itoa,e_strings_TrimPrefix] 40:=λx=>by kernel_rfl
theorem o_drive_part:OT e_drive_part:=entK (tab_cons o_strconv_Atoi (tab_cons o_strconv_Itoa (tab_cons o_strings_TrimPrefix tab_nil))) hJ k_drive_part
def drive_list (a0:(List UInt8)) (a1:Int):Option ((List (Int × Int × Unit)) × Bool) :=
 (loopO (λ(s2:((List (Int × Int × Unit)) × (List UInt8))) =>
   (strings_Index s2.2 ([32])).bind λx3 =>
   bif decide (x3 < 0) then
    some (.inr (.inl (s2.1,s2.2)))
   else
    (slc s2.2 0 (w64 (x3 + 0))).bind λx4 =>
    (strings_Cut x4 ([44])).bind λx5 =>
    (drive_part x5.1 a1).bind λx6 =>
    (drive_part x5.2.1 a1).bind λx7 =>
    (bif !x5.2.2 then
      some true
     else
      bif !x6.2 then
       some true
      else
       some (!x7.2)).bind λ(p8:Bool) =>
    bif p8 then
     some (.inr (.inr ([],false)))
    else
     (app s2.1 ([(x6.1,x7.1,())])).bind λx9 =>
     (slc s2.2 (w64 (x3 + 1)) (s2.2.length:Int)).bind λx10 =>
     some (.inl (x9,x10))) ([],a0)).bind (Sum.elim (λ(p11:((List (Int × Int × Unit)) × (List UInt8))) =>
 (strings_Cut p11.2 ([44])).bind λx12 =>
 (drive_part x12.1 a1).bind λx13 =>
 (drive_part x12.2.1 a1).bind λx14 =>
 (bif !x12.2.2 then
   some true
  else
   bif !x13.2 then
    some true
   else
    some (!x14.2)).bind λ(p15:Bool) =>
 bif p15 then
  some ([],false)
 else
  (app p11.1 ([(x13.1,x14.1,())])).bind λx16 =>
  some (x16,true)) some)
def e_drive_list:Entry:=⟨73,[.ty .str,.ty I],[((.sl gT),2000),(.bool,0)],λx=>drive_list x.1 x.2⟩
def j_drive_list:TH:=mkTH [([17],237,.block 2,{ lv:=[⟨some 0,6,0⟩,⟨some 0,16,0⟩],ps:=[((.sl gT),1),(.str,0)],abn:=true,D:=⟨562949416550784⟩,wr:=[⟨0,6⟩,⟨0,16⟩] }),
 ([17],237,.loop 2,{ lv:=[⟨some 0,6,0⟩,⟨some 0,16,0⟩],ps:=[((.sl gT),1),(.str,0)],D:=⟨562949416550784⟩,wr:=[⟨0,6⟩,⟨0,16⟩],rs:=[⟨0,17⟩],Dn:=⟨562399660736896⟩ }),
 ([41,17],73,.region 7,{ lv:=[⟨none,45,0⟩],ps:=[(.bool,0)],D:=⟨70300024700928⟩ }),
 ([51,17],73,.region 7,{ lv:=[⟨none,45,0⟩],ps:=[(.bool,0)],D:=⟨70300024700928⟩ })] []
theorem k_drive_list:KT e_drive_list j_drive_list [e_drive_part,e_strings_Cut,e_strings_Index] 40:=λx=>by kernel_rfl
theorem o_drive_list:OT e_drive_list:=entK (tab_cons o_drive_part (tab_cons o_strings_Cut (tab_cons o_strings_Index tab_nil))) hJ k_drive_list
def drive_unless (a0:Bool) (a1:Int):Option Int :=
 bif a0 then
  some 0
 else
  some a1
def e_drive_unless:Entry:=⟨70,[.ty .bool,.ty I],[(I,0)],λx=>drive_unless x.1 x.2⟩
def j_drive_unless:TH:=mkTH [] []
theorem k_drive_unless:KT e_drive_unless j_drive_unless [] 40:=λx=>by kernel_rfl
theorem o_drive_unless:OT e_drive_unless:=entK tab_nil hJ k_drive_unless
def drive_first (a0:(List Int)):Option Int :=
 (loopO (λ(s2:Int) =>
   bif decide (s2 < (a0.length:Int)) then
    (idx a0 s2).bind λx3 =>
    bif !(decide (x3 = 0)) then
     some (.inr (.inr x3))
    else
     some (.inl (w64 (s2 + 1)))
   else
    some (.inr (.inl ()))) 0).bind (Sum.elim (λ(p4:Unit) =>
 some 0) some)
def e_drive_first:Entry:=⟨69,[.ty (.sl I)],[(I,0)],λx=>drive_first x⟩
def j_drive_first:TH:=mkTH [([],69,.block 0,{ lv:=[],ps:=[],abn:=true,D:=⟨32656⟩ }),
 ([],69,.loop 0,{ lv:=[⟨none,7,0⟩],ps:=[(I,0)],D:=⟨32656⟩ })] []
theorem k_drive_first:KT e_drive_first j_drive_first [] 40:=λx=>by kernel_rfl
theorem o_drive_first:OT e_drive_first:=entK tab_nil hJ k_drive_first
def drive_within (a0:Int) (a1:Int) (a2:Int):Option Bool :=
 (bif decide (a1<=a0) then
   some (decide (a0<=a2))
  else
   some false).bind λ(p1:Bool) =>
 some p1
def e_drive_within:Entry:=⟨71,[.ty I,.ty I,.ty I],[(.bool,0)],λx=>drive_within x.1 x.2.1 x.2.2⟩
def j_drive_within:TH:=mkTH [([],71,.region 1,{ lv:=[⟨none,6,0⟩],ps:=[(.bool,0)],D:=⟨32704⟩ })] []
theorem k_drive_within:KT e_drive_within j_drive_within [] 40:=λx=>by kernel_rfl
theorem o_drive_within:OT e_drive_within:=entK tab_nil hJ k_drive_within
def drive_isSized (a0:Int) (a1:Int):Option Bool :=
 (drive_within a0 (w64 (0 - a1)) a1).bind λx1 =>
 some x1
def e_drive_isSized:Entry:=⟨162,[.ty I,.ty I],[(.bool,0)],λx=>drive_isSized x.1 x.2⟩
def j_drive_isSized:TH:=mkTH [] []
theorem k_drive_isSized:KT e_drive_isSized j_drive_isSized [e_drive_within] 40:=λx=>by kernel_rfl
theorem o_drive_isSized:OT e_drive_isSized:=entK (tab_cons o_drive_within tab_nil) hJ k_drive_isSized
def drive_whole_isSized (a0:(Int × Int × Unit)) (a1:Int):Option Bool :=
 ((drive_isSized a0.1 a1).bind λx1 =>
  bif x1 then
   (drive_isSized a0.2.1 a1).bind λx2 =>
   some x2
  else
   some false).bind λ(p3:Bool) =>
 some p3
def e_drive_whole_isSized:Entry:=⟨84,[.ty gT,.ty I],[(.bool,0)],λx=>drive_whole_isSized x.1 x.2⟩
def j_drive_whole_isSized:TH:=mkTH [([],84,.region 1,{ lv:=[⟨none,4,0⟩],ps:=[(.bool,0)],D:=⟨32752⟩,rs:=[⟨0,2⟩],Dn:=⟨31696⟩ })] []
theorem k_drive_whole_isSized:KT e_drive_whole_isSized j_drive_whole_isSized [e_drive_isSized] 40:=λx=>by kernel_rfl
theorem o_drive_whole_isSized:OT e_drive_whole_isSized:=entK (tab_cons o_drive_isSized tab_nil) hJ k_drive_whole_isSized
def drive_CheckMatrix_1 (a0:(Int × Int × Unit)):Option Bool :=
 (drive_whole_isSized a0 (20:Int)).bind λx1 =>
 some (!x1)
def e_drive_CheckMatrix_1:Entry:=⟨240,[.ty gT],[(.bool,0)],λx=>drive_CheckMatrix_1 x⟩
def j_drive_CheckMatrix_1:TH:=mkTH [] []
theorem k_drive_CheckMatrix_1:KT e_drive_CheckMatrix_1 j_drive_CheckMatrix_1 [e_drive_whole_isSized] 40:=λx=>by kernel_rfl
theorem o_drive_CheckMatrix_1:OT e_drive_CheckMatrix_1:=entK (tab_cons o_drive_whole_isSized tab_nil) hJ k_drive_CheckMatrix_1
def slices_IndexFunc_Lapi_Gauss_api_Gauss_of_drive_CheckMatrix_1 (a0:(List (Int × Int × Unit))):Option Int :=
 (loopO (λ(s2:Int) =>
   bif decide (s2 < (a0.length:Int)) then
    (idx a0 s2).bind λx3 =>
    (drive_CheckMatrix_1 x3).bind λx4 =>
    bif x4 then
     some (.inr (.inr s2))
    else
     some (.inl (w64 (s2 + 1)))
   else
    some (.inr (.inl ()))) 0).bind (Sum.elim (λ(p5:Unit) =>
 some (-1)) some)
def e_slices_IndexFunc_Lapi_Gauss_api_Gauss_of_drive_CheckMatrix_1:Entry:=⟨208,[.ty (.sl gT),.fn 240 []],[(I,0)],λx=>slices_IndexFunc_Lapi_Gauss_api_Gauss_of_drive_CheckMatrix_1 x.1⟩
def j_slices_IndexFunc_Lapi_Gauss_api_Gauss_of_drive_CheckMatrix_1:TH:=mkTH [([],208,.block 0,{ lv:=[],ps:=[],abn:=true,D:=⟨524064⟩ }),
 ([],208,.loop 0,{ lv:=[⟨none,8,0⟩],ps:=[(I,0)],D:=⟨524064⟩ })] []
theorem k_slices_IndexFunc_Lapi_Gauss_api_Gauss_of_drive_CheckMatrix_1:KT e_slices_IndexFunc_Lapi_Gauss_api_Gauss_of_drive_CheckMatrix_1 j_slices_IndexFunc_Lapi_Gauss_api_Gauss_of_drive_CheckMatrix_1 [e_drive_CheckMatrix_1] 40:=λx=>by kernel_rfl
theorem o_slices_IndexFunc_Lapi_Gauss_api_Gauss_of_drive_CheckMatrix_1:OT e_slices_IndexFunc_Lapi_Gauss_api_Gauss_of_drive_CheckMatrix_1:=entK (tab_cons o_drive_CheckMatrix_1 tab_nil) hJ k_slices_IndexFunc_Lapi_Gauss_api_Gauss_of_drive_CheckMatrix_1
def slices_ContainsFunc_Lapi_Gauss_api_Gauss_of_drive_CheckMatrix_1 (a0:(List (Int × Int × Unit))):Option Bool :=
 (slices_IndexFunc_Lapi_Gauss_api_Gauss_of_drive_CheckMatrix_1 a0).bind λx1 =>
 some (decide (x1>=0))
def e_slices_ContainsFunc_Lapi_Gauss_api_Gauss_of_drive_CheckMatrix_1:Entry:=⟨153,[.ty (.sl gT),.fn 240 []],[(.bool,0)],λx=>slices_ContainsFunc_Lapi_Gauss_api_Gauss_of_drive_CheckMatrix_1 x.1⟩
def j_slices_ContainsFunc_Lapi_Gauss_api_Gauss_of_drive_CheckMatrix_1:TH:=mkTH [] []
theorem k_slices_ContainsFunc_Lapi_Gauss_api_Gauss_of_drive_CheckMatrix_1:KT e_slices_ContainsFunc_Lapi_Gauss_api_Gauss_of_drive_CheckMatrix_1 j_slices_ContainsFunc_Lapi_Gauss_api_Gauss_of_drive_CheckMatrix_1 [e_slices_IndexFunc_Lapi_Gauss_api_Gauss_of_drive_CheckMatrix_1] 40:=λx=>by kernel_rfl
theorem o_slices_ContainsFunc_Lapi_Gauss_api_Gauss_of_drive_CheckMatrix_1:OT e_slices_ContainsFunc_Lapi_Gauss_api_Gauss_of_drive_CheckMatrix_1:=entK (tab_cons o_slices_IndexFunc_Lapi_Gauss_api_Gauss_of_drive_CheckMatrix_1 tab_nil) hJ k_slices_ContainsFunc_Lapi_Gauss_api_Gauss_of_drive_CheckMatrix_1
def drive_CheckMatrix (a0:(List (List (Int × Int × Unit)))):Option (Int × Int) :=
 (drive_unless (decide ((a0.length:Int) > 0)) (10:Int)).bind λx1 =>
 (drive_unless (decide ((a0.length:Int)<=3)) (8:Int)).bind λx2 =>
 (drive_first ([x1,x2])).bind λx3 =>
 bif !(decide (x3 = 0)) then
  some (0,x3)
 else
  (loopO (λ(s5:Int) =>
    bif decide (s5 < (a0.length:Int)) then
     (idx a0 s5).bind λx6 =>
     (slices_ContainsFunc_Lapi_Gauss_api_Gauss_of_drive_CheckMatrix_1 x6).bind λx7 =>
     (drive_unless (decide ((x6.length:Int) = (a0.length:Int))) (10:Int)).bind λx8 =>
     (drive_unless (!x7) (2:Int)).bind λx9 =>
     (drive_first ([x8,x9])).bind λx10 =>
     bif !(decide (x10 = 0)) then
      some (.inr (.inr (s5,x10)))
     else
      some (.inl (w64 (s5 + 1)))
    else
     some (.inr (.inl ()))) 0).bind (Sum.elim (λ(p11:Unit) =>
  some (0,0)) some)
def e_drive_CheckMatrix:Entry:=⟨188,[.ty (.sl (.sl gT))],[(I,0),(I,0)],λx=>drive_CheckMatrix x⟩
def j_drive_CheckMatrix:TH:=mkTH [([],188,.block 0,{ lv:=[],ps:=[],abn:=true,D:=⟨140737471578592⟩ }),
 ([],188,.loop 0,{ lv:=[⟨none,24,0⟩],ps:=[(I,0)],D:=⟨140737471578592⟩ })] []
theorem k_drive_CheckMatrix:KT e_drive_CheckMatrix j_drive_CheckMatrix [e_drive_first,e_drive_unless,e_slices_ContainsFunc_Lapi_Gauss_api_Gauss_of_drive_CheckMatrix_1] 40:=λx=>by kernel_rfl
theorem o_drive_CheckMatrix:OT e_drive_CheckMatrix:=entK (tab_cons o_drive_first (tab_cons o_drive_unless (tab_cons o_slices_ContainsFunc_Lapi_Gauss_api_Gauss_of_drive_CheckMatrix_1 tab_nil))) hJ k_drive_CheckMatrix
def drive_matrixErr (a0:(List (List (Int × Int × Unit)))):Option Int :=
 (drive_CheckMatrix a0).bind λx1 =>
 some x1.2
def e_drive_matrixErr:Entry:=⟨125,[.ty (.sl (.sl gT))],[(I,0)],λx=>drive_matrixErr x⟩
def j_drive_matrixErr:TH:=mkTH [] []
theorem k_drive_matrixErr:KT e_drive_matrixErr j_drive_matrixErr [e_drive_CheckMatrix] 40:=λx=>by kernel_rfl
theorem o_drive_matrixErr:OT e_drive_matrixErr:=entK (tab_cons o_drive_CheckMatrix tab_nil) hJ k_drive_matrixErr
def drive_ParseMatrix (a0:(List UInt8)):Option ((List (List (Int × Int × Unit))) × Int) :=
 bif decide ((a0.length:Int) > 60000) then
  some ([],8)
 else
  (loopO (λ(s2:((List (List (Int × Int × Unit))) × (List UInt8))) =>
    (strings_Index s2.2 ([124])).bind λx3 =>
    bif decide (x3 < 0) then
     some (.inr (.inl (s2.1,s2.2)))
    else
     (slc s2.2 0 (w64 (x3 + 0))).bind λx4 =>
     (drive_list x4 (2:Int)).bind λx5 =>
     bif !x5.2 then
      some (.inr (.inr ([],7)))
     else
      (app s2.1 ([x5.1])).bind λx6 =>
      (slc s2.2 (w64 (x3 + 1)) (s2.2.length:Int)).bind λx7 =>
      some (.inl (x6,x7))) ([],a0)).bind (Sum.elim (λ(p8:((List (List (Int × Int × Unit))) × (List UInt8))) =>
  (drive_list p8.2 (2:Int)).bind λx9 =>
  bif !x9.2 then
   some ([],7)
  else
   (app p8.1 ([x9.1])).bind λx10 =>
   (drive_matrixErr x10).bind λx11 =>
   bif !(decide (x11 = 0)) then
    some ([],x11)
   else
    some (x10,0)) some)
def e_drive_ParseMatrix:Entry:=⟨48,[.ty .str],[((.sl (.sl gT)),2000),(I,0)],λx=>drive_ParseMatrix x⟩
def j_drive_ParseMatrix:TH:=mkTH [([14],237,.block 2,{ lv:=[⟨some 0,4,0⟩,⟨some 0,13,0⟩],ps:=[((.sl (.sl gT)),2001),(.str,0)],abn:=true,D:=⟨562949416550784⟩,wr:=[⟨0,4⟩,⟨0,13⟩] }),
 ([14],237,.loop 2,{ lv:=[⟨some 0,4,0⟩,⟨some 0,13,0⟩],ps:=[((.sl (.sl gT)),2001),(.str,0)],D:=⟨562949416550784⟩,wr:=[⟨0,4⟩,⟨0,13⟩],rs:=[⟨0,14⟩],Dn:=⟨562399660736896⟩ })] []
theorem k_drive_ParseMatrix:KT e_drive_ParseMatrix j_drive_ParseMatrix [e_drive_list,e_drive_matrixErr,e_strings_Index] 40:=λx=>by kernel_rfl
theorem o_drive_ParseMatrix:OT e_drive_ParseMatrix:=entK (tab_cons o_drive_list (tab_cons o_drive_matrixErr (tab_cons o_strings_Index tab_nil))) hJ k_drive_ParseMatrix
def drive_listErr_1 (a0:(Int × Int × Unit)):Option Bool :=
 (drive_whole_isSized a0 (10000:Int)).bind λx1 =>
 some (!x1)
def e_drive_listErr_1:Entry:=⟨154,[.ty gT],[(.bool,0)],λx=>drive_listErr_1 x⟩
def j_drive_listErr_1:TH:=mkTH [] []
theorem k_drive_listErr_1:KT e_drive_listErr_1 j_drive_listErr_1 [e_drive_whole_isSized] 40:=λx=>by kernel_rfl
theorem o_drive_listErr_1:OT e_drive_listErr_1:=entK (tab_cons o_drive_whole_isSized tab_nil) hJ k_drive_listErr_1
def slices_IndexFunc_Lapi_Gauss_api_Gauss_of_drive_listErr_1 (a0:(List (Int × Int × Unit))):Option Int :=
 (loopO (λ(s2:Int) =>
   bif decide (s2 < (a0.length:Int)) then
    (idx a0 s2).bind λx3 =>
    (drive_listErr_1 x3).bind λx4 =>
    bif x4 then
     some (.inr (.inr s2))
    else
     some (.inl (w64 (s2 + 1)))
   else
    some (.inr (.inl ()))) 0).bind (Sum.elim (λ(p5:Unit) =>
 some (-1)) some)
def e_slices_IndexFunc_Lapi_Gauss_api_Gauss_of_drive_listErr_1:Entry:=⟨208,[.ty (.sl gT),.fn 154 []],[(I,0)],λx=>slices_IndexFunc_Lapi_Gauss_api_Gauss_of_drive_listErr_1 x.1⟩
def j_slices_IndexFunc_Lapi_Gauss_api_Gauss_of_drive_listErr_1:TH:=mkTH [([],208,.block 0,{ lv:=[],ps:=[],abn:=true,D:=⟨524064⟩ }),
 ([],208,.loop 0,{ lv:=[⟨none,8,0⟩],ps:=[(I,0)],D:=⟨524064⟩ })] []
theorem k_slices_IndexFunc_Lapi_Gauss_api_Gauss_of_drive_listErr_1:KT e_slices_IndexFunc_Lapi_Gauss_api_Gauss_of_drive_listErr_1 j_slices_IndexFunc_Lapi_Gauss_api_Gauss_of_drive_listErr_1 [e_drive_listErr_1] 40:=λx=>by kernel_rfl
theorem o_slices_IndexFunc_Lapi_Gauss_api_Gauss_of_drive_listErr_1:OT e_slices_IndexFunc_Lapi_Gauss_api_Gauss_of_drive_listErr_1:=entK (tab_cons o_drive_listErr_1 tab_nil) hJ k_slices_IndexFunc_Lapi_Gauss_api_Gauss_of_drive_listErr_1
def slices_ContainsFunc_Lapi_Gauss_api_Gauss_of_drive_listErr_1 (a0:(List (Int × Int × Unit))):Option Bool :=
 (slices_IndexFunc_Lapi_Gauss_api_Gauss_of_drive_listErr_1 a0).bind λx1 =>
 some (decide (x1>=0))
def e_slices_ContainsFunc_Lapi_Gauss_api_Gauss_of_drive_listErr_1:Entry:=⟨153,[.ty (.sl gT),.fn 154 []],[(.bool,0)],λx=>slices_ContainsFunc_Lapi_Gauss_api_Gauss_of_drive_listErr_1 x.1⟩
def j_slices_ContainsFunc_Lapi_Gauss_api_Gauss_of_drive_listErr_1:TH:=mkTH [] []
theorem k_slices_ContainsFunc_Lapi_Gauss_api_Gauss_of_drive_listErr_1:KT e_slices_ContainsFunc_Lapi_Gauss_api_Gauss_of_drive_listErr_1 j_slices_ContainsFunc_Lapi_Gauss_api_Gauss_of_drive_listErr_1 [e_slices_IndexFunc_Lapi_Gauss_api_Gauss_of_drive_listErr_1] 40:=λx=>by kernel_rfl
theorem o_slices_ContainsFunc_Lapi_Gauss_api_Gauss_of_drive_listErr_1:OT e_slices_ContainsFunc_Lapi_Gauss_api_Gauss_of_drive_listErr_1:=entK (tab_cons o_slices_IndexFunc_Lapi_Gauss_api_Gauss_of_drive_listErr_1 tab_nil) hJ k_slices_ContainsFunc_Lapi_Gauss_api_Gauss_of_drive_listErr_1
def drive_listErr (a0:(List (Int × Int × Unit))) (a1:Int):Option Int :=
 (slices_ContainsFunc_Lapi_Gauss_api_Gauss_of_drive_listErr_1 a0).bind λx1 =>
 (drive_unless (decide ((a0.length:Int) = a1)) (10:Int)).bind λx2 =>
 (drive_unless (!x1) (2:Int)).bind λx3 =>
 (drive_first ([x2,x3])).bind λx4 =>
 some x4
def e_drive_listErr:Entry:=⟨74,[.ty (.sl gT),.ty I],[(I,0)],λx=>drive_listErr x.1 x.2⟩
def j_drive_listErr:TH:=mkTH [] []
theorem k_drive_listErr:KT e_drive_listErr j_drive_listErr [e_drive_first,e_drive_unless,e_slices_ContainsFunc_Lapi_Gauss_api_Gauss_of_drive_listErr_1] 40:=λx=>by kernel_rfl
theorem o_drive_listErr:OT e_drive_listErr:=entK (tab_cons o_drive_first (tab_cons o_drive_unless (tab_cons o_slices_ContainsFunc_Lapi_Gauss_api_Gauss_of_drive_listErr_1 tab_nil))) hJ k_drive_listErr
def drive_ParseDrive (a0:(List UInt8)):Option ((List (Int × Int × Unit)) × Int) :=
 bif decide ((a0.length:Int) > 60000) then
  some ([],8)
 else
  (drive_list a0 (5:Int)).bind λx1 =>
  (drive_unless x1.2 (7:Int)).bind λx2 =>
  (drive_unless (decide ((x1.1.length:Int)<=3)) (8:Int)).bind λx3 =>
  (drive_listErr x1.1 (x1.1.length:Int)).bind λx4 =>
  (drive_first ([x2,x3,x4])).bind λx5 =>
  bif !(decide (x5 = 0)) then
   some ([],x5)
  else
   some (x1.1,0)
def e_drive_ParseDrive:Entry:=⟨14,[.ty .str],[((.sl gT),2000),(I,0)],λx=>drive_ParseDrive x⟩
def j_drive_ParseDrive:TH:=mkTH [] []
theorem k_drive_ParseDrive:KT e_drive_ParseDrive j_drive_ParseDrive [e_drive_first,e_drive_list,e_drive_listErr,e_drive_unless] 40:=λx=>by kernel_rfl
theorem o_drive_ParseDrive:OT e_drive_ParseDrive:=entK (tab_cons o_drive_first (tab_cons o_drive_list (tab_cons o_drive_listErr (tab_cons o_drive_unless tab_nil)))) hJ k_drive_ParseDrive
def base_Cut (a0:(List UInt8)) (a1:Int):Option (List (List UInt8)) :=
 (loopO (λ(s2:((List (List UInt8)) × Int × Int)) =>
   bif decide (s2.2.2 < (a0.length:Int)) then
    (idx a0 s2.2.2).bind λx3 =>
    (bif decide ((x3.toNat:Int) = a1) then
      (slc a0 s2.2.1 s2.2.2).bind λx4 =>
      (app s2.1 ([x4])).bind λx5 =>
      some (x5,w64 (s2.2.2 + 1))
     else
      some (s2.1,s2.2.1)).bind λ(p6:((List (List UInt8)) × Int)) =>
    some (.inl (p6.1,p6.2,w64 (s2.2.2 + 1)))
   else
    some (.inr (s2.1,s2.2.1))) ([],0,0)).bind λ(p7:((List (List UInt8)) × Int)) =>
 (slc a0 p7.2 (a0.length:Int)).bind λx8 =>
 (app p7.1 ([x8])).bind λx9 =>
 some x9
def e_base_Cut:Entry:=⟨126,[.ty .str,.ty (.int .u8)],[((.sl .str),1)],λx=>base_Cut x.1 x.2⟩
def j_base_Cut:TH:=mkTH [([],126,.block 0,{ lv:=[⟨none,5,0⟩,⟨none,6,0⟩],ps:=[((.sl .str),1),(I,0)],D:=⟨268435424⟩ }),
 ([],126,.loop 0,{ lv:=[⟨none,5,0⟩,⟨none,6,0⟩,⟨none,7,0⟩],ps:=[((.sl .str),1),(I,0),(I,0)],D:=⟨268435424⟩ }),
 ([],126,.cond 18,{ lv:=[⟨none,5,0⟩,⟨none,6,0⟩],ps:=[((.sl .str),1),(I,0)],D:=⟨267911264⟩ })] []
theorem k_base_Cut:KT e_base_Cut j_base_Cut [] 40:=λx=>by kernel_rfl
theorem o_base_Cut:OT e_base_Cut:=entK tab_nil hJ k_base_Cut
def base_Number (a0:(List UInt8)) (a1:Int):Option (Int × Bool) :=
 (bif decide ((a0.length:Int) > 0) then
   (idx a0 0).bind λx1 =>
   some (decide ((x1.toNat:Int) = 45))
  else
   some false).bind λ(p2:Bool) =>
 (bif p2 then
   some 1
  else
   some 0).bind λ(p3:Int) =>
 (bif decide ((a0.length:Int) = p3) then
   some true
  else
   bif decide (w64 ((a0.length:Int) - p3) > a1) then
    some true
   else
    (idx a0 p3).bind λx4 =>
    bif decide ((x4.toNat:Int) = 48) then
     some (decide ((a0.length:Int) > 1))
    else
     some false).bind λ(p5:Bool) =>
 bif p5 then
  some (0,false)
 else
  (loopO (λ(s7:(Int × Int)) =>
    bif decide (s7.2 < (a0.length:Int)) then
     ((idx a0 s7.2).bind λx8 =>
      bif decide ((x8.toNat:Int) < 48) then
       some true
      else
       (idx a0 s7.2).bind λx9 =>
       some (decide ((x9.toNat:Int) > 57))).bind λ(p10:Bool) =>
     bif p10 then
      some (.inr (.inr (0,false)))
     else
      (idx a0 s7.2).bind λx11 =>
      let v12:Int:=w64 ((w64 (10 * s7.1)) + (w64 (IntKind.wrap .u8 ((x11.toNat:Int) - 48))))
      some (.inl (v12,w64 (s7.2 + 1)))
    else
     some (.inr (.inl s7.1))) (0,p3)).bind (Sum.elim (λ(p13:Int) =>
  (bif decide (p3 = 1) then
    some (w64 (0 - p13))
   else
    some p13).bind λ(p14:Int) =>
  some (p14,true)) some)
def e_base_Number:Entry:=⟨178,[.ty .str,.ty I],[(I,0),(.bool,0)],λx=>base_Number x.1 x.2⟩
def j_base_Number:TH:=mkTH [([],178,.region 2,{ lv:=[⟨none,16,0⟩],ps:=[(.bool,0)],D:=⟨130560⟩ }),
 ([],178,.cond 16,{ lv:=[⟨none,6,0⟩],ps:=[(I,0)],D:=⟨64⟩ }),
 ([],178,.region 4,{ lv:=[⟨none,39,0⟩],ps:=[(.bool,0)],D:=⟨1099511496704⟩ }),
 ([],178,.block 0,{ lv:=[⟨none,7,0⟩],ps:=[(I,0)],abn:=true,D:=⟨36893485948395848064⟩ }),
 ([],178,.loop 0,{ lv:=[⟨none,7,0⟩,⟨none,8,0⟩],ps:=[(I,0),(I,0)],D:=⟨36893485948395848064⟩ }),
 ([],178,.region 10,{ lv:=[⟨none,56,0⟩],ps:=[(.bool,0)],D:=⟨143974450587500544⟩ }),
 ([],178,.cond 66,{ lv:=[⟨none,7,0⟩],ps:=[(I,0)],D:=⟨442721857769029238912⟩ })] []
theorem k_base_Number:KT e_base_Number j_base_Number [] 40:=λx=>by kernel_rfl
theorem o_base_Number:OT e_base_Number:=entK tab_nil hJ k_base_Number
def ref04_parse (a0:(List UInt8)) (a1:Int):Option ((List (Int × Int × Unit)) × Bool) :=
 (base_Cut a0 (32:Int)).bind λx1 =>
 (loopO (λ(s4:((List (Int × Int × Unit)) × Int)) =>
   bif decide (s4.2 < (x1.length:Int)) then
    (idx x1 s4.2).bind λx5 =>
    (base_Cut x5 (44:Int)).bind λx6 =>
    bif !(decide ((x6.length:Int) = 2)) then
     some (.inr (.inr ([],false)))
    else
     (idx x6 0).bind λx7 =>
     (base_Number x7 a1).bind λx8 =>
     (idx x6 1).bind λx9 =>
     (base_Number x9 a1).bind λx10 =>
     (bif !x8.2 then
       some true
      else
       some (!x10.2)).bind λ(p11:Bool) =>
     bif p11 then
      some (.inr (.inr ([],false)))
     else
      (app s4.1 ([(x8.1,x10.1,())])).bind λx12 =>
      some (.inl (x12,w64 (s4.2 + 1)))
   else
    some (.inr (.inl s4.1))) ([],0)).bind (Sum.elim (λ(p13:(List (Int × Int × Unit))) =>
 some (p13,true)) some)
def e_ref04_parse:Entry:=⟨127,[.ty .str,.ty I],[((.sl gT),1),(.bool,0)],λx=>ref04_parse x.1 x.2⟩
def j_ref04_parse:TH:=mkTH [([],127,.block 0,{ lv:=[⟨none,7,0⟩],ps:=[((.sl gT),1)],abn:=true,D:=⟨288230376151662464⟩ }),
 ([],127,.loop 0,{ lv:=[⟨none,7,0⟩,⟨none,8,0⟩],ps:=[((.sl gT),1),(I,0)],D:=⟨288230376151662464⟩ }),
 ([],127,.region 11,{ lv:=[⟨none,51,0⟩],ps:=[(.bool,0)],D:=⟨4433230883192832⟩ })] []
theorem k_ref04_parse:KT e_ref04_parse j_ref04_parse [e_base_Cut,e_base_Number] 40:=λx=>by kernel_rfl
theorem o_ref04_parse:OT e_ref04_parse:=entK (tab_cons o_base_Cut (tab_cons o_base_Number tab_nil)) hJ k_ref04_parse
def base_Within (a0:Int) (a1:Int) (a2:Int):Option Bool :=
 (bif decide (a1<=a0) then
   some (decide (a0<=a2))
  else
   some false).bind λ(p1:Bool) =>
 some p1
def e_base_Within:Entry:=⟨10,[.ty I,.ty I,.ty I],[(.bool,0)],λx=>base_Within x.1 x.2.1 x.2.2⟩
def j_base_Within:TH:=mkTH [([],10,.region 1,{ lv:=[⟨none,6,0⟩],ps:=[(.bool,0)],D:=⟨32704⟩ })] []
theorem k_base_Within:KT e_base_Within j_base_Within [] 40:=λx=>by kernel_rfl
theorem o_base_Within:OT e_base_Within:=entK tab_nil hJ k_base_Within
def ref04_isSized (a0:(Int × Int × Unit)) (a1:Int):Option Bool :=
 ((base_Within a0.1 (w64 (0 - a1)) a1).bind λx1 =>
  bif x1 then
   (base_Within a0.2.1 (w64 (0 - a1)) a1).bind λx2 =>
   some x2
  else
   some false).bind λ(p3:Bool) =>
 some p3
def e_ref04_isSized:Entry:=⟨77,[.ty gT,.ty I],[(.bool,0)],λx=>ref04_isSized x.1 x.2⟩
def j_ref04_isSized:TH:=mkTH [([],77,.region 1,{ lv:=[⟨none,4,0⟩],ps:=[(.bool,0)],D:=⟨524272⟩,rs:=[⟨0,2⟩],Dn:=⟨520144⟩ })] []
theorem k_ref04_isSized:KT e_ref04_isSized j_ref04_isSized [e_base_Within] 40:=λx=>by kernel_rfl
theorem o_ref04_isSized:OT e_ref04_isSized:=entK (tab_cons o_base_Within tab_nil) hJ k_ref04_isSized
def ref04_CheckMatrix (a0:(List (List (Int × Int × Unit)))):Option (Int × Int) :=
 bif decide ((a0.length:Int) = 0) then
  some (0,10)
 else
  bif decide ((a0.length:Int) > 3) then
   some (0,8)
  else
   (loopO (λ(s2:Int) =>
     bif decide (s2 < (a0.length:Int)) then
      (idx a0 s2).bind λx3 =>
      bif !(decide ((x3.length:Int) = (a0.length:Int))) then
       some (.inr (.inr (s2,10)))
      else
       (loopO (λ(s5:Int) =>
         (idx a0 s2).bind λx6 =>
         bif decide (s5 < (x6.length:Int)) then
          (idx a0 s2).bind λx7 =>
          (idx x7 s5).bind λx8 =>
          (ref04_isSized x8 (20:Int)).bind λx9 =>
          bif !x9 then
           some (.inr (.inr (.inr (.inr (s2,2)))))
          else
           some (.inl (w64 (s5 + 1)))
         else
          some (.inr (.inl ()))) 0).bind (Sum.elim (λ(p10:Unit) =>
       some (.inl (w64 (s2 + 1)))) some)
     else
      some (.inr (.inl ()))) 0).bind (Sum.elim (λ(p11:Unit) =>
   some (0,0)) some)
def e_ref04_CheckMatrix:Entry:=⟨129,[.ty (.sl (.sl gT))],[(I,0),(I,0)],λx=>ref04_CheckMatrix x⟩
def j_ref04_CheckMatrix:TH:=mkTH [([],129,.block 0,{ lv:=[],ps:=[],abn:=true,D:=⟨70368744173616⟩ }),
 ([],129,.loop 0,{ lv:=[⟨none,4,0⟩],ps:=[(I,0)],D:=⟨70368744173616⟩ }),
 ([],129,.block 2,{ lv:=[],ps:=[],abn:=true,D:=⟨70368609959968⟩ }),
 ([],129,.loop 2,{ lv:=[⟨none,5,0⟩],ps:=[(I,0)],D:=⟨70368609959968⟩ })] []
theorem k_ref04_CheckMatrix:KT e_ref04_CheckMatrix j_ref04_CheckMatrix [e_ref04_isSized] 40:=λx=>by kernel_rfl
theorem o_ref04_CheckMatrix:OT e_ref04_CheckMatrix:=entK (tab_cons o_ref04_isSized tab_nil) hJ k_ref04_CheckMatrix
def ref04_MatrixErr (a0:(List (List (Int × Int × Unit)))):Option Int :=
 (ref04_CheckMatrix a0).bind λx1 =>
 some x1.2
def e_ref04_MatrixErr:Entry:=⟨54,[.ty (.sl (.sl gT))],[(I,0)],λx=>ref04_MatrixErr x⟩
def j_ref04_MatrixErr:TH:=mkTH [] []
theorem k_ref04_MatrixErr:KT e_ref04_MatrixErr j_ref04_MatrixErr [e_ref04_CheckMatrix] 40:=λx=>by kernel_rfl
theorem o_ref04_MatrixErr:OT e_ref04_MatrixErr:=entK (tab_cons o_ref04_CheckMatrix tab_nil) hJ k_ref04_MatrixErr
def ref04_ParseMatrix (a0:(List UInt8)):Option ((List (List (Int × Int × Unit))) × Int) :=
 bif decide ((a0.length:Int) > 60000) then
  some ([],8)
 else
  (base_Cut a0 (124:Int)).bind λx1 =>
  (loopO (λ(s4:((List (List (Int × Int × Unit))) × Int)) =>
    bif decide (s4.2 < (x1.length:Int)) then
     (idx x1 s4.2).bind λx5 =>
     (ref04_parse x5 (2:Int)).bind λx6 =>
     bif !x6.2 then
      some (.inr (.inr ([],7)))
     else
      (app s4.1 ([x6.1])).bind λx7 =>
      some (.inl (x7,w64 (s4.2 + 1)))
    else
     some (.inr (.inl s4.1))) ([],0)).bind (Sum.elim (λ(p8:(List (List (Int × Int × Unit)))) =>
  (ref04_MatrixErr p8).bind λx9 =>
  bif !(decide (x9 = 0)) then
   some ([],x9)
  else
   some (p8,0)) some)
def e_ref04_ParseMatrix:Entry:=⟨49,[.ty .str],[((.sl (.sl gT)),2),(I,0)],λx=>ref04_ParseMatrix x⟩
def j_ref04_ParseMatrix:TH:=mkTH [([],49,.block 0,{ lv:=[⟨none,5,0⟩],ps:=[((.sl (.sl gT)),2)],abn:=true,D:=⟨34359706080⟩ }),
 ([],49,.loop 0,{ lv:=[⟨none,5,0⟩,⟨none,6,0⟩],ps:=[((.sl (.sl gT)),2),(I,0)],D:=⟨34359706080⟩ })] []
theorem k_ref04_ParseMatrix:KT e_ref04_ParseMatrix j_ref04_ParseMatrix [e_base_Cut,e_ref04_MatrixErr,e_ref04_parse] 40:=λx=>by kernel_rfl
theorem o_ref04_ParseMatrix:OT e_ref04_ParseMatrix:=entK (tab_cons o_base_Cut (tab_cons o_ref04_MatrixErr (tab_cons o_ref04_parse tab_nil))) hJ k_ref04_ParseMatrix
def ref04_ParseDrive (a0:(List UInt8)):Option ((List (Int × Int × Unit)) × Int) :=
 bif decide ((a0.length:Int) > 60000) then
  some ([],8)
 else
  (ref04_parse a0 (5:Int)).bind λx1 =>
  bif !x1.2 then
   some ([],7)
  else
   bif decide ((x1.1.length:Int) > 3) then
    some ([],8)
   else
    (loopO (λ(s3:Int) =>
      bif decide (s3 < (x1.1.length:Int)) then
       (idx x1.1 s3).bind λx4 =>
       (ref04_isSized x4 (10000:Int)).bind λx5 =>
       bif !x5 then
        some (.inr (.inr ([],2)))
       else
        some (.inl (w64 (s3 + 1)))
      else
       some (.inr (.inl ()))) 0).bind (Sum.elim (λ(p6:Unit) =>
    some (x1.1,0)) some)
def e_ref04_ParseDrive:Entry:=⟨50,[.ty .str],[((.sl gT),1),(I,0)],λx=>ref04_ParseDrive x⟩
def j_ref04_ParseDrive:TH:=mkTH [([],50,.block 0,{ lv:=[],ps:=[],abn:=true,D:=⟨4293918784⟩ }),
 ([],50,.loop 0,{ lv:=[⟨none,6,0⟩],ps:=[(I,0)],D:=⟨4293918784⟩ })] []
theorem k_ref04_ParseDrive:KT e_ref04_ParseDrive j_ref04_ParseDrive [e_ref04_isSized,e_ref04_parse] 40:=λx=>by kernel_rfl
theorem o_ref04_ParseDrive:OT e_ref04_ParseDrive:=entK (tab_cons o_ref04_isSized (tab_cons o_ref04_parse tab_nil)) hJ k_ref04_ParseDrive
def base_Size (a0:Int):Option Int :=
 some (max a0 (w64 (0 - a0)))
def e_base_Size:Entry:=⟨19,[.ty I],[(I,0)],λx=>base_Size x⟩
def j_base_Size:TH:=mkTH [] []
theorem k_base_Size:KT e_base_Size j_base_Size [] 40:=λx=>by kernel_rfl
theorem o_base_Size:OT e_base_Size:=entK tab_nil hJ k_base_Size
def base_Decimal (a0:Int):Option (List UInt8) :=
 bif decide (a0 = 0) then
  some ([48])
 else
  (bif decide (a0 < 0) then
    some ([45])
   else
    some []).bind λ(p1:(List UInt8)) =>
  (loopO (λ(s3:(Int × (List UInt8))) =>
    bif !(decide (s3.1 = 0)) then
     (base_Size (s3.1.tmod 10)).bind λx4 =>
     (app (([IntKind.wrap .u8 (w64 (48 + x4))]).map λn=>UInt8.ofNat n.toNat) s3.2).bind λx5 =>
     some (.inl (w64 (s3.1.tdiv 10),x5))
    else
     some (.inr s3.2)) (a0,[])).bind λ(p6:(List UInt8)) =>
  (app p1 p6).bind λx7 =>
  some x7
def e_base_Decimal:Entry:=⟨128,[.ty I],[(.str,0)],λx=>base_Decimal x⟩
def j_base_Decimal:TH:=mkTH [([],128,.cond 9,{ lv:=[⟨none,4,0⟩],ps:=[(.str,0)],D:=⟨16⟩ }),
 ([],128,.block 0,{ lv:=[⟨none,3,0⟩],ps:=[(.str,0)],D:=⟨16776233⟩ }),
 ([],128,.loop 0,{ lv:=[⟨none,0,0⟩,⟨none,3,0⟩],ps:=[(I,0),(.str,0)],D:=⟨16776233⟩ })] []
theorem k_base_Decimal:KT e_base_Decimal j_base_Decimal [e_base_Size] 40:=λx=>by kernel_rfl
theorem o_base_Decimal:OT e_base_Decimal:=entK (tab_cons o_base_Size tab_nil) hJ k_base_Decimal
def ref04_FormatDrive (a0:(List (Int × Int × Unit))):Option (List UInt8) :=
 (loopO (λ(s2:((List UInt8) × Int)) =>
   bif decide (s2.2 < (a0.length:Int)) then
    (bif decide (s2.2 > 0) then
      (app s2.1 ([32])).bind λx3 =>
      some x3
     else
      some s2.1).bind λ(p4:(List UInt8)) =>
    (idx a0 s2.2).bind λx5 =>
    (base_Decimal x5.1).bind λx6 =>
    (app p4 x6).bind λx7 =>
    (app x7 ([44])).bind λx8 =>
    (idx a0 s2.2).bind λx9 =>
    (base_Decimal x9.2.1).bind λx10 =>
    (app x8 x10).bind λx11 =>
    some (.inl (x11,w64 (s2.2 + 1)))
   else
    some (.inr s2.1)) ([],0)).bind λ(p12:(List UInt8)) =>
 some p12
def e_ref04_FormatDrive:Entry:=⟨52,[.ty (.sl gT)],[(.str,0)],λx=>ref04_FormatDrive x⟩
def j_ref04_FormatDrive:TH:=mkTH [([],52,.block 0,{ lv:=[⟨none,3,0⟩],ps:=[(.str,0)],D:=⟨2147483640⟩ }),
 ([],52,.loop 0,{ lv:=[⟨none,3,0⟩,⟨none,4,0⟩],ps:=[(.str,0),(I,0)],D:=⟨2147483640⟩ }),
 ([],52,.cond 12,{ lv:=[⟨none,3,0⟩],ps:=[(.str,0)],D:=⟨24584⟩ })] []
theorem k_ref04_FormatDrive:KT e_ref04_FormatDrive j_ref04_FormatDrive [e_base_Decimal] 40:=λx=>by kernel_rfl
theorem o_ref04_FormatDrive:OT e_ref04_FormatDrive:=entK (tab_cons o_base_Decimal tab_nil) hJ k_ref04_FormatDrive
def ref04_FormatMatrix (a0:(List (List (Int × Int × Unit)))):Option (List UInt8) :=
 (loopO (λ(s2:((List UInt8) × Int)) =>
   bif decide (s2.2 < (a0.length:Int)) then
    (bif decide (s2.2 > 0) then
      (app s2.1 ([124])).bind λx3 =>
      some x3
     else
      some s2.1).bind λ(p4:(List UInt8)) =>
    (idx a0 s2.2).bind λx5 =>
    (ref04_FormatDrive x5).bind λx6 =>
    (app p4 x6).bind λx7 =>
    some (.inl (x7,w64 (s2.2 + 1)))
   else
    some (.inr s2.1)) ([],0)).bind λ(p8:(List UInt8)) =>
 some p8
def e_ref04_FormatMatrix:Entry:=⟨51,[.ty (.sl (.sl gT))],[(.str,0)],λx=>ref04_FormatMatrix x⟩
def j_ref04_FormatMatrix:TH:=mkTH [([],51,.block 0,{ lv:=[⟨none,3,0⟩],ps:=[(.str,0)],D:=⟨4194296⟩ }),
 ([],51,.loop 0,{ lv:=[⟨none,3,0⟩,⟨none,4,0⟩],ps:=[(.str,0),(I,0)],D:=⟨4194296⟩ }),
 ([],51,.cond 12,{ lv:=[⟨none,3,0⟩],ps:=[(.str,0)],D:=⟨24584⟩ })] []
theorem k_ref04_FormatMatrix:KT e_ref04_FormatMatrix j_ref04_FormatMatrix [e_ref04_FormatDrive] 40:=λx=>by kernel_rfl
theorem o_ref04_FormatMatrix:OT e_ref04_FormatMatrix:=entK (tab_cons o_ref04_FormatDrive tab_nil) hJ k_ref04_FormatMatrix
def base_Gausses (a0:(List (Int × Int × Unit))) (a1:(List (Int × Int × Unit))):Option Bool :=
 bif !(decide ((a0.length:Int) = (a1.length:Int))) then
  some false
 else
  (loopO (λ(s2:Int) =>
    bif decide (s2 < (a0.length:Int)) then
     (idx a0 s2).bind λx3 =>
     (idx a1 s2).bind λx4 =>
     let v5:Bool:=!(bif decide (x3.1 = x4.1) then (bif decide (x3.2.1 = x4.2.1) then true else false) else false)
     bif v5 then
      some (.inr (.inr false))
     else
      some (.inl (w64 (s2 + 1)))
    else
     some (.inr (.inl ()))) 0).bind (Sum.elim (λ(p6:Unit) =>
  some true) some)
def e_base_Gausses:Entry:=⟨16,[.ty (.sl gT),.ty (.sl gT)],[(.bool,0)],λx=>base_Gausses x.1 x.2⟩
def j_base_Gausses:TH:=mkTH [([],16,.block 0,{ lv:=[],ps:=[],abn:=true,D:=⟨67106848⟩ }),
 ([],16,.loop 0,{ lv:=[⟨none,5,0⟩],ps:=[(I,0)],D:=⟨67106848⟩ })] []
theorem k_base_Gausses:KT e_base_Gausses j_base_Gausses [] 40:=λx=>by kernel_rfl
theorem o_base_Gausses:OT e_base_Gausses:=entK tab_nil hJ k_base_Gausses
def ref04_SameMatrix (a0:(List (List (Int × Int × Unit)))) (a1:(List (List (Int × Int × Unit)))):Option Bool :=
 bif !(decide ((a0.length:Int) = (a1.length:Int))) then
  some false
 else
  (loopO (λ(s2:Int) =>
    bif decide (s2 < (a0.length:Int)) then
     (idx a0 s2).bind λx3 =>
     (idx a1 s2).bind λx4 =>
     (base_Gausses x3 x4).bind λx5 =>
     bif !x5 then
      some (.inr (.inr false))
     else
      some (.inl (w64 (s2 + 1)))
    else
     some (.inr (.inl ()))) 0).bind (Sum.elim (λ(p6:Unit) =>
  some true) some)
def e_ref04_SameMatrix:Entry:=⟨53,[.ty (.sl (.sl gT)),.ty (.sl (.sl gT))],[(.bool,0)],λx=>ref04_SameMatrix x.1 x.2⟩
def j_ref04_SameMatrix:TH:=mkTH [([],53,.block 0,{ lv:=[],ps:=[],abn:=true,D:=⟨134215712⟩ }),
 ([],53,.loop 0,{ lv:=[⟨none,5,0⟩],ps:=[(I,0)],D:=⟨134215712⟩ })] []
theorem k_ref04_SameMatrix:KT e_ref04_SameMatrix j_ref04_SameMatrix [e_base_Gausses] 40:=λx=>by kernel_rfl
theorem o_ref04_SameMatrix:OT e_ref04_SameMatrix:=entK (tab_cons o_base_Gausses tab_nil) hJ k_ref04_SameMatrix
def law04_DriveStrings (a0:(List (List (Int × Int × Unit)))) (a1:(List (Int × Int × Unit))) (a2:(List UInt8)):Option Bool :=
 (law04_awake).bind λx1 =>
 bif !x1 then
  some false
 else
  ((law04_few a0).bind λx2 =>
   bif !x2 then
    some true
   else
    bif decide ((a1.length:Int) > 5) then
     some true
    else
     some (decide ((a2.length:Int) > 120))).bind λ(p3:Bool) =>
  bif p3 then
   some true
  else
   (ref04_CopyMatrix a0).bind λx4 =>
   (drive_FormatMatrix x4).bind λx5 =>
   (base_CopyGausses a1).bind λx6 =>
   (drive_FormatDrive x6).bind λx7 =>
   (drive_ParseMatrix a2).bind λx8 =>
   (drive_ParseDrive a2).bind λx9 =>
   (ref04_ParseMatrix a2).bind λx10 =>
   (ref04_ParseDrive a2).bind λx11 =>
   ((ref04_FormatMatrix a0).bind λx12 =>
    bif !(decide (x5 = x12)) then
     some true
    else
     (ref04_FormatDrive a1).bind λx13 =>
     bif !(decide (x7 = x13)) then
      some true
     else
      bif !(decide (x8.2 = x10.2)) then
       some true
      else
       (ref04_SameMatrix x8.1 x10.1).bind λx14 =>
       bif !x14 then
        some true
       else
        bif !(decide (x9.2 = x11.2)) then
         some true
        else
         (base_Gausses x9.1 x11.1).bind λx15 =>
         some (!x15)).bind λ(p16:Bool) =>
   bif p16 then
    some false
   else
    (ref04_MatrixErr a0).bind λx17 =>
    (bif decide (x17 = 0) then
      (drive_ParseMatrix x5).bind λx18 =>
      (bif !(decide (x18.2 = 0)) then
        some true
       else
        (ref04_SameMatrix x18.1 a0).bind λx19 =>
        some (!x19)).bind λ(p20:Bool) =>
      bif p20 then
       some (.inr false)
      else
       some (.inl ())
     else
      some (.inl ())).bind (Sum.elim (λ(p21:Unit) =>
    (ref04_ParseDrive x7).bind λx22 =>
    bif !(decide (x22.2 = 0)) then
     some true
    else
     (drive_ParseDrive x7).bind λx23 =>
     (bif decide (x23.2 = 0) then
       (base_Gausses x23.1 a1).bind λx24 =>
       some x24
      else
       some false).bind λ(p25:Bool) =>
     some p25) some)
def e_law04_DriveStrings:Entry:=⟨6,[.ty (.sl (.sl gT)),.ty (.sl gT),.ty .str],[(.bool,0)],λx=>law04_DriveStrings x.1 x.2.1 x.2.2⟩
def j_law04_DriveStrings:TH:=mkTH [([],6,.region 3,{ lv:=[⟨none,35,0⟩],ps:=[(.bool,0)],D:=⟨68711088128⟩ }),
 ([],6,.region 10,{ lv:=[⟨none,93,0⟩],ps:=[(.bool,0)],D:=⟨19807040623954398379958643200⟩ }),
 ([],6,.cond 96,{ lv:=[],ps:=[],abn:=true,D:=⟨1297915758308678378457436994797568⟩ }),
 ([],6,.region 14,{ lv:=[⟨none,109,0⟩],ps:=[(.bool,0)],D:=⟨1293003612232793989526637269614592⟩ }),
 ([],6,.region 20,{ lv:=[⟨none,6,0⟩],ps:=[(.bool,0)],D:=⟨675247821858737263435133986622415568960⟩ })] []
theorem k_law04_DriveStrings:KT e_law04_DriveStrings j_law04_DriveStrings [e_base_CopyGausses,e_base_Gausses,e_drive_FormatDrive,e_drive_FormatMatrix,e_drive_ParseDrive,e_drive_ParseMatrix,e_law04_awake,e_law04_few,e_ref04_CopyMatrix,e_ref04_FormatDrive,e_ref04_FormatMatrix,e_ref04_MatrixErr,e_ref04_ParseDrive,e_ref04_ParseMatrix,e_ref04_SameMatrix] 40:=λx=>by kernel_rfl
theorem o_law04_DriveStrings:OT e_law04_DriveStrings:=entK (tab_cons o_base_CopyGausses (tab_cons o_base_Gausses (tab_cons o_drive_FormatDrive (tab_cons o_drive_FormatMatrix (tab_cons o_drive_ParseDrive (tab_cons o_drive_ParseMatrix (tab_cons o_law04_awake (tab_cons o_law04_few (tab_cons o_ref04_CopyMatrix (tab_cons o_ref04_FormatDrive (tab_cons o_ref04_FormatMatrix (tab_cons o_ref04_MatrixErr (tab_cons o_ref04_ParseDrive (tab_cons o_ref04_ParseMatrix (tab_cons o_ref04_SameMatrix tab_nil))))))))))))))) hJ k_law04_DriveStrings
end
end Go.Proofs.YteiciemjanhdcaaGreatDoor
end
section
namespace Go.Tx
open Go
theorem wrap_id {n:Int} (h1 : -9223372036854775808<=n) (h2:n<=9223372036854775807):IntKind.wrap .i64 n = n:=by
 rw [IntKind.wrap_i64]; omega
theorem idx_of {α:Type} {l:List α} {i:Nat} {a:α} (h:l[i]? = some a):idx l (i:Int) = some a:=by simp [idx,h]
theorem app_of {α:Type} {l l2:List α} (h:l.length + l2.length<=4294967296):app l l2 = some (l ++ l2):=by simp [app,h]
section
variable {σ ρ:Type} {f:σ->Option (σ ⊕ ρ)}
theorem loopN_mono:∀ {n m:Nat} {s:σ} {r:ρ},loopN f n s = some r->n<=m->loopN f m s = some r
 | 0,m,s,r,h,_=>by simp [loopN] at h
 | n + 1,0,s,r,h,hm=>by omega
 | n + 1,m + 1,s,r,h,hm=>by
  simp only [loopN] at h ⊢;cases hf:f s with
  | none=>rw [hf] at h; cases h
  | some x =>
   rw [hf] at h;cases x with
   | inl s'=>exact loopN_mono h (by omega)
   | inr r'=>exact h
theorem loopO_of {n:Nat} {s:σ} {r:ρ} (h:loopN f n s = some r):loopO f s = some r:=by
 have hex:∃ n r,loopN f n s = some r:=⟨n,r,h⟩
 cases hl:loopO f s with
 | none=>exfalso; unfold loopO at hl; rw [dif_pos hex] at hl; cases hl
 | some r' =>
  obtain ⟨m,hm⟩:=loopO_some hl;have h1:=loopN_mono h (Nat.le_max_left n m);have h2:=loopN_mono hm (Nat.le_max_right n m);rw [<- h1,<- h2]
theorem loopO_inl {s s':σ} (h:f s = some (.inl s')):loopO f s = loopO f s':=by
 cases hl:loopO f s' with
 | some r =>
  obtain ⟨n,hn⟩:=loopO_some hl;exact loopO_of (n:=n + 1) (by simp [loopN,h,hn])
 | none =>
  cases hl2:loopO f s with
  | none=>rfl
  | some r =>
   obtain ⟨n,hn⟩:=loopO_some hl2;cases n with
   | zero=>simp [loopN] at hn
   | succ n =>
    simp only [loopN,h] at hn;rw [loopO_of hn] at hl;cases hl
theorem loopO_inr {s:σ} {r:ρ} (h:f s = some (.inr r)):loopO f s = some r:=loopO_of (n:=1) (by simp [loopN,h])
theorem loop_inv (n:Nat) (I:Nat->σ->Prop) (Q:ρ->Prop)
  (hs:∀ i s,i<=n->I i s->(∃ s',f s = some (.inl s')/\i < n/\I (i + 1) s')\/(∃ r,f s = some (.inr r)/\Q r)) {s:σ} (h0:I 0 s):∃ r,loopO f s = some r/\Q r:=by
 have h:∀ k i s,n - i = k->i<=n->I i s->∃ r,loopO f s = some r/\Q r:=by
  intro k;induction k with
  | zero =>
   intro i s hk hi hI;rcases hs i s hi hI with ⟨s',_,h,_⟩ | ⟨r,h,hq⟩
   ·omega
   ·exact ⟨r,loopO_inr h,hq⟩
  | succ k ih =>
   intro i s hk hi hI;rcases hs i s hi hI with ⟨s',h,hlt,hI'⟩ | ⟨r,h,hq⟩
   ·obtain ⟨r,hr,hq⟩:=ih (i + 1) s' (by omega) (by omega) hI';exact ⟨r,by rw [loopO_inl h,hr],hq⟩
   ·exact ⟨r,loopO_inr h,hq⟩
 exact h n 0 s (by omega) (by omega) h0
end
def findI {α ρ:Type} (g:Nat->α->Option ρ):Nat->List α->Option ρ
 | _,[]=>none
 | k,a :: l=>match g k a with
  | some r=>some r
  | none=>findI g (k + 1) l
def toSum {ρ:Type}:Option ρ->Unit ⊕ ρ
 | some r=>.inr r
 | none=>.inl ()
def stp {ρ:Type} (i:Nat):Option ρ->Int ⊕ (Unit ⊕ ρ)
 | some r=>.inr (.inr r)
 | none=>.inl ((i:Int) + 1)
theorem loop_list {α ρ:Type} (l:List α) {f:Int->Option (Int ⊕ (Unit ⊕ ρ))} (g:Nat->α->Option ρ)
  (h:∀ (i:Nat) (a:α),l[i]? = some a->f i = some (stp i (g i a)))
  (he:f l.length = some (.inr (.inl ()))):loopO f 0 = some (toSum (findI g 0 l)):=by
 have key:∀ (l2 l1:List α),l1 ++ l2 = l->loopO f (l1.length:Nat) = some (toSum (findI g l1.length l2)):=by
  intro l2;induction l2 with
  | nil =>
   intro l1 e;have:l1 = l:=by simpa using e
   subst this;rw [loopO_inr he]; rfl
  | cons a l2 ih =>
   intro l1 e;have hi:l[l1.length]? = some a:=by rw [<- e]; simp
   have hf:=h _ _ hi;simp only [findI];cases hg:g l1.length a with
   | some r=>rw [hg] at hf; rw [loopO_inr hf]; rfl
   | none =>
    rw [hg] at hf;rw [loopO_inl hf];have:=ih (l1 ++ [a]) (by simp [e]);simpa using this
 simpa using key l [] rfl
end Go.Tx
end
section
namespace Go.Tx
open Go
def Ok {α:Type} (o:Option α) (Q:α->Prop):Prop:=∃ a,o = some a/\Q a
section
variable {α β σ ρ τ:Type}
theorem ok_some {a:α} {Q:α->Prop}:Ok (some a) Q ↔ Q a:=⟨λ⟨_,h,hq⟩=>by cases h; exact hq,λh=>⟨a,rfl,h⟩⟩
theorem ok_none {Q:α->Prop}:Ok (none:Option α) Q ↔ False:=⟨λ⟨_,h,_⟩=>(by cases h),λh=>h.elim⟩
theorem ok_eq {o:Option α} {a:α}:Ok o (λr=>r = a) ↔ o = some a:=⟨λ⟨_,h,hq⟩=>by rw [h,hq],λh=>⟨a,h,rfl⟩⟩
theorem Ok.eq {o:Option α} {a:α} (h:Ok o (λr=>r = a)):o = some a:=ok_eq.1 h
theorem Ok.mono {o:Option α} {P Q:α->Prop} (h:Ok o P) (hq:∀ a,P a->Q a):Ok o Q:=by obtain ⟨a,h1,h2⟩:=h; exact ⟨a,h1,hq a h2⟩
theorem Ok.bind {o:Option α} {k:α->Option β} {P:α->Prop} {Q:β->Prop} (h:Ok o P) (hk:∀ a,P a->Ok (k a) Q):Ok (o.bind k) Q:=by
 obtain ⟨a,h1,h2⟩:=h; rw [h1]; exact hk a h2
theorem ok_bind {o:Option α} {k:α->Option β} {Q:β->Prop}:Ok (o.bind k) Q ↔ Ok o λa=>Ok (k a) Q:=by
 cases o with
 | none=>simp [ok_none]
 | some a=>simp [ok_some]
theorem idx_in {l:List α} {n:Int} (d:α) (h0:0<=n) (h1:n < l.length):idx l n = some (l.getD n.toNat d):=by
 unfold idx;rw [if_pos h0];have:n.toNat < l.length:=by omega
 simp [this]
theorem app_in {l l2:List α} (h:l.length + l2.length<=4294967296):app l l2 = some (l ++ l2):=app_of h
theorem app_one {l:List α} {a:α} (h:l.length<=4294967295):app l [a] = some (l ++ [a]):=app_of (by simp; omega)
theorem app_nil {l2:List α} (h:l2.length<=4294967296):app [] l2 = some l2:=by rw [app_of (by simpa using h)]; rfl
theorem slc_in {l:List α} {a b:Int} (h:0<=a/\a<=b/\b<=l.length):slc l a b = some ((l.take b.toNat).drop a.toNat):=by unfold slc; rw [if_pos h]
def Rnd (o:Option (σ ⊕ ρ)) (I:σ->Prop) (Q:ρ->Prop):Prop:=Ok o λx=>match x with
 | .inl s=>I s
 | .inr r=>Q r
theorem rnd_inl {s:σ} {I:σ->Prop} {Q:ρ->Prop}:Rnd (some (.inl s)) I Q ↔ I s:=ok_some
theorem rnd_inr {r:ρ} {I:σ->Prop} {Q:ρ->Prop}:Rnd (some (.inr r):Option (σ ⊕ ρ)) I Q ↔ Q r:=ok_some
theorem loop_wf {f:σ->Option (σ ⊕ ρ)} (μ:σ->Nat) (I:σ->Prop) (Q:ρ->Prop) {s:σ} (h0:I s)
  (hs:∀ s,I s->Rnd (f s) (λs'=>I s'/\μ s' < μ s) Q):Ok (loopO f s) Q:=by
 have key:∀ n s,μ s<=n->I s->Ok (loopO f s) Q:=by
  intro n;induction n with
  | zero =>
   intro s hn hI;obtain ⟨x,hx,h⟩:=hs s hI;cases x with
   | inl s'=>exact absurd h.2 (by omega)
   | inr r=>exact ⟨r,loopO_inr hx,h⟩
  | succ n ih =>
   intro s hn hI;obtain ⟨x,hx,h⟩:=hs s hI;cases x with
   | inl s'=>rw [loopO_inl hx]; exact ih s' (by have:=h.2; omega) h.1
   | inr r=>exact ⟨r,loopO_inr hx,h⟩
 exact key _ s (Nat.le_refl _) h0
theorem loop_up {f:σ->Option (σ ⊕ ρ)} (n:Nat) (I:Nat->σ->Prop) (Q:ρ->Prop) {s:σ} (h0:I 0 s)
  (hs:∀ i s,i<=n->I i s->Rnd (f s) (λs'=>i < n/\I (i + 1) s') Q):Ok (loopO f s) Q:=by
 obtain ⟨r,h1,h2⟩:=loop_inv n I Q (λi s hi hI=>by
  obtain ⟨x,hx,h⟩:=hs i s hi hI;cases x with
  | inl s'=>exact .inl ⟨s',hx,h⟩
  | inr r=>exact .inr ⟨r,hx,h⟩) h0
 exact ⟨r,h1,h2⟩
theorem ok_elim {o:Option (α ⊕ β)} {k:α->Option β} {Q:β->Prop}:Ok (o.bind (Sum.elim k some)) Q ↔ Ok o λx=>match x with
  | .inl a=>Ok (k a) Q
  | .inr b=>Q b:=by
 rw [ok_bind];cases o with
 | none=>simp [ok_none]
 | some x=>cases x <;> simp [ok_some]
end
theorem getD_at {α:Type} {l:List α} {i:Nat} {a d:α} (h:l[i]? = some a):l.getD i d = a:=by simp [h]
theorem take_next {α:Type} {l:List α} {i:Nat} (d:α) (h:i < l.length):l.take (i + 1) = l.take i ++ [l.getD i d]:=by
 rw [List.take_add_one]; simp [h]
end Go.Tx
end
section
namespace Go.Tx
open Go
section
variable {α β ρ τ:Type}
theorem len_lt {l:List α} {i:Nat} {a:α} (h:l[i]? = some a):i < l.length:=(List.getElem?_eq_some_iff.1 h).1
theorem for_find (l:List α) (K:Int->Option (Int ⊕ (Unit ⊕ ρ))) (g:Nat->α->Option ρ) (h:∀ (i:Nat) (a:α),l[i]? = some a->K i = some (stp i (g i a))) :
  loopO (λs=>bif decide (s < (l.length:Int)) then K s else some (.inr (.inl ()))) 0 = some (toSum (findI g 0 l)):=by
 refine loop_list l g (λi a hi=>?_) ?_
 ·have:=len_lt hi;have e:decide ((i:Int) < (l.length:Int)) = true:=by simp <;> omega
  simp only [e,cond_true];exact h i a hi
 ·simp
theorem elim_toSum {o:Option ρ} {k:Unit->Option ρ}:(some (toSum o)).bind (Sum.elim k some) = (match o with
  | some r=>some r
  | none=>k ()):=by cases o <;> rfl
theorem findI_none {g:Nat->α->Option ρ}:∀ {l:List α} {k:Nat},findI g k l = none ↔ ∀ i a,l[i]? = some a->g (k + i) a = none
 | [],k=>by simp [findI]
 | a :: l,k=>by
  simp only [findI];cases hg:g k a with
  | some r =>
   simp only [reduceCtorEq,false_iff];intro h;have:=h 0 a rfl;simp [hg] at this
  | none =>
   simp only
   rw [findI_none (l:=l) (k:=k + 1)];constructor
   ·intro h i b hb;cases i with
    | zero=>simp at hb; subst hb; simpa using hg
    | succ i=>have:=h i b (by simpa using hb); rw [<- this]; congr 1; omega
   ·intro h i b hb;have:=h (i + 1) b (by simpa using hb);rw [<- this]; congr 1; omega
theorem findI_some {g:Nat->α->Option ρ} {r:ρ}:∀ {l:List α} {k:Nat},findI g k l = some r->∃ i a,l[i]? = some a/\g (k + i) a = some r/\∀ j b,j < i->l[j]? = some b->g (k + j) b = none
 | [],k,h=>by simp [findI] at h
 | a :: l,k,h=>by
  simp only [findI] at h;cases hg:g k a with
  | some r' =>
   rw [hg] at h;simp only [Option.some.injEq] at h;subst h;exact ⟨0,a,rfl,by simpa using hg,λj b hj=>by omega⟩
  | none =>
   rw [hg] at h;obtain ⟨i,b,h1,h2,h3⟩:=findI_some (l:=l) (k:=k + 1) h;refine ⟨i + 1,b,by simpa using h1,by rw [<- h2]; congr 1; omega,λj c hj hc=>?_⟩;cases j with
   | zero=>simp at hc; subst hc; simpa using hg
   | succ j=>have:=h3 j c (by omega) (by simpa using hc); rw [<- this]; congr 1; omega
theorem for_any (l:List α) (pf:α->Option Bool) (p:α->Bool) (h:∀ x ∈ l,pf x = some (p x)) (hl:l.length<=1000000000) :
  ((loopO (λ(s2:Int) =>
   bif decide (s2 < (l.length:Int)) then
    (idx l s2).bind λx3 =>
    (pf x3).bind λx4 =>
    bif x4 then
     some (.inr (.inr s2))
    else
     some (.inl (IntKind.wrap .i64 (s2 + 1)))
   else
    some (.inr (.inl ()))) 0).bind (Sum.elim (λ(p5:Unit) =>
  some (-1)) some)).bind (λx1=>some (decide (x1>=0))) = some (l.any p):=by
 rw [for_find l _ (λi a=>if p a then some (i:Int) else none) (λi a hi=>by
  have:=len_lt hi;rw [idx_of hi];simp only [Option.bind_some];rw [h a (List.mem_of_getElem? hi)];simp only [Option.bind_some];cases hp:p a
  ·simp only [cond_false,Bool.false_eq_true,if_false,stp]; rw [wrap_id (by omega) (by omega)]
  ·simp [stp]),elim_toSum]
 cases hf:findI (λi a=>if p a then some (i:Int) else none) 0 l with
 | none =>
  rw [findI_none] at hf;have:l.any p = false:=by
   rw [List.any_eq_false];intro x hx;obtain ⟨i,hi⟩:=List.mem_iff_getElem?.1 hx;have:=hf i x hi;simpa using this
  rw [this]; rfl
 | some r =>
  obtain ⟨i,a,h1,h2,_⟩:=findI_some hf;have hp:p a = true:=by
   cases hp:p a
   ·simp [hp] at h2
   ·rfl
  have:l.any p = true:=List.any_eq_true.2 ⟨a,List.mem_of_getElem? h1,hp⟩;rw [this];simp only [hp,if_true,Option.some.injEq] at h2;simp only [Option.bind_some];have:decide (r>=0) = true:=by simp <;> omega
  rw [this]
def fst0:List Int->Int
 | []=>0
 | e :: l=>if e = 0 then fst0 l else e
theorem findI_fst0:∀ (l:List Int) (k:Nat),findI (λ_ e=>if e = 0 then none else some e) k l = if fst0 l = 0 then none else some (fst0 l)
 | [],k=>rfl
 | e :: l,k=>by
  simp only [findI,fst0];by_cases h:e = 0
  ·simp only [h,if_true]; exact findI_fst0 l (k + 1)
  ·simp [h]
theorem for_first (l:List Int) (hl:l.length<=1000000000) :
  (loopO (λ(s2:Int) =>
   bif decide (s2 < (l.length:Int)) then
    (idx l s2).bind λx3 =>
    bif !(decide (x3 = 0)) then
     some (.inr (.inr x3))
    else
     some (.inl (IntKind.wrap .i64 (s2 + 1)))
   else
    some (.inr (.inl ()))) 0).bind (Sum.elim (λ(p4:Unit)=>some 0) some) = some (fst0 l):=by
 rw [for_find l _ (λ_ e=>if e = 0 then none else some e) (λi a hi=>by
  have:=len_lt hi;rw [idx_of hi];simp only [Option.bind_some];by_cases h:a = 0
  ·simp only [h,decide_true,Bool.not_true,cond_false,if_true,stp]; rw [wrap_id (by omega) (by omega)]
  ·simp [h,stp]),elim_toSum,findI_fst0]
 by_cases h:fst0 l = 0
 ·simp [h]
 ·simp [h]
end
end Go.Tx
end
section
namespace Go.Tx
open Go
end Go.Tx
end
section
namespace Go.Tx
open Go
section
variable {α:Type}
theorem abs_mul_le {a b A B:Int} (h1 : -A<=a/\a<=A) (h2 : -B<=b/\b<=B) : -(A * B)<=a * b/\a * b<=A * B:=by
 have hA:0<=A:=by omega
 have hB:0<=B:=by omega
 have e:(a * b).natAbs = a.natAbs * b.natAbs:=Int.natAbs_mul a b;have h3:a.natAbs * b.natAbs<=A.natAbs * B.natAbs:=Nat.mul_le_mul (by omega) (by omega);have h4:((A.natAbs * B.natAbs:Nat):Int) = A * B:=by
  rw [Int.natCast_mul]; congr 1 <;> omega
 omega
end
end Go.Tx
end
section
namespace Go.Tx
open Go
section
variable {α β:Type}
def mkL (n:Nat) (f:Nat->α):List α:=(List.range n).map f
theorem mkL_len (n:Nat) (f:Nat->α):(mkL n f).length = n:=by simp [mkL]
theorem mkL_get {n:Nat} (f:Nat->α) {k:Nat} (h:k < n):(mkL n f)[k]? = some (f k):=by simp [mkL,h]
theorem mkL_congr {n:Nat} {f g:Nat->α} (h:∀ k,k < n->f k = g k):mkL n f = mkL n g:=List.map_congr_left λk hk=>h k (by simpa using hk)
theorem list_mkL (l:List α) (d:α):l = mkL l.length λk=>l.getD k d:=by
 apply List.ext_getElem?;intro k;by_cases h:k < l.length
 ·rw [mkL_get _ h]; simp [h]
 ·rw [List.getElem?_eq_none (by omega),List.getElem?_eq_none (by rw [mkL_len]; omega)]
theorem getD_mem {l:List α} {i:Nat} {d:α} (h:i < l.length):l.getD i d ∈ l:=by
 have:l[i]? = some (l.getD i d):=by simp [h]
 exact List.mem_of_getElem? this
theorem for_map {K:List β × Int->Option ((List β × Int) ⊕ List β)} (l:List α) (f:α->β)
  (h:∀ (i:Nat) a out,l[i]? = some a->out.length = i->K (out,(i:Int)) = some (.inl (out ++ [f a],(i:Int) + 1))) (he:∀ out,out.length = l.length->K (out,(l.length:Int)) = some (.inr out)):loopO K ([],0) = some (l.map f):=by
 refine Ok.eq (loop_up l.length (λi (s:List β × Int)=>s = ((l.take i).map f,(i:Int))) (λr=>r = l.map f) (by simp) ?_);rintro i s hi rfl;by_cases hlt:i < l.length
 ·have ha:l[i]? = some l[i]:=by simp [hlt]
  rw [h i _ _ ha (by simp; omega),rnd_inl];refine ⟨hlt,?_⟩;have e:(l.take (i + 1)).map f = (l.take i).map f ++ [f l[i]]:=by rw [List.take_add_one,ha]; simp only [List.map_append,Option.toList_some,List.map_cons,List.map_nil]
  rw [e]; rfl
 ·have:i = l.length:=by omega
  subst this;rw [he _ (by simp),rnd_inr];simp
theorem getD_ext {l m:List α} (d:α):(l.length = m.length/\∀ i,i < l.length->l.getD i d = m.getD i d) ↔ l = m:=by
 constructor
 ·rintro ⟨h1,h2⟩;rw [list_mkL l d,list_mkL m d,h1];exact mkL_congr λk hk=>h2 k (by omega)
 ·rintro rfl; exact ⟨rfl,λ_ _=>rfl⟩
theorem ints_loop [DecidableEq α] {l m:List α} (d:α) (hl:l.length = m.length) (hb:l.length<=1000000000) (e:α->α->Bool) (he:∀ a b,a ∈ l->b ∈ m->(e a b = true ↔ a = b)) {K:Int->Option (Int ⊕ (Unit ⊕ Bool))}
  (h:∀ i,i < l.length->K (i:Int) = some (if e (l.getD i d) (m.getD i d) = true then .inl ((i:Int) + 1) else .inr (.inr false))) :
  (loopO (λs=>bif decide (s < (l.length:Int)) then K s else some (.inr (.inl ()))) 0).bind (Sum.elim (λ(p5:Unit)=>some true) some) = some (decide (l = m)):=by
 refine Ok.eq (ok_elim.2 ?_);refine (loop_up l.length (λi (s:Int)=>s = (i:Int)/\∀ j,j < i->l.getD j d = m.getD j d) (λr=>(r = .inl ()/\∀ j,j < l.length->l.getD j d = m.getD j d)\/(r = .inr false/\∃ j,j < l.length/\l.getD j d ≠ m.getD j d)) ⟨rfl,by simp⟩ ?_).mono ?_
 ·rintro i s hi ⟨rfl,hI⟩;by_cases hlt:i < l.length
  ·have e0:decide ((i:Int) < (l.length:Int)) = true:=by simp <;> omega
   simp only [e0,cond_true];rw [h i hlt];have hm:=he (l.getD i d) (m.getD i d) (getD_mem hlt) (getD_mem (by omega));by_cases c:e (l.getD i d) (m.getD i d) = true
   ·rw [if_pos c,rnd_inl];refine ⟨hlt,by simp,λj hj=>?_⟩;by_cases hji:j < i
    ·exact hI j hji
    ·have:j = i:=by omega
     subst this; exact hm.1 c
   ·rw [if_neg c,rnd_inr];exact .inr ⟨rfl,i,hlt,λh=>c (hm.2 h)⟩
  ·have:i = l.length:=by omega
   subst this;have e0:decide ((l.length:Int) < (l.length:Int)) = false:=by simp
   simp only [e0,cond_false];rw [rnd_inr];exact .inl ⟨rfl,hI⟩
 ·rintro r (⟨rfl,h1⟩ | ⟨rfl,j,hj,hne⟩)
  ·simp only [ok_some]; rw [eq_comm,decide_eq_true_iff]; exact (getD_ext d).1 ⟨hl,h1⟩
  ·simp only; rw [eq_comm,decide_eq_false_iff_not]
   exact λh=>hne (by rw [h])
end
end Go.Tx
end
section
namespace Go.Dec
open Go Go.Lib
def isD (c:UInt8):Prop:=48<=c.toNat/\c.toNat<=57
instance:DecidablePred isD:=λc=>inferInstanceAs (Decidable (_/\_))
def stepD (n:Nat) (c:UInt8):Nat:=10 * n + (c.toNat - 48)
def val (l:List UInt8):Nat:=l.foldl stepD 0
theorem val_snoc (l:List UInt8) (c:UInt8):val (l ++ [c]) = 10 * val l + (c.toNat - 48):=by simp [val,stepD]
theorem ofNat_dig {d:Nat} (h:d < 10):(UInt8.ofNat (48 + d)).toNat = 48 + d:=by
 rw [UInt8.toNat_ofNat']; omega
theorem dec_small {u:Nat} (h:u < 10):decDigits u = [UInt8.ofNat (48 + u)]:=by rw [decDigits,dif_pos h]
theorem dec_big {u:Nat} (h:¬ u < 10):decDigits u = decDigits (u / 10) ++ [UInt8.ofNat (48 + u % 10)]:=by rw [decDigits,dif_neg h]
theorem dec_facts:∀ u:Nat,(∀ c ∈ decDigits u,isD c)/\decDigits u ≠ []/\val (decDigits u) = u/\(0 < u->(decDigits u).head? ≠ some 48):=by
 intro u;induction u using Nat.strongRecOn with
 | _ u ih =>
  by_cases h:u < 10
  ·rw [dec_small h];refine ⟨?_,by simp,?_,?_⟩
   ·intro c hc;rw [List.mem_singleton] at hc;subst hc;unfold isD;rw [ofNat_dig h]; omega
   ·simp only [val,List.foldl,stepD];rw [ofNat_dig h]; omega
   ·intro h0 e;simp only [List.head?_cons,Option.some.injEq] at e;have e2:=congrArg UInt8.toNat e;rw [ofNat_dig h] at e2;have:(48:UInt8).toNat = 48:=rfl;omega
  ·obtain ⟨h1,h2,h3,h4⟩:=ih (u / 10) (by omega);have hm:u % 10 < 10:=Nat.mod_lt _ (by omega);rw [dec_big h];refine ⟨λc hc=>?_,by simp,?_,λ_=>?_⟩
   ·rcases List.mem_append.1 hc with hc | hc
    ·exact h1 c hc
    ·rw [List.mem_singleton] at hc;subst hc;unfold isD;rw [ofNat_dig hm]; omega
   ·rw [val_snoc,h3,ofNat_dig hm]; omega
   ·cases hd:decDigits (u / 10) with
    | nil=>exact absurd hd h2
    | cons a t =>
     rw [hd] at h4;simpa using h4 (by omega)
theorem dec_len:∀ (k u:Nat),u < 10 ^ k->1<=k->(decDigits u).length<=k
 | 0,u,h,h1=>by omega
 | k + 1,u,h,_=>by
  by_cases h9:u < 10
  ·rw [dec_small h9]; simp
  ·rw [dec_big h9,List.length_append,List.length_singleton];have hk:1<=k:=by
    rcases Nat.eq_zero_or_pos k with rfl | h0
    ·simp at h; omega
    ·exact h0
   have:=dec_len k (u / 10) (by rw [Nat.pow_succ] at h; omega) hk;omega
theorem dec_val:∀ (n:Nat) (ds:List UInt8),ds.length<=n->ds ≠ []->(∀ c ∈ ds,isD c)->(ds.head? ≠ some 48\/ds.length = 1)->decDigits (val ds) = ds
 | 0,ds,hl,h0,_,_=>absurd (List.eq_nil_of_length_eq_zero (by omega)) h0
 | n + 1,ds,hl,h0,hd,hh=>by
  obtain ⟨es,c,rfl⟩:∃ es c,ds = es ++ [c]:=⟨ds.dropLast,ds.getLast h0,(List.dropLast_concat_getLast h0).symm⟩
  have hc:=hd c (by simp);unfold isD at hc;have hcc:UInt8.ofNat (48 + (c.toNat - 48)) = c:=by
   rw [show 48 + (c.toNat - 48) = c.toNat by omega]; simp
  rw [val_snoc];by_cases he:es = []
  ·subst he;simp only [val,List.foldl,Nat.mul_zero,Nat.zero_add,List.nil_append];rw [dec_small (by omega),hcc]
  ·have hlen:1<=es.length:=List.length_pos_iff.2 he;rw [List.length_append,List.length_singleton] at hl hh;have hh2:es.head? ≠ some 48:=by
    rcases hh with hh | hh
    ·cases es with
     | nil=>exact absurd rfl he
     | cons a t=>simpa using hh
    ·omega
   have ih:=dec_val n es (by omega) he (λx hx=>hd x (by simp [hx])) (.inl hh2);have hv:0 < val es:=by
    rcases Nat.eq_zero_or_pos (val es) with h | h
    ·rw [h] at ih;rw [<- ih,dec_small (by omega)] at hh2;exact absurd rfl hh2
    ·exact h
   rw [dec_big (by omega),show (10 * val es + (c.toNat - 48)) / 10 = val es by omega,show (10 * val es + (c.toNat - 48)) % 10 = c.toNat - 48 by omega,ih,hcc]
theorem val_lt:∀ (n:Nat) (ds:List UInt8),ds.length<=n->(∀ c ∈ ds,isD c)->val ds < 10 ^ n
 | 0,ds,hl,_=>by
  have:ds = []:=List.eq_nil_of_length_eq_zero (by omega);subst this; simp [val]
 | n + 1,ds,hl,hd=>by
  by_cases h0:ds = []
  ·subst h0; simp only [val,List.foldl]; exact Nat.pow_pos (by omega)
  ·obtain ⟨es,c,rfl⟩:∃ es c,ds = es ++ [c]:=⟨ds.dropLast,ds.getLast h0,(List.dropLast_concat_getLast h0).symm⟩
   have hc:=hd c (by simp);unfold isD at hc;rw [List.length_append,List.length_singleton] at hl;have:=val_lt n es (by omega) (λx hx=>hd x (by simp [hx]));rw [val_snoc,Nat.pow_succ]; omega
theorem fold_ge:∀ (l:List UInt8) (a:Nat),a<=l.foldl stepD a
 | [],a=>Nat.le_refl _
 | c :: l,a=>Nat.le_trans (by unfold stepD; omega) (fold_ge l (stepD a c))
theorem parse_digits:∀ (l:List UInt8) (a:Nat),(∀ c ∈ l,isD c)->l.foldl stepD a < 10 ^ 18->parseUint10 a l = .ok (l.foldl stepD a)
 | [],a,_,_=>rfl
 | c :: l,a,hd,h=>by
  have hc:=hd c (by simp);have h1:=fold_ge l (stepD a c);simp only [List.foldl_cons] at h ⊢;have h2:stepD a c < 10 ^ 18:=by omega
  unfold isD at hc;unfold parseUint10;rw [if_pos hc];have e:a * 10 + (c.toNat - 48) = stepD a c:=by unfold stepD; omega
  have h3:a * 10<=stepD a c:=by omega
  rw [if_neg (by omega),e,if_neg (by omega)];exact parse_digits l _ (λx hx=>hd x (by simp [hx])) h
def num (d:Nat) (w:List UInt8):Option Int:=match atoiAll w with
 | .ok v=>if itoa v = w/\(trimPrefix w [45]).length<=d then some v else none
 | _=>none
theorem trim_minus (r:List UInt8):trimPrefix (45 :: r) [45] = r:=by
 unfold trimPrefix hasPrefix;simp
theorem trim_other {w:List UInt8} (h:w.head? ≠ some 45):trimPrefix w [45] = w:=by
 unfold trimPrefix hasPrefix;cases w with
 | nil=>simp
 | cons c l =>
  have:¬ (45:UInt8) = c:=λe=>h (by simp [e]);simp [this]
def restOf (w:List UInt8):List UInt8:=if w.head? = some 45 then w.drop 1 else w
def badN (d:Nat) (w:List UInt8):Prop:=restOf w = []\/d < (restOf w).length\/((restOf w).head? = some 48/\1 < w.length) \/ ¬ ∀ c ∈ restOf w,isD c
instance (d:Nat) (w:List UInt8):Decidable (badN d w):=inferInstanceAs (Decidable (_\/_))
def numR (d:Nat) (w:List UInt8):Option Int:=if badN d w then none else some (if w.head? = some 45 then -((val (restOf w):Nat):Int) else ((val (restOf w):Nat):Int))
theorem numR_itoa {d:Nat} {v:Int} (h:(trimPrefix (itoa v) [45]).length<=d):numR d (itoa v) = some v:=by
 by_cases hv:v < 0
 ·have e:itoa v = 45 :: decDigits v.natAbs:=by unfold itoa; rw [if_pos hv]
  obtain ⟨h1,h2,h3,h4⟩:=dec_facts v.natAbs;have hr:restOf (45 :: decDigits v.natAbs) = decDigits v.natAbs:=by simp [restOf]
  rw [e,trim_minus] at h;rw [e];unfold numR;rw [if_neg,hr,h3]
  ·simp only [List.head?_cons,if_true]; congr 1; omega
  ·unfold badN;rw [hr];rintro (h5 | h5 | ⟨h5,_⟩ | h5)
   ·exact h2 h5
   ·omega
   ·exact h4 (by omega) h5
   ·exact h5 h1
 ·have e:itoa v = decDigits v.toNat:=by unfold itoa; rw [if_neg hv]
  obtain ⟨h1,h2,h3,h4⟩:=dec_facts v.toNat;have hh:(decDigits v.toNat).head? ≠ some 45:=by
   intro hc;cases hd:decDigits v.toNat with
   | nil=>rw [hd] at hc; cases hc
   | cons a t =>
    rw [hd] at hc;simp only [List.head?_cons,Option.some.injEq] at hc;have:=h1 a (by rw [hd]; simp);unfold isD at this;rw [hc] at this;exact absurd this.1 (by decide)
  have hr:restOf (decDigits v.toNat) = decDigits v.toNat:=by unfold restOf; rw [if_neg hh]
  rw [e,trim_other hh] at h;rw [e];unfold numR;rw [if_neg,hr,h3,if_neg hh]
  ·congr 1; omega
  ·unfold badN;rw [hr];rintro (h5 | h5 | ⟨h5,h6⟩ | h5)
   ·exact h2 h5
   ·omega
   ·rcases Nat.eq_zero_or_pos v.toNat with h0 | h0
    ·rw [h0,dec_small (by omega)] at h6; simp at h6
    ·exact h4 h0 h5
   ·exact h5 h1
theorem num_numR {d:Nat} (hd:d<=18) {w:List UInt8} {v:Int} (h:numR d w = some v):num d w = some v:=by
 unfold numR at h;split at h
 ·cases h
 ·rename_i hb;simp only [Option.some.injEq] at h;unfold badN at hb;simp only [not_or,not_and,Classical.not_not] at hb;obtain ⟨b1,b2,b3,b4⟩:=hb;have hlt:val (restOf w) < 10 ^ 18:=val_lt 18 _ (by omega) b4;have hp:parseMag (restOf w) = .ok (val (restOf w)):=by
   unfold parseMag;rw [if_neg b1];exact parse_digits _ 0 b4 hlt
  by_cases hm:w.head? = some 45
  ·rw [if_pos hm] at h;cases w with
   | nil=>cases hm
   | cons c r =>
    simp only [List.head?_cons,Option.some.injEq] at hm;subst hm;have hr:restOf (45 :: r) = r:=by simp [restOf]
    rw [hr] at b1 b2 b3 b4 hlt hp h;have h48:r.head? ≠ some 48:=λe=>by
     have:=b3 e;have h0:0 < r.length:=List.length_pos_iff.2 b1;simp only [List.length_cons] at this; omega
    have hdv:=dec_val r.length r (Nat.le_refl _) b1 b4 (.inl h48);have hpos:0 < val r:=by
     rcases Nat.eq_zero_or_pos (val r) with h0 | h0
     ·rw [h0,dec_small (by omega)] at hdv;rw [<- hdv] at h48;exact absurd rfl h48
     ·exact h0
    have ha:atoiAll (45 :: r) = .ok v:=by
     unfold atoiAll;have e45:(45:UInt8).toNat = 45:=rfl;simp only [e45,or_true,if_true,hp,not_true,false_and,if_false,true_and];rw [if_neg (by omega),h]
    have hi:itoa v = 45 :: r:=by
     rw [<- h];unfold itoa;rw [if_pos (by omega),show (-((val r:Nat):Int)).natAbs = val r by omega,hdv]
    unfold num;rw [ha];simp only
    rw [if_pos ⟨hi,by rw [trim_minus]; omega⟩]
  ·rw [if_neg hm] at h;have hr:restOf w = w:=by unfold restOf; rw [if_neg hm]
   rw [hr] at b1 b2 b3 b4 hlt hp h;have hdv:=dec_val w.length w (Nat.le_refl _) b1 b4 (by
    by_cases h48:w.head? = some 48
    ·right
     have:=b3 h48;have h0:0 < w.length:=List.length_pos_iff.2 b1;omega
    ·exact .inl h48)
   have ha:atoiAll w = .ok v:=by
    cases w with
    | nil=>exact absurd rfl b1
    | cons c r =>
     have hc:=b4 c (by simp);unfold isD at hc;unfold atoiAll;have e1:¬ (c.toNat = 43\/c.toNat = 45):=by omega
     have e2:¬ c.toNat = 45:=by omega
     simp only [if_neg e1];rw [hp];simp only [e2,not_false_eq_true,true_and,false_and,if_false];rw [if_neg (by omega),h]
   have hi:itoa v = w:=by
    rw [<- h];unfold itoa;rw [if_neg (by omega),Int.toNat_natCast,hdv]
   unfold num;rw [ha];simp only
   rw [if_pos ⟨hi,by rw [trim_other hm]; omega⟩]
theorem num_some {d:Nat} {w:List UInt8} {v:Int} (h:num d w = some v):atoiAll w = .ok v/\itoa v = w/\(trimPrefix w [45]).length<=d:=by
 unfold num at h;split at h
 ·rename_i u hu;split at h
  ·rename_i hc; cases h; exact ⟨hu,hc.1,hc.2⟩
  ·cases h
 ·cases h
theorem num_eq {d:Nat} (hd:d<=18) (w:List UInt8):numR d w = num d w:=by
 cases h:num d w with
 | some v =>
  obtain ⟨h1,h2,h3⟩:=num_some h;rw [<- h2] at h3 ⊢;exact numR_itoa h3
 | none =>
  cases h2:numR d w with
  | none=>rfl
  | some v=>rw [num_numR hd h2] at h; cases h
theorem num_itoa {d:Nat} (hd:d<=18) (h1:1<=d) {v:Int} (h:v.natAbs < 10 ^ d):num d (itoa v) = some v:=by
 refine num_numR hd (numR_itoa ?_);by_cases hv:v < 0
 ·have e:itoa v = 45 :: decDigits v.natAbs:=by unfold itoa; rw [if_pos hv]
  rw [e,trim_minus];exact dec_len d _ h h1
 ·have e:itoa v = decDigits v.toNat:=by unfold itoa; rw [if_neg hv]
  have hl:=dec_len d v.toNat (by omega) h1;rw [e];unfold trimPrefix;split
  ·rw [List.length_drop]; omega
  ·exact hl
theorem itoa_chars (v:Int):∀ c ∈ itoa v,c = 45\/isD c:=by
 intro c hc;unfold itoa at hc;split at hc
 ·rcases List.mem_cons.1 hc with h | h
  ·exact .inl h
  ·exact .inr ((dec_facts _).1 c h)
 ·exact .inr ((dec_facts _).1 c hc)
theorem itoa_no {v:Int} {c:UInt8} (h1:c ≠ 45) (h2:¬ isD c):c ∉ itoa v:=λh=>(itoa_chars v c h).elim h1 h2
theorem itoa_len {v:Int} (h : -9223372036854775808<=v/\v<=9223372036854775807):(itoa v).length<=21:=by
 unfold itoa;split
 ·have:=dec_len 20 v.natAbs (by omega) (by omega);simp only [List.length_cons] <;> omega
 ·have:=dec_len 20 v.toNat (by omega) (by omega);omega
def parts (c:UInt8):List UInt8->List (List UInt8)
 | []=>[[]]
 | b :: l=>if b = c then [] :: parts c l else match parts c l with
  | []=>[[b]]
  | p :: ps=>(b :: p) :: ps
theorem parts_ne (c:UInt8):∀ l,parts c l ≠ []
 | []=>by simp [parts]
 | b :: l=>by
  unfold parts;split
  ·simp
  ·split <;> simp
theorem parts_none {c:UInt8}:∀ {l:List UInt8},c ∉ l->parts c l = [l]
 | [],_=>rfl
 | b :: l,h=>by
  simp only [List.mem_cons,not_or] at h;unfold parts;rw [if_neg (λe=>h.1 e.symm),parts_none h.2]
theorem parts_app {c:UInt8}:∀ {p r:List UInt8},c ∉ p->parts c (p ++ c :: r) = p :: parts c r
 | [],r,_=>by simp [parts]
 | b :: p,r,h=>by
  simp only [List.mem_cons,not_or] at h;rw [List.cons_append,parts,if_neg (λe=>h.1 e.symm),parts_app h.2]
theorem parts_len (c:UInt8):∀ l:List UInt8,(parts c l).length<=l.length + 1
 | []=>by simp [parts]
 | b :: l=>by
  have:=parts_len c l;unfold parts;split
  ·simp <;> omega
  ·split
   ·simp
   ·rename_i p ps h; rw [h] at this; simp at this ⊢; omega
theorem idx_cases (c:UInt8):∀ s:List UInt8,(index s [c] = -1/\c ∉ s)\/∃ p r,s = p ++ c :: r/\c ∉ p/\index s [c] = (p.length:Int)
 | []=>.inl ⟨rfl,by simp⟩
 | b :: l=>by
  have e:index (b :: l) [c] = if [c].isPrefixOf (b :: l) then 0 else if index l [c] == -1 then -1 else index l [c] + 1:=rfl;by_cases h:c = b
  ·subst h;exact .inr ⟨[],l,rfl,List.not_mem_nil,by rw [e]; simp⟩
  ·have hp:([c].isPrefixOf (b :: l)) = false:=by simp [List.isPrefixOf,h]
   rw [e,hp];simp only [Bool.false_eq_true,if_false];rcases idx_cases c l with ⟨h1,h2⟩ | ⟨p,r,rfl,h2,h3⟩
   ·exact .inl ⟨by rw [h1]; rfl,by simp only [List.mem_cons,not_or]; exact ⟨h,h2⟩⟩
   ·refine .inr ⟨b :: p,r,rfl,by simp only [List.mem_cons,not_or]; exact ⟨h,h2⟩,?_⟩;rw [h3];have:(((p.length:Int) == -1)) = false:=by rw [beq_eq_false_iff_ne]; omega
    simp [this]
theorem join_cons2 (x y:List UInt8) (r:List (List UInt8)) (sep:List UInt8):join (x :: y :: r) sep = x ++ sep ++ join (y :: r) sep:=by
 rw [join_cons,join_cons];simp [joinTail]
theorem join_snoc (y sep:List UInt8):∀ xs:List (List UInt8),xs ≠ []->join (xs ++ [y]) sep = join xs sep ++ sep ++ y
 | [],h=>absurd rfl h
 | x :: xs,_=>by
  rw [List.cons_append,join_cons,join_cons];simp [joinTail]
theorem parts_join {c:UInt8}:∀ {ws:List (List UInt8)},ws ≠ []->(∀ w ∈ ws,c ∉ w)->parts c (join ws [c]) = ws
 | [],h,_=>absurd rfl h
 | [w],_,h=>by rw [join_one]; exact parts_none (h w (by simp))
 | w :: v :: r,_,h=>by
  rw [join_cons2];have e:w ++ [c] ++ join (v :: r) [c] = w ++ c :: join (v :: r) [c]:=by simp
  rw [e,parts_app (h w (by simp)),parts_join (by simp) (λx hx=>h x (by simp [hx]))]
theorem join_len (sep:List UInt8) {B:Nat}:∀ ws:List (List UInt8),(∀ w ∈ ws,w.length<=B)->(join ws sep).length<=ws.length * (B + sep.length)
 | [],_=>by simp [join_nil]
 | [w],h=>by
  rw [join_one];have:=h w (by simp);simp only [List.length_singleton] <;> omega
 | w :: v :: r,h=>by
  rw [join_cons2];have h1:=h w (by simp);have h2:=join_len sep (v :: r) (λx hx=>h x (by simp [hx]));simp only [List.length_append,List.length_cons] at h2 ⊢;rw [show (r.length + 1 + 1) * (B + sep.length) = (r.length + 1) * (B + sep.length) + (B + sep.length) by rw [Nat.add_mul (r.length + 1) 1,Nat.one_mul]];omega
def mapO {α β:Type} (f:α->Option β):List α->Option (List β)
 | []=>some []
 | a :: l=>(f a).bind λb=>(mapO f l).map (b :: ·)
theorem mapO_of {α β:Type} {f:α->Option β} {g:β->α}:∀ {l:List β},(∀ b ∈ l,f (g b) = some b)->mapO f (l.map g) = some l
 | [],_=>rfl
 | b :: l,h=>by
  simp only [List.map_cons,mapO];rw [h b (by simp),mapO_of (λx hx=>h x (by simp [hx]))];rfl
theorem mapO_len {α β:Type} {f:α->Option β}:∀ {l:List α} {r:List β},mapO f l = some r->r.length = l.length
 | [],r,h=>by cases h; rfl
 | a :: l,r,h=>by
  simp only [mapO] at h;obtain ⟨b,_,h⟩:=Option.bind_eq_some_iff.1 h;obtain ⟨r',hr,rfl⟩:=Option.map_eq_some_iff.1 h;simp [mapO_len hr]
end Go.Dec
end
section
namespace Go.Proofs.YteiciemjanhdcaaGreatDoor
open Go Go.Ab Go.Tx Go.Dec
def in64 (n:Int):Prop:=-9223372036854775808<=n/\n<=9223372036854775807
theorem wid {n:Int} (h1 : -9223372036854775808<=n) (h2:n<=9223372036854775807):w64 n = n:=wrap_id h1 h2
theorem Itoa_eq {n:Int} (h:in64 n):strconv_Itoa n = some (Lib.itoa n):=by
 exact if_pos h
theorem Size_eq {n:Int} (h : -9223372036854775807<=n/\n<=9223372036854775807):base_Size n = some (n.natAbs:Int):=by
 unfold base_Size;rw [wid (by omega) (by omega)];congr 1
 omega
def decD (a:Nat):List UInt8:=if a = 0 then [] else Lib.decDigits a
theorem decD_step {a:Nat} (h:a ≠ 0):decD a = decD (a / 10) ++ [UInt8.ofNat (48 + a % 10)]:=by
 unfold decD;rw [if_neg h];by_cases h9:a < 10
 ·rw [dec_small h9,if_pos (by omega)];simp only [List.nil_append];rw [Nat.mod_eq_of_lt h9]
 ·rw [dec_big h9,if_neg (by omega)]
theorem Decimal_eq {n:Int} (h:in64 n):base_Decimal n = some (Lib.itoa n):=by
 unfold base_Decimal;by_cases h0:n = 0
 ·subst h0;simp only [decide_true,cond_true];unfold Lib.itoa;rw [if_neg (by omega),show (0:Int).toNat = 0 from rfl,dec_small (by omega)];rfl
 have hz:decide (n = 0) = false:=by simp [h0]
 simp only [hz,cond_false];have hl20:(Lib.decDigits n.natAbs).length<=20:=dec_len 20 _ (by unfold in64 at h; omega) (by omega);have k1:loopO (λ(s3:(Int × (List UInt8))) =>
    bif !(decide (s3.1 = 0)) then
     (base_Size (s3.1.tmod 10)).bind λx4 =>
     (app (([IntKind.wrap .u8 (w64 (48 + x4))]).map λn=>UInt8.ofNat n.toNat) s3.2).bind λx5 =>
     some (.inl (w64 (s3.1.tdiv 10),x5))
    else
     some (.inr s3.2)) (n,[]) = some (Lib.decDigits n.natAbs):=by
  refine Ok.eq (loop_wf (λst=>st.1.natAbs) (λ(st:Int × List UInt8)=>in64 st.1/\Lib.decDigits n.natAbs = decD st.1.natAbs ++ st.2) _ ⟨h,by simp [decD,h0]⟩ ?_);rintro ⟨m,s⟩ ⟨hm,e⟩;simp only at hm e;by_cases hm0:m = 0
  ·subst hm0;simp only [decide_true,Bool.not_true,cond_false];rw [rnd_inr,e];simp [decD]
  ·have hc:(!(decide (m = 0))) = true:=by simp [hm0]
   have hml:m.tmod 10 = Int.tmod m 10:=rfl;have hd1:(m.tmod 10).natAbs = m.natAbs % 10:=by rw [Int.natAbs_tmod]; rfl
   have hd2:(m.tdiv 10).natAbs = m.natAbs / 10:=by rw [Int.natAbs_tdiv]; rfl
   have hlt:m.natAbs % 10 < 10:=Nat.mod_lt _ (by omega);have hs:s.length<=20:=by
    have:=congrArg List.length e;rw [List.length_append] at this;omega
   unfold in64 at hm;simp only [hc,cond_true];rw [Size_eq (by omega),hd1];simp only [Option.bind_some];rw [wid (by omega) (by omega)];have hw:IntKind.wrap .u8 (48 + ((m.natAbs % 10:Nat):Int)) = ((48 + m.natAbs % 10:Nat):Int):=by
    unfold IntKind.wrap;simp only [IntKind.bits,IntKind.signed,Bool.false_and,Bool.false_eq_true,if_false];omega
   rw [hw];simp only [List.map_cons,List.map_nil,Int.toNat_natCast];rw [app_in (by simp; omega)];simp only [Option.bind_some];rw [wid (by omega) (by omega),rnd_inl];refine ⟨⟨by unfold in64; omega,?_⟩,?_⟩
   ·simp only
    rw [e,decD_step (by omega),hd2];simp
   ·simp only
    rw [hd2]; omega
 by_cases hn:n < 0
 ·simp only [hn,decide_true,cond_true,Option.bind_some];rw [k1];simp only [Option.bind_some];rw [app_in (by simp; omega)];unfold Lib.itoa;rw [if_pos hn]; rfl
 ·simp only [hn,decide_false,cond_false,Option.bind_some];rw [k1];simp only [Option.bind_some];rw [app_in (by simp; omega)];unfold Lib.itoa;rw [if_neg hn,show n.natAbs = n.toNat by omega]; rfl
theorem slc_full {l:List UInt8} {a:Nat} (h:a<=l.length):slc l (a:Int) (l.length:Int) = some (l.drop a):=by
 rw [slc_in (by omega)];simp
theorem slc_to {l:List UInt8} {a:Nat} (h:a<=l.length):slc l 0 (a:Int) = some (l.take a):=by
 rw [slc_in (by omega)];simp
theorem Cut_eq (c:UInt8) {s:List UInt8} (hs:s.length<=100000):base_Cut s ((c.toNat:Nat):Int) = some (parts c s):=by
 unfold base_Cut;have key:∀ (o:Option (List (List UInt8) × Int)) (k:List (List UInt8) × Int->Option (List (List UInt8))),Ok o (λp=>k p = some (parts c s))->o.bind k = some (parts c s):=by
  rintro o k ⟨p,rfl,h⟩; exact h
 have hpl:=parts_len c s;refine key _ _ (loop_up s.length (λi (st:List (List UInt8) × Int × Int)=>st.2.2 = (i:Int)/\∃ f:Nat,st.2.1 = (f:Int)/\f<=i/\parts c s = st.1 ++ parts c (s.drop f)/\c ∉ (s.drop f).take (i - f)/\st.1.length<=f) _ ⟨rfl,0,rfl,by omega,by simp,by simp,by simp⟩ ?_);rintro i ⟨out,f0,i0⟩ hi ⟨e1,f,e2,hf,e3,e4,e5⟩;simp only at e1 e2 e3 e5;subst e1; subst e2;by_cases hlt:i < s.length
 ·have h0:decide ((i:Int) < (s.length:Int)) = true:=by simp <;> omega
  obtain ⟨b,hb⟩:∃ b,s[i]? = some b:=⟨_,List.getElem?_eq_getElem hlt⟩
  simp only [h0,cond_true,idx_of hb,Option.bind_some];have hsp:s.drop f = (s.drop f).take (i - f) ++ b :: s.drop (i + 1):=by
   have h1:s.drop f = (s.drop f).take (i - f) ++ (s.drop f).drop (i - f):=(List.take_append_drop _ _).symm;rw [List.drop_drop,show f + (i - f) = i by omega,List.drop_eq_getElem_cons hlt] at h1;rw [(List.getElem?_eq_some_iff.1 hb).2] at h1;exact h1
  by_cases hc:b = c
  ·subst hc;simp only [decide_true,cond_true];rw [slc_in (by omega)];simp only [Option.bind_some,Int.toNat_natCast];rw [app_one (by omega)];simp only [Option.bind_some];rw [wid (by omega) (by omega),rnd_inl];have e6:(s.take i).drop f = (s.drop f).take (i - f):=by rw [List.drop_take]
   refine ⟨hlt,by simp,i + 1,by simp,by omega,?_,by simp,by simp; omega⟩;simp only
   rw [e3,hsp,parts_app e4,e6];simp
  ·have hn:decide (((b.toNat:Nat):Int) = ((c.toNat:Nat):Int)) = false:=by
    simp only [decide_eq_false_iff_not];intro h;exact hc (UInt8.toNat_inj.1 (by omega))
   simp only [hn,cond_false,Option.bind_some];rw [wid (by omega) (by omega),rnd_inl];refine ⟨hlt,by simp,f,rfl,by omega,e3,?_,e5⟩;have e7:(s.drop f).take (i + 1 - f) = (s.drop f).take (i - f) ++ [b]:=by
    rw [show i + 1 - f = (i - f) + 1 by omega,List.take_add_one];have:(s.drop f)[i - f]? = some b:=by rw [List.getElem?_drop,show f + (i - f) = i by omega]; exact hb
    rw [this]; rfl
   rw [e7,List.mem_append,List.mem_singleton];rintro (h | h)
   ·exact e4 h
   ·exact hc h.symm
 ·have:i = s.length:=by omega
  subst this;have h0:decide ((s.length:Int) < (s.length:Int)) = false:=by simp
  simp only [h0,cond_false];rw [rnd_inr];simp only
  rw [slc_full hf];simp only [Option.bind_some];rw [app_one (by omega)];have e8:(s.drop f).take (s.length - f) = s.drop f:=List.take_of_length_le (by simp);rw [e8] at e4;rw [parts_none e4] at e3;rw [e3];rfl
theorem digits_loop {w:List UInt8} {a:Nat} (ha:a<=w.length) (hl:(w.drop a).length<=18) (hw:w.length<=100000) :
  loopO (λ(s7:(Int × Int)) =>
    bif decide (s7.2 < (w.length:Int)) then
     ((idx w s7.2).bind λx8 =>
      bif decide ((x8.toNat:Int) < 48) then
       some true
      else
       (idx w s7.2).bind λx9 =>
       some (decide ((x9.toNat:Int) > 57))).bind λ(p10:Bool) =>
     bif p10 then
      some (.inr (.inr (0,false)))
     else
      (idx w s7.2).bind λx11 =>
      let v12:Int:=w64 ((w64 (10 * s7.1)) + (w64 (IntKind.wrap .u8 ((x11.toNat:Int) - 48))))
      some (.inl (v12,w64 (s7.2 + 1)))
    else
     some (.inr (.inl s7.1))) (0,(a:Int)) = some (if ∀ c ∈ w.drop a,isD c then (.inl ((val (w.drop a):Nat):Int):Int ⊕ (Int × Bool)) else .inr ((0:Int),false)):=by
 rw [List.length_drop] at hl;refine Ok.eq (loop_up (w.length - a) (λj (st:Int × Int)=>st = (((val ((w.drop a).take j):Nat):Int),((a + j:Nat):Int))/\∀ c ∈ (w.drop a).take j,isD c) _ ⟨by simp [val],by simp⟩ ?_);rintro j st hj ⟨rfl,hd⟩;by_cases hlt:a + j < w.length
 ·have h0:decide (((a + j:Nat):Int) < (w.length:Int)) = true:=by simp <;> omega
  obtain ⟨b,hb⟩:∃ b,w[a + j]? = some b:=⟨_,List.getElem?_eq_getElem hlt⟩
  have hb2:(w.drop a)[j]? = some b:=by rw [List.getElem?_drop]; exact hb
  have ht:(w.drop a).take (j + 1) = (w.drop a).take j ++ [b]:=by rw [List.take_add_one,hb2]; rfl
  simp only [h0,cond_true,idx_of hb,Option.bind_some];have hq:(bif decide ((b.toNat:Int) < 48) then some true else some (decide ((b.toNat:Int) > 57))) = some (!decide (isD b)):=by
   unfold isD;by_cases c1:b.toNat < 48
   ·have c1':(b.toNat:Int) < 48:=by omega
    have c2:¬ 48<=b.toNat:=by omega
    simp [c1',c2]
   ·have c1':¬ (b.toNat:Int) < 48:=by omega
    have c2:48<=b.toNat:=by omega
    by_cases c3:b.toNat<=57
    ·have c3':¬ (b.toNat:Int) > 57:=by omega
     simp [c1',c2,c3,c3']
    ·have c3':(b.toNat:Int) > 57:=by omega
     simp [c1',c2,c3,c3']
  rw [hq];simp only [Option.bind_some];by_cases c:isD b
  ·have hv:=val_lt 17 ((w.drop a).take j) (by rw [List.length_take,List.length_drop]; omega) hd;have c':=c;unfold isD at c';simp only [c,decide_true,Bool.not_true,cond_false];have hu:IntKind.wrap .u8 ((b.toNat:Int) - 48) = ((b.toNat - 48:Nat):Int):=by
    unfold IntKind.wrap;simp only [IntKind.bits,IntKind.signed,Bool.false_and,Bool.false_eq_true,if_false];omega
   rw [hu,wid (n:=((b.toNat - 48:Nat):Int)) (by omega) (by omega),wid (n:=10 * _) (by omega) (by omega),wid (by omega) (by omega),wid (by omega) (by omega),rnd_inl];refine ⟨by omega,?_,?_⟩
   ·rw [ht,val_snoc];congr 1 <;> omega
   ·intro x hx;rw [ht,List.mem_append,List.mem_singleton] at hx;rcases hx with hx | rfl
    ·exact hd x hx
    ·exact c
  ·simp only [c,decide_false,Bool.not_false,cond_true];rw [rnd_inr,if_neg];exact λh=>c (h b (List.mem_of_getElem? hb2))
 ·have hj2:j = w.length - a:=by omega
  have h0:decide (((a + j:Nat):Int) < (w.length:Int)) = false:=by simp <;> omega
  have ht:(w.drop a).take j = w.drop a:=List.take_of_length_le (by rw [List.length_drop]; omega);rw [ht] at hd ⊢;simp only [h0,cond_false];rw [rnd_inr,if_pos hd]
theorem Number_eq {d:Nat} (hd:d<=18) {w:List UInt8} (hw:w.length<=100000):base_Number w (d:Int) = some (match num d w with | some n=>(n,true) | none=>(0,false)):=by
 rw [<- num_eq hd w];unfold base_Number;cases w with
 | nil =>
  have:numR d [] = none:=by
   unfold numR;rw [if_pos (.inl rfl)]
  rw [this]; rfl
 | cons c r =>
  have h0:decide ((((c :: r).length:Nat):Int) > 0) = true:=by simp
  have hi0:idx (c :: r) 0 = some c:=by simp [idx]
  simp only [h0,cond_true,hi0,Option.bind_some]
  -- the sign
  have key:∀ (a:Nat),(a = if (c :: r).head? = some 45 then 1 else 0) ->
    ((bif decide ((((c :: r).length:Nat):Int) = (a:Int)) then
     some true
    else
     bif decide (w64 ((((c :: r).length:Nat):Int) - (a:Int)) > (d:Int)) then
      some true
     else
      (idx (c :: r) (a:Int)).bind λx4 =>
      bif decide ((x4.toNat:Int) = 48) then
       some (decide ((((c :: r).length:Nat):Int) > 1))
      else
       some false).bind λ(p5:Bool) =>
   bif p5 then
    some (0,false)
   else
    (loopO (λ(s7:(Int × Int)) =>
      bif decide (s7.2 < (((c :: r).length:Nat):Int)) then
       ((idx (c :: r) s7.2).bind λx8 =>
        bif decide ((x8.toNat:Int) < 48) then
         some true
        else
         (idx (c :: r) s7.2).bind λx9 =>
         some (decide ((x9.toNat:Int) > 57))).bind λ(p10:Bool) =>
       bif p10 then
        some (.inr (.inr (0,false)))
       else
        (idx (c :: r) s7.2).bind λx11 =>
        let v12:Int:=w64 ((w64 (10 * s7.1)) + (w64 (IntKind.wrap .u8 ((x11.toNat:Int) - 48))))
        some (.inl (v12,w64 (s7.2 + 1)))
      else
       some (.inr (.inl s7.1))) (0,(a:Int))).bind (Sum.elim (λ(p13:Int) =>
    (bif decide ((a:Int) = 1) then
      some (w64 (0 - p13))
     else
      some p13).bind λ(p14:Int) =>
    some (p14,true)) some)) = some (match numR d (c :: r) with | some n=>(n,true) | none=>(0,false)):=by
   intro a ha;have hrest:restOf (c :: r) = (c :: r).drop a:=by
    unfold restOf;rw [ha];split <;> rfl
   have ha1:a<=1:=by rw [ha]; split <;> omega
   have hlc:(c :: r).length = r.length + 1:=rfl;have hdl:((c :: r).drop a).length = (c :: r).length - a:=List.length_drop;generalize hW:c :: r = W at *;unfold numR badN;simp only [hrest];by_cases b1:W.length = a
   ·have b1':decide ((W.length:Int) = (a:Int)) = true:=by simp <;> omega
    have:W.drop a = []:=List.eq_nil_of_length_eq_zero (by omega);simp [b1',this]
   have b1':decide ((W.length:Int) = (a:Int)) = false:=by simp <;> omega
   have hne:W.drop a ≠ []:=λe=>by rw [e] at hdl; simp at hdl; omega
   simp only [b1',cond_false];have hw64:w64 ((W.length:Int) - (a:Int)) = (W.length:Int) - (a:Int):=wid (by omega) (by omega);simp only [hw64];by_cases b2:d < (W.drop a).length
   ·have b2':decide ((W.length:Int) - (a:Int) > (d:Int)) = true:=by simp <;> omega
    rw [if_pos (.inr (.inl b2))];simp only [b2',cond_true,Option.bind_some]
   have b2':decide ((W.length:Int) - (a:Int) > (d:Int)) = false:=by simp <;> omega
   simp only [b2',cond_false];obtain ⟨x,hx⟩:∃ x,W[a]? = some x:=⟨_,List.getElem?_eq_getElem (by omega)⟩
   have hhead:(W.drop a).head? = some x:=by rw [List.head?_drop]; exact hx
   rw [idx_of hx,hhead];simp only [Option.bind_some];have b3:(bif decide ((x.toNat:Int) = 48) then some (decide ((W.length:Int) > 1)) else some false) = some (decide (some x = some (48:UInt8)/\1 < W.length)):=by
    by_cases c1:x = 48
    ·subst c1;have:decide ((((48:UInt8).toNat:Nat):Int) = 48) = true:=rfl;simp only [this,cond_true,true_and];congr 1
     exact decide_eq_decide.2 (by omega)
    ·have c1':decide ((x.toNat:Int) = 48) = false:=by
      simp only [decide_eq_false_iff_not];intro h;exact c1 (UInt8.toNat_inj.1 (by have:(48:UInt8).toNat = 48:=rfl; omega))
     simp [c1',c1]
   rw [b3];simp only [Option.bind_some];by_cases b4:some x = some (48:UInt8)/\1 < W.length
   ·simp only [b4,decide_true,cond_true,and_self,true_or,or_true,if_true]
   ·rw [decide_eq_false b4];simp only [cond_false];rw [digits_loop (by omega) (by omega) hw];by_cases b5:∀ c ∈ W.drop a,isD c
    ·rw [if_pos b5,if_neg]
     ·have hv:=val_lt 18 (W.drop a) (by omega) b5;simp only [Option.bind_some,Sum.elim_inl];by_cases b6:W.head? = some 45
      ·have:a = 1:=by rw [ha,if_pos b6]
       subst this;rw [if_pos b6];simp only [show decide (((1:Nat):Int) = 1) = true from rfl,cond_true,Option.bind_some];rw [wid (by omega) (by omega)];simp
      ·have:a = 0:=by rw [ha,if_neg b6]
       subst this;rw [if_neg b6];simp only [show decide (((0:Nat):Int) = 1) = false from rfl,cond_false,Option.bind_some]
     ·rintro (h | h | h | h)
      ·exact hne h
      ·exact b2 h
      ·exact b4 h
      ·exact h b5
    ·rw [if_neg b5,if_pos (.inr (.inr (.inr b5)))];rfl
  by_cases hm:c = 45
  ·subst hm;have:=key 1 (by simp);simp only [show decide ((((45:UInt8).toNat:Nat):Int) = 45) = true from rfl,cond_true,Option.bind_some];exact this
  ·have hc:decide (((c.toNat:Nat):Int) = 45) = false:=by
    simp only [decide_eq_false_iff_not];intro h;exact hm (UInt8.toNat_inj.1 (by have:(45:UInt8).toNat = 45:=rfl; omega))
   have:=key 0 (by simp [hm]);simp only [hc,cond_false,Option.bind_some];exact this
end Go.Proofs.YteiciemjanhdcaaGreatDoor
end
section
namespace Go.Tx
open Go
abbrev G:=Int × Int × Unit
def g0:G:=(0,0,())
def g1:G:=(1,0,())
def gadd (a b:G):G:=(a.1 + b.1,a.2.1 + b.2.1,())
def gsub (a b:G):G:=(a.1 - b.1,a.2.1 - b.2.1,())
def gmul (a b:G):G:=(a.1 * b.1 - a.2.1 * b.2.1,a.1 * b.2.1 + a.2.1 * b.1,())
def gneg (a:G):G:=(-a.1,-a.2.1,())
theorem gext {a b:G} (h1:a.1 = b.1) (h2:a.2.1 = b.2.1):a = b:=by
 obtain ⟨x,y,_⟩:=a; obtain ⟨x',y',_⟩:=b; simp only at h1 h2; rw [h1,h2]
theorem gext_iff {a b:G}:a = b ↔ a.1 = b.1/\a.2.1 = b.2.1:=⟨λh=>by rw [h]; exact ⟨rfl,rfl⟩,λh=>gext h.1 h.2⟩
def Bd (B:Int) (a:G):Prop:=(-B<=a.1/\a.1<=B)/\(-B<=a.2.1/\a.2.1<=B)
theorem Bd.mono {A B:Int} {a:G} (h:Bd A a) (hAB:A<=B):Bd B a:=by unfold Bd at *; omega
theorem bd_zero {B:Int} (h:0<=B):Bd B g0:=by unfold Bd g0; simp <;> omega
theorem Bd.add {A B:Int} {a b:G} (h:Bd A a) (h':Bd B b):Bd (A + B) (gadd a b):=by unfold Bd gadd at *; simp only <;> omega
theorem Bd.sub {A B:Int} {a b:G} (h:Bd A a) (h':Bd B b):Bd (A + B) (gsub a b):=by unfold Bd gsub at *; simp only <;> omega
theorem Bd.neg {A:Int} {a:G} (h:Bd A a):Bd A (gneg a):=by unfold Bd gneg at *; simp only <;> omega
theorem Bd.mul {A B:Int} {a b:G} (h:Bd A a) (h':Bd B b):Bd (2 * (A * B)) (gmul a b):=by
 obtain ⟨h1,h2⟩:=h;obtain ⟨h3,h4⟩:=h';have p1:=abs_mul_le h1 h3;have p2:=abs_mul_le h2 h4;have p3:=abs_mul_le h1 h4;have p4:=abs_mul_le h2 h3;unfold Bd gmul;simp only
 generalize A * B = Q at *;omega
def sumG:Nat->(Nat->G)->G
 | 0,_=>g0
 | n + 1,f=>gadd (sumG n f) (f n)
theorem Bd.sum {B:Int} {f:Nat->G}:∀ {n:Nat},(∀ k,k < n->Bd B (f k))->Bd (n * B) (sumG n f)
 | 0,_=>bd_zero (by simp)
 | n + 1,h=>by
  have h1:=Bd.sum (n:=n) λk hk=>h k (by omega);have e:((n + 1:Nat):Int) * B = n * B + B:=by rw [Int.natCast_add,Int.add_mul]; simp
  rw [e];exact h1.add (h n (by omega))
abbrev Mx:=List (List G)
def mx (n c:Nat) (f:Nat->Nat->G):Mx:=mkL n λi=>mkL c λk=>f i k
def Rect (n c:Nat) (m:Mx):Prop:=m.length = n/\∀ r ∈ m,r.length = c
def BdM (B:Int) (m:Mx):Prop:=∀ r ∈ m,∀ z ∈ r,Bd B z
def skip (r i:Nat):Nat:=if i < r then i else i + 1
end Go.Tx
end
section
namespace Go.Proofs.YteiciemjanhdcaaGreatDoor.Mat
open Go Go.Ab Go.Tx Go.Proofs.YteiciemjanhdcaaGreatDoor
theorem wid {n:Int} (h1 : -9223372036854775808<=n) (h2:n<=9223372036854775807):w64 n = n:=wrap_id h1 h2
theorem Within_ok (a b c:Int):base_Within a b c = some (decide (b<=a/\a<=c)):=by
 unfold base_Within;by_cases h:b<=a <;> simp [h]
theorem within_ok (a b c:Int):drive_within a b c = some (decide (b<=a/\a<=c)):=by
 unfold drive_within;by_cases h:b<=a <;> simp [h]
theorem isSized_ok (a k:Int) (h0:0<=k) (h1:k<=4611686018427387904):drive_isSized a k = some (decide (-k<=a/\a<=k)):=by
 unfold drive_isSized;rw [within_ok,wid (by omega) (by omega)];simp
theorem unless_eq (b:Bool) (e:Int):drive_unless b e = some (if b then 0 else e):=by cases b <;> rfl
theorem first_eq (l:List Int) (h:l.length<=1000000000):drive_first l = some (fst0 l):=by
 unfold drive_first;rw [for_first l h]
instance (B:Int) (z:G):Decidable (Bd B z):=inferInstanceAs (Decidable (_/\_))
theorem whole_isSized_ok (z:G) (k:Int) (h0:0<=k) (h1:k<=4611686018427387904):drive_whole_isSized z k = some (decide (Bd k z)):=by
 unfold drive_whole_isSized;rw [isSized_ok _ _ h0 h1,isSized_ok _ _ h0 h1];unfold Bd;by_cases c : -k<=z.1/\z.1<=k <;> simp [c]
theorem refIsSized_ok (z:G) (k:Int) (h0:0<=k) (h1:k<=4611686018427387904):ref04_isSized z k = some (decide (Bd k z)):=by
 unfold ref04_isSized;rw [wid (by omega) (by omega),Within_ok,Within_ok];unfold Bd;have e:(0:Int) - k = -k:=by omega
 rw [e];by_cases c : -k<=z.1/\z.1<=k <;> simp [c]
def badZ (B:Int) (z:G):Bool:=!(decide (Bd B z))
def rowE (n:Nat) (i:Nat) (r:List G):Option (Int × Int):=if r.length = n then (if r.any (badZ 20) then some ((i:Int),2) else none) else some ((i:Int),10)
def chkM (m:Mx):Int × Int:=if m.length = 0 then (0,10) else if 3 < m.length then (0,8) else (findI (rowE m.length) 0 m).getD (0,0)
def matE (m:Mx):Int:=(chkM m).2
theorem contains_ok (r:List G) (h:r.length<=1000000000):slices_ContainsFunc_Lapi_Gauss_api_Gauss_of_drive_CheckMatrix_1 r = some (r.any (badZ 20)):=by
 unfold slices_ContainsFunc_Lapi_Gauss_api_Gauss_of_drive_CheckMatrix_1 slices_IndexFunc_Lapi_Gauss_api_Gauss_of_drive_CheckMatrix_1;refine for_any r drive_CheckMatrix_1 (badZ 20) (λx _=>?_) h;unfold drive_CheckMatrix_1;rw [whole_isSized_ok _ _ (by omega) (by omega)]; rfl
theorem CheckMatrix_ok {m:Mx} (h:m.length<=1000000000) (hr:∀ r ∈ m,r.length<=1000000000):drive_CheckMatrix m = some (chkM m):=by
 unfold drive_CheckMatrix chkM;simp only [unless_eq,Option.bind_some];rw [first_eq _ (by simp)];simp only [Option.bind_some];by_cases h0:m.length = 0
 ·have h0':¬ ((m.length:Int) > 0):=by omega
  simp [h0,fst0]
 ·have h0':(m.length:Int) > 0:=by omega
  by_cases h4:3 < m.length
  ·have h4':¬ ((m.length:Int)<=3):=by omega
   simp [h0,h0',h4,h4',fst0]
  ·have h4':(m.length:Int)<=3:=by omega
   simp only [h0,h0',h4,h4',decide_true,if_true,if_false,fst0,Bool.not_true,cond_false];rw [for_find m _ (rowE m.length) (λi r hi=>?_),elim_toSum]
   ·cases findI (rowE m.length) 0 m <;> rfl
   ·have hlt:=len_lt hi;rw [idx_of hi];simp only [Option.bind_some];rw [contains_ok r (hr r (List.mem_of_getElem? hi))];simp only [Option.bind_some];rw [first_eq _ (by simp),wid (by omega) (by omega)];simp only [Option.bind_some];unfold rowE;by_cases c:r.length = m.length
    ·have c':(r.length:Int) = (m.length:Int):=by omega
     cases hb:r.any (badZ 20)
     ·simp [c,c',hb,fst0,stp]
     ·simp [c,c',hb,fst0,stp]
    ·have c':¬ (r.length:Int) = (m.length:Int):=by omega
     simp [c,c',fst0,stp]
theorem refCheckMatrix_ok {m:Mx} (h:m.length<=1000000000) (hr:∀ r ∈ m,r.length<=1000000000):ref04_CheckMatrix m = some (chkM m):=by
 unfold ref04_CheckMatrix chkM;by_cases h0:m.length = 0
 ·simp [h0]
 have h0':¬ ((m.length:Int) = 0):=by omega
 by_cases h4:3 < m.length
 ·have h4':(m.length:Int) > 3:=by omega
  simp [h0,h0',h4,h4']
 have h4':¬ ((m.length:Int) > 3):=by omega
 simp only [h0,h0',h4,h4',decide_false,cond_false,if_false];rw [for_find m _ (rowE m.length) (λi r hi=>?_),elim_toSum]
 ·cases findI (rowE m.length) 0 m <;> rfl
 ·have hlt:=len_lt hi;have hrl:=hr r (List.mem_of_getElem? hi);rw [idx_of hi];simp only [Option.bind_some];unfold rowE;by_cases c:r.length = m.length
  case neg =>
   have c':¬ (r.length:Int) = (m.length:Int):=by omega
   simp [c,c',stp]
  have c':decide ((r.length:Int) = (m.length:Int)) = true:=decide_eq_true (by omega);simp only [c',Bool.not_true,cond_false];rw [if_pos c];rw [for_find r _ (λ_ z=>if badZ 20 z then some (Sum.inr (Sum.inr ((i:Int),(2:Int))):Int ⊕ (Unit ⊕ (Int × Int))) else none) (λk z hk=>?_),elim_toSum]
  ·cases hf:findI (λ_ z=>if badZ 20 z then some (Sum.inr (Sum.inr ((i:Int),(2:Int))):Int ⊕ (Unit ⊕ (Int × Int))) else none) 0 r with
   | none =>
    rw [findI_none] at hf;have hb:r.any (badZ 20) = false:=by
     rw [List.any_eq_false];intro x hx;obtain ⟨k,hk⟩:=List.mem_iff_getElem?.1 hx;have:=hf k x hk;simpa using this
    simp only [hb,Bool.false_eq_true,if_false,stp];rw [wid (by omega) (by omega)]
   | some q =>
    obtain ⟨k,z,h1,h2,_⟩:=findI_some hf;have hp:badZ 20 z = true:=by
     cases hp:badZ 20 z
     ·simp [hp] at h2
     ·rfl
    have hb:r.any (badZ 20) = true:=List.any_eq_true.2 ⟨z,List.mem_of_getElem? h1,hp⟩;simp only [hp,if_true,Option.some.injEq] at h2;simp only [hb,if_true,stp,<- h2]
  ·have hlk:=len_lt hk;simp only [Option.bind_some,idx_of hk];rw [refIsSized_ok _ _ (by omega) (by omega)];simp only [Option.bind_some];rw [wid (by omega) (by omega)];unfold badZ;by_cases d:Bd 20 z <;> simp [d,stp]
theorem matrixErr_ok {m:Mx} (h:m.length<=1000000000) (hr:∀ r ∈ m,r.length<=1000000000):drive_matrixErr m = some (matE m):=by
 unfold drive_matrixErr; rw [CheckMatrix_ok h hr]; rfl
theorem MatrixErr_ok {m:Mx} (h:m.length<=1000000000) (hr:∀ r ∈ m,r.length<=1000000000):ref04_MatrixErr m = some (matE m):=by
 unfold ref04_MatrixErr; rw [refCheckMatrix_ok h hr]; rfl
theorem mat_ok {m:Mx} (h:matE m = 0):1<=m.length/\m.length<=3/\Rect m.length m.length m/\BdM 20 m:=by
 unfold matE chkM at h;split at h
 ·cases h
 ·rename_i h1;split at h
  ·cases h
  ·rename_i h2;have hn:findI (rowE m.length) 0 m = none:=by
    cases hf:findI (rowE m.length) 0 m with
    | none=>rfl
    | some r =>
     exfalso
     rw [hf] at h;obtain ⟨i,a,_,h3,_⟩:=findI_some hf;unfold rowE at h3;split at h3
     ·split at h3
      ·cases h3; cases h
      ·cases h3
     ·cases h3; cases h
   rw [findI_none] at hn;have key:∀ r ∈ m,r.length = m.length/\r.any (badZ 20) = false:=λr hr=>by
    obtain ⟨i,hi⟩:=List.mem_iff_getElem?.1 hr;have:=hn i r hi;unfold rowE at this;split at this
    ·rename_i c;split at this
     ·cases this
     ·rename_i d; exact ⟨c,by simpa using d⟩
    ·cases this
   refine ⟨by omega,by omega,⟨rfl,λr hr=>(key r hr).1⟩,λr hr z hz=>?_⟩;have:=List.any_eq_false.1 (key r hr).2 z hz;unfold badZ at this;simpa using this
end Go.Proofs.YteiciemjanhdcaaGreatDoor.Mat
end
section
namespace Go.Proofs.YteiciemjanhdcaaGreatDoor.Mat
open Go Go.Ab Go.Tx Go.Proofs.YteiciemjanhdcaaGreatDoor
theorem CopyGausses_ok {l:List G} (h:l.length<=1000000000):base_CopyGausses l = some l:=by
 unfold base_CopyGausses; rw [app_nil (by omega)]; rfl
theorem CopyMatrix_ok {m:Mx} (h:m.length<=1000000000) (hr:∀ r ∈ m,r.length<=1000000000):ref04_CopyMatrix m = some m:=by
 unfold ref04_CopyMatrix;rw [for_map m (λr=>r) (λi a out hi ho=>?_) (λout ho=>?_)]
 ·simp
 ·have hlt:=len_lt hi;have e0:decide ((i:Int) < (m.length:Int)) = true:=decide_eq_true (by omega);simp only [e0,cond_true,idx_of hi,Option.bind_some];rw [CopyGausses_ok (hr a (List.mem_of_getElem? hi))];simp only [Option.bind_some];rw [app_one (by omega)];simp only [Option.bind_some];rw [wid (by omega) (by omega)]
 ·have e0:decide ((m.length:Int) < (m.length:Int)) = false:=by simp
  simp only [e0,cond_false]
theorem geq_dec (a b:G):(bif decide (a.1 = b.1) then (bif decide (a.2.1 = b.2.1) then true else false) else false) = decide (a = b):=by
 rw [Bool.eq_iff_iff];rw [decide_eq_true_iff,gext_iff];by_cases h1:a.1 = b.1 <;> by_cases h2:a.2.1 = b.2.1 <;> simp [h1,h2]
theorem Gausses_ok {l m:List G} (hl:l.length<=1000000000):base_Gausses l m = some (decide (l = m)):=by
 unfold base_Gausses;by_cases h:l.length = m.length
 case neg =>
  have d:decide ((l.length:Int) = (m.length:Int)) = false:=decide_eq_false (by omega);rw [d];have:decide (l = m) = false:=decide_eq_false (λe=>h (by rw [e]));rw [this]; rfl
 have d:decide ((l.length:Int) = (m.length:Int)) = true:=decide_eq_true (by omega);rw [d];simp only [Bool.not_true,cond_false];refine ints_loop g0 h hl (λa b=>decide (a = b)) (λa b _ _=>by simp) (K:=_) (λi hi=>?_);rw [idx_in g0 (by omega) (by omega),idx_in g0 (l:=m) (by omega) (by omega)];simp only [Option.bind_some,Int.toNat_natCast];rw [geq_dec,wid (by omega) (by omega)];by_cases c:l.getD i g0 = m.getD i g0
 ·simp only [c,decide_true,Bool.not_true,cond_false,if_true]
 ·simp only [c,decide_false,Bool.not_false,cond_true,Bool.false_eq_true,if_false]
theorem SameMatrix_ok {l m:Mx} (hl:l.length<=1000000000) (hr:∀ r ∈ l,r.length<=1000000000):ref04_SameMatrix l m = some (decide (l = m)):=by
 unfold ref04_SameMatrix;by_cases h:l.length = m.length
 case neg =>
  have d:decide ((l.length:Int) = (m.length:Int)) = false:=decide_eq_false (by omega);rw [d];have:decide (l = m) = false:=decide_eq_false (λe=>h (by rw [e]));rw [this]; rfl
 have d:decide ((l.length:Int) = (m.length:Int)) = true:=decide_eq_true (by omega);rw [d];simp only [Bool.not_true,cond_false];refine ints_loop [] h hl (λa b=>decide (a = b)) (λa b _ _=>by simp) (K:=_) (λi hi=>?_);rw [idx_in [] (by omega) (by omega),idx_in [] (l:=m) (by omega) (by omega)];simp only [Option.bind_some,Int.toNat_natCast];rw [Gausses_ok (hr _ (getD_mem hi)),wid (by omega) (by omega)];simp only [Option.bind_some];by_cases c:l.getD i [] = m.getD i []
 ·simp only [c,decide_true,Bool.not_true,cond_false,if_true]
 ·simp only [c,decide_false,Bool.not_false,cond_true,Bool.false_eq_true,if_false]
def FewM (m:Mx) (rows:Nat):Prop:=m.length<=rows/\∀ r ∈ m,r.length<=5
theorem fewOf_ok (m:Mx) (rows:Nat) (h:rows<=1000):Ok (law04_fewOf m (rows:Int)) λb=>b = true->FewM m rows:=by
 unfold law04_fewOf;by_cases hl:m.length<=rows
 case neg =>
  have d:decide ((m.length:Int) > (rows:Int)) = true:=decide_eq_true (by omega);rw [d,cond_true]; exact ok_some.2 (by simp)
 have d:decide ((m.length:Int) > (rows:Int)) = false:=decide_eq_false (by omega);rw [d,cond_false,for_find m _ (λ_ r=>if r.length<=5 then none else some false) (λi a hi=>?_),elim_toSum]
 ·cases hf:findI (λ_ (r:List G)=>if r.length<=5 then none else some false) 0 m with
  | none =>
   rw [findI_none] at hf;refine ok_some.2 λ_=>⟨hl,λr hr=>?_⟩
   obtain ⟨i,hi⟩:=List.mem_iff_getElem?.1 hr;have:=hf i r hi;simpa using this
  | some r =>
   obtain ⟨i,a,_,h2,_⟩:=findI_some hf;refine ok_some.2 λh3=>?_;subst h3;split at h2 <;> cases h2
 ·have hlt:=len_lt hi;rw [idx_of hi,wid (by omega) (by omega)];simp only [Option.bind_some];by_cases c:a.length<=5
  ·have d:decide ((a.length:Int) > 5) = false:=decide_eq_false (by omega);simp only [d,cond_false,c,if_true,stp]
  ·have d:decide ((a.length:Int) > 5) = true:=decide_eq_true (by omega);simp only [d,cond_true,c,if_false,stp]
theorem few_ok (m:Mx):Ok (law04_few m) λb=>b = true->FewM m 5:=by
 unfold law04_few;exact Ok.bind (fewOf_ok m 5 (by omega)) λb hb=>ok_some.2 hb
end Go.Proofs.YteiciemjanhdcaaGreatDoor.Mat
end
section
namespace Go.Proofs.YteiciemjanhdcaaGreatDoor
open Go Go.Ab Go.Tx Go.Dec Go.Proofs.YteiciemjanhdcaaGreatDoor.Mat
theorem parts_short (c:UInt8):∀ {s w:List UInt8},w ∈ parts c s->w.length<=s.length
 | [],w,h=>by simp [parts] at h; simp [h]
 | b :: l,w,h=>by
  unfold parts at h;split at h
  ·rcases List.mem_cons.1 h with rfl | h
   ·simp
   ·have:=parts_short c h; simp <;> omega
  ·split at h
   ·rename_i hp; exact absurd hp (parts_ne c l)
   ·rename_i p ps hp;rcases List.mem_cons.1 h with rfl | h
    ·have:=parts_short c (s:=l) (w:=p) (by rw [hp]; simp);simp <;> omega
    ·have:=parts_short c (s:=l) (w:=w) (by rw [hp]; simp [h]);simp <;> omega
theorem split_loop {β γ:Type} (c:UInt8) (f:List UInt8->Option β) (bad:γ) {s:List UInt8} {B:List β × List UInt8->Option ((List β × List UInt8) ⊕ ((List β × List UInt8) ⊕ γ))}
  (h1:∀ out r,out.length + r.length<=s.length->c ∉ r->B (out,r) = some (.inr (.inl (out,r))))
  (h2:∀ out p q,out.length + p.length + 1 + q.length<=s.length->c ∉ p->B (out,p ++ c :: q) = some (match f p with | none=>.inr (.inr bad) | some b=>.inl (out ++ [b],q))) :
  Ok (loopO B ([],s)) λx=>match x with
   | .inl p=>c ∉ p.2/\p.1.length + p.2.length<=s.length/\mapO f (parts c s) = (f p.2).map λb=>p.1 ++ [b]
   | .inr q=>q = bad/\mapO f (parts c s) = none:=by
 refine loop_wf (λst=>st.2.length) (λ(st:List β × List UInt8)=>mapO f (parts c s) = (mapO f (parts c st.2)).map (st.1 ++ ·)/\st.1.length + st.2.length<=s.length) _ ⟨by simp,by simp⟩ ?_;rintro ⟨out,r⟩ ⟨e,hl⟩;simp only at e hl;rcases idx_cases c r with ⟨_,h3⟩ | ⟨p,q,rfl,h3,_⟩
 ·rw [h1 out r hl h3,rnd_inr];refine ⟨h3,hl,?_⟩;rw [e,parts_none h3];simp only [mapO];cases f r <;> rfl
 ·have hq:(p ++ c :: q).length = p.length + 1 + q.length:=by simp <;> omega
  rw [hq] at hl;rw [h2 out p q (by omega) h3];rw [parts_app h3] at e;simp only [mapO] at e;cases hf:f p with
  | none =>
   rw [hf] at e;rw [rnd_inr];exact ⟨rfl,e⟩
  | some b =>
   rw [hf] at e;rw [rnd_inl];refine ⟨⟨?_,by simp; omega⟩,by simp only; rw [hq]; omega⟩;simp only [e,Option.bind_some];cases mapO f (parts c q) <;> simp
theorem for_mapO {α β γ:Type} (l:List α) (f:α->Option β) (bad:γ) {B:List β × Int->Option ((List β × Int) ⊕ (List β ⊕ γ))}
  (h1:∀ (i:Nat) a out,l[i]? = some a->out.length = i->B (out,(i:Int)) = some (match f a with | none=>.inr (.inr bad) | some b=>.inl (out ++ [b],(i:Int) + 1)))
  (h2:∀ out,out.length = l.length->B (out,(l.length:Int)) = some (.inr (.inl out))) :
  loopO B ([],0) = some (match mapO f l with | some r=>.inl r | none=>.inr bad):=by
 refine Ok.eq (loop_up l.length (λi (st:List β × Int)=>st.2 = (i:Int)/\st.1.length = i/\mapO f l = (mapO f (l.drop i)).map (st.1 ++ ·)) _ ⟨rfl,rfl,by simp⟩ ?_);rintro i ⟨out,i0⟩ hi ⟨e1,e2,e3⟩;simp only at e1 e2 e3;subst e1;by_cases hlt:i < l.length
 ·have ha:l[i]? = some l[i]:=by simp [hlt]
  rw [h1 i _ out ha e2];rw [List.drop_eq_getElem_cons hlt] at e3;simp only [mapO] at e3;cases hf:f l[i] with
  | none =>
   rw [hf] at e3;rw [rnd_inr,e3]; rfl
  | some b =>
   rw [hf] at e3;rw [rnd_inl];refine ⟨hlt,by simp,by simp [e2],?_⟩;simp only [e3,Option.bind_some];cases mapO f (l.drop (i + 1)) <;> simp
 ·have:i = l.length:=by omega
  subst this;rw [h2 out e2,rnd_inr,e3];simp [mapO]
theorem mapO_at {α β:Type} {f:α->Option β}:∀ {l:List α} {r:List β} {b:β},mapO f l = some r->b ∈ r->∃ a ∈ l,f a = some b
 | [],r,b,h,hb=>by cases h; cases hb
 | a :: l,r,b,h,hb=>by
  simp only [mapO] at h;obtain ⟨b',h1,h⟩:=Option.bind_eq_some_iff.1 h;obtain ⟨r',hr,rfl⟩:=Option.map_eq_some_iff.1 h;rcases List.mem_cons.1 hb with rfl | hb
  ·exact ⟨a,by simp,h1⟩
  ·obtain ⟨a',h2,h3⟩:=mapO_at hr hb;exact ⟨a',by simp [h2],h3⟩
def inG (z:G):Prop:=in64 z.1/\in64 z.2.1
def pt (d:Nat) (w:List UInt8):Option G:=match parts 44 w with
 | [p,q]=>(num d p).bind λa=>(num d q).map λb=>(a,b,())
 | _=>none
theorem num_no {c:UInt8} (h1:c ≠ 45) (h2:¬ isD c) {d:Nat} {w:List UInt8} (h:c ∈ w):num d w = none:=by
 cases hn:num d w with
 | none=>rfl
 | some v =>
  obtain ⟨_,e,_⟩:=num_some hn;rw [<- e] at h;exact absurd h (itoa_no h1 h2)
theorem part_eq (d:Nat) {w:List UInt8} (hw:w.length<=100000):∃ v,drive_part w (d:Int) = some (v,(num d w).isSome)/\∀ n,num d w = some n->v = n:=by
 unfold drive_part strconv_Atoi;rw [if_pos (by omega)];unfold atoiP num;cases ha:Lib.atoiAll w with
 | ok v =>
  have hb:=Lib.atoiAll_bounds ha;simp only [Option.bind_some,cond_true];rw [Itoa_eq ⟨by omega,by omega⟩];simp only [Option.bind_some];refine ⟨v,?_,?_⟩
  ·by_cases c:Lib.itoa v = w
   ·simp only [c,decide_true,cond_true,true_and];unfold strings_TrimPrefix;simp only [Option.bind_some];by_cases e:(Lib.trimPrefix w [45]).length<=d
    ·have:((Lib.trimPrefix w [45]).length:Int)<=(d:Int):=by omega
     simp [e,this]
    ·have:¬ ((Lib.trimPrefix w [45]).length:Int)<=(d:Int):=by omega
     simp [e,this]
   ·simp [c]
  ·intro n hn;by_cases c:Lib.itoa v = w/\(Lib.trimPrefix w [45]).length<=d
   ·rw [if_pos c] at hn; cases hn; rfl
   ·rw [if_neg c] at hn; cases hn
 | range=>exact ⟨_,rfl,λn hn=>by cases hn⟩
 | _=>exact ⟨0,rfl,λn hn=>by cases hn⟩
theorem pair_eq (d:Nat) {w:List UInt8} (hw:w.length<=100000):∃ x5 x6 x7,strings_Cut w [44] = some x5/\drive_part x5.1 (d:Int) = some x6/\drive_part x5.2.1 (d:Int) = some x7 /\
  (bif !x5.2.2 then some true else bif !x6.2 then some true else some (!x7.2)) = some (pt d w).isNone/\∀ z,pt d w = some z->(x6.1,x7.1,()) = z:=by
 unfold strings_Cut;rw [if_pos (by omega)];have hc44:(44:UInt8) ≠ 45:=by decide
 have hd44:¬ isD 44:=by decide
 rcases idx_cases 44 w with ⟨h1,h2⟩ | ⟨p,q,rfl,h2,h3⟩
 ·have e:Lib.cut w [44] = (w,[],false):=by unfold Lib.cut; rw [h1,if_neg (by omega)]
  rw [e];obtain ⟨v,p1,_⟩:=part_eq d (w:=w) hw;obtain ⟨v',p2,_⟩:=part_eq d (w:=[]) (by simp);refine ⟨_,_,_,rfl,p1,p2,?_,?_⟩
  ·unfold pt; rw [parts_none h2]; rfl
  ·intro z hz; unfold pt at hz; rw [parts_none h2] at hz; cases hz
 ·have e:Lib.cut (p ++ 44 :: q) [44] = (p,q,true):=by
   unfold Lib.cut;rw [h3,if_pos (by omega)];have:(p ++ 44 :: q).drop (p.length + 1) = q:=by
    rw [show p ++ 44 :: q = (p ++ [44]) ++ q by simp,List.drop_left' (by simp)]
   simp [this]
  have hl:(p ++ 44 :: q).length = p.length + 1 + q.length:=by simp <;> omega
  rw [hl] at hw;rw [e];obtain ⟨v,p1,p2⟩:=part_eq d (w:=p) (by omega);obtain ⟨v',q1,q2⟩:=part_eq d (w:=q) (by omega);refine ⟨_,_,_,rfl,p1,q1,?_,?_⟩
  ·simp only [Bool.not_true,cond_false];unfold pt;rw [parts_app h2];rcases idx_cases 44 q with ⟨_,h4⟩ | ⟨p',q',rfl,h4,_⟩
   ·rw [parts_none h4];simp only
    cases hp:num d p with
    | none=>rfl
    | some a =>
     simp only [Option.isSome_some,Bool.not_true,cond_false,Option.bind_some];cases num d q <;> rfl
   ·rw [parts_app h4];have hn:num d (p' ++ 44 :: q') = none:=num_no hc44 hd44 (by simp);have h5:=parts_ne 44 q';rw [hn];cases hq:parts 44 q' with
    | nil=>exact absurd hq h5
    | cons a l =>
     simp only [Option.isSome_none,Bool.not_false];cases num d p <;> rfl
  ·intro z hz;unfold pt at hz;rw [parts_app h2] at hz;rcases idx_cases 44 q with ⟨_,h4⟩ | ⟨p',q',rfl,h4,_⟩
   ·rw [parts_none h4] at hz;simp only at hz;obtain ⟨a,ha,hz⟩:=Option.bind_eq_some_iff.1 hz;obtain ⟨b,hb,rfl⟩:=Option.map_eq_some_iff.1 hz;rw [p2 a ha,q2 b hb]
   ·rw [parts_app h4] at hz;cases hq:parts 44 q' with
    | nil=>exact absurd hq (parts_ne 44 q')
    | cons a l=>rw [hq] at hz; cases hz
def resG (o:Option (List G)):List G × Bool:=match o with
 | some l=>(l,true)
 | none=>([],false)
def prs (d:Nat) (s:List UInt8):Option (List G):=mapO (pt d) (parts 32 s)
theorem prs_len {d:Nat} {s:List UInt8} {l:List G} (h:prs d s = some l):l.length<=s.length + 1:=by
 have:=parts_len 32 s;rw [mapO_len h]; exact this
theorem ok_sum {α β:Type} {o:Option (α ⊕ β)} {k:α->Option β} {r:β} (h:Ok o λx=>match x with | .inl p=>k p = some r | .inr q=>q = r):o.bind (Sum.elim k some) = some r:=by
 obtain ⟨x,rfl,h⟩:=h;cases x with
 | inl p=>exact h
 | inr q=>exact congrArg some h
theorem split_at {c:UInt8} {s p q:List UInt8} (hs:s.length<=100000) (h3:p.length + 1 + q.length<=s.length) (hi:c ∉ p):strings_Index (p ++ c :: q) [c] = some (p.length:Int) /\
  slc (p ++ c :: q) 0 (w64 ((p.length:Int) + 0)) = some p/\slc (p ++ c :: q) (w64 ((p.length:Int) + 1)) ((p ++ c :: q).length:Int) = some q:=by
 have hl:(p ++ c :: q).length = p.length + 1 + q.length:=by simp <;> omega
 refine ⟨?_,?_,?_⟩
 ·unfold strings_Index;rw [if_pos (by omega)];rcases idx_cases c (p ++ c :: q) with ⟨_,h⟩ | ⟨p',q',e,h1,h2⟩
  ·exact absurd (by simp) h
  ·have h4:=parts_app (r:=q) hi;rw [e,parts_app h1] at h4;rw [h2,(List.cons.inj h4).1]
 ·rw [wid (by omega) (by omega),show ((p.length:Int) + 0) = ((p.length:Nat):Int) by omega,slc_to (by rw [hl]; omega)];simp
 ·rw [wid (by omega) (by omega),show ((p.length:Int) + 1) = ((p.length + 1:Nat):Int) by omega,slc_full (by rw [hl]; omega)];rw [show p ++ c :: q = (p ++ [c]) ++ q by simp,List.drop_left' (by simp)]
theorem index_none {c:UInt8} {r:List UInt8} (hr:r.length<=100000) (h:c ∉ r):strings_Index r [c] = some (-1):=by
 unfold strings_Index;rw [if_pos (by omega)];rcases idx_cases c r with ⟨h1,_⟩ | ⟨p,q,rfl,_,_⟩
 ·rw [h1]
 ·exact absurd (by simp) h
theorem list_eq (d:Nat) {s:List UInt8} (hs:s.length<=100000):drive_list s (d:Int) = some (resG (prs d s)):=by
 unfold drive_list;refine ok_sum ((split_loop 32 (pt d) (([],false):List G × Bool) ?_ ?_).mono ?_)
 ·intro out r hl hr;rw [index_none (by omega) hr];rfl
 ·intro out p q hl hp;obtain ⟨h1,h2,h3⟩:=split_at hs (by omega) hp (c:=32) (q:=q);have h0:decide (((p.length:Nat):Int) < 0) = false:=by simp
  simp only
  rw [h1];simp only [Option.bind_some,h0,cond_false];rw [h2];simp only [Option.bind_some];obtain ⟨x5,x6,x7,e1,e2,e3,e4,e5⟩:=pair_eq d (w:=p) (by omega);rw [e1];simp only [Option.bind_some];rw [e2];simp only [Option.bind_some];rw [e3];simp only [Option.bind_some];rw [e4];simp only [Option.bind_some];cases hn:pt d p with
  | none=>simp only [Option.isNone_none,cond_true]
  | some z =>
   simp only [Option.isNone_some,cond_false];rw [e5 z hn,app_one (by omega)];simp only [Option.bind_some];rw [h3]; rfl
 ·rintro x hx;cases x with
  | inr q=>obtain ⟨rfl,h⟩:=hx; unfold prs; simp only [h] <;> rfl
  | inl p =>
   obtain ⟨h1,h2,h3⟩:=hx;simp only
   obtain ⟨x5,x6,x7,e1,e2,e3,e4,e5⟩:=pair_eq d (w:=p.2) (by omega);rw [e1];simp only [Option.bind_some];rw [e2];simp only [Option.bind_some];rw [e3];simp only [Option.bind_some];rw [e4];simp only [Option.bind_some];unfold prs;rw [h3];cases hn:pt d p.2 with
   | none=>rfl
   | some z =>
    simp only [Option.isNone_some,cond_false];rw [e5 z hn,app_one (by omega)];rfl
theorem parse_eq {d:Nat} (hd:d<=18) {s:List UInt8} (hs:s.length<=60000):ref04_parse s (d:Int) = some (resG (prs d s)):=by
 unfold ref04_parse;have hc:=Cut_eq 32 (s:=s) (by omega);rw [show ((UInt8.toNat 32:Nat):Int) = 32 from rfl] at hc;rw [hc];simp only [Option.bind_some];have hpl:=parts_len 32 s;rw [for_mapO (parts 32 s) (pt d) (([],false):List G × Bool) ?_ ?_]
 ·unfold prs;cases mapO (pt d) (parts 32 s) <;> rfl
 ·intro i w out hw ho;have hlt:=len_lt hw;have h0:decide ((i:Int) < ((parts 32 s).length:Int)) = true:=by simp <;> omega
  have hwl:=parts_short 32 (List.mem_of_getElem? hw);simp only [h0,cond_true,idx_of hw,Option.bind_some];have hc2:=Cut_eq 44 (s:=w) (by omega);rw [show ((UInt8.toNat 44:Nat):Int) = 44 from rfl] at hc2;rw [hc2];simp only [Option.bind_some];unfold pt;by_cases c2:(parts 44 w).length = 2
  case neg =>
   have c2':¬ ((parts 44 w).length:Int) = 2:=by omega
   simp only [c2',decide_false,Bool.not_false,cond_true]
   match hq:parts 44 w with
   | []=>rfl
   | [_]=>rfl
   | [_,_]=>rw [hq] at c2; exact absurd rfl c2
   | _ :: _ :: _ :: _=>rfl
  match hq:parts 44 w with
  | []=>rw [hq] at c2; cases c2
  | [_]=>rw [hq] at c2; cases c2
  | _ :: _ :: _ :: _=>rw [hq] at c2; simp at c2
  | [p,q] =>
   have hpw:=parts_short 44 (s:=w) (w:=p) (by rw [hq]; simp);have hqw:=parts_short 44 (s:=w) (w:=q) (by rw [hq]; simp);have i0:idx [p,q] 0 = some p:=by simp [idx]
   have i1:idx [p,q] 1 = some q:=by simp [idx]
   simp only [List.length_cons,List.length_nil,i0,i1,Option.bind_some];rw [Number_eq hd (by omega),Number_eq hd (by omega)];simp only [show decide (((0 + 1 + 1:Nat):Int) = 2) = true from rfl,Bool.not_true,cond_false,Option.bind_some];cases num d p with
   | none=>rfl
   | some a =>
    cases num d q with
    | none=>rfl
    | some b =>
     simp only [Bool.not_true,cond_false,Option.bind_some];rw [app_one (by omega)];simp only [Option.bind_some];rw [wid (by omega) (by omega)];rfl
 ·intro out ho;have h0:decide (((parts 32 s).length:Int) < ((parts 32 s).length:Int)) = false:=by simp
  simp only [h0,cond_false]
end Go.Proofs.YteiciemjanhdcaaGreatDoor
end
section
namespace Go.Proofs.YteiciemjanhdcaaGreatDoor
open Go Go.Ab Go.Tx Go.Dec Go.Proofs.YteiciemjanhdcaaGreatDoor.Mat
def gtxt (z:G):List UInt8:=Lib.itoa z.1 ++ [44] ++ Lib.itoa z.2.1
def dtxt (l:List G):List UInt8:=Lib.join (l.map gtxt) [32]
def mtxt (m:Mx):List UInt8:=Lib.join (m.map dtxt) [124]
theorem gtxt_len {z:G} (h:inG z):(gtxt z).length<=43:=by
 have h1:=itoa_len h.1;have h2:=itoa_len h.2;unfold gtxt;simp only [List.length_append,List.length_singleton] <;> omega
theorem dtxt_len {l:List G} (h:∀ z ∈ l,inG z):(dtxt l).length<=l.length * 44:=by
 have:=join_len [32] (B:=43) (l.map gtxt) (λw hw=>by
  obtain ⟨n,hn,rfl⟩:=List.mem_map.1 hw;exact gtxt_len (h n hn))
 simpa [dtxt] using this
theorem mtxt_len {m:Mx} {n:Nat} (h:∀ r ∈ m,∀ z ∈ r,inG z) (hn:∀ r ∈ m,r.length<=n):(mtxt m).length<=m.length * (n * 44 + 1):=by
 have:=join_len [124] (B:=n * 44) (m.map dtxt) (λw hw=>by
  obtain ⟨r,hr,rfl⟩:=List.mem_map.1 hw;have h1:=dtxt_len (h r hr);have h2:=hn r hr;have:r.length * 44<=n * 44:=Nat.mul_le_mul_right _ h2;omega)
 simpa [mtxt] using this
theorem FormatDrive_eq {l:List G} (hl:l.length<=1000) (h:∀ z ∈ l,inG z):drive_FormatDrive l = some (dtxt l):=by
 unfold drive_FormatDrive;rw [for_map l gtxt ?_ ?_]
 ·simp only [Option.bind_some];have:=dtxt_len h;unfold strings_Join;unfold dtxt at this;rw [if_pos ⟨by rw [List.length_map]; omega,by omega⟩];rfl
 ·intro i z out hz ho;have hlt:=len_lt hz;have h0:decide ((i:Int) < (l.length:Int)) = true:=by simp <;> omega
  have hin:=h z (List.mem_of_getElem? hz);simp only [h0,cond_true,idx_of hz,Option.bind_some];have h1:=itoa_len hin.1;have h2:=itoa_len hin.2;rw [Itoa_eq hin.1];simp only [Option.bind_some];rw [app_one (by omega)];simp only [Option.bind_some];rw [Itoa_eq hin.2];simp only [Option.bind_some];rw [app_in (by simp; omega)];simp only [Option.bind_some];rw [app_one (by omega)];simp only [Option.bind_some];rw [wid (by omega) (by omega)];rfl
 ·intro out ho;have h0:decide ((l.length:Int) < (l.length:Int)) = false:=by simp
  simp only [h0,cond_false]
theorem FormatMatrix_eq {m:Mx} (hm:m.length<=1000) (hn:∀ r ∈ m,r.length<=1000) (h:∀ r ∈ m,∀ z ∈ r,inG z):drive_FormatMatrix m = some (mtxt m):=by
 unfold drive_FormatMatrix;rw [for_map m dtxt ?_ ?_]
 ·simp only [Option.bind_some];have:=mtxt_len h hn;have h2:m.length * (1000 * 44 + 1)<=1000 * (1000 * 44 + 1):=Nat.mul_le_mul_right _ hm;unfold strings_Join;unfold mtxt at this;rw [if_pos ⟨by rw [List.length_map]; omega,by omega⟩];rfl
 ·intro i r out hr ho;have hlt:=len_lt hr;have h0:decide ((i:Int) < (m.length:Int)) = true:=by simp <;> omega
  have hmem:=List.mem_of_getElem? hr;simp only [h0,cond_true,idx_of hr,Option.bind_some];rw [FormatDrive_eq (hn r hmem) (h r hmem)];simp only [Option.bind_some];rw [app_one (by omega)];simp only [Option.bind_some];rw [wid (by omega) (by omega)]
 ·intro out ho;have h0:decide ((m.length:Int) < (m.length:Int)) = false:=by simp
  simp only [h0,cond_false]
theorem join_take {α:Type} (f:α->List UInt8) (c:UInt8) {l:List α} {i:Nat} {a:α} (ha:l[i]? = some a) (h0:i ≠ 0):Lib.join ((l.take (i + 1)).map f) [c] = Lib.join ((l.take i).map f) [c] ++ [c] ++ f a:=by
 have hlt:=(List.getElem?_eq_some_iff.1 ha).1;rw [take_next a hlt,getD_at ha,List.map_append,List.map_cons,List.map_nil,join_snoc];intro e;have:=congrArg List.length e;rw [List.length_map,List.length_take,List.length_nil] at this;omega
theorem join_first {α:Type} (f:α->List UInt8) (c:UInt8) {l:List α} {a:α} (ha:l[0]? = some a):Lib.join ((l.take (0 + 1)).map f) [c] = f a:=by
 have hlt:=(List.getElem?_eq_some_iff.1 ha).1;rw [take_next a hlt,getD_at ha];simp [Lib.join_one]
theorem for_join {α:Type} (f:α->List UInt8) (c:UInt8) (l:List α) (hb:∀ i,(Lib.join ((l.take i).map f) [c]).length<=4000000000)
  {B:List UInt8 × Int->Option ((List UInt8 × Int) ⊕ List UInt8)}
  (h1:∀ (i:Nat) a p,l[i]? = some a->p.length<=4000000001->∀ t:List UInt8,(t.length<=4000000000)->(p = if 0 < i then t ++ [c] else t)->B (t,(i:Int)) = some (.inl (p ++ f a,(i:Int) + 1)))
  (h2:∀ t,B (t,(l.length:Int)) = some (.inr t)):loopO B ([],0) = some (Lib.join (l.map f) [c]):=by
 refine Ok.eq (loop_up l.length (λi (s:List UInt8 × Int)=>s = (Lib.join ((l.take i).map f) [c],(i:Int))) _ (by simp [Lib.join_nil]) ?_);rintro i s hi rfl;by_cases hlt:i < l.length
 ·have ha:l[i]? = some l[i]:=by simp [hlt]
  have hbi:=hb i;rw [h1 i _ _ ha (by split <;> (try simp only [List.length_append,List.length_singleton]) <;> omega) _ hbi rfl,rnd_inl];refine ⟨hlt,?_⟩;by_cases c0:i = 0
  ·subst c0;rw [join_first f c ha];simp [Lib.join_nil]
  ·rw [join_take f c ha c0,if_pos (by omega)];simp
 ·have:i = l.length:=by omega
  subst this;rw [h2,rnd_inr,List.take_length]
theorem refFormatDrive_eq {l:List G} (hl:l.length<=1000) (h:∀ z ∈ l,inG z):ref04_FormatDrive l = some (dtxt l):=by
 unfold ref04_FormatDrive;rw [for_join gtxt 32 l ?_ ?_ ?_]
 ·rfl
 ·intro i;have:=dtxt_len (l:=l.take i) (λz hz=>h z (List.mem_of_mem_take hz));rw [List.length_take] at this;unfold dtxt at this;omega
 ·intro i z p hz hp t ht e;have hlt:=len_lt hz;have h0:decide ((i:Int) < (l.length:Int)) = true:=by simp <;> omega
  have hin:=h z (List.mem_of_getElem? hz);have l1:=itoa_len hin.1;have l2:=itoa_len hin.2;have hpre:(bif decide ((i:Int) > 0) then (app t ([32])).bind λx3=>some x3 else some t) = some p:=by
   by_cases c0:0 < i
   ·have c0':(i:Int) > 0:=by omega
    simp only [c0',decide_true,cond_true];rw [app_one (by omega),e,if_pos c0]; rfl
   ·have c0':¬ (i:Int) > 0:=by omega
    simp only [c0',decide_false,cond_false];rw [e,if_neg c0]
  simp only [h0,cond_true];rw [hpre];simp only [Option.bind_some,idx_of hz];rw [Decimal_eq hin.1,Decimal_eq hin.2];simp only [Option.bind_some];rw [app_in (by omega)];simp only [Option.bind_some];rw [app_one (by simp; omega)];simp only [Option.bind_some];rw [app_in (by simp; omega)];simp only [Option.bind_some];rw [wid (by omega) (by omega)];unfold gtxt;simp
 ·intro t;have h0:decide ((l.length:Int) < (l.length:Int)) = false:=by simp
  simp only [h0,cond_false]
theorem refFormatMatrix_eq {m:Mx} (hm:m.length<=1000) (hn:∀ r ∈ m,r.length<=1000) (h:∀ r ∈ m,∀ z ∈ r,inG z):ref04_FormatMatrix m = some (mtxt m):=by
 unfold ref04_FormatMatrix;rw [for_join dtxt 124 m ?_ ?_ ?_]
 ·rfl
 ·intro i;have:=mtxt_len (m:=m.take i) (n:=1000) (λr hr=>h r (List.mem_of_mem_take hr)) (λr hr=>hn r (List.mem_of_mem_take hr));rw [List.length_take] at this;unfold mtxt at this;have h2:(min i m.length) * (1000 * 44 + 1)<=1000 * (1000 * 44 + 1):=Nat.mul_le_mul_right _ (by omega);omega
 ·intro i r p hr hp t ht e;have hlt:=len_lt hr;have hmem:=List.mem_of_getElem? hr;have h0:decide ((i:Int) < (m.length:Int)) = true:=by simp <;> omega
  have l1:=dtxt_len (h r hmem);have l2:=hn r hmem;have hpre:(bif decide ((i:Int) > 0) then (app t ([124])).bind λx3=>some x3 else some t) = some p:=by
   by_cases c0:0 < i
   ·have c0':(i:Int) > 0:=by omega
    simp only [c0',decide_true,cond_true];rw [app_one (by omega),e,if_pos c0]; rfl
   ·have c0':¬ (i:Int) > 0:=by omega
    simp only [c0',decide_false,cond_false];rw [e,if_neg c0]
  simp only [h0,cond_true];rw [hpre];simp only [Option.bind_some,idx_of hr];rw [refFormatDrive_eq l2 (h r hmem)];simp only [Option.bind_some];rw [app_in (by omega)];simp only [Option.bind_some];rw [wid (by omega) (by omega)]
 ·intro t;have h0:decide ((m.length:Int) < (m.length:Int)) = false:=by simp
  simp only [h0,cond_false]
def mats (s:List UInt8):Option Mx:=mapO (prs 2) (parts 124 s)
theorem mats_len {s:List UInt8} {m:Mx} (h:mats s = some m):m.length<=s.length + 1/\∀ r ∈ m,r.length<=s.length + 1:=by
 refine ⟨?_,λr hr=>?_⟩
 ·have:=parts_len 124 s;rw [mapO_len h]; exact this
 ·obtain ⟨w,hw,e⟩:=mapO_at h hr;have h1:=prs_len e;have h2:=parts_short 124 hw;omega
def pmR (s:List UInt8):Mx × Int:=match mats s with
 | none=>([],7)
 | some m=>if matE m = 0 then (m,0) else ([],matE m)
theorem ParseMatrix_eq {s:List UInt8} (hs:s.length<=60000):drive_ParseMatrix s = some (pmR s):=by
 unfold drive_ParseMatrix;have h0:decide ((s.length:Int) > 60000) = false:=by simp <;> omega
 simp only [h0,cond_false];refine ok_sum ((split_loop 124 (prs 2) (([],7):Mx × Int) ?_ ?_).mono ?_)
 ·intro out r hl hr;simp only
  rw [index_none (by omega) hr];rfl
 ·intro out p q hl hp;obtain ⟨h1,h2,h3⟩:=split_at (by omega) (by omega) hp (c:=124) (q:=q) (s:=s);have h0:decide (((p.length:Nat):Int) < 0) = false:=by simp
  simp only
  rw [h1];simp only [Option.bind_some,h0,cond_false];rw [h2];simp only [Option.bind_some];have:=list_eq 2 (s:=p) (by omega);rw [show ((2:Nat):Int) = 2 from rfl] at this;rw [this];cases hn:prs 2 p with
  | none=>rfl
  | some z =>
   simp only [resG,Option.bind_some,Bool.not_true,cond_false];rw [app_one (by omega)];simp only [Option.bind_some];rw [h3]; rfl
 ·rintro x hx;cases x with
  | inr q=>obtain ⟨rfl,h⟩:=hx; simp only; unfold pmR mats; rw [h]
  | inl p =>
   obtain ⟨h1,h2,h3⟩:=hx;simp only
   have:=list_eq 2 (s:=p.2) (by omega);rw [show ((2:Nat):Int) = 2 from rfl] at this;rw [this];unfold pmR;have hm:mats s = (prs 2 p.2).map λb=>p.1 ++ [b]:=h3;rw [hm];cases hn:prs 2 p.2 with
   | none=>rfl
   | some z =>
    rw [hn] at hm;have hm':mats s = some (p.1 ++ [z]):=hm;obtain ⟨b1,b2⟩:=mats_len hm';simp only [resG,Option.bind_some,Bool.not_true,cond_false,Option.map_some];rw [app_one (by omega)];simp only [Option.bind_some];rw [matrixErr_ok (by omega) (λr hr=>by have:=b2 r hr; omega)];simp only [Option.bind_some];by_cases c:matE (p.1 ++ [z]) = 0
    ·simp [c]
    ·simp [c]
theorem refParseMatrix_eq {s:List UInt8} (hs:s.length<=60000):ref04_ParseMatrix s = some (pmR s):=by
 unfold ref04_ParseMatrix;have h0:decide ((s.length:Int) > 60000) = false:=by simp <;> omega
 simp only [h0,cond_false];have hc:=Cut_eq 124 (s:=s) (by omega);rw [show ((UInt8.toNat 124:Nat):Int) = 124 from rfl] at hc;rw [hc];simp only [Option.bind_some];have hpl:=parts_len 124 s;rw [for_mapO (parts 124 s) (prs 2) (([],7):Mx × Int) ?_ ?_]
 ·unfold pmR;have e:mats s = mapO (prs 2) (parts 124 s):=rfl;cases hm:mats s with
  | none=>rw [hm] at e; rw [<- e]; rfl
  | some m =>
   rw [hm] at e;rw [<- e];obtain ⟨b1,b2⟩:=mats_len hm;simp only [Option.bind_some,Sum.elim_inl];rw [MatrixErr_ok (by omega) (λr hr=>by have:=b2 r hr; omega)];simp only [Option.bind_some];by_cases c:matE m = 0
   ·simp [c]
   ·simp [c]
 ·intro i w out hw ho;have hlt:=len_lt hw;have h0:decide ((i:Int) < ((parts 124 s).length:Int)) = true:=by simp <;> omega
  have hwl:=parts_short 124 (List.mem_of_getElem? hw);simp only [h0,cond_true,idx_of hw,Option.bind_some];have:=parse_eq (d:=2) (by omega) (s:=w) (by omega);rw [show ((2:Nat):Int) = 2 from rfl] at this;rw [this];cases hn:prs 2 w with
  | none=>rfl
  | some z =>
   simp only [resG,Option.bind_some,Bool.not_true,cond_false];rw [app_one (by omega)];simp only [Option.bind_some];rw [wid (by omega) (by omega)]
 ·intro out ho;have h0:decide (((parts 124 s).length:Int) < ((parts 124 s).length:Int)) = false:=by simp
  simp only [h0,cond_false]
def pdR (s:List UInt8):List G × Int:=match prs 5 s with
 | none=>([],7)
 | some l=>if 3 < l.length then ([],8) else if l.any (badZ 10000) then ([],2) else (l,0)
theorem listErr_eq {l:List G} (h:l.length<=1000000000):drive_listErr l (l.length:Int) = some (if l.any (badZ 10000) then 2 else 0):=by
 unfold drive_listErr;have hc:slices_ContainsFunc_Lapi_Gauss_api_Gauss_of_drive_listErr_1 l = some (l.any (badZ 10000)):=by
  unfold slices_ContainsFunc_Lapi_Gauss_api_Gauss_of_drive_listErr_1 slices_IndexFunc_Lapi_Gauss_api_Gauss_of_drive_listErr_1;refine for_any l drive_listErr_1 (badZ 10000) (λx _=>?_) h;unfold drive_listErr_1;rw [whole_isSized_ok _ _ (by omega) (by omega)]; rfl
 rw [hc];simp only [Option.bind_some,unless_eq,decide_true];rw [first_eq _ (by simp)];cases l.any (badZ 10000) <;> rfl
theorem ParseDrive_eq {s:List UInt8} (hs:s.length<=60000):drive_ParseDrive s = some (pdR s):=by
 unfold drive_ParseDrive;have h0:decide ((s.length:Int) > 60000) = false:=by simp <;> omega
 simp only [h0,cond_false];have:=list_eq 5 (s:=s) (by omega);rw [show ((5:Nat):Int) = 5 from rfl] at this;rw [this];unfold pdR;cases hn:prs 5 s with
 | none =>
  simp only [resG,Option.bind_some,unless_eq];rw [listErr_eq (by simp)];simp only [Option.bind_some];rw [first_eq _ (by simp)];rfl
 | some l =>
  have hl:=prs_len hn;simp only [resG,Option.bind_some,unless_eq];rw [listErr_eq (by omega)];simp only [Option.bind_some];rw [first_eq _ (by simp)];simp only [Option.bind_some,if_true];by_cases c:3 < l.length
  ·have c':¬ ((l.length:Int)<=3):=by omega
   simp [c,c',fst0]
  ·have c':(l.length:Int)<=3:=by omega
   cases l.any (badZ 10000) <;> simp [c,c',fst0]
theorem refParseDrive_eq {s:List UInt8} (hs:s.length<=60000):ref04_ParseDrive s = some (pdR s):=by
 unfold ref04_ParseDrive;have h0:decide ((s.length:Int) > 60000) = false:=by simp <;> omega
 simp only [h0,cond_false];have:=parse_eq (d:=5) (by omega) (s:=s) (by omega);rw [show ((5:Nat):Int) = 5 from rfl] at this;rw [this];unfold pdR;cases hn:prs 5 s with
 | none=>rfl
 | some l =>
  have hl:=prs_len hn;simp only [resG,Option.bind_some,Bool.not_true,cond_false];by_cases c:3 < l.length
  ·have c':(l.length:Int) > 3:=by omega
   simp [c,c']
  have c':¬ ((l.length:Int) > 3):=by omega
  simp only [c,c',decide_false,cond_false,if_false];rw [for_find l _ (λ_ z=>if badZ 10000 z then some ((([]:List G),(2:Int))) else none) (λk z hk=>?_),elim_toSum]
  ·cases hf:findI (λ_ z=>if badZ 10000 z then some ((([]:List G),(2:Int))) else none) 0 l with
   | none =>
    rw [findI_none] at hf;have hb:l.any (badZ 10000) = false:=by
     rw [List.any_eq_false];intro x hx;obtain ⟨k,hk⟩:=List.mem_iff_getElem?.1 hx;have:=hf k x hk;simpa using this
    simp [hb]
   | some q =>
    obtain ⟨k,z,h1,h2,_⟩:=findI_some hf;have hp:badZ 10000 z = true:=by
     cases hp:badZ 10000 z
     ·simp [hp] at h2
     ·rfl
    have hb:l.any (badZ 10000) = true:=List.any_eq_true.2 ⟨z,List.mem_of_getElem? h1,hp⟩;simp only [hp,if_true,Option.some.injEq] at h2;simp [hb,<- h2]
  ·have hlk:=len_lt hk;rw [idx_of hk];simp only [Option.bind_some];rw [refIsSized_ok _ _ (by omega) (by omega)];simp only [Option.bind_some];rw [wid (by omega) (by omega)];unfold badZ;by_cases d:Bd 10000 z <;> simp [d,stp]
theorem gtxt_no {c:UInt8} (h1:c ≠ 45) (h2:¬ isD c) (h3:c ≠ 44) (z:G):c ∉ gtxt z:=by
 unfold gtxt;simp only [List.mem_append,List.mem_singleton,not_or];exact ⟨⟨itoa_no h1 h2,h3⟩,itoa_no h1 h2⟩
theorem pt_gtxt (d:Nat) (z:G):pt d (gtxt z) = (num d (Lib.itoa z.1)).bind λa=>(num d (Lib.itoa z.2.1)).map λb=>(a,b,()):=by
 have e:gtxt z = Lib.itoa z.1 ++ 44 :: Lib.itoa z.2.1:=by unfold gtxt; simp
 unfold pt;rw [e,parts_app (itoa_no (by decide) (by decide)),parts_none (itoa_no (by decide) (by decide))]
theorem prs_dtxt (d:Nat) {l:List G} (h0:l ≠ []):prs d (dtxt l) = mapO (λz=>pt d (gtxt z)) l:=by
 unfold prs dtxt;rw [parts_join (by simpa using h0)]
 ·induction l with
  | nil=>rfl
  | cons a l ih =>
   simp only [List.map_cons,mapO];cases l with
   | nil=>rfl
   | cons b l'=>rw [ih (by simp)]
 ·intro w hw;obtain ⟨z,hz,rfl⟩:=List.mem_map.1 hw;exact gtxt_no (by decide) (by decide) (by decide) z
theorem mem_join {c:UInt8} (sep:List UInt8):∀ {l:List (List UInt8)},c ∈ Lib.join l sep->c ∈ sep\/∃ w ∈ l,c ∈ w
 | [],h=>by rw [Lib.join_nil] at h; cases h
 | [w],h=>by rw [Lib.join_one] at h; exact .inr ⟨w,by simp,h⟩
 | w :: v :: r,h=>by
  rw [join_cons2] at h;rcases List.mem_append.1 h with h | h
  ·rcases List.mem_append.1 h with h | h
   ·exact .inr ⟨w,by simp,h⟩
   ·exact .inl h
  ·rcases mem_join sep h with h | ⟨x,h1,h2⟩
   ·exact .inl h
   ·exact .inr ⟨x,by simp [List.mem_cons.1 h1],h2⟩
theorem dtxt_no (l:List G):(124:UInt8) ∉ dtxt l:=by
 intro h;rcases mem_join [32] h with h | ⟨w,h1,h2⟩
 ·simp at h
 ·obtain ⟨z,hz,rfl⟩:=List.mem_map.1 h1;exact gtxt_no (by decide) (by decide) (by decide) z h2
theorem prs_own {l:List G} (h0:l ≠ []) (h:∀ z ∈ l,Bd 20 z):prs 2 (dtxt l) = some l:=by
 rw [prs_dtxt 2 h0];have e:l.map (λz=>z) = l:=by simp
 conv=>lhs; rw [<- e]
 refine mapO_of (g:=λz=>z) λz hz=>?_;rw [pt_gtxt];have hz':=h z hz;unfold Bd at hz';rw [num_itoa (by omega) (by omega) (by omega),num_itoa (by omega) (by omega) (by omega)];rfl
theorem mats_own {m:Mx} (h:matE m = 0):mats (mtxt m) = some m:=by
 obtain ⟨h1,h2,⟨h3,h4⟩,h5⟩:=mat_ok h;have h0:m ≠ []:=by intro e; subst e; simp at h1
 unfold mats mtxt;rw [parts_join (by simpa using h0)]
 ·refine mapO_of λr hr=>?_;have hl:=h4 r hr;exact prs_own (by intro e; subst e; simp at hl; omega) (h5 r hr)
 ·intro w hw;obtain ⟨r,hr,rfl⟩:=List.mem_map.1 hw;exact dtxt_no r
theorem pmR_own {m:Mx} (h:matE m = 0):pmR (mtxt m) = (m,0):=by
 unfold pmR;rw [mats_own h];simp only
 rw [if_pos h]
theorem itoa_inj {a b:Int} (h:Lib.itoa a = Lib.itoa b):a = b:=by
 have h1:=numR_itoa (d:=(Lib.trimPrefix (Lib.itoa a) [45]).length) (v:=a) (Nat.le_refl _);have h2:=numR_itoa (d:=(Lib.trimPrefix (Lib.itoa a) [45]).length) (v:=b) (by rw [h]; exact Nat.le_refl _);rw [<- h,h1] at h2;exact Option.some.inj h2
theorem mapO_self {l r:List G} {d:Nat} (h:mapO (λz=>pt d (gtxt z)) l = some r):r = l:=by
 induction l generalizing r with
 | nil=>cases h; rfl
 | cons z l ih =>
  simp only [mapO] at h;obtain ⟨b,h1,h⟩:=Option.bind_eq_some_iff.1 h;obtain ⟨r',hr,rfl⟩:=Option.map_eq_some_iff.1 h;rw [ih hr];congr 1
  rw [pt_gtxt] at h1;obtain ⟨a,ha,h1⟩:=Option.bind_eq_some_iff.1 h1;obtain ⟨b',hb,rfl⟩:=Option.map_eq_some_iff.1 h1;obtain ⟨_,e1,_⟩:=num_some ha;obtain ⟨_,e2,_⟩:=num_some hb;rw [itoa_inj e1,itoa_inj e2]
theorem pdR_own {u:List G} (h:(pdR (dtxt u)).2 = 0):pdR (dtxt u) = (u,0):=by
 unfold pdR at h ⊢;by_cases h0:u = []
 ·subst h0;have:prs 5 (dtxt []) = none:=by
   unfold prs dtxt;rw [List.map_nil,Lib.join_nil,parts_none (by simp)];rfl
  rw [this] at h;cases h
 ·rw [prs_dtxt 5 h0] at h ⊢;cases hm:mapO (λz=>pt 5 (gtxt z)) u with
  | none=>rw [hm] at h; cases h
  | some l =>
   rw [hm] at h;obtain rfl:=mapO_self hm;simp only at h ⊢;split
   ·rename_i c; rw [if_pos c] at h; cases h
   ·rename_i c;rw [if_neg c] at h;split
    ·rename_i c2; rw [if_pos c2] at h; cases h
    ·rfl
theorem DriveStrings_all (m:Mx) (u:List G) (s:List UInt8) (hm:∀ r ∈ m,∀ z ∈ r,inG z) (hu:∀ z ∈ u,inG z):law04_DriveStrings m u s = some true:=by
 unfold law04_DriveStrings law04_awake;simp only [Option.bind_some,Bool.not_true,cond_false];obtain ⟨b,hb,hf⟩:=few_ok m;rw [hb];simp only [Option.bind_some];cases b with
 | false=>rfl
 | true =>
  obtain ⟨f1,f2⟩:=hf rfl;simp only [Bool.not_true,cond_false];by_cases c1:(u.length:Int) > 5
  ·simp [c1]
  by_cases c2:(s.length:Int) > 120
  ·simp [c1,c2]
  simp only [c1,c2,decide_false,cond_false,Option.bind_some];have hr2:∀ r ∈ m,r.length<=1000:=λr hr=>by have:=f2 r hr; omega
  rw [CopyMatrix_ok (by omega) (λr hr=>by have:=f2 r hr; omega)];simp only [Option.bind_some];rw [FormatMatrix_eq (by omega) hr2 hm];simp only [Option.bind_some];rw [CopyGausses_ok (by omega)];simp only [Option.bind_some];rw [FormatDrive_eq (by omega) hu];simp only [Option.bind_some];rw [ParseMatrix_eq (by omega),ParseDrive_eq (by omega),refParseMatrix_eq (by omega),refParseDrive_eq (by omega)];simp only [Option.bind_some];rw [refFormatMatrix_eq (by omega) hr2 hm];simp only [Option.bind_some,decide_true,Bool.not_true,cond_false];rw [refFormatDrive_eq (by omega) hu];simp only [Option.bind_some,decide_true,Bool.not_true,cond_false];have k1:(pmR s).1.length<=1000000000/\∀ r ∈ (pmR s).1,r.length<=1000000000:=by
   unfold pmR;cases hq:mats s with
   | none=>simp
   | some q =>
    obtain ⟨b1,b2⟩:=mats_len hq;simp only
    split
    ·exact ⟨by simp only; omega,λr hr=>by have:=b2 r hr; omega⟩
    ·simp
  have k2:(pdR s).1.length<=1000000000:=by
   unfold pdR;cases hq:prs 5 s with
   | none=>simp
   | some q =>
    simp only
    split
    ·simp
    ·split
     ·simp
     ·simp only <;> omega
  rw [SameMatrix_ok k1.1 k1.2];simp only [Option.bind_some,decide_true,Bool.not_true,cond_false];rw [Gausses_ok k2];simp only [Option.bind_some,decide_true,Bool.not_true,cond_false];rw [MatrixErr_ok (by omega) (λr hr=>by have:=f2 r hr; omega)];simp only [Option.bind_some];have lm:=mtxt_len hm f2;have lu:=dtxt_len hu;have lm2:m.length * (5 * 44 + 1)<=5 * (5 * 44 + 1):=Nat.mul_le_mul_right _ (by omega);have rest:(ref04_ParseDrive (dtxt u)).bind (λx22 =>
    bif !(decide (x22.2 = 0)) then
     some true
    else
     (drive_ParseDrive (dtxt u)).bind λx23 =>
     (bif decide (x23.2 = 0) then
       (base_Gausses x23.1 u).bind λx24 =>
       some x24
      else
       some false).bind λ(p25:Bool) =>
     some p25) = some true:=by
   rw [refParseDrive_eq (by omega),ParseDrive_eq (by omega)];simp only [Option.bind_some];by_cases c:(pdR (dtxt u)).2 = 0
   ·rw [pdR_own c];simp only [decide_true,Bool.not_true,cond_false,cond_true];rw [Gausses_ok (by omega)];simp
   ·simp [c]
  by_cases c:matE m = 0
  ·simp only [c,decide_true,cond_true];rw [ParseMatrix_eq (by omega),pmR_own c];simp only [Option.bind_some,decide_true,Bool.not_true,cond_false];rw [SameMatrix_ok (by omega) (λr hr=>by have:=f2 r hr; omega)];simp only [Option.bind_some,decide_true,Bool.not_true,cond_false,Sum.elim_inl];exact rest
  ·simp only [c,decide_false,cond_false,Option.bind_some,Sum.elim_inl];exact rest
end Go.Proofs.YteiciemjanhdcaaGreatDoor
end
section
namespace Go.Proofs.YteiciemjanhdcaaGreatDoor.driveStrings
open Go Go.Ab Go.Tx Go.ChangeShapes Go.WideShapes Go.ChangeAt Go.RowKit
theorem true_ (x:denP ([(.sl (.sl (.pair I (.pair I .unit)))),(.sl (.pair I (.pair I .unit))),.str].map Pm.ty)) (hx:RngP maxLen [(.sl (.sl (.pair I (.pair I .unit)))),(.sl (.pair I (.pair I .unit))),.str] x):e_law04_DriveStrings.F x = some true:=DriveStrings_all x.1 x.2.1 x.2.2 (λr hr z hz=>⟨((hx.1.2 r hr).2 z hz).1,((hx.1.2 r hr).2 z hz).2.1⟩) (λz hz=>⟨(hx.2.1.2 z hz).1,(hx.2.1.2 z hz).2.1⟩)
set_option maxRecDepth 100000 in
theorem contract (H:Type) (enc:TypeId × Value->H) (W:World) (base:Nat) (args:Array Value) (ds gs:List (DataW H)) (before:List MemPlace)
  (hval:∀ (j:Nat) t v,Tryz.f6.params[j]? = some t->args[j]? = some v->Value.okWide Tryz.prog W .any base t v)
  (hW:DataW.Whole enc Tryz.prog Tryz.f6.params.toList Rows.driveStringsSpec.vars false W args.toList ds gs before) (hgl:GlOk W (cx0 W)) :
  Calls Tryz.prog 6 args W λe W'=>∃ v,e = .returned v/\Rows.driveStringsSpec.post enc Tryz.prog Tryz.f6 false true false false W args v W' :=
 law_contract (τs:=[(.sl (.sl (.pair I (.pair I .unit)))),(.sl (.pair I (.pair I .unit))),.str]) (ts:=[22,27,9]) (tb:=4) (F:=e_law04_DriveStrings.F) follows hname hlib laid_out Tryz.func6 (by kernel_rfl) (by kernel_rfl) (by kernel_rfl) (by kernel_rfl) (by kernel_rfl) (by kernel_rfl) Tryz.underlying4 o_law04_DriveStrings true_ rfl
  (λH ds h=>by
   match ds,h with
   | [d1,d2,d3],_=>rfl) H enc W base args ds gs before hval hW hgl
set_option maxRecDepth 100000 in
theorem lifted (os:Os) (started:os.Started) (H:Type) (enc:TypeId × Value->H) :
  ReturnsInHanded {} Tryz.checked os 6 .any (λw args=>(Rows.driveStringsSpec.pre enc Tryz.prog Tryz.f6 Rows.driveStringsRow.domain false w args/\laidMetH Tryz.prog laid7 w)/\sizedMet enc Tryz.prog Tryz.f6 (OpenSpec.ofChange Rows.driveStringsSpec) false w args)
   (Rows.driveStringsSpec.post enc Tryz.prog Tryz.f6 false true false false):=by
 refine returnsInHanded_of_laid_shaped (C:=Tryz.checked) (X:=λw _=>laidMetH Tryz.prog laid7 w) (λ_ _ _ hh h=>h.of_heap hh) own started (by kernel_rfl) Tryz.func6
  (ChangeSpec.witness_shaped (enc:=enc) (C:=Tryz.checked) (os:=os) (X:=λw _=>laidMetH Tryz.prog laid7 w) false (World.laidAll Tryz.prog os laid7) #[.slice none 0 0,.slice none 0 0,.string ⟨#[]⟩] 8 (World.laidAll_os _ _ _)
   (World.shaped_of_ZipB (by kernel_rfl) (by kernel_rfl)) (by kernel_rfl) (by kernel_rfl) (by kernel_rfl)
   (by rw [MakeChecks.laidMetH_plain _ _ _ (by kernel_rfl)]; exact laidMet_laidAll _ (by kernel_rfl) (by kernel_rfl))) ?_
 intro W base args ds gs before hval hW hS hL;exact contract H enc W base args ds gs before hval hW (gl_laid hS hL)
theorem said:Rows.DriveStringsSaid :=
 OpenClaim.holds_of_wide 6 Tryz.f6 rfl rfl rfl rfl rfl rfl rfl ⟨rfl,rfl,rfl,rfl,rfl⟩ rfl rfl rfl rfl rfl (by kernel_rfl) Tryz.func6 (by kernel_rfl)
  (of_decide_eq_true (by kernel_rfl)) (by unfold Func.isWrapper; first | (rw [if_pos (by decide +kernel)]; kernel_rfl) | (rw [if_neg (by decide +kernel)]; exact ⟨rfl,rfl⟩))
  (λos started H enc _=>lifted os started H enc)
theorem proved:Rows.DriveStringsCardSaid :=
 Claim7.holds_tied_plain_at .later [] [.data, .data, .data, .data, .sentinel, .sentinel, .pinned] true (true, "b047576e82b3618035bcd12881f37f9051199a02151335b10545a8d28bc60f06") true
  said (λ_ h=>by cases h) (by kernel_rfl) (λ_ h=>by cases h) driveStrings_row_tie rfl ⟨rfl,rfl⟩ (by kernel_rfl) rfl
  (λf fn hf hfn=>by
   obtain rfl : f = 6 := Option.some.inj ((show Tryz.prog.funcNamed "ductility/ductilitylaw04.DriveStrings" = some 6 by kernel_rfl).symm.trans hf) |>.symm
   obtain rfl:fn = Tryz.f6:=(Option.some.inj (Tryz.func6.symm.trans hfn)).symm;exact ⟨by kernel_rfl,λj t ht=>by
    have hp:Tryz.f6.params = #[22,27,9]:=by kernel_rfl
    rw [hp] at ht;rcases j with _ | _ | _ | j
    ·simp at ht; subst ht; exact (show Tryz.prog.wantsStandIn 22 = false by kernel_rfl)
    ·simp at ht; subst ht; exact (show Tryz.prog.wantsStandIn 27 = false by kernel_rfl)
    ·simp at ht; subst ht; exact (show Tryz.prog.wantsStandIn 9 = false by kernel_rfl)
    ·simp at ht⟩)
  (by kernel_rfl)
end Go.Proofs.YteiciemjanhdcaaGreatDoor.driveStrings
end
