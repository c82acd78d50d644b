/-
  ONE LAW OF A CHAPTER: its program side is run by an interpreter that is proved sound; what it computes is shown to be what the law says. No conditions. Part 7 of 8.
-/
import Derived.Test.YtkcaaaiihhhnmaaGreatDoorMTGf
import Derived.Test.YtkcaaaiihhhnmaaGreatDoorRows
import Derived.WalkKit
import Derived.Shelf.Strings.Split
import Derived.Lib.TrailingZeros
import Derived.Test.YtkcaaaiihhhnmaaGreatDoorProg
import Derived.KernelRfl
import Derived.Shelf.Spec.TrailingZeros
import Derived.ProofKit
import Derived.LaidMore
import Derived.OpenShut
import Derived.Stop.Joined
import Derived.Stop.LaidErr
import Derived.Lib.LaidTab
import Derived.Shelf.Vars
import Derived.ChangeArms
import Derived.HandedShaped
import Derived.Lib.AtoiAll
import Derived.Lib.ItoaNum
import Derived.Lib.Strings
import Derived.Lib.Join
import Derived.Lib.IndexMore
import Derived.Lib.Split
import Derived.Lib.SplitLaws
set_option linter.unusedSimpArgs false
set_option linter.unusedVariables false
set_option linter.unnecessarySimpa false
section
namespace Go.Tx
open Go Go.Ab Go.RowKit Go.ChangeShapes Go.WideShapes Go.Deep
section
variable {H:Type} {enc:TypeId × Value->H} {P:Program}
theorem qrO{f:Func}{s:ChangeSpec}{apart fresh handsOn again:Bool}{W W':World}{args:Array Value}{v:Value}{ds gs:List (DataW H)}{before pa pv:List MemPlace}
  (hW:DataW.Whole enc P f.params.toList s.vars apart W args.toList ds gs before)
  (hres:∀(b:Nat) (sp:Nat->Bool) (hd:Bool),DataW.TrodAll enc P W' b sp hd f.resultTypes.toList (v.resultList f.resultTypes.size) (s.fn H (ds++gs)).results [])
  (hargs:∀sp:Nat->Bool,(∀p∈before,sp p.block=true)->DataW.TrodAll enc P W' 0 sp true f.params.toList args.toList (s.fn H (ds++gs)).args pa)
  (hvars:∀sp:Nat->Bool,(∀p∈before,sp p.block=true)->DataW.TrodVars enc P W' sp s.vars (s.fn H (ds++gs)).vars pv)
  (hps:before=pa++pv) (hb:Below W.heap.size W W')
  (hok:∀(j:Nat) (t:TypeId) (r:Value),f.resultTypes[j]?=some t->(v.resultList f.resultTypes.size)[j]?=some r->Value.okWide P W' .any 0 t r) :
  s.post enc P f apart fresh handsOn again W args v W':=by
 have hlt:∀p∈before,p.block<W.heap.size:=λp hp=>hW.lt p hp;have hold:∀p∈before,(λb=>decide (b<W.heap.size)) p.block=true:=λp hp=>by simpa using hlt p hp
 refine ⟨ds,gs,before,[],pa,pv,hW,hres _ _ _,hargs _ hold,hvars _ hold,World.keptBut_mono (λp hp=>⟨hp,?_⟩) (hb.frame (·∈before)),λ_=>?_⟩
 ·rw [hps,qj]at hp;exact Or.inr hp
 ·obtain ⟨_,_,_,_,_,hz,hn⟩:=hW;refine ⟨hok,_,_,([]++pa)++pv,⟨[]++pa,pv,trodAll_append (hargs _ (λ_ _=>rfl)) (hres _ _ _),hvars _ (λ_ _=>rfl),rfl,?_,?_⟩,?_⟩
  ·intro b off hp;have hin:MemPlace.cell b off∈before:=by rw [hps];simpa using hp
   rw [hb.frozen (hlt _ hin)];exact hz b off hin
  ·intro ha;have:=hn ha;rw [hps]at this;simpa using this
  ·intro p hp _;rw [hps];simpa using hp
theorem qpp:∀{ts:List TypeId} {vs:List Value} {ds:List (DataW H)} {ps:List MemPlace} {w:World} {b:Nat} {sp:Nat->Bool} {hd:Bool},DataW.TrodAll enc P w b sp hd ts vs ds ps->ds.length=ts.length
 |[],[],[],_,_,_,_,_,_=>rfl
 |[],[],d::ds,_,_,_,_,_,h=>h.elim
 |[],v::vs,_,_,_,_,_,_,h=>by cases h
 |t::ts,[],_,_,_,_,_,_,h=>by cases h
 |t::ts,v::vs,[],_,_,_,_,_,h=>by cases h
 |t::ts,v::vs,d::ds,ps,w,b,sp,hd,⟨p,q,h1,h2,e⟩=>by simp [qpp h2]
end
theorem qFi{H:Type}:Sm (H:=H) maxLen (λ_=>True) where
 slice:=λes sp _ h=>⟨h,λ_ _=>trivial⟩
 agg:=λ_ _ _ _=>trivial
 str:=λ_ _ h=>h
theorem qtj{P:Program}{H0:Hints}{lib:FuncId->Option (List V->Option V)}(hm:P.follows .mixedOrders=true)(qcT:qjY P H0)
  (qxC:∀g h args r,lib g=some h->h args=some r->qaB P g args [] r []) (hl:laidOutB P=true) {k:FuncId} {fn:Func} (hfn:P.funcs[k]?=some fn) (hbody:fn.body.isSome=true)
  {ts:List TypeId} {τs:List Ty} (hps:fn.params.toList=ts) (hts:ts.mapM (qDz P)=some τs) (hok:ts.all (okT P 10)=true) (hrd:ts.all (λt=>P.readableRec t&&decide (t<P.types.size))=true)
  {tb:TypeId} (hres:fn.resultTypes=#[tb]) (htb:P.underlying tb=some .bool) {F:denP (τs.map .ty)->Option Bool}
  (he:qaU P H0 lib ⟨k,τs.map .ty,[(.bool,0)],F⟩) (hF:∀x,qEG maxLen τs x->F x=some true)
  {s:ChangeSpec} (hv:s.vars=[]) (hs:∀(H:Type) (ds:List (DataW H)),ds.length=ts.length->s.fn H ds={results:=[.lit (.bool true)],args:=ds})
  (H:Type) (enc:TypeId×Value->H) (W:World) (base:Nat) (args:Array Value) (ds gs:List (DataW H)) (before:List MemPlace)
  (hval:∀(j:Nat) t v,fn.params[j]?=some t->args[j]?=some v->Value.okWide P W .any base t v)
  (hW:DataW.Whole enc P fn.params.toList s.vars false W args.toList ds gs before) (hgl:qgu W (cx0 W)) :
  Calls P k args W λe W'=>∃v,e=.returned v/\s.post enc P fn false true false false W args v W':=by
 have hW':=hW;have hlt:∀p∈before,p.block<W.heap.size:=λp hp=>hW.lt p hp;obtain ⟨p,q,hA,hV,rfl,hfz,hnd⟩:=hW;rw [hv]at hV;obtain ⟨rfl,rfl⟩:=trodVars_none hV;rw [hps]at hA;have hlen:=qpp hA;have hval':∀(j:Nat) t v,ts[j]?=some t->args.toList[j]?=some v->Value.okWide P W .any base t v:=λj t v h1 h2 =>
  hval j t v (by rw [<- hps]at h1;simpa using h1) (by simpa using h2)
 refine (qzO hm qcT qxC hl qFi hfn hbody hts hok he hF hval' hA (λ_ _=>trivial) hgl).mono λe W' ⟨h1,hb⟩=>?_;subst h1;have hfs:s.fn H (ds++[])={results:=[.lit (.bool true)],args:=ds}:=by rw [List.append_nil];exact hs H ds hlen
 refine ⟨_,rfl,qrO (pa:=p) (pv:=[]) hW' ?_ ?_ ?_ rfl hb ?_⟩
 ·intro b sp hd;rw [hfs,hres];exact trodAll_mk1 (shut_bool htb true)
 ·intro sp hsp;rw [hfs,hps];exact qkY hl hb hrd hA (λx hx=>hlt x (by simpa using hx)) sp (λx hx=>hsp x (by simpa using hx))
 ·intro sp _;rw [hfs,hv];rfl
 ·exact ok_one hres rfl (okWide_bool_mk htb true)
end Go.Tx
namespace Go.Proofs.YtkcaaaiihhhnmaaGreatDoor
open Go Go.Ab Go.Tx
theorem own:ownKnob Tryz.prog.godebug=none:=by kernel_rfl
theorem qBZ:laidOutB Tryz.prog=true:=by kernel_rfl
end Go.Proofs.YtkcaaaiihhhnmaaGreatDoor
end
section
namespace Go.Ab
open Go Go.RowKit Go.Shelf Go.Proofs
section
variable {P:Program}
theorem qpl:∀xs:List ByteArray,ptrsL (xs.map λx=>V.val (.string x))=[]
 |[]=>rfl
 |x::l=>by simp [ptrsL,V.qt,qpl l]
theorem qt6{w:World}{X:Cx}:∀xs:List ByteArray,RepE w X 1 (xs.map λx=>V.val (.string x)) (xs.map Value.string) []
 |[]=>by simp [RepE]
 |x::l=>by
  simp only [qh,RepE];exact ⟨.string x,l.map Value.string,[],[],by simp [Value.cells],by simp [Value.cells],rfl,by simp [Rep],qt6 l⟩
theorem qy3{g:FuncId}{args:List V}(xs:List ByteArray)(h:∀(w:World) (X:Cx) (vals:List Value),RepL w X args vals []->qgu w X->Dom w X ->
  (callFunc g vals.toArray).run P w=.ok (.enter g vals.toArray) w/\Calls P g vals.toArray w λe w'=>e=.returned (.slice (some ⟨w.heap.size,0,none⟩) xs.length xs.length)/\∃t,w'=w.alloc (.cells (xs.map Value.string).toArray t)) :
  qaB P g args [] (.sl .shared true (xs.map λx=>.val (.string x))) []:=by
 intro w X vals O h1 h2 h3 _ _;obtain ⟨h4,h5⟩:=h w X vals h1 h2 h3.dom;refine .inl ⟨h4,h5.mono ?_⟩;rintro e w' ⟨rfl,t,rfl⟩;have hnew:(w.alloc (.cells (xs.map Value.string).toArray t)).heap[w.heap.size]?=some (.cells (xs.map Value.string).toArray t):=by
  show (w.heap.push _)[w.heap.size]?=_;exact Array.getElem?_push_size
 have hold:∀b,b<w.heap.size->(w.alloc (.cells (xs.map Value.string).toArray t)).heap[b]?=w.heap[b]?:=λb hb=>by
  show (w.heap.push _)[b]?=_;rw [Array.getElem?_push,if_neg (by omega)]
 have hsz:(w.alloc (.cells (xs.map Value.string).toArray t)).heap.size=w.heap.size+1:=Array.size_push _;refine ⟨_,rfl,{X with ω:=λb=>if b=w.heap.size then some (xs.length,true)else X.ω b},O,[],?_,?_,Lin.nil,λ_ _ hb=>absurd hb (by simp),λq hq=>absurd hq (by simp [V.qt,qpl]),rfl,λ_=>rfl,?_⟩
 ·simp only [Rep];refine ⟨qpl xs,.inr ⟨w.heap.size,0,xs.length,1,xs.map Value.string,[],by simp,by simp,λ_=>by simp,by simp,by omega,?_,?_,?_,qt6 xs,λh=>(by cases h),λ_=>⟨trivial,rfl⟩⟩⟩
  ·intro x hx;obtain ⟨y,_,rfl⟩:=List.mem_map.1 hx;rfl
  ·intro i v hi;simp only [World.cell?,hnew,Nat.zero_add];simpa using hi
  ·exact ⟨xs.length,true,by simp,by simp,rfl⟩
 ·exact {
      box:=λr c hc=>by simp [qa6]at hc,boxD:=h3.boxD,inj:=λr r' b h1=>by simp [qa6]at h1,lin:=h3.lin,dis:=h3.dis,ptrB:=λr c hc=>by simp [qa6]at hc,up:=λr c hc=>by simp [qa6]at hc,
      dom:=λb e fz hω=>by
       simp only at hω;rw [hsz];split at hω
       ·omega
       ·have:=h3.dom b e fz hω;omega}
 ·have hne:∀b e fz,X.ω b=some (e,fz)->b≠w.heap.size:=λb e fz hω=>by have:=h3.dom b e fz hω;omega
  refine ⟨by omega,λb hb _=>⟨hold b hb,by simp only;rw [if_neg (by omega)]⟩,λb e fz hω=>⟨e,fz,by simp only;rw [if_neg (hne b e fz hω)];exact hω,Nat.le_refl _,λh=>h,λi v _ hc=>?_⟩,λ_ _=>rfl,?_,rfl,rfl,rfl⟩
  ·rw [cell_of_heap (hold b (h3.dom b e fz hω))];exact hc
  ·rintro b (hb|⟨q,hb⟩)
   ·exact absurd hb (by simp)
   ·exact .inr (.inr ⟨q,hb⟩)
theorem qCN{ρ:Ren}(L:Lays.n146 P ρ)(hi9:(P.info? (ρ.t 9)).map (λi=>(i.zero,i.size,i.bytes))=some (some (.string ByteArray.empty),1,16))(hen:Enters P (ρ.f 146))(hm:∀(w:World) (X:Cx),qgu w X->∃m,w.cell? ⟨ρ.g 1,0,none⟩=some (.int .i64 m))(s p:ByteArray)(hs:s.size<4294967281)(h1:1<=p.size) :
  qaB P (ρ.f 146) [.val (.string s),.val (.string p)] [] (.sl .shared true ((Lib.splitB p 0 (Lib.countB s p) s).map λx=>.val (.string x))) []:=by
 refine qy3 _ λw X vals hr hg _=>?_;obtain rfl:=qo4 hr;obtain ⟨m,hm⟩:=hm w X hg;have hlen:=Lib.splitB_all p h1 0 _ s rfl;refine ⟨hen _ _,(Any.strings_Split L hi9 s p m w hs hm h1).mono ?_⟩;rintro e w' ⟨rfl,rfl⟩;rw [hlen];exact ⟨rfl,_,rfl⟩
end
end Go.Ab
end
section
namespace Go.Proofs.YtkcaaaiihhhnmaaGreatDoor
open Go Go.Ab Go.Tx
section
set_option maxRecDepth 100000
noncomputable section
@[reducible] def I:Ty:=.int .i64
@[reducible] def w64 (n:Int):Int:=IntKind.wrap .i64 n
def qrz:List (List Tmp×FuncId×Kind×Join)->List Tmp->FuncId->Kind->Option Join
 |[],_,_,_=>none
 |(c,f,k,j)::l,c',f',k'=>if f=f' then (if k=k' then (if c=c' then some j else qrz l c' f' k')else qrz l c' f' k')else qrz l c' f' k'
def strconv_Itoa(n:Int):Option (List UInt8):=if -9223372036854775808<=n/\n<=9223372036854775807 then some (Lib.itoa n)else none
def qDI(s:List UInt8):Int×Bool:=match Lib.atoiAll s with
 |.ok v=>(v,true)
 |.range=>(Lib.atoiSat s,false)
 |_=>(0,false)
def strconv_Atoi(s:List UInt8):Option (Int×Bool):=if s.length<=281474976710656 then some (qDI s)else none
def strings_Join(l:List (List UInt8))(sep:List UInt8):Option (List UInt8):=if l.length<=140737488355328/\(Lib.join l sep).length<=140737488355328 then some (Lib.join l sep)else none
def strings_Index(s p:List UInt8):Option Int:=if s.length<4294967281 then some (Lib.index s p)else none
def qFj(s p:List UInt8):List (List UInt8):=(Lib.splitB ⟨p.toArray⟩ 0 (Lib.countB ⟨s.toArray⟩ ⟨p.toArray⟩) ⟨s.toArray⟩).map λx=>x.data.toList
def strings_Split(s p:List UInt8):Option (List (List UInt8)):=if s.length<4294967281/\1<=p.length then some (qFj s p)else none
def qda(n:Int):Option Int:=if 0<=n/\n<18446744073709551616 then some (Lib.ctz 64 n.toNat:Nat)else none
def qsZ:List V->Option V
 |[.val (.string s),.val (.string p)]=>if s.size<4294967281/\1<=p.size then some (.sl .shared true ((Lib.splitB p 0 (Lib.countB s p) s).map λx=>.val (.string x)))else none
 |_=>none
def hTz:List V->Option V
 |[.val (.int .u64 n)]=>(qda n).map λr=>.val (.int .i64 r)
 |_=>none
def qzs:List V->Option V
 |[.val (.int .i64 n)]=>(strconv_Itoa n).map λs=>.val (.string ⟨s.toArray⟩)
 |_=>none
def qzq:List V->Option V
 |[.val (.string s)]=>if s.size<=281474976710656 then some (qyU 281 s.data.toList)else none
 |_=>none
def qzt:List V->Option V
 |[.sl _ _ l,.val (.string sep)]=>(qgr l).bind λxs=>(strings_Join xs sep.data.toList).map λs=>.val (.string ⟨s.toArray⟩)
 |_=>none
def qsY:List V->Option V
 |[.val (.string s),.val (.string p)]=>if s.size<4294967281 then some (.val (.int .i64 (Lib.index s.data.toList p.data.toList)))else none
 |_=>none
def qDi:List V->Option V
 |[]=>some (.val (.bool true))
 |_=>none
def qF0:List (FuncId×(List V->Option V)):=[(39,qDi),(82,qzs),(147,qzq),(81,qzt),(136,qsY),(83,qsZ),(121,hTz)]
def qB2:List (FuncId×(List V->Option V))->FuncId->Option (List V->Option V)
 |[],_=>none
 |(k,h)::l,g=>if g=k then some h else qB2 l g
def Lb:FuncId->Option (List V->Option V):=qB2 qF0
def qcn(js:List (List Tmp×FuncId×Kind×Join))(inl:List (List Tmp×FuncId×Tmp)):TH where
 lib:=λg=>(Lb g).isSome
 join:=qrz js
 inl:=λc f d=>inl.any λ(c',f',d')=>decide (f=f')&&decide (d=d')&&decide (c=c')
theorem hJ{js:List (List Tmp×FuncId×Kind×Join)}{inl:List (List Tmp×FuncId×Tmp)}:∀g,(qcn js inl).lib g=false->Lb g=none:=λg h=>by
 simpa [qcn]using h
theorem qga{e:Entry}{h:List V->Option V}(hl:Lb e.g=some h)(hx:∀x y,e.F x=some y->∀vs,RVL (qde e.ps x) vs->∃v,h vs=some v/\RV (qiS e.rs y) v):qaU Tryz.prog Hn.hints Lb e:=λx y hy vs hv=>by
 obtain ⟨v,h1,h2⟩:=hx x y hy vs hv;refine ⟨v,⟨1,λm hm=>?_⟩,h2⟩;obtain ⟨m',rfl⟩:∃m',m=m'+1:=⟨m-1,by omega⟩
 simp [qsh,hl,h1]
def qcx:Entry:=⟨82,[.ty I],[(.str,0)],λx=>strconv_Itoa x⟩
theorem qi4:qaU Tryz.prog Hn.hints Lb qcx:=qga (h:=qzs) rfl λx y hy vs hv=>by
 simp only [qcx]at hy hv x y;simp only [qde,qBl,ofTy,RVL,RV,RTy]at hv;obtain ⟨v,l,rfl,rfl,rfl⟩:=hv;exact ⟨.val (.string ⟨y.toArray⟩),by simp [qzs,hy],by simp [qiS,qcx,ofL,qbg,ofTy,RV,RTy]⟩
def qdV:Entry:=⟨147,[.ty .str],[(I,0),(.err,0)],λx=>strconv_Atoi x⟩
theorem qpD:qaU Tryz.prog Hn.hints Lb qdV:=qga (h:=qzq) rfl λx y hy vs hv=>by
 simp only [qdV]at hy hv x y;simp only [qde,qBl,ofTy,RVL,RV,RTy]at hv;obtain ⟨v,l,rfl,rfl,rfl⟩:=hv;unfold strconv_Atoi at hy;split at hy
 ·rename_i hl;cases hy;refine ⟨qyU 281 x,?_,?_⟩
  ·have:(⟨x.toArray⟩:ByteArray).size<=281474976710656:=by simpa [ByteArray.size]using hl
   simp only [qzq];rw [if_pos this]
  ·unfold qyU qDI;cases Lib.atoiAll x<;>simp [qiS,qdV,ofL,qbg,ofTy,RV,RTy,RVL]
   all_goals exact ⟨_,_,⟨rfl,rfl⟩,rfl,_,rfl,_,rfl⟩
 ·cases hy
theorem qAV{τ:Nat}:∀{l:List (List UInt8)} {l':List V},All2 (RTy .str τ) l l'->qgr l'=some l:=by
 intro l l' h;induction h with
 |nil=>rfl
 |cons h1 _ ih=>simp only [RTy]at h1;subst h1;simp [qgr,ih]
def qdW:Entry:=⟨81,[.ty (.sl .str),.ty .str],[(.str,0)],λx=>strings_Join x.1 x.2⟩
theorem qpE:qaU Tryz.prog Hn.hints Lb qdW:=qga (h:=qzt) rfl λx y hy vs hv=>by
 simp only [qdW]at hy hv x y;simp only [qde,qBl,ofTy,RVL,RV,RTy]at hv;obtain ⟨v,l,rfl,⟨f,c,l',rfl,_,hall⟩,v2,l2,rfl,rfl,rfl⟩:=hv;have hs:qgr l'=some x.1:=qAV (τ:=0) (hall.mono λa b h=>by simpa only [RTy]using h);exact ⟨.val (.string ⟨y.toArray⟩),by simp [qzt,hs,hy],by simp [qiS,qdW,ofL,qbg,ofTy,RV,RTy]⟩
def qc3:Entry:=⟨136,[.ty .str,.ty .str],[(I,0)],λx=>strings_Index x.1 x.2⟩
theorem qoM:qaU Tryz.prog Hn.hints Lb qc3:=qga (h:=qsY) rfl λx y hy vs hv=>by
 simp only [qc3]at hy hv x y;simp only [qde,qBl,ofTy,RVL,RV,RTy]at hv;obtain ⟨v,l,rfl,rfl,v2,l2,rfl,rfl,rfl⟩:=hv;unfold strings_Index at hy;split at hy
 ·rename_i hl;cases hy;refine ⟨.val (.int .i64 (Lib.index x.1 x.2)),?_,by simp [qiS,qc3,ofL,qbg,ofTy,RV,RTy]⟩;have:(⟨x.1.toArray⟩:ByteArray).size<4294967281:=by simpa [ByteArray.size]using hl
  simp only [qsY];rw [if_pos this]
 ·cases hy
theorem qt5{τ:Nat}:∀xs:List ByteArray,All2 (RTy .str τ) (xs.map λx=>x.data.toList) (xs.map λx=>V.val (.string x))
 |[]=>.nil
 |x::l=>.cons (by simp [RTy]) (qt5 l)
def qc4:Entry:=⟨83,[.ty .str,.ty .str],[(.sl .str,1000)],λx=>strings_Split x.1 x.2⟩
theorem qoN:qaU Tryz.prog Hn.hints Lb qc4:=qga (h:=qsZ) rfl λx y hy vs hv=>by
 simp only [qc4]at hy hv x y;simp only [qde,qBl,ofTy,RVL,RV,RTy]at hv;obtain ⟨v,l,rfl,rfl,v2,l2,rfl,rfl,rfl⟩:=hv;unfold strings_Split at hy;split at hy
 ·rename_i hl;cases hy;refine ⟨.sl .shared true ((Lib.splitB ⟨x.2.toArray⟩ 0 (Lib.countB ⟨x.1.toArray⟩ ⟨x.2.toArray⟩) ⟨x.1.toArray⟩).map λx=>.val (.string x)),?_,?_⟩
  ·have:(⟨x.1.toArray⟩:ByteArray).size<4294967281/\1<=(⟨x.2.toArray⟩:ByteArray).size:=by simpa [ByteArray.size]using hl
   simp only [qsZ];rw [if_pos this]
  ·simp only [qiS,qc4,ofL,qbg,ofTy,RV,RTy];exact ⟨_,_,_,rfl,qhl rfl (by simp) (λ_=>rfl),(qt5 (τ:=nx 1000) _).mono λa b h=>by simpa only [RTy]using h⟩
 ·cases hy
def qfu:Option Bool:=some true
def qcd:Entry:=⟨39,[],[(.bool,0)],λ_=>qfu⟩
theorem qlQ:qaU Tryz.prog Hn.hints Lb qcd:=qga (h:=qDi) rfl λx y hy vs hv=>by
 obtain rfl:true=y:=Option.some.inj hy;simp only [qcd,qde,RVL]at hv;subst hv;exact ⟨.val (.bool true),rfl,by simp [qiS,qcd,ofL,qbg,ofTy,RV,RTy]⟩
end
end
end Go.Proofs.YtkcaaaiihhhnmaaGreatDoor
end
section
namespace Go.Proofs.YtkcaaaiihhhnmaaGreatDoor
open Go Go.Ab
def qDZ:Go.Shelf.Ren:=⟨λ| 27=>121|28=>180|29=>181|n=>n,λ| 25=>175|3=>3|27=>244|22=>246|4=>4|53=>267|0=>0|5=>5|54=>268|n=>n,λ| 0=>0|1=>1|n=>n⟩
theorem l27:Lays7.n27 Tryz.prog qDZ where
 mixed:=by kernel_rfl
 f27:=Tryz.func121.trans (congrArg some (by kernel_rfl))
 f28:=Tryz.func180.trans (congrArg some (by kernel_rfl))
 f29:=Tryz.func181.trans (congrArg some (by kernel_rfl))
 t0:=Tryz.underlying0
 a0:=Tryz.isAgg0
 z0:=Tryz.sizeOf0
 v0:=Tryz.zeroValue0
 i0:=by kernel_rfl
 t3:=Tryz.underlying3
 a3:=Tryz.isAgg3
 z3:=Tryz.sizeOf3
 v3:=Tryz.zeroValue3
 i3:=by kernel_rfl
 t4:=Tryz.underlying4
 a4:=Tryz.isAgg4
 z4:=Tryz.sizeOf4
 v4:=Tryz.zeroValue4
 i4:=by kernel_rfl
 t5:=Tryz.underlying5
 a5:=Tryz.isAgg5
 z5:=Tryz.sizeOf5
 v5:=Tryz.zeroValue5
 i5:=by kernel_rfl
 t22:=Tryz.underlying246
 a22:=Tryz.isAgg246
 z22:=Tryz.sizeOf246
 v22:=Tryz.zeroValue246
 i22:=by kernel_rfl
 t25:=Tryz.underlying175
 a25:=Tryz.isAgg175
 z25:=Tryz.sizeOf175
 v25:=Tryz.zeroValue175
 i25:=by kernel_rfl
 t27:=Tryz.underlying244
 a27:=Tryz.isAgg244
 z27:=Tryz.sizeOf244
 v27:=Tryz.zeroValue244
 i27:=by kernel_rfl
 t53:=Tryz.underlying267
 a53:=Tryz.isAgg267
 z53:=Tryz.sizeOf267
 v53:=Tryz.zeroValue267
 i53:=by kernel_rfl
 t54:=Tryz.underlying268
 a54:=Tryz.isAgg268
 z54:=Tryz.sizeOf268
 g0:=by kernel_rfl
 g1:=by kernel_rfl
theorem qxm{P:Program}{g:FuncId}{args:List V}{u:Value}(h:∀(w:World) (X:Cx) (vals:List Value),RepL w X args vals []->qgu w X->(callFunc g vals.toArray).run P w=.ok (.enter g vals.toArray) w/\Calls P g vals.toArray w λe w'=>e=.returned u/\w'=w) :
  qaB P g args [] (.val u) []:=by
 intro w X vals O h1 h2 h3 _ _;obtain ⟨h4,h5⟩:=h w X vals h1 h2;refine .inl ⟨h4,h5.mono ?_⟩;rintro e w' ⟨rfl,rfl⟩;refine ⟨u,rfl,X,O,[],⟨rfl,rfl⟩,h3,Lin.nil,λ_ _ hb=>absurd hb (by simp),λq hq=>absurd hq (by simp [V.qt]),rfl,λ_=>rfl,⟨Nat.le_refl _,λ_ _ _=>⟨rfl,rfl⟩,λb e fz hb=>⟨e,fz,hb,Nat.le_refl _,λh=>h,λ_ _ _ h=>h⟩,λ_ _=>rfl,?_,rfl,rfl,rfl⟩⟩;rintro b (hb|⟨q,hb⟩)
 ·exact absurd hb (by simp)
 ·exact .inr (.inr ⟨q,hb⟩)
theorem qBJ{w:World}{X:Cx}(h:qgu w X):TabAt 1 Lib.deBruijn64tab w:=by
 intro j hj;obtain ⟨arr,t,fr,h1,h2⟩:=quy h (b:=1) (p:=λa=>a=(Lib.deBruijn64tab.map λn:Nat=>Value.int .u8 (n:Int)).toArray) (by simp [qxz]);subst h2;have hl:Lib.deBruijn64tab.length=64:=by kernel_rfl
 simp only [World.cell?,h1];rw [List.getElem?_toArray,List.getElem?_map,List.getElem?_eq_getElem (by omega),List.getD,List.getElem?_eq_getElem (by omega)];rfl
theorem qFV(x:Nat)(hx:x<18446744073709551616):qaB Tryz.prog 121 [.val (.int .u64 x)] [] (.val (.int .i64 (Lib.ctz 64 x))) []:=by
 refine qxm λw X vals h1 h2=>?_;simp only [RepL,Rep]at h1;obtain ⟨u,vs,O1,O2,rfl,_,⟨rfl,_⟩,rfl,_⟩:=h1;refine ⟨Tn.enters Tryz.func121 (by kernel_rfl) (by kernel_rfl) _ _,?_⟩;exact Any7.bits_TrailingZeros l27 x hx w (λ_=>qBJ h2)
end Go.Proofs.YtkcaaaiihhhnmaaGreatDoor
end
section
namespace Go.Proofs.YtkcaaaiihhhnmaaGreatDoor
open Go Go.Ab Go.RowKit Go.Shelf
def qzM:Go.Shelf.Ren:=⟨λ| 171=>82|243=>132|246=>185|283=>210|284=>211|285=>212|286=>213|129=>178|317=>230|318=>231|319=>232|320=>121|337=>180|338=>181|n=>n,λ| 3=>3|9=>9|2=>2|4=>4|171=>272|0=>0|53=>246|37=>187|5=>5|173=>274|212=>287|51=>244|20=>20|213=>288|46=>175|232=>267|233=>268|n=>n,λ| 17=>3|18=>0|19=>1|n=>n⟩
theorem qFC:LaysM.n171 Tryz.prog qzM where
 mixed:=by kernel_rfl
 f129:=Tryz.func178.trans (congrArg some (by kernel_rfl))
 f171:=Tryz.func82.trans (congrArg some (by kernel_rfl))
 f243:=Tryz.func132.trans (congrArg some (by kernel_rfl))
 f246:=Tryz.func185.trans (congrArg some (by kernel_rfl))
 f283:=Tryz.func210.trans (congrArg some (by kernel_rfl))
 f284:=Tryz.func211.trans (congrArg some (by kernel_rfl))
 f285:=Tryz.func212.trans (congrArg some (by kernel_rfl))
 f286:=Tryz.func213.trans (congrArg some (by kernel_rfl))
 f317:=Tryz.func230.trans (congrArg some (by kernel_rfl))
 f318:=Tryz.func231.trans (congrArg some (by kernel_rfl))
 f319:=Tryz.func232.trans (congrArg some (by kernel_rfl))
 f320:=Tryz.func121.trans (congrArg some (by kernel_rfl))
 f337:=Tryz.func180.trans (congrArg some (by kernel_rfl))
 f338:=Tryz.func181.trans (congrArg some (by kernel_rfl))
 t0:=Tryz.underlying0
 a0:=Tryz.isAgg0
 z0:=Tryz.sizeOf0
 v0:=Tryz.zeroValue0
 t2:=Tryz.underlying2
 a2:=Tryz.isAgg2
 z2:=Tryz.sizeOf2
 v2:=Tryz.zeroValue2
 t3:=Tryz.underlying3
 a3:=Tryz.isAgg3
 z3:=Tryz.sizeOf3
 v3:=Tryz.zeroValue3
 t4:=Tryz.underlying4
 a4:=Tryz.isAgg4
 z4:=Tryz.sizeOf4
 v4:=Tryz.zeroValue4
 t5:=Tryz.underlying5
 a5:=Tryz.isAgg5
 z5:=Tryz.sizeOf5
 v5:=Tryz.zeroValue5
 t9:=Tryz.underlying9
 a9:=Tryz.isAgg9
 z9:=Tryz.sizeOf9
 v9:=Tryz.zeroValue9
 t20:=Tryz.underlying20
 a20:=Tryz.isAgg20
 z20:=Tryz.sizeOf20
 v20:=Tryz.zeroValue20
 t37:=Tryz.underlying187
 a37:=Tryz.isAgg187
 z37:=Tryz.sizeOf187
 v37:=Tryz.zeroValue187
 t46:=Tryz.underlying175
 a46:=Tryz.isAgg175
 z46:=Tryz.sizeOf175
 v46:=Tryz.zeroValue175
 t51:=Tryz.underlying244
 a51:=Tryz.isAgg244
 z51:=Tryz.sizeOf244
 v51:=Tryz.zeroValue244
 t53:=Tryz.underlying246
 a53:=Tryz.isAgg246
 z53:=Tryz.sizeOf246
 v53:=Tryz.zeroValue246
 t171:=Tryz.underlying272
 a171:=Tryz.isAgg272
 z171:=Tryz.sizeOf272
 v171:=Tryz.zeroValue272
 t173:=Tryz.underlying274
 a173:=Tryz.isAgg274
 z173:=Tryz.sizeOf274
 v173:=Tryz.zeroValue274
 t212:=Tryz.underlying287
 a212:=Tryz.isAgg287
 z212:=Tryz.sizeOf287
 v212:=Tryz.zeroValue287
 t213:=Tryz.underlying288
 a213:=Tryz.isAgg288
 z213:=Tryz.sizeOf288
 t232:=Tryz.underlying267
 a232:=Tryz.isAgg267
 z232:=Tryz.sizeOf267
 v232:=Tryz.zeroValue267
 t233:=Tryz.underlying268
 a233:=Tryz.isAgg268
 z233:=Tryz.sizeOf268
 v233:=Tryz.zeroValue268
 g17:=by kernel_rfl
 g18:=by kernel_rfl
 g19:=by kernel_rfl
 i0:=by kernel_rfl
 i2:=by kernel_rfl
 i3:=by kernel_rfl
 i4:=by kernel_rfl
 i5:=by kernel_rfl
 i9:=by kernel_rfl
 i20:=by kernel_rfl
 i37:=by kernel_rfl
 i46:=by kernel_rfl
 i51:=by kernel_rfl
 i53:=by kernel_rfl
 i171:=by kernel_rfl
 i173:=by kernel_rfl
 i212:=by kernel_rfl
 i232:=by kernel_rfl
 i233:=by kernel_rfl
 m17:=by kernel_rfl
 m18:=by kernel_rfl
 m19:=by kernel_rfl
def qou:Go.Shelf.Ren:=⟨λ| 172=>147|244=>197|245=>198|247=>224|279=>225|280=>226|281=>227|282=>228|287=>236|316=>237|171=>82|205=>238|321=>239|322=>240|243=>132|246=>185|283=>210|284=>211|285=>212|286=>213|129=>178|317=>230|318=>231|319=>232|320=>121|337=>180|338=>181|n=>n,λ| 9=>9|3=>3|75=>191|76=>192|4=>4|5=>5|167=>278|37=>187|0=>0|85=>279|2=>2|168=>281|53=>246|175=>296|46=>175|210=>300|127=>248|145=>305|143=>303|21=>21|171=>272|173=>274|212=>287|51=>244|20=>20|213=>288|232=>267|233=>268|80=>194|n=>n,λ| 15=>6|16=>7|17=>3|18=>0|19=>1|n=>n⟩
theorem qFB:LaysC.n172 Tryz.prog qou where
 mixed:=by kernel_rfl
 f129:=Tryz.func178.trans (congrArg some (by kernel_rfl))
 f171:=Tryz.func82.trans (congrArg some (by kernel_rfl))
 f172:=Tryz.func147.trans (congrArg some (by kernel_rfl))
 f205:=Tryz.func238.trans (congrArg some (by kernel_rfl))
 f243:=Tryz.func132.trans (congrArg some (by kernel_rfl))
 f244:=Tryz.func197.trans (congrArg some (by kernel_rfl))
 f245:=Tryz.func198.trans (congrArg some (by kernel_rfl))
 f246:=Tryz.func185.trans (congrArg some (by kernel_rfl))
 f247:=Tryz.func224.trans (congrArg some (by kernel_rfl))
 f279:=Tryz.func225.trans (congrArg some (by kernel_rfl))
 f280:=Tryz.func226.trans (congrArg some (by kernel_rfl))
 f281:=Tryz.func227.trans (congrArg some (by kernel_rfl))
 f282:=Tryz.func228.trans (congrArg some (by kernel_rfl))
 f283:=Tryz.func210.trans (congrArg some (by kernel_rfl))
 f284:=Tryz.func211.trans (congrArg some (by kernel_rfl))
 f285:=Tryz.func212.trans (congrArg some (by kernel_rfl))
 f286:=Tryz.func213.trans (congrArg some (by kernel_rfl))
 f287:=Tryz.func236.trans (congrArg some (by kernel_rfl))
 f316:=Tryz.func237.trans (congrArg some (by kernel_rfl))
 f317:=Tryz.func230.trans (congrArg some (by kernel_rfl))
 f318:=Tryz.func231.trans (congrArg some (by kernel_rfl))
 f319:=Tryz.func232.trans (congrArg some (by kernel_rfl))
 f320:=Tryz.func121.trans (congrArg some (by kernel_rfl))
 f321:=Tryz.func239.trans (congrArg some (by kernel_rfl))
 f322:=Tryz.func240.trans (congrArg some (by kernel_rfl))
 f337:=Tryz.func180.trans (congrArg some (by kernel_rfl))
 f338:=Tryz.func181.trans (congrArg some (by kernel_rfl))
 t0:=Tryz.underlying0
 a0:=Tryz.isAgg0
 z0:=Tryz.sizeOf0
 v0:=Tryz.zeroValue0
 t2:=Tryz.underlying2
 a2:=Tryz.isAgg2
 z2:=Tryz.sizeOf2
 v2:=Tryz.zeroValue2
 t3:=Tryz.underlying3
 a3:=Tryz.isAgg3
 z3:=Tryz.sizeOf3
 v3:=Tryz.zeroValue3
 t4:=Tryz.underlying4
 a4:=Tryz.isAgg4
 z4:=Tryz.sizeOf4
 v4:=Tryz.zeroValue4
 t5:=Tryz.underlying5
 a5:=Tryz.isAgg5
 z5:=Tryz.sizeOf5
 v5:=Tryz.zeroValue5
 t9:=Tryz.underlying9
 a9:=Tryz.isAgg9
 z9:=Tryz.sizeOf9
 v9:=Tryz.zeroValue9
 t20:=Tryz.underlying20
 a20:=Tryz.isAgg20
 z20:=Tryz.sizeOf20
 v20:=Tryz.zeroValue20
 t21:=Tryz.underlying21
 a21:=Tryz.isAgg21
 z21:=Tryz.sizeOf21
 v21:=Tryz.zeroValue21
 t37:=Tryz.underlying187
 a37:=Tryz.isAgg187
 z37:=Tryz.sizeOf187
 v37:=Tryz.zeroValue187
 t46:=Tryz.underlying175
 a46:=Tryz.isAgg175
 z46:=Tryz.sizeOf175
 v46:=Tryz.zeroValue175
 t51:=Tryz.underlying244
 a51:=Tryz.isAgg244
 z51:=Tryz.sizeOf244
 v51:=Tryz.zeroValue244
 t53:=Tryz.underlying246
 a53:=Tryz.isAgg246
 z53:=Tryz.sizeOf246
 v53:=Tryz.zeroValue246
 t75:=Tryz.underlying191
 a75:=Tryz.isAgg191
 z75:=Tryz.sizeOf191
 v75:=Tryz.zeroValue191
 t76:=Tryz.underlying192
 a76:=Tryz.isAgg192
 z76:=Tryz.sizeOf192
 v76:=Tryz.zeroValue192
 t85:=Tryz.underlying279
 a85:=Tryz.isAgg279
 z85:=Tryz.sizeOf279
 v85:=Tryz.zeroValue279
 t127:=Tryz.underlying248
 a127:=Tryz.isAgg248
 z127:=Tryz.sizeOf248
 v127:=Tryz.zeroValue248
 t143:=Tryz.underlying303
 a143:=Tryz.isAgg303
 z143:=Tryz.sizeOf303
 v143:=Tryz.zeroValue303
 t145:=Tryz.underlying305
 a145:=Tryz.isAgg305
 z145:=Tryz.sizeOf305
 v145:=Tryz.zeroValue305
 t167:=Tryz.underlying278
 a167:=Tryz.isAgg278
 z167:=Tryz.sizeOf278
 v167:=Tryz.zeroValue278
 t168:=Tryz.underlying281
 a168:=Tryz.isAgg281
 z168:=Tryz.sizeOf281
 v168:=Tryz.zeroValue281
 t171:=Tryz.underlying272
 a171:=Tryz.isAgg272
 z171:=Tryz.sizeOf272
 v171:=Tryz.zeroValue272
 t173:=Tryz.underlying274
 a173:=Tryz.isAgg274
 z173:=Tryz.sizeOf274
 v173:=Tryz.zeroValue274
 t175:=Tryz.underlying296
 a175:=Tryz.isAgg296
 z175:=Tryz.sizeOf296
 v175:=Tryz.zeroValue296
 t210:=Tryz.underlying300
 a210:=Tryz.isAgg300
 z210:=Tryz.sizeOf300
 v210:=Tryz.zeroValue300
 t212:=Tryz.underlying287
 a212:=Tryz.isAgg287
 z212:=Tryz.sizeOf287
 v212:=Tryz.zeroValue287
 t213:=Tryz.underlying288
 a213:=Tryz.isAgg288
 z213:=Tryz.sizeOf288
 t232:=Tryz.underlying267
 a232:=Tryz.isAgg267
 z232:=Tryz.sizeOf267
 v232:=Tryz.zeroValue267
 t233:=Tryz.underlying268
 a233:=Tryz.isAgg268
 z233:=Tryz.sizeOf268
 v233:=Tryz.zeroValue268
 g15:=by kernel_rfl
 g16:=by kernel_rfl
 g17:=by kernel_rfl
 g18:=by kernel_rfl
 g19:=by kernel_rfl
 t80:=Tryz.underlying194
 a80:=Tryz.isAgg194
 z80:=Tryz.sizeOf194
 v80:=Tryz.zeroValue194
 i0:=by kernel_rfl
 i2:=by kernel_rfl
 i3:=by kernel_rfl
 i4:=by kernel_rfl
 i5:=by kernel_rfl
 i9:=by kernel_rfl
 i20:=by kernel_rfl
 i21:=by kernel_rfl
 i37:=by kernel_rfl
 i46:=by kernel_rfl
 i51:=by kernel_rfl
 i53:=by kernel_rfl
 i75:=by kernel_rfl
 i76:=by kernel_rfl
 i80:=by kernel_rfl
 i85:=by kernel_rfl
 i127:=by kernel_rfl
 i143:=by kernel_rfl
 i145:=by kernel_rfl
 i167:=by kernel_rfl
 i168:=by kernel_rfl
 i171:=by kernel_rfl
 i173:=by kernel_rfl
 i175:=by kernel_rfl
 i210:=by kernel_rfl
 i212:=by kernel_rfl
 i232:=by kernel_rfl
 i233:=by kernel_rfl
 m15:=by kernel_rfl
 m16:=by kernel_rfl
 m17:=by kernel_rfl
 m18:=by kernel_rfl
 m19:=by kernel_rfl
 c0:=by kernel_rfl
 c2:=by kernel_rfl
 c3:=by kernel_rfl
 c4:=by kernel_rfl
 c5:=by kernel_rfl
 c9:=by kernel_rfl
 c20:=by kernel_rfl
 c21:=by kernel_rfl
 c37:=by kernel_rfl
 c46:=by kernel_rfl
 c51:=by kernel_rfl
 c53:=by kernel_rfl
 c75:=by kernel_rfl
 c76:=by kernel_rfl
 c80:=by kernel_rfl
 c85:=by kernel_rfl
 c127:=by kernel_rfl
 c143:=by kernel_rfl
 c145:=by kernel_rfl
 c167:=by kernel_rfl
 c168:=by kernel_rfl
 c171:=by kernel_rfl
 c173:=by kernel_rfl
 c175:=by kernel_rfl
 c210:=by kernel_rfl
 c212:=by kernel_rfl
 c213:=by kernel_rfl
 c232:=by kernel_rfl
 c233:=by kernel_rfl
def qti:Go.Shelf.Ren:=⟨λ| 156=>81|165=>131|166=>129|169=>130|240=>183|241=>184|276=>208|277=>209|n=>n,λ| 31=>22|9=>9|3=>3|4=>4|0=>0|20=>20|72=>189|76=>192|70=>186|37=>187|75=>191|127=>248|164=>269|5=>5|80=>194|n=>n,λn=>n⟩
theorem qFD:Lays.n156 Tryz.prog qti where
 mixed:=by kernel_rfl
 f156:=Tryz.func81.trans (congrArg some (by kernel_rfl))
 f165:=Tryz.func131.trans (congrArg some (by kernel_rfl))
 f166:=Tryz.func129.trans (congrArg some (by kernel_rfl))
 f169:=Tryz.func130.trans (congrArg some (by kernel_rfl))
 f240:=Tryz.func183.trans (congrArg some (by kernel_rfl))
 f241:=Tryz.func184.trans (congrArg some (by kernel_rfl))
 f276:=Tryz.func208.trans (congrArg some (by kernel_rfl))
 f277:=Tryz.func209.trans (congrArg some (by kernel_rfl))
 t0:=Tryz.underlying0
 a0:=Tryz.isAgg0
 z0:=Tryz.sizeOf0
 v0:=Tryz.zeroValue0
 t3:=Tryz.underlying3
 a3:=Tryz.isAgg3
 z3:=Tryz.sizeOf3
 v3:=Tryz.zeroValue3
 t4:=Tryz.underlying4
 a4:=Tryz.isAgg4
 z4:=Tryz.sizeOf4
 v4:=Tryz.zeroValue4
 t9:=Tryz.underlying9
 a9:=Tryz.isAgg9
 z9:=Tryz.sizeOf9
 v9:=Tryz.zeroValue9
 t20:=Tryz.underlying20
 a20:=Tryz.isAgg20
 z20:=Tryz.sizeOf20
 v20:=Tryz.zeroValue20
 t31:=Tryz.underlying22
 a31:=Tryz.isAgg22
 z31:=Tryz.sizeOf22
 v31:=Tryz.zeroValue22
 t37:=Tryz.underlying187
 a37:=Tryz.isAgg187
 z37:=Tryz.sizeOf187
 v37:=Tryz.zeroValue187
 t70:=Tryz.underlying186
 a70:=Tryz.isAgg186
 z70:=Tryz.sizeOf186
 v70:=Tryz.zeroValue186
 t72:=Tryz.underlying189
 a72:=Tryz.isAgg189
 z72:=Tryz.sizeOf189
 v72:=Tryz.zeroValue189
 t75:=Tryz.underlying191
 a75:=Tryz.isAgg191
 z75:=Tryz.sizeOf191
 v75:=Tryz.zeroValue191
 t76:=Tryz.underlying192
 a76:=Tryz.isAgg192
 z76:=Tryz.sizeOf192
 v76:=Tryz.zeroValue192
 t127:=Tryz.underlying248
 a127:=Tryz.isAgg248
 z127:=Tryz.sizeOf248
 v127:=Tryz.zeroValue248
 t164:=Tryz.underlying269
 a164:=Tryz.isAgg269
 z164:=Tryz.sizeOf269
 v164:=Tryz.zeroValue269
def qxO:Go.Shelf.Ren:=⟨λ| 143=>136|219=>189|217=>216|225=>217|224=>218|267=>219|266=>233|314=>234|n=>n,λ| 9=>9|3=>3|4=>4|5=>5|46=>175|146=>289|51=>244|n=>n,λ| 1=>2|n=>n⟩
theorem qEX:Lays.n143 Tryz.prog qxO where
 mixed:=by kernel_rfl
 f143:=Tryz.func136.trans (congrArg some (by kernel_rfl))
 f217:=Tryz.func216.trans (congrArg some (by kernel_rfl))
 f219:=Tryz.func189.trans (congrArg some (by kernel_rfl))
 f224:=Tryz.func218.trans (congrArg some (by kernel_rfl))
 f225:=Tryz.func217.trans (congrArg some (by kernel_rfl))
 f266:=Tryz.func233.trans (congrArg some (by kernel_rfl))
 f267:=Tryz.func219.trans (congrArg some (by kernel_rfl))
 f314:=Tryz.func234.trans (congrArg some (by kernel_rfl))
 t3:=Tryz.underlying3
 a3:=Tryz.isAgg3
 z3:=Tryz.sizeOf3
 v3:=Tryz.zeroValue3
 t4:=Tryz.underlying4
 a4:=Tryz.isAgg4
 z4:=Tryz.sizeOf4
 v4:=Tryz.zeroValue4
 t5:=Tryz.underlying5
 a5:=Tryz.isAgg5
 z5:=Tryz.sizeOf5
 v5:=Tryz.zeroValue5
 t9:=Tryz.underlying9
 a9:=Tryz.isAgg9
 z9:=Tryz.sizeOf9
 v9:=Tryz.zeroValue9
 t46:=Tryz.underlying175
 a46:=Tryz.isAgg175
 z46:=Tryz.sizeOf175
 v46:=Tryz.zeroValue175
 t51:=Tryz.underlying244
 a51:=Tryz.isAgg244
 z51:=Tryz.sizeOf244
 v51:=Tryz.zeroValue244
 t146:=Tryz.underlying289
 a146:=Tryz.isAgg289
 z146:=Tryz.sizeOf289
 v146:=Tryz.zeroValue289
 g1:=by kernel_rfl
def qxP:Go.Shelf.Ren:=⟨λ| 146=>83|221=>133|268=>186|138=>187|143=>136|195=>214|197=>196|218=>215|219=>189|260=>223|217=>216|225=>217|224=>218|267=>219|266=>233|314=>234|n=>n,λ| 9=>9|31=>22|3=>3|4=>4|0=>0|105=>254|21=>21|5=>5|46=>175|119=>292|139=>295|138=>294|146=>289|51=>244|n=>n,λ| 1=>2|3=>4|4=>5|n=>n⟩
theorem qEY:Lays.n146 Tryz.prog qxP where
 mixed:=by kernel_rfl
 f138:=Tryz.func187.trans (congrArg some (by kernel_rfl))
 f143:=Tryz.func136.trans (congrArg some (by kernel_rfl))
 f146:=Tryz.func83.trans (congrArg some (by kernel_rfl))
 f195:=Tryz.func214.trans (congrArg some (by kernel_rfl))
 f197:=Tryz.func196.trans (congrArg some (by kernel_rfl))
 f217:=Tryz.func216.trans (congrArg some (by kernel_rfl))
 f218:=Tryz.func215.trans (congrArg some (by kernel_rfl))
 f219:=Tryz.func189.trans (congrArg some (by kernel_rfl))
 f221:=Tryz.func133.trans (congrArg some (by kernel_rfl))
 f224:=Tryz.func218.trans (congrArg some (by kernel_rfl))
 f225:=Tryz.func217.trans (congrArg some (by kernel_rfl))
 f260:=Tryz.func223.trans (congrArg some (by kernel_rfl))
 f266:=Tryz.func233.trans (congrArg some (by kernel_rfl))
 f267:=Tryz.func219.trans (congrArg some (by kernel_rfl))
 f268:=Tryz.func186.trans (congrArg some (by kernel_rfl))
 f314:=Tryz.func234.trans (congrArg some (by kernel_rfl))
 t0:=Tryz.underlying0
 a0:=Tryz.isAgg0
 z0:=Tryz.sizeOf0
 v0:=Tryz.zeroValue0
 t3:=Tryz.underlying3
 a3:=Tryz.isAgg3
 z3:=Tryz.sizeOf3
 v3:=Tryz.zeroValue3
 t4:=Tryz.underlying4
 a4:=Tryz.isAgg4
 z4:=Tryz.sizeOf4
 v4:=Tryz.zeroValue4
 t5:=Tryz.underlying5
 a5:=Tryz.isAgg5
 z5:=Tryz.sizeOf5
 v5:=Tryz.zeroValue5
 t9:=Tryz.underlying9
 a9:=Tryz.isAgg9
 z9:=Tryz.sizeOf9
 v9:=Tryz.zeroValue9
 t21:=Tryz.underlying21
 a21:=Tryz.isAgg21
 z21:=Tryz.sizeOf21
 v21:=Tryz.zeroValue21
 t31:=Tryz.underlying22
 a31:=Tryz.isAgg22
 z31:=Tryz.sizeOf22
 v31:=Tryz.zeroValue22
 t46:=Tryz.underlying175
 a46:=Tryz.isAgg175
 z46:=Tryz.sizeOf175
 v46:=Tryz.zeroValue175
 t51:=Tryz.underlying244
 a51:=Tryz.isAgg244
 z51:=Tryz.sizeOf244
 v51:=Tryz.zeroValue244
 t105:=Tryz.underlying254
 a105:=Tryz.isAgg254
 z105:=Tryz.sizeOf254
 v105:=Tryz.zeroValue254
 t119:=Tryz.underlying292
 a119:=Tryz.isAgg292
 z119:=Tryz.sizeOf292
 t138:=Tryz.underlying294
 a138:=Tryz.isAgg294
 z138:=Tryz.sizeOf294
 v138:=Tryz.zeroValue294
 t139:=Tryz.underlying295
 a139:=Tryz.isAgg295
 z139:=Tryz.sizeOf295
 v139:=Tryz.zeroValue295
 t146:=Tryz.underlying289
 a146:=Tryz.isAgg289
 z146:=Tryz.sizeOf289
 v146:=Tryz.zeroValue289
 g1:=by kernel_rfl
 g3:=by kernel_rfl
 g4:=by kernel_rfl
theorem qEW:Builder.Extra Tryz.prog qti where
 sizeBuilder:=by kernel_rfl
 liesBuilder:=by kernel_rfl
 t5:=Tryz.underlying5
 a5:=Tryz.isAgg5
 z5:=Tryz.sizeOf5
 v5:=Tryz.zeroValue5
 infoByte:=by kernel_rfl
 cellsByte:=by kernel_rfl
 sizeByte:=by kernel_rfl
 neB5:=by decide
theorem qFS {w : World} {X : Cx} (h : qgu w X) : Lib.TabIs Tryz.prog w "internal/strconv.uint64pow10" .u64 Lib.pow10Tab := qFm h (b := 3) (by simp [qxz]) (by kernel_rfl)
theorem qwe{w:World}{X:Cx}(h:qgu w X){b:Nat}(hm:(b,quK)∈qxz):∃ev,w.cell? ⟨b,0,none⟩=some ev/\(ev=.nilIface\/∃te pe,ev=.iface te pe):=by
 obtain ⟨arr,t,fr,h1,ev,h2,h3⟩:=quy h hm;exact ⟨ev,by simp [World.cell?,h1,h2],h3⟩
theorem qwr{w:World}{X:Cx}(h:qgu w X):∃m,w.cell? ⟨2,0,none⟩=some (.int .i64 m):=by
 obtain ⟨arr,t,fr,h1,m,h2⟩:=quy h (b:=2) (p:=qzC) (by simp [qxz]);exact ⟨m,by simp [World.cell?,h1,h2]⟩
theorem qBM{args:List V}{r:V}(h:qzs args=some r):qaB Tryz.prog 82 args [] r []:=by
 unfold qzs at h;split at h
 ·rename_i n;obtain ⟨s,hs,rfl⟩:=qc.1 h;unfold strconv_Itoa at hs;split at hs
  ·rename_i hn;cases hs;exact qDX qFC (λ_ _=>enters Tryz.func82 (by kernel_rfl) (by kernel_rfl) _ _) (λw X hg=>qFS hg) n hn.1 hn.2
  ·cases hs
 ·cases h
theorem qBL{args:List V}{r:V}(h:qzq args=some r):qaB Tryz.prog 147 args [] r []:=by
 unfold qzq at h;split at h
 ·rename_i s;split at h
  ·rename_i hs;cases h;exact qDJ qFB (λ_ _=>enters Tryz.func147 (by kernel_rfl) (by kernel_rfl) _ _) (λw X hg=>qwe hg (by simp [qxz,qou])) (λw X hg=>qwe hg (by simp [qxz,qou])) s hs
  ·cases h
 ·cases h
theorem qBN{args:List V}{r:V}(h:qzt args=some r):qaB Tryz.prog 81 args [] r []:=by
 unfold qzt at h;split at h
 ·rename_i f c l sep;obtain ⟨xs,hxs,h⟩:=qd.1 h;obtain ⟨s,hs,rfl⟩:=qc.1 h;unfold strings_Join at hs;split at hs
  ·rename_i hc;cases hs;exact qDY qFD qEW (λ_ _=>enters Tryz.func81 (by kernel_rfl) (by kernel_rfl) _ _) f c l xs sep hxs hc.1 hc.2
  ·cases hs
 ·cases h
theorem qzr{args:List V}{r:V}(h:qsY args=some r):qaB Tryz.prog 136 args [] r []:=by
 unfold qsY at h;split at h
 ·split at h
  ·rename_i hs;cases h;exact qBR qEX (λ_ _=>enters Tryz.func136 (by kernel_rfl) (by kernel_rfl) _ _) (λw X hg=>qwr hg) _ _ hs
  ·cases h
 ·cases h
theorem qzu{args:List V}{r:V}(h:qsZ args=some r):qaB Tryz.prog 83 args [] r []:=by
 unfold qsZ at h;split at h
 ·split at h
  ·rename_i hs;cases h;exact qCN qEY (by kernel_rfl) (λ_ _=>enters Tryz.func83 (by kernel_rfl) (by kernel_rfl) _ _) (λw X hg=>qwr hg) _ _ hs.1 hs.2
  ·cases h
 ·cases h
theorem qES{args:List V}{r:V}(h:hTz args=some r):qaB Tryz.prog 121 args [] r []:=by
 unfold hTz at h;split at h
 ·rename_i n;unfold qda at h;split at h
  ·rename_i hn;obtain ⟨k,rfl⟩:=Int.eq_ofNat_of_zero_le hn.1;cases h;exact qFV k (Int.ofNat_lt.1 hn.2)
  ·cases h
 ·cases h
theorem qtl:∀{l:List (FuncId×(List V->Option V))} {g:FuncId} {h:List V->Option V},qB2 l g=some h->(g,h)∈l
 |[],_,_,h=>by cases h
 |(k,f)::l,g,h,hh=>by
  unfold qB2 at hh;split at hh
  ·rename_i e;subst e;cases hh;exact List.mem_cons_self
  ·exact List.mem_cons_of_mem _ (qtl hh)
theorem qxC:∀g h args r,Lb g=some h->h args=some r->qaB Tryz.prog g args [] r []:=λg h args r hg hr=>by
 have hm:=qtl hg;simp only [qF0,qk,Prod.mk.injEq,List.mem_nil_iff,or_false]at hm;rcases hm with ⟨rfl,rfl⟩|⟨rfl,rfl⟩|⟨rfl,rfl⟩|⟨rfl,rfl⟩|⟨rfl,rfl⟩|⟨rfl,rfl⟩|⟨rfl,rfl⟩
 ·cases args with
  |nil=>cases hr;exact qBs
  |cons a l=>cases hr
 ·exact qBM hr
 ·exact qBL hr
 ·exact qBN hr
 ·exact qzr hr
 ·exact qzu hr
 ·exact qES hr
end Go.Proofs.YtkcaaaiihhhnmaaGreatDoor
end
section
namespace Go
variable {H:Type} {enc:TypeId × Value->H}
theorem qek{a:Assume}{C:Checked}{os:Os}{f:FuncId}{fn:Func}{s:ChangeSpec}{conds:List PathCond}{apart fresh handsOn again:Bool}{X:World->Array Value->Prop}
  (hX:∀(w w':World) (args:Array Value),w.heap=w'.heap->X w args->X w' args)
  (own:ownKnob C.prog.godebug=none) (started:os.Started) (noInit:C.prog.inits.idxOf? f=none) (hfn:C.prog.funcs[f]?=some fn)
  (witness:∃(w:World) (tape:Tape) (i:Input),w.os=os/\(w.forCall tape i).Shaped C.prog/\i.vars=[]/\Input.okWide C.prog (w.forCall tape i) .any w.heap.size f i /\
   ((s.pre enc C.prog fn conds apart (w.forCall tape i).memory i.args/\X (w.forCall tape i).memory i.args)/\sizedMet enc C.prog fn (OpenSpec.ofChange s) apart (w.forCall tape i).memory i.args)/\a.holds C.prog (lone (Frame.enter C.prog f i.args .normal) [] (w.forCall tape i)))
  (contract:∀(W:World) (base:Nat) (args:Array Value) (ds gs:List (DataW H)) (before:List MemPlace),
   (∀(j:Nat) t v,fn.params[j]?=some t->args[j]?=some v->Value.okWide C.prog W .any base t v) ->
   DataW.Whole enc C.prog fn.params.toList s.vars apart W args.toList ds gs before ->
   W.ShapedOpen C.prog->X W args ->
   Calls C.prog f args W λe W'=>∃v,e=.returned v/\s.post enc C.prog fn apart fresh handsOn again W args v W') :
  ReturnsInHanded a C os f .any (λw args=>(s.pre enc C.prog fn conds apart w args/\X w args)/\sizedMet enc C.prog fn (OpenSpec.ofChange s) apart w args) (s.post enc C.prog fn apart fresh handsOn again):=by
 refine returnsInHanded_of_calls own started noInit witness ?_;intro w tape i _ hsh _ hok hpre hholds;obtain ⟨_,_,_,fn',hfn',_,_,_,_,hval⟩:=hok;have e:fn'=fn:=Option.some.inj (hfn'.symm.trans hfn);subst e;obtain ⟨⟨⟨ds,gs,before,hw,hc⟩,hx⟩,hz⟩:=hpre;have hw':=DataW.Whole.of_heap (w':=w.forCall tape i) (by rfl) hw;refine (contract (w.forCall tape i) w.heap.size i.args ds gs before hval hw' hsh (hX _ _ _ (by rfl) hx)).mono λe W' ⟨v,he,hp⟩=>?_;subst he;exact ChangeSpec.post_blind hp
end Go
namespace Go.Proofs.YtkcaaaiihhhnmaaGreatDoor
open Go Go.Ab Go.Tx Go.ChangeShapes Go.WideShapes Go.ChangeAt Go.WideMaps Go.WideElems Go.RowKit
def qjv : List (String × DataW Unit) := [("math/bits.deBruijn32tab", Rows.laid_math_bits_deBruijn32tab), ("math/bits.deBruijn64tab", Rows.laid_math_bits_deBruijn64tab), ("internal/strconv.uint64pow10", Rows.laid_internal_strconv_uint64pow10), ("unicode/utf8.acceptRanges", Rows.laid_unicode_utf8_acceptRanges), ("strconv.ErrRange", Rows.laid_strconv_ErrRange), ("strconv.ErrSyntax", Rows.laid_strconv_ErrSyntax), ("unicode/utf8.first", Rows.laid_unicode_utf8_first)]
theorem g0 : Tryz.prog.globalNamed "math/bits.deBruijn64tab" = some 1 := by kernel_rfl
theorem g1 : Tryz.prog.globalNamed "internal/strconv.uint64pow10" = some 3 := by kernel_rfl
theorem g2 : Tryz.prog.globalNamed "strconv.ErrSyntax" = some 6 := by kernel_rfl
theorem g3 : Tryz.prog.globalNamed "strconv.ErrRange" = some 7 := by kernel_rfl
theorem star : "*" ++ "errors.errorString" = "*errors.errorString" := by decide
theorem qDs (u : TypeId) (h : Tryz.prog.typeName? 3 u = some "*errors.errorString") : u = 303 :=
 typeName_ptr_named (nm := "errors.errorString") (by rw [star]; kernel_rfl) (by kernel_rfl) (by decide) u (by rw [star]; exact h)
theorem glE{W:World}{b n:Nat}{c:Array Value}{P:Program}{nm:String}(hg:P.globalNamed nm=some b)(h:W.var? P nm=some c):∃t fr,W.heap[b]?=some (.cells c t fr):=by
 simp only [World.var?,hg,qa]at h;cases hb:W.heap[b]? with
 |none=>rw [hb]at h;cases h
 |some o =>
  cases o with
  |cells a t fr=>rw [hb]at h;simp only [qb]at h;subst h;exact ⟨t,fr,rfl⟩
  |_=>rw [hb]at h;cases h
theorem glC{W:World}{b:Nat}{v:Value}(h:W.cell? ⟨b,0,none⟩=some v):∃c t fr,W.heap[b]?=some (.cells c t fr)/\c[0]?=some v:=by
 simp only [World.cell?]at h;cases hb:W.heap[b]? with
 |none=>rw [hb]at h;cases h
 |some o =>
  cases o with
  |cells a t fr=>rw [hb]at h;exact ⟨a,t,fr,rfl,h⟩
  |_=>rw [hb]at h;cases h
theorem qxQ{W:World}(h:laidMetH Tryz.prog qjv W):laidMet Tryz.prog qjv W:=by
 rwa [MakeChecks.laidMetH_plain _ _ _ (by kernel_rfl)]at h
set_option maxRecDepth 100000 in
theorem qFR {W : World} (h : laidMet Tryz.prog qjv W) : Lib.TabIs Tryz.prog W "internal/strconv.uint64pow10" .u64 Lib.pow10Tab :=
 Lib.tabIs_of_head (t := 287) (e := 246) (n := 20) (rest := qjv.drop 3) g1 (by kernel_rfl) Tryz.underlying287 Tryz.underlying246 (by kernel_rfl) (by kernel_rfl) (show laidMet Tryz.prog (("internal/strconv.uint64pow10", Lib.tabData .u64 Lib.pow10Tab) :: qjv.drop 3) W from h.tail.tail)
set_option maxRecDepth 100000 in
theorem qF5 {W : World} (h : laidMet Tryz.prog qjv W) : Lib.TabIs Tryz.prog W "math/bits.deBruijn64tab" .u8 (Lib.deBruijn64tab.map fun n : Nat => (n : Int)) :=
 Lib.tabIs_of_head (t := 268) (e := 5) (n := 64) (rest := qjv.drop 2) g0 (by kernel_rfl) Tryz.underlying268 Tryz.underlying5 (by kernel_rfl) (by kernel_rfl) (show laidMet Tryz.prog (("math/bits.deBruijn64tab", Lib.tabData .u8 (Lib.deBruijn64tab.map fun n : Nat => (n : Int))) :: qjv.drop 2) W from h.tail)
theorem qBE {W : World} (h : laidMet Tryz.prog qjv W) : ∃ a, W.var? Tryz.prog "strconv.ErrRange" = some #[.iface 303 (.pointer (some a))] := by
 obtain ⟨a,s,hv,-,-,-⟩:=laid_sentinel h.tail.tail.tail.tail g3 (show (Tryz.prog.globals[7]?).map (·.type)=some 191 by kernel_rfl) Tryz.underlying191 qDs Tryz.underlying303 Tryz.underlying305 rfl rfl Tryz.underlying9 (by kernel_rfl) (by kernel_rfl);exact ⟨a,hv⟩
theorem qze {W : World} (h : laidMet Tryz.prog qjv W) : ∃ a, W.var? Tryz.prog "strconv.ErrSyntax" = some #[.iface 303 (.pointer (some a))] := by
 obtain ⟨a,s,hv,-,-,-⟩:=laid_sentinel h.tail.tail.tail.tail.tail g2 (show (Tryz.prog.globals[6]?).map (·.type)=some 191 by kernel_rfl) Tryz.underlying191 qDs Tryz.underlying303 Tryz.underlying305 rfl rfl Tryz.underlying9 (by kernel_rfl) (by kernel_rfl);exact ⟨a,hv⟩
theorem qxV{W:World}(h:W.ShapedOpen Tryz.prog):∃m,W.cell? ⟨2,0,none⟩=some (.int .i64 m):=by
 have hr:((begin Tryz.prog (λ_ _=>0) default).world.heap[2]?).bind Obj.row?=some (#[.int .i64 0],3):=by kernel_rfl
 exact cell_of_shapedOpen_int (t:=3) (zero:=#[.int .i64 0]) h (of_decide_eq_true (by kernel_rfl)) hr rfl (by kernel_rfl) (by kernel_rfl) Tryz.underlying3
theorem qDT{W:World}(hs:W.ShapedOpen Tryz.prog)(hL:laidMetH Tryz.prog qjv W):qgu W (cx0 W):=by
 have h:=qxQ hL;obtain ⟨m,hm⟩:=qxV hs;obtain ⟨a3,h3⟩:=qBE h;obtain ⟨a2,h2⟩:=qze h;have h1:=qFR h;have h0:=qF5 h;unfold Lib.TabIs at h1 h0;intro x hx;simp only [qxz,qk,List.mem_nil_iff,or_false]at hx;have om:∀{b:Nat} {c:Array Value} {t:TypeId} {fr:Nat×Nat},W.heap[b]?=some (.cells c t fr)->∃e,(cx0 W).ω b=some (e,true):=λ{b c t fr} hb=>⟨c.size,by simp [cx0,hb]⟩
 rcases hx with rfl|rfl|rfl|rfl|rfl
 ·obtain ⟨t,fr,hb⟩:=glE (n:=0) g0 h0;exact ⟨om hb,_,t,fr,hb,by rw [List.map_map];rfl⟩
 ·obtain ⟨c,t,fr,hb,hc⟩:=glC hm;exact ⟨om hb,c,t,fr,hb,m,hc⟩
 ·obtain ⟨t,fr,hb⟩:=glE (n:=0) g1 h1;exact ⟨om hb,_,t,fr,hb,rfl⟩
 ·obtain ⟨t,fr,hb⟩:=glE (n:=0) g2 h2;exact ⟨om hb,_,t,fr,hb,_,rfl,Or.inr ⟨_,_,rfl⟩⟩
 ·obtain ⟨t,fr,hb⟩:=glE (n:=0) g3 h3;exact ⟨om hb,_,t,fr,hb,_,rfl,Or.inr ⟨_,_,rfl⟩⟩
end Go.Proofs.YtkcaaaiihhhnmaaGreatDoor
end
section
namespace Go.Tx
open Go
section
theorem qf0{n:Int}(h1 : -9223372036854775808<=n)(h2:n<=9223372036854775807):IntKind.wrap .i64 n=n:=by
 rw [IntKind.wrap_i64];omega
theorem q7{α:Type}{l:List α}{i:Nat}{a:α}(h:l[i]?=some a):idx l (i:Int)=some a:=by simp [idx,h]
theorem qyQ{α:Type}{l l2:List α}(h:l.length+l2.length<=4294967296):app l l2=some (l++l2):=by simp [app,h]
section
variable {σ ρ:Type} {f:σ->Option (σ ⊕ ρ)}
theorem qlH:∀{n m:Nat} {s:σ} {r:ρ},qc9 f n s=some r->n<=m->qc9 f m s=some r
 |0,m,s,r,h,_=>by simp [qc9]at h
 |n+1,0,s,r,h,hm=>by omega
 |n+1,m+1,s,r,h,hm=>by
  simp only [qc9]at h ⊢;cases hf:f s with
  |none=>rw [hf]at h;cases h
  |some x =>
   rw [hf]at h;cases x with
   |inl s'=>exact qlH h (by omega)
   |inr r'=>exact h
theorem qkw{n:Nat}{s:σ}{r:ρ}(h:qc9 f n s=some r):qG f s=some r:=by
 have hex:∃n r,qc9 f n s=some r:=⟨n,r,h⟩
 cases hl:qG f s with
 |none=>exfalso;unfold qG at hl;rw [dif_pos hex]at hl;cases hl
 |some r' =>
  obtain ⟨m,hm⟩:=qir hl;have h1:=qlH h (Nat.le_max_left n m);have h2:=qlH hm (Nat.le_max_right n m);rw [<- h1,<- h2]
theorem qkv{s s':σ}(h:f s=some (.inl s')):qG f s=qG f s':=by
 cases hl:qG f s' with
 |some r =>
  obtain ⟨n,hn⟩:=qir hl;exact qkw (n:=n+1) (by simp [qc9,h,hn])
 |none =>
  cases hl2:qG f s with
  |none=>rfl
  |some r =>
   obtain ⟨n,hn⟩:=qir hl2;cases n with
   |zero=>simp [qc9]at hn
   |succ n =>
    simp only [qc9,h]at hn;rw [qkw hn]at hl;cases hl
theorem qfh{s:σ}{r:ρ}(h:f s=some (.inr r)):qG f s=some r:=qkw (n:=1) (by simp [qc9,h])
theorem qB3(n:Nat)(I:Nat->σ->Prop)(Q:ρ->Prop)
  (hs:∀i s,i<=n->I i s->(∃s',f s=some (.inl s')/\i<n/\I (i+1) s')\/(∃r,f s=some (.inr r)/\Q r)) {s:σ} (h0:I 0 s):∃r,qG f s=some r/\Q r:=by
 have h:∀k i s,n-i=k->i<=n->I i s->∃r,qG f s=some r/\Q r:=by
  intro k;induction k with
  |zero =>
   intro i s hk hi hI;rcases hs i s hi hI with ⟨s',_,h,_⟩|⟨r,h,hq⟩
   ·omega
   ·exact ⟨r,qfh h,hq⟩
  |succ k ih =>
   intro i s hk hi hI;rcases hs i s hi hI with ⟨s',h,hlt,hI'⟩|⟨r,h,hq⟩
   ·obtain ⟨r,hr,hq⟩:=ih (i+1) s' (by omega) (by omega) hI';exact ⟨r,by rw [qkv h,hr],hq⟩
   ·exact ⟨r,qfh h,hq⟩
 exact h n 0 s (by omega) (by omega) h0
end
def qax{α ρ:Type}(g:Nat->α->Option ρ):Nat->List α->Option ρ
 |_,[]=>none
 |k,a::l=>match g k a with
  |some r=>some r
  |none=>qax g (k+1) l
def qBb{ρ:Type}:Option ρ->Unit⊕ρ
 |some r=>.inr r
 |none=>.inl ()
def stp{ρ:Type}(i:Nat):Option ρ->Int⊕(Unit⊕ρ)
 |some r=>.inr (.inr r)
 |none=>.inl ((i:Int)+1)
theorem qzV{α ρ:Type}(l:List α){f:Int->Option (Int⊕(Unit⊕ρ))}(g:Nat->α->Option ρ)
  (h:∀(i:Nat) (a:α),l[i]?=some a->f i=some (stp i (g i a)))
  (he:f l.length=some (.inr (.inl ()))):qG f 0=some (qBb (qax g 0 l)):=by
 have key:∀(l2 l1:List α),l1++l2=l->qG f (l1.length:Nat)=some (qBb (qax g l1.length l2)):=by
  intro l2;induction l2 with
  |nil =>
   intro l1 e;have:l1=l:=by simpa using e
   subst this;rw [qfh he];rfl
  |cons a l2 ih =>
   intro l1 e;have hi:l[l1.length]?=some a:=by rw [<- e];simp
   have hf:=h _ _ hi;simp only [qax];cases hg:g l1.length a with
   |some r=>rw [hg]at hf;rw [qfh hf];rfl
   |none =>
    rw [hg]at hf;rw [qkv hf];have:=ih (l1++[a]) (by simp [e]);simpa using this
 simpa using key l [] rfl
def foldI{α β:Type}(g:Nat->β->α->β):Nat->β->List α->β
 |_,b,[]=>b
 |k,b,a::l=>foldI g (k+1) (g k b a) l
theorem qzU{α β ρ:Type}(l:List α){f:β×Int->Option ((β×Int)⊕ρ)}(g:Nat->β->α->β)(fin:β->ρ)(I:Nat->β->Prop){b0:β}(h0:I 0 b0)
  (h:∀(i:Nat) (a:α) (b:β),l[i]?=some a->I i b->f (b,(i:Int))=some (.inl (g i b a,(i:Int)+1))/\I (i+1) (g i b a))
  (he:∀b,I l.length b->f (b,(l.length:Int))=some (.inr (fin b))):qG f (b0,0)=some (fin (foldI g 0 b0 l)):=by
 have key:∀(l2 l1:List α) (b:β),l1++l2=l->I l1.length b->qG f (b,((l1.length:Nat):Int))=some (fin (foldI g l1.length b l2)):=by
  intro l2;induction l2 with
  |nil =>
   intro l1 b e hI;have:l1=l:=by simpa using e
   subst this;rw [qfh (he b hI)];rfl
  |cons a l2 ih =>
   intro l1 b e hI;have hi:l[l1.length]?=some a:=by rw [<- e];simp
   obtain ⟨hf,hI'⟩:=h _ _ _ hi hI;rw [qkv hf];have:=ih (l1++[a]) (g l1.length b a) (by simp [e]) (by simpa using hI');simpa [foldI]using this
 simpa using key l [] b0 rfl (by simpa using h0)
end
section
def Ok{α:Type}(o:Option α)(Q:α->Prop):Prop:=∃a,o=some a/\Q a
section
variable {α β σ ρ τ:Type}
theorem qfo{a:α}{Q:α->Prop}:Ok (some a) Q↔Q a:=⟨λ⟨_,h,hq⟩=>by cases h;exact hq,λh=>⟨a,rfl,h⟩⟩
theorem ok_none{Q:α->Prop}:Ok (none:Option α) Q↔False:=⟨λ⟨_,h,_⟩=>(by cases h),λh=>h.elim⟩
theorem ok_eq{o:Option α}{a:α}:Ok o (λr=>r=a)↔o=some a:=⟨λ⟨_,h,hq⟩=>by rw [h,hq],λh=>⟨a,h,rfl⟩⟩
theorem Ok.eq{o:Option α}{a:α}(h:Ok o (λr=>r=a)):o=some a:=ok_eq.1 h
theorem Ok.mono{o:Option α}{P Q:α->Prop}(h:Ok o P)(hq:∀a,P a->Q a):Ok o Q:=by obtain ⟨a,h1,h2⟩:=h;exact ⟨a,h1,hq a h2⟩
theorem Ok.bind{o:Option α}{k:α->Option β}{P:α->Prop}{Q:β->Prop}(h:Ok o P)(hk:∀a,P a->Ok (k a) Q):Ok (o.bind k) Q:=by
 obtain ⟨a,h1,h2⟩:=h;rw [h1];exact hk a h2
theorem qve{o:Option α}{k:α->Option β}{Q:β->Prop}:Ok (o.bind k) Q↔Ok o λa=>Ok (k a) Q:=by
 cases o with
 |none=>simp [ok_none]
 |some a=>simp [qfo]
theorem qdz{l:List α}{a:α}(h:l.length<=4294967295):app l [a]=some (l++[a]):=qyQ (by simp;omega)
theorem qq4{l2:List α}(h:l2.length<=4294967296):app [] l2=some l2:=by rw [qyQ (by simpa using h)];rfl
theorem qqG{l:List α}{a b:Int}(h:0<=a/\a<=b/\b<=l.length):slc l a b=some ((l.take b.toNat).drop a.toNat):=by unfold slc;rw [if_pos h]
def Rnd(o:Option (σ⊕ρ))(I:σ->Prop)(Q:ρ->Prop):Prop:=Ok o λx=>match x with
 |.inl s=>I s
 |.inr r=>Q r
theorem qa1{s:σ}{I:σ->Prop}{Q:ρ->Prop}:Rnd (some (.inl s)) I Q↔I s:=qfo
theorem qaT{r:ρ}{I:σ->Prop}{Q:ρ->Prop}:Rnd (some (.inr r):Option (σ⊕ρ)) I Q↔Q r:=qfo
theorem qu5{f:σ->Option (σ⊕ρ)}(μ:σ->Nat)(I:σ->Prop)(Q:ρ->Prop){s:σ}(h0:I s)
  (hs:∀s,I s->Rnd (f s) (λs'=>I s'/\μ s'<μ s) Q):Ok (qG f s) Q:=by
 have key:∀n s,μ s<=n->I s->Ok (qG f s) Q:=by
  intro n;induction n with
  |zero =>
   intro s hn hI;obtain ⟨x,hx,h⟩:=hs s hI;cases x with
   |inl s'=>exact absurd h.2 (by omega)
   |inr r=>exact ⟨r,qfh hx,h⟩
  |succ n ih =>
   intro s hn hI;obtain ⟨x,hx,h⟩:=hs s hI;cases x with
   |inl s'=>rw [qkv hx];exact ih s' (by have:=h.2;omega) h.1
   |inr r=>exact ⟨r,qfh hx,h⟩
 exact key _ s (Nat.le_refl _) h0
theorem qcN{f:σ->Option (σ⊕ρ)}(n:Nat)(I:Nat->σ->Prop)(Q:ρ->Prop){s:σ}(h0:I 0 s)
  (hs:∀i s,i<=n->I i s->Rnd (f s) (λs'=>i<n/\I (i+1) s') Q):Ok (qG f s) Q:=by
 obtain ⟨r,h1,h2⟩:=qB3 n I Q (λi s hi hI=>by
  obtain ⟨x,hx,h⟩:=hs i s hi hI;cases x with
  |inl s'=>exact .inl ⟨s',hx,h⟩
  |inr r=>exact .inr ⟨r,hx,h⟩) h0
 exact ⟨r,h1,h2⟩
theorem qvf{o:Option (α⊕β)}{k:α->Option β}{Q:β->Prop}:Ok (o.bind (Sum.elim k some)) Q↔Ok o λx=>match x with
  |.inl a=>Ok (k a) Q
  |.inr b=>Q b:=by
 rw [qve];cases o with
 |none=>simp [ok_none]
 |some x=>cases x<;>simp [qfo]
end
theorem qCy{α σ ρ:Type}{o:Option (α⊕(σ⊕ρ))}{k:α->Option (σ⊕ρ)}{I:σ->Prop}{Q:ρ->Prop}:Rnd (o.bind (Sum.elim k some)) I Q↔Ok o λx=>match x with
  |.inl a=>Rnd (k a) I Q
  |.inr b=>match b with
   |.inl s=>I s
   |.inr r=>Q r:=by
 cases o with
 |none=>simp [Rnd,ok_none]
 |some x=>cases x with
  |inl a=>simp only [qa,Sum.elim_inl,qfo]
  |inr b=>simp only [qa,Sum.elim_inr,qfo];unfold Rnd;rw [qfo]
theorem getD_at{α:Type}{l:List α}{i:Nat}{a d:α}(h:l[i]?=some a):l.getD i d=a:=by simp [h]
theorem qbQ{α:Type}{l:List α}{i:Nat}(d:α)(h:i<l.length):l.take (i+1)=l.take i++[l.getD i d]:=by
 rw [List.take_add_one];simp [h]
end
section
section
variable {α β ρ τ:Type}
theorem qao{l:List α}{i:Nat}{a:α}(h:l[i]?=some a):i<l.length:=(qm.1 h).1
theorem qau(l:List α)(K:Int->Option (Int⊕(Unit⊕ρ)))(g:Nat->α->Option ρ)(h:∀(i:Nat) (a:α),l[i]?=some a->K i=some (stp i (g i a))) :
  qG (λs=>bif decide (s<(l.length:Int))then K s else some (.inr (.inl ()))) 0=some (qBb (qax g 0 l)):=by
 refine qzV l g (λi a hi=>?_) ?_
 ·have:=qao hi;have e:decide ((i:Int)<(l.length:Int))=true:=by simp<;>omega
  simp only [e,cond_true];exact h i a hi
 ·simp
theorem qaa{o:Option ρ}{k:Unit->Option ρ}:(some (qBb o)).bind (Sum.elim k some)=(match o with
  |some r=>some r
  |none=>k ()):=by cases o<;>rfl
theorem qaQ{g:Nat->α->Option ρ}:∀{l:List α} {k:Nat},qax g k l=none↔∀i a,l[i]?=some a->g (k+i) a=none
 |[],k=>by simp [qax]
 |a::l,k=>by
  simp only [qax];cases hg:g k a with
  |some r =>
   simp only [reduceCtorEq,false_iff];intro h;have:=h 0 a rfl;simp [hg]at this
  |none =>
   simp only
   rw [qaQ (l:=l) (k:=k+1)];constructor
   ·intro h i b hb;cases i with
    |zero=>simp at hb;subst hb;simpa using hg
    |succ i=>have:=h i b (by simpa using hb);rw [<- this];congr 1;omega
   ·intro h i b hb;have:=h (i+1) b (by simpa using hb);rw [<- this];congr 1;omega
theorem qaZ{g:Nat->α->Option ρ}{r:ρ}:∀{l:List α} {k:Nat},qax g k l=some r->∃i a,l[i]?=some a/\g (k+i) a=some r/\∀j b,j<i->l[j]?=some b->g (k+j) b=none
 |[],k,h=>by simp [qax]at h
 |a::l,k,h=>by
  simp only [qax]at h;cases hg:g k a with
  |some r' =>
   rw [hg]at h;simp only [qb]at h;subst h;exact ⟨0,a,rfl,by simpa using hg,λj b hj=>by omega⟩
  |none =>
   rw [hg]at h;obtain ⟨i,b,h1,h2,h3⟩:=qaZ (l:=l) (k:=k+1) h;refine ⟨i+1,b,by simpa using h1,by rw [<- h2];congr 1;omega,λj c hj hc=>?_⟩;cases j with
   |zero=>simp at hc;subst hc;simpa using hg
   |succ j=>have:=h3 j c (by omega) (by simpa using hc);rw [<- this];congr 1;omega
theorem qzm(l:List α)(p:α->Bool)(hl:l.length<=1000000000) :
  Ok ((qG (λ(s2:Int) =>
   bif decide (s2<(l.length:Int))then
    (idx l s2).bind λx3 =>
    bif p x3 then
     some (.inr (.inr s2))
    else
     some (.inl (IntKind.wrap .i64 (s2+1)))
   else
    some (.inr (.inl ()))) 0).bind (Sum.elim (λ(p5:Unit) =>
  some (-1)) some)) λr=>decide (r>=0)=l.any p:=by
 rw [qau l _ (λi a=>if p a then some (i:Int)else none) (λi a hi=>by
  have:=qao hi;rw [q7 hi];simp only [qa];cases hp:p a
  ·simp only [cond_false,qf,if_false,stp];rw [qf0 (by omega) (by omega)]
  ·simp [stp]),qaa]
 cases hf:qax (λi a=>if p a then some (i:Int)else none) 0 l with
 |none =>
  rw [qaQ]at hf;have:l.any p=false:=by
   rw [List.any_eq_false];intro x hx;obtain ⟨i,hi⟩:=List.mem_iff_getElem?.1 hx;have:=hf i x hi;simpa using this
  exact ⟨_,rfl,by rw [this];rfl⟩
 |some r =>
  obtain ⟨i,a,h1,h2,_⟩:=qaZ hf;have hp:p a=true:=by
   cases hp:p a
   ·simp [hp]at h2
   ·rfl
  have:l.any p=true:=List.any_eq_true.2 ⟨a,List.mem_of_getElem? h1,hp⟩;simp only [hp,if_true,qb]at h2;exact ⟨_,rfl,by rw [this];simp;omega⟩
theorem qzk(l:List α)(pf:α->Option Bool)(p:α->Bool)(h:∀x∈l,pf x=some (p x))(hl:l.length<=1000000000) :
  ((qG (λ(s2:Int) =>
   bif decide (s2<(l.length:Int))then
    (idx l s2).bind λx3 =>
    (pf x3).bind λx4 =>
    bif x4 then
     some (.inr (.inr s2))
    else
     some (.inl (IntKind.wrap .i64 (s2+1)))
   else
    some (.inr (.inl ()))) 0).bind (Sum.elim (λ(p5:Unit) =>
  some (-1)) some)).bind (λx1=>some (decide (x1>=0)))=some (l.any p):=by
 rw [qau l _ (λi a=>if p a then some (i:Int)else none) (λi a hi=>by
  have:=qao hi;rw [q7 hi];simp only [qa];rw [h a (List.mem_of_getElem? hi)];simp only [qa];cases hp:p a
  ·simp only [cond_false,qf,if_false,stp];rw [qf0 (by omega) (by omega)]
  ·simp [stp]),qaa]
 cases hf:qax (λi a=>if p a then some (i:Int)else none) 0 l with
 |none =>
  rw [qaQ]at hf;have:l.any p=false:=by
   rw [List.any_eq_false];intro x hx;obtain ⟨i,hi⟩:=List.mem_iff_getElem?.1 hx;have:=hf i x hi;simpa using this
  rw [this];rfl
 |some r =>
  obtain ⟨i,a,h1,h2,_⟩:=qaZ hf;have hp:p a=true:=by
   cases hp:p a
   ·simp [hp]at h2
   ·rfl
  have:l.any p=true:=List.any_eq_true.2 ⟨a,List.mem_of_getElem? h1,hp⟩;rw [this];simp only [hp,if_true,qb]at h2;simp only [qa];have:decide (r>=0)=true:=by simp<;>omega
  rw [this]
def qhm:List Int->Int
 |[]=>0
 |e::l=>if e=0 then qhm l else e
theorem qpX:∀(l:List Int) (k:Nat),qax (λ_ e=>if e=0 then none else some e) k l=if qhm l=0 then none else some (qhm l)
 |[],k=>rfl
 |e::l,k=>by
  simp only [qax,qhm];by_cases h:e=0
  ·simp only [h,if_true];exact qpX l (k+1)
  ·simp [h]
theorem qzl(l:List Int)(hl:l.length<=1000000000) :
  (qG (λ(s2:Int) =>
   bif decide (s2<(l.length:Int))then
    (idx l s2).bind λx3 =>
    bif !(decide (x3=0))then
     some (.inr (.inr x3))
    else
     some (.inl (IntKind.wrap .i64 (s2+1)))
   else
    some (.inr (.inl ()))) 0).bind (Sum.elim (λ(p4:Unit)=>some 0) some)=some (qhm l):=by
 rw [qau l _ (λ_ e=>if e=0 then none else some e) (λi a hi=>by
  have:=qao hi;rw [q7 hi];simp only [qa];by_cases h:a=0
  ·simp only [h,decide_true,Bool.not_true,cond_false,if_true,stp];rw [qf0 (by omega) (by omega)]
  ·simp [h,stp]),qaa,qpX]
 by_cases h:qhm l=0
 ·simp [h]
 ·simp [h]
def qai(g:Nat->α->Int):Nat->List α->Int×Int
 |_,[]=>(0,0)
 |k,a::l=>if g k a=0 then qai g (k+1) l else ((k:Int),g k a)
theorem qeU(g:Nat->α->Int):∀(l:List α) (k:Nat),(match qax (λi a=>if g i a=0 then none else some ((i:Int),g i a)) k l with
  |some r=>some r
  |none=>some (0,0))=some (qai g k l)
 |[],k=>rfl
 |a::l,k=>by
  simp only [qax,qai];by_cases h:g k a=0
  ·simp only [h,if_true];exact qeU g l (k+1)
  ·simp [h]
theorem qwj(l:List α)(cb:Int->α->Option Int)(g:Nat->α->Int)(h:∀(i:Nat) a,l[i]?=some a->cb i a=some (g i a))(hl:l.length<=1000000000) :
  (qG (λ(s2:Int) =>
   bif decide (s2<(l.length:Int))then
    (idx l s2).bind λx3 =>
    (cb s2 x3).bind λx4 =>
    bif !(decide (x4=0))then
     some (.inr (.inr (s2,x4)))
    else
     some (.inl (IntKind.wrap .i64 (s2+1)))
   else
    some (.inr (.inl ()))) 0).bind (Sum.elim (λ(p5:Unit) =>
  some (0,0)) some)=some (qai g 0 l):=by
 rw [qau l _ (λi a=>if g i a=0 then none else some ((i:Int),g i a)) (λi a hi=>by
  have:=qao hi;rw [q7 hi];simp only [qa];rw [h i a hi];simp only [qa];by_cases h:g i a=0
  ·simp only [h,decide_true,Bool.not_true,cond_false,if_true,stp];rw [qf0 (by omega) (by omega)]
  ·simp [h,stp]),qaa,<- qeU g l 0]
 cases qax (λi a=>if g i a=0 then none else some ((i:Int),g i a)) 0 l<;>rfl
theorem qeT{g:Nat->α->Int}:∀{l:List α} {k:Nat},(qai g k l).2=0↔∀i a,l[i]?=some a->g (k+i) a=0
 |[],k=>by simp [qai]
 |a::l,k=>by
  simp only [qai];by_cases h:g k a=0
  ·rw [if_pos h,qeT];constructor
   ·intro hh i b hb;cases i with
    |zero=>simp at hb;subst hb;simpa using h
    |succ i=>have:=hh i b (by simpa using hb);rw [<- this];congr 1;omega
   ·intro hh i b hb;have:=hh (i+1) b (by simpa using hb);rw [<- this];congr 1;omega
  ·rw [if_neg h];constructor
   ·intro hh;exact absurd hh h
   ·intro hh;exact absurd (by simpa using hh 0 a rfl) h
end
end

section
section
variable {α:Type}
end
end
section
section
variable {α β:Type}
theorem quP{K:List β×Int->Option ((List β×Int)⊕List β)}(l:List α)(f:α->β)
  (h:∀(i:Nat) a out,l[i]?=some a->out.length=i->K (out,(i:Int))=some (.inl (out++[f a],(i:Int)+1))) (he:∀out,out.length=l.length->K (out,(l.length:Int))=some (.inr out)):qG K ([],0)=some (l.map f):=by
 refine Ok.eq (qcN l.length (λi (s:List β×Int)=>s=((l.take i).map f,(i:Int))) (λr=>r=l.map f) (by simp) ?_);rintro i s hi rfl;by_cases hlt:i<l.length
 ·have ha:l[i]?=some l[i]:=by simp [hlt]
  rw [h i _ _ ha (by simp;omega),qa1];refine ⟨hlt,?_⟩;have e:(l.take (i+1)).map f=(l.take i).map f++[f l[i]]:=by rw [List.take_add_one,ha];simp only [List.map_append,Option.toList_some,qh,List.map_nil]
  rw [e];rfl
 ·have:i=l.length:=by omega
  subst this;rw [he _ (by simp),qaT];simp
end
end
end Go.Tx
end
section
namespace Go.Proofs.YtkcaaaiihhhnmaaGreatDoor
open Go Go.Ab Go.Tx
section
set_option maxRecDepth 100000
noncomputable section
abbrev yt4 : Ty := .sl (.pair .str (.pair (.sl .str) (.pair I .unit)))
abbrev yt5 : Ty := .pair I (.pair I .unit)
abbrev yt6 : Ty := .pair (.sl I) (.pair (.sl I) .unit)
abbrev yy7 : Type := List (Int×Int×Unit)
abbrev yy8 : Type := List (List UInt8)
abbrev yy9 : Type := Int×(List UInt8)×(List UInt8)×Unit
abbrev yt10 : Ty := .pair I (.pair .str (.pair .str .unit))
abbrev yy11 : Type := List ((List UInt8)×(List Int)×(List Int)×(List Int)×(List Int)×Unit)
abbrev yy12 : Type := (List Int)×(List Int)×Unit
abbrev yy13 : Type := List (Int×Int×Int×Unit)
abbrev yt14 : Ty := .sl (.pair .str (.pair (.sl I) (.pair (.sl I) yt6)))
abbrev yt15 : Ty := .pair (.sl yt5) (.pair (.sl yt5) (.pair (.sl yt5) (.pair I .unit)))
abbrev yt16 : Ty := .sl (.pair I yt5)
abbrev yy17 : Type := (List Int)×Int
abbrev yt1 : Ty := .pair (.sl .str) (.pair yt14 (.pair (.sl yt6) .unit))
abbrev yy2 : Type := yy8×yy11×(List yy12)×Unit
abbrev yy3 : Type := List ((List UInt8)×yy8×Int×Unit)
def KT(e:Entry)(j:TH)(l:List Entry)(n:Nat):Prop:=∀x:denP e.ps,fnT Tryz.prog Hn.hints j (qpH l) n e.g (qde e.ps x) e.rs=e.F x
abbrev OT(e:Entry):Prop:=qaU Tryz.prog Hn.hints Lb e
theorem entK{e:Entry}{j:TH}{l:List Entry}{n:Nat}(h:TOk Tryz.prog Hn.hints Lb (qpH l))(hj:∀g,j.lib g=false->Lb g=none)(k:KT e j l n):OT e:=qc5 h hj n e.g e.ps e.rs e.F k
def qdK(a0:yy12):Option Bool :=
 (bif decide ((a0.1.length:Int)<=10)then
   some (decide ((a0.2.1.length:Int)<=10))
  else
   some false).bind λ(p1:Bool) =>
 some p1
def qgE:Entry:=⟨50,[.ty yt6],[(.bool,0)],λx=>qdK x⟩
def qrm:TH:=qcn [([],50,.region 1,{lv:=[⟨none,2,0⟩],ps:=[(.bool,0)],D:=⟨8188⟩,rs:=[⟨0,1⟩],Dn:=⟨7924⟩})] []
theorem qrs:KT qgE qrm [] 40:=λx=>by kernel_rfl
theorem qrD:OT qgE:=entK qz hJ qrs
def qkt(a0:yy2):Option Bool :=
 (bif decide ((a0.1.length:Int) > 10)then
   some true
  else
   bif decide ((a0.2.1.length:Int) > 12)then
    some true
   else
    some (decide ((a0.2.2.1.length:Int) > 6))).bind λ(p1:Bool) =>
 bif p1 then
  some false
 else
  (qG (λ(s3:Int) =>
    bif decide (s3<(a0.1.length:Int))then
     (idx a0.1 s3).bind λx4 =>
     bif decide ((x4.length:Int) > 30)then
      some (.inr (.inr false))
     else
      some (.inl (w64 (s3+1)))
    else
     some (.inr (.inl ()))) 0).bind (Sum.elim (λ(p5:Unit) =>
  (qG (λ(s7:Int) =>
    bif decide (s7<(a0.2.1.length:Int))then
     ((idx a0.2.1 s7).bind λx8 =>
      bif decide ((x8.1.length:Int) > 30)then
       some true
      else
       (idx a0.2.1 s7).bind λx9 =>
       (qdK (x9.2.1,x9.2.2.1,())).bind λx10 =>
       bif !x10 then
        some true
       else
        (idx a0.2.1 s7).bind λx11 =>
        (qdK (x11.2.2.2.1,x11.2.2.2.2.1,())).bind λx12 =>
        some (!x12)).bind λ(p13:Bool) =>
     bif p13 then
      some (.inr (.inr false))
     else
      some (.inl (w64 (s7+1)))
    else
     some (.inr (.inl ()))) 0).bind (Sum.elim (λ(p14:Unit) =>
  (qG (λ(s16:Int) =>
    bif decide (s16<(a0.2.2.1.length:Int))then
     (idx a0.2.2.1 s16).bind λx17 =>
     (qdK x17).bind λx18 =>
     bif !x18 then
      some (.inr (.inr false))
     else
      some (.inl (w64 (s16+1)))
    else
     some (.inr (.inl ()))) 0).bind (Sum.elim (λ(p19:Unit) =>
  some true) some)) some)) some)
def qjf:Entry:=⟨8,[.ty yt1],[(.bool,0)],λx=>qkt x⟩
def quY:TH:=qcn [([],8,.region 1,{lv:=[⟨none,21,0⟩],ps:=[(.bool,0)],D:=⟨4194240⟩,rs:=[⟨0,1⟩],Dn:=⟨4061056⟩}),
 ([],8,.block 0,{lv:=[],ps:=[],abn:=true,D:=⟨68715282440⟩,rs:=[⟨0,1⟩],Dn:=⟨68706893832⟩}),
 ([],8,.loop 0,{lv:=[⟨none,3,0⟩],ps:=[(I,0)],D:=⟨68715282440⟩,rs:=[⟨0,1⟩],Dn:=⟨68170022920⟩}),
 ([],8,.block 2,{lv:=[],ps:=[],abn:=true,D:=⟨2361183241366103130128⟩,rs:=[⟨0,1⟩],Dn:=⟨2361183241228664176656⟩}),
 ([],8,.loop 2,{lv:=[⟨none,4,0⟩],ps:=[(I,0)],D:=⟨2361183241366103130128⟩,rs:=[⟨0,1⟩],Dn:=⟨2356567042814516396048⟩}),
 ([],8,.region 11,{lv:=[⟨none,70,0⟩],ps:=[(.bool,0)],D:=⟨2361183232638729584640⟩,rs:=[⟨0,1⟩],Dn:=⟨2356567034224581804032⟩}),
 ([],8,.block 4,{lv:=[],ps:=[],abn:=true,D:=⟨38683265044426698767990816⟩,rs:=[⟨0,1⟩],Dn:=⟨38678542677943829122777120⟩}),
 ([],8,.loop 4,{lv:=[⟨none,5,0⟩],ps:=[(I,0)],D:=⟨38683265044426698767990816⟩,rs:=[⟨0,1⟩],Dn:=⟨38376311223040171829100576⟩})] []
theorem qu1:KT qjf quY [qgE] 40:=λx=>by kernel_rfl
theorem qvb:OT qjf:=entK (qn qrD qz) hJ qu1
def qdZ(a0:yy3):Option Bool :=
 bif decide ((a0.length:Int) > 8)then
  some false
 else
  (qG (λ(s2:Int) =>
    bif decide (s2<(a0.length:Int))then
     ((idx a0 s2).bind λx3 =>
      bif decide ((x3.1.length:Int) > 30)then
       some true
      else
       (idx a0 s2).bind λx4 =>
       some (decide ((x4.2.1.length:Int) > 6))).bind λ(p5:Bool) =>
     bif p5 then
      some (.inr (.inr false))
     else
      (qG (λ(s7:Int) =>
        (idx a0 s2).bind λx8 =>
        bif decide (s7<(x8.2.1.length:Int))then
         (idx a0 s2).bind λx9 =>
         (idx x9.2.1 s7).bind λx10 =>
         bif decide ((x10.length:Int) > 30)then
          some (.inr (.inr (.inr (.inr false))))
         else
          some (.inl (w64 (s7+1)))
        else
         some (.inr (.inl ()))) 0).bind (Sum.elim (λ(p11:Unit) =>
      some (.inl (w64 (s2+1)))) some)
    else
     some (.inr (.inl ()))) 0).bind (Sum.elim (λ(p12:Unit) =>
  some true) some)
def qeo:Entry:=⟨24,[.ty yt4],[(.bool,0)],λx=>qdZ x⟩
def qmJ:TH:=qcn [([],24,.block 0,{lv:=[],ps:=[],abn:=true,D:=⟨1125899906842392⟩}),
 ([],24,.loop 0,{lv:=[⟨none,3,0⟩],ps:=[(I,0)],D:=⟨1125899906842392⟩}),
 ([],24,.region 6,{lv:=[⟨none,29,0⟩],ps:=[(.bool,0)],D:=⟨1073725440⟩}),
 ([],24,.block 2,{lv:=[],ps:=[],abn:=true,D:=⟨1125898833100816⟩}),
 ([],24,.loop 2,{lv:=[⟨none,4,0⟩],ps:=[(I,0)],D:=⟨1125898833100816⟩})] []
theorem qmT:KT qeo qmJ [] 40:=λx=>by kernel_rfl
theorem qm2:OT qeo:=entK qz hJ qmT
def qks(a0:yy2)(a1:yy3):Option Bool :=
 ((qkt a0).bind λx1 =>
  bif x1 then
   (qdZ a1).bind λx2 =>
   some x2
  else
   some false).bind λ(p3:Bool) =>
 some p3
def qje:Entry:=⟨40,[.ty yt1,.ty yt4],[(.bool,0)],λx=>qks x.1 x.2⟩
def quX:TH:=qcn [([],40,.region 1,{lv:=[⟨none,4,0⟩],ps:=[(.bool,0)],D:=⟨2032⟩})] []
theorem qu0:KT qje quX [qjf,qeo] 40:=λx=>by kernel_rfl
theorem qva:OT qje:=entK (qn qvb (qn qm2 qz)) hJ qu0
def qby(a0:(List UInt8)):Option Bool :=
 (bif decide ((a0.length:Int)<1)then
   some true
  else
   some (decide ((a0.length:Int) > 12))).bind λ(p1:Bool) =>
 bif p1 then
  some false
 else
  (qG (λ(s3:Int) =>
    bif decide (s3<(a0.length:Int))then
     (idx a0 s3).bind λx4 =>
     (bif decide ((x4.toNat:Int)>=97)then
       bif decide ((x4.toNat:Int)<=122)then
        some true
       else
        bif decide ((x4.toNat:Int)>=65)then
         some (decide ((x4.toNat:Int)<=90))
        else
         some false
      else
       bif decide ((x4.toNat:Int)>=65)then
        some (decide ((x4.toNat:Int)<=90))
       else
        some false).bind λ(p5:Bool) =>
     (bif !p5 then
       bif decide (s3=0)then
        some true
       else
        bif !(decide ((x4.toNat:Int)=45))then
         bif decide ((x4.toNat:Int)<48)then
          some true
         else
          some (decide ((x4.toNat:Int) > 57))
        else
         some false
      else
       some false).bind λ(p6:Bool) =>
     bif p6 then
      some (.inr (.inr false))
     else
      some (.inl (w64 (s3+1)))
    else
     some (.inr (.inl ()))) 0).bind (Sum.elim (λ(p7:Unit) =>
  some true) some)
def qcX:Entry:=⟨102,[.ty .str],[(.bool,0)],λx=>qby x⟩
def qrk:TH:=qcn [([],102,.region 1,{lv:=[⟨none,13,0⟩],ps:=[(.bool,0)],D:=⟨16320⟩}),
 ([],102,.block 0,{lv:=[],ps:=[],abn:=true,D:=⟨36028797018947640⟩}),
 ([],102,.loop 0,{lv:=[⟨none,3,0⟩],ps:=[(I,0)],D:=⟨36028797018947640⟩}),
 ([],102,.region 7,{lv:=[⟨none,5,0⟩],ps:=[(.bool,0)],D:=⟨137430564896⟩}),
 ([],102,.region 8,{lv:=[⟨none,54,0⟩],ps:=[(.bool,0)],D:=⟨36028659580010496⟩})] []
theorem qrq:KT qcX qrk [] 40:=λx=>by kernel_rfl
theorem qgY:OT qcX:=entK qz hJ qrq
def qec(a0:yy8)(a1:(List UInt8)):Option Bool :=
 (qG (λ(s2:Int) =>
   bif decide (s2<(a0.length:Int))then
    (idx a0 s2).bind λx3 =>
    bif decide (x3=a1)then
     some (.inr (.inr true))
    else
     some (.inl (w64 (s2+1)))
   else
    some (.inr (.inl ()))) 0).bind (Sum.elim (λ(p4:Unit) =>
 some false) some)
def qdU:Entry:=⟨94,[.ty (.sl .str),.ty .str],[(.bool,0)],λx=>qec x.1 x.2⟩
def qpA:TH:=qcn [([],94,.block 0,{lv:=[],ps:=[],abn:=true,D:=⟨262112⟩}),
 ([],94,.loop 0,{lv:=[⟨none,5,0⟩],ps:=[(I,0)],D:=⟨262112⟩})] []
theorem qpB:KT qdU qpA [] 40:=λx=>by kernel_rfl
theorem qi3:OT qdU:=entK qz hJ qpB
def qdA(a0:Int)(a1:Int)(a2:Int):Option Bool :=
 (bif decide (a1<=a0)then
   some (decide (a0<=a2))
  else
   some false).bind λ(p1:Bool) =>
 some p1
def qcY:Entry:=⟨9,[.ty I,.ty I,.ty I],[(.bool,0)],λx=>qdA x.1 x.2.1 x.2.2⟩
def qrl:TH:=qcn [([],9,.region 1,{lv:=[⟨none,6,0⟩],ps:=[(.bool,0)],D:=⟨32704⟩})] []
theorem qrr:KT qcY qrl [] 40:=λx=>by kernel_rfl
theorem qgZ:OT qcY:=entK qz hJ qrr
def qcH(a0:yy3):Option (Int×Int) :=
 bif decide ((a0.length:Int)=0)then
  some (0,10)
 else
  bif decide ((a0.length:Int) > 6)then
   some (0,8)
  else
   (qG (λ(s2:Int) =>
     bif decide (s2<(a0.length:Int))then
      (idx a0 s2).bind λx3 =>
      (qby x3.1).bind λx4 =>
      bif !x4 then
       some (.inr (.inr (s2,4)))
      else
       (qG (λ(s6:Int) =>
         bif decide (s6<s2)then
          (idx a0 s6).bind λx7 =>
          (idx a0 s2).bind λx8 =>
          bif decide (x7.1=x8.1)then
           some (.inr (.inr (.inr (.inr (s2,5)))))
          else
           some (.inl (w64 (s6+1)))
         else
          some (.inr (.inl ()))) 0).bind (Sum.elim (λ(p9:Unit) =>
       (idx a0 s2).bind λx10 =>
       bif decide ((x10.2.1.length:Int) > 4)then
        some (.inr (.inr (s2,8)))
       else
        (qG (λ(s12:Int) =>
          (idx a0 s2).bind λx13 =>
          bif decide (s12<(x13.2.1.length:Int))then
           (idx a0 s2).bind λx14 =>
           (idx x14.2.1 s12).bind λx15 =>
           (qby x15).bind λx16 =>
           bif !x16 then
            some (.inr (.inr (.inr (.inr (s2,4)))))
           else
            (idx a0 s2).bind λx17 =>
            (slc x17.2.1 0 s12).bind λx18 =>
            (idx a0 s2).bind λx19 =>
            (idx x19.2.1 s12).bind λx20 =>
            (qec x18 x20).bind λx21 =>
            bif x21 then
             some (.inr (.inr (.inr (.inr (s2,23)))))
            else
             some (.inl (w64 (s12+1)))
          else
           some (.inr (.inl ()))) 0).bind (Sum.elim (λ(p22:Unit) =>
        (idx a0 s2).bind λx23 =>
        (qdA x23.2.2.1 (0:Int) (20:Int)).bind λx24 =>
        bif !x24 then
         some (.inr (.inr (s2,2)))
        else
         some (.inl (w64 (s2+1)))) some)) some)
     else
      some (.inr (.inl ()))) 0).bind (Sum.elim (λ(p25:Unit) =>
   some (0,0)) some)
def qcZ:Entry:=⟨101,[.ty yt4],[(I,0),(I,0)],λx=>qcH x⟩
def qki:TH:=qcn [([],101,.block 0,{lv:=[],ps:=[],abn:=true,D:=⟨316912650057057350374175793264⟩}),
 ([],101,.loop 0,{lv:=[⟨none,4,0⟩],ps:=[(I,0)],D:=⟨316912650057057350374175793264⟩}),
 ([],101,.block 2,{lv:=[],ps:=[],abn:=true,D:=⟨17592051826720⟩}),
 ([],101,.loop 2,{lv:=[⟨none,5,0⟩],ps:=[(I,0)],D:=⟨17592051826720⟩}),
 ([],101,.block 4,{lv:=[],ps:=[],abn:=true,D:=⟨1237940039280876675271753792⟩}),
 ([],101,.loop 4,{lv:=[⟨none,6,0⟩],ps:=[(I,0)],D:=⟨1237940039280876675271753792⟩})] []
theorem qkn:KT qcZ qki [qdU,qcX,qcY] 40:=λx=>by kernel_rfl
theorem qkA:OT qcZ:=entK (qn qi3 (qn qgY (qn qgZ qz))) hJ qkn
def qd1(a0:yy3):Option Int :=
 (qcH a0).bind λx1 =>
 some x1.2
def qeq:Entry:=⟨38,[.ty yt4],[(I,0)],λx=>qd1 x⟩
def qmL:TH:=qcn [] []
theorem qmV:KT qeq qmL [qcZ] 40:=λx=>by kernel_rfl
theorem qm4:OT qeq:=entK (qn qkA qz) hJ qmV
def qd2(a0:Int)(a1:(List yy9)):Option Int :=
 bif decide ((a1.length:Int) > 20)then
  some 8
 else
  (qG (λ(s2:Int) =>
    bif decide (s2<(a1.length:Int))then
     (idx a1 s2).bind λx3 =>
     (qdA x3.1 (0:Int) (w64 (a0-1))).bind λx4 =>
     bif !x4 then
      some (.inr (.inr 6))
     else
      ((idx a1 s2).bind λx5 =>
       (qby x5.2.1).bind λx6 =>
       bif !x6 then
        some true
       else
        (idx a1 s2).bind λx7 =>
        (qby x7.2.2.1).bind λx8 =>
        some (!x8)).bind λ(p9:Bool) =>
      bif p9 then
       some (.inr (.inr 4))
      else
       (qG (λ(s11:Int) =>
         bif decide (s11<s2)then
          (idx a1 s11).bind λx12 =>
          (idx a1 s2).bind λx13 =>
          let v14:Bool:=(bif decide (x12.1=x13.1)then (bif decide (x12.2.1=x13.2.1)then (bif decide (x12.2.2.1=x13.2.2.1)then true else false)else false)else false)
          bif v14 then
           some (.inr (.inr (.inr (.inr 23))))
          else
           some (.inl (w64 (s11+1)))
         else
          some (.inr (.inl ()))) 0).bind (Sum.elim (λ(p15:Unit) =>
       some (.inl (w64 (s2+1)))) some)
    else
     some (.inr (.inl ()))) 0).bind (Sum.elim (λ(p16:Unit) =>
  some 0) some)
def qer:Entry:=⟨41,[.ty I,.ty (.sl yt10)],[(I,0)],λx=>qd2 x.1 x.2⟩
def qmM:TH:=qcn [([],41,.block 0,{lv:=[],ps:=[],abn:=true,D:=⟨36028797018963040⟩}),
 ([],41,.loop 0,{lv:=[⟨none,5,0⟩],ps:=[(I,0)],D:=⟨36028797018963040⟩}),
 ([],41,.region 8,{lv:=[⟨none,40,0⟩],ps:=[(.bool,0)],D:=⟨2198989701120⟩}),
 ([],41,.block 2,{lv:=[],ps:=[],abn:=true,D:=⟨36026597995708480⟩}),
 ([],41,.loop 2,{lv:=[⟨none,6,0⟩],ps:=[(I,0)],D:=⟨36026597995708480⟩})] []
theorem qmW:KT qer qmM [qcX,qcY] 40:=λx=>by kernel_rfl
theorem qm5:OT qer:=entK (qn qgY (qn qgZ qz)) hJ qmW
def qbM(a0:(List Int))(a1:Int):Option Int :=
 (qG (λ(s2:Int) =>
   bif decide (s2<(a0.length:Int))then
    (idx a0 s2).bind λx3 =>
    (qdA x3 (0:Int) (w64 (a1-1))).bind λx4 =>
    bif !x4 then
     some (.inr (.inr 6))
    else
     (bif decide (s2 > 0)then
       (idx a0 s2).bind λx5 =>
       (idx a0 (w64 (s2-1))).bind λx6 =>
       some (decide (x5<=x6))
      else
       some false).bind λ(p7:Bool) =>
     bif p7 then
      some (.inr (.inr 9))
     else
      some (.inl (w64 (s2+1)))
   else
    some (.inr (.inl ()))) 0).bind (Sum.elim (λ(p8:Unit) =>
 some 0) some)
def qc1:Entry:=⟨199,[.ty (.sl I),.ty I],[(I,0)],λx=>qbM x.1 x.2⟩
def qkk:TH:=qcn [([],199,.block 0,{lv:=[],ps:=[],abn:=true,D:=⟨17179869152⟩}),
 ([],199,.loop 0,{lv:=[⟨none,5,0⟩],ps:=[(I,0)],D:=⟨17179869152⟩}),
 ([],199,.region 6,{lv:=[⟨none,33,0⟩],ps:=[(.bool,0)],D:=⟨17178820608⟩})] []
theorem qkp:KT qc1 qkk [qcY] 40:=λx=>by kernel_rfl
theorem qkC:OT qc1:=entK (qn qgZ qz) hJ qkp
def qgy(a0:(List Int))(a1:Int):Option Bool :=
 (qG (λ(s2:Int) =>
   bif decide (s2<(a0.length:Int))then
    (idx a0 s2).bind λx3 =>
    bif decide (x3=a1)then
     some (.inr (.inr true))
    else
     some (.inl (w64 (s2+1)))
   else
    some (.inr (.inl ()))) 0).bind (Sum.elim (λ(p4:Unit) =>
 some false) some)
def qik:Entry:=⟨44,[.ty (.sl I),.ty I],[(.bool,0)],λx=>qgy x.1 x.2⟩
def qxK:TH:=qcn [([],44,.block 0,{lv:=[],ps:=[],abn:=true,D:=⟨262112⟩}),
 ([],44,.loop 0,{lv:=[⟨none,5,0⟩],ps:=[(I,0)],D:=⟨262112⟩})] []
theorem qxM:KT qik qxK [] 40:=λx=>by kernel_rfl
theorem qqn:OT qik:=entK qz hJ qxM
def qch(a0:yy12)(a1:Int):Option Int :=
 (qbM a0.1 a1).bind λx1 =>
 bif !(decide (x1=0))then
  some x1
 else
  (qbM a0.2.1 a1).bind λx2 =>
  bif !(decide (x2=0))then
   some x2
  else
   (qG (λ(s4:Int) =>
     bif decide (s4<(a0.1.length:Int))then
      (idx a0.1 s4).bind λx5 =>
      (qgy a0.2.1 x5).bind λx6 =>
      bif x6 then
       some (.inr (.inr 13))
      else
       some (.inl (w64 (s4+1)))
     else
      some (.inr (.inl ()))) 0).bind (Sum.elim (λ(p7:Unit) =>
   some 0) some)
def qe6:Entry:=⟨153,[.ty yt6,.ty I],[(I,0)],λx=>qch x.1 x.2⟩
def qoi:TH:=qcn [([],153,.block 0,{lv:=[],ps:=[],abn:=true,D:=⟨137434759296⟩,rs:=[⟨0,2⟩],Dn:=⟨137426370688⟩}),
 ([],153,.loop 0,{lv:=[⟨none,7,0⟩],ps:=[(I,0)],D:=⟨137434759296⟩,rs:=[⟨0,2⟩],Dn:=⟨134742016128⟩})] []
theorem qoo:KT qe6 qoi [qik,qc1] 40:=λx=>by kernel_rfl
theorem qoI:OT qe6:=entK (qn qqn (qn qkC qz)) hJ qoo
def qbW(a0:yy2):Option (Int×Int) :=
 bif decide ((a0.1.length:Int)=0)then
  some (0,10)
 else
  (bif decide ((a0.1.length:Int) > 8)then
    some true
   else
    bif decide ((a0.2.1.length:Int) > 10)then
     some true
    else
     some (decide ((a0.2.2.1.length:Int) > 4))).bind λ(p1:Bool) =>
  bif p1 then
   some (0,8)
  else
   (qG (λ(s3:Int) =>
     bif decide (s3<(a0.1.length:Int))then
      (idx a0.1 s3).bind λx4 =>
      (qby x4).bind λx5 =>
      bif !x5 then
       some (.inr (.inr (s3,4)))
      else
       (slc a0.1 0 s3).bind λx6 =>
       (idx a0.1 s3).bind λx7 =>
       (qec x6 x7).bind λx8 =>
       bif x8 then
        some (.inr (.inr (s3,5)))
       else
        some (.inl (w64 (s3+1)))
     else
      some (.inr (.inl ()))) 0).bind (Sum.elim (λ(p9:Unit) =>
   (qG (λ(s11:Int) =>
     bif decide (s11<(a0.2.1.length:Int))then
      (idx a0.2.1 s11).bind λx12 =>
      (qby x12.1).bind λx13 =>
      bif !x13 then
       some (.inr (.inr (s11,4)))
      else
       (qG (λ(s15:Int) =>
         bif decide (s15<s11)then
          (idx a0.2.1 s15).bind λx16 =>
          bif decide (x16.1=x12.1)then
           some (.inr (.inr (.inr (.inr (s11,5)))))
          else
           some (.inl (w64 (s15+1)))
         else
          some (.inr (.inl ()))) 0).bind (Sum.elim (λ(p17:Unit) =>
       (qch (x12.2.1,x12.2.2.1,()) (a0.1.length:Int)).bind λx18 =>
       bif !(decide (x18=0))then
        some (.inr (.inr (s11,x18)))
       else
        (qch (x12.2.2.2.1,x12.2.2.2.2.1,()) (a0.1.length:Int)).bind λx19 =>
        bif !(decide (x19=0))then
         some (.inr (.inr (s11,x19)))
        else
         some (.inl (w64 (s11+1)))) some)
     else
      some (.inr (.inl ()))) 0).bind (Sum.elim (λ(p20:Unit) =>
   (qG (λ(s22:Int) =>
     bif decide (s22<(a0.2.2.1.length:Int))then
      (idx a0.2.2.1 s22).bind λx23 =>
      (qch x23 (a0.1.length:Int)).bind λx24 =>
      bif !(decide (x24=0))then
       some (.inr (.inr (s22,x24)))
      else
       some (.inl (w64 (s22+1)))
     else
      some (.inr (.inl ()))) 0).bind (Sum.elim (λ(p25:Unit) =>
   some (0,0)) some)) some)) some)
def qco:Entry:=⟨100,[.ty yt1],[(I,0),(I,0)],λx=>qbW x⟩
def qiF:TH:=qcn [([],100,.region 3,{lv:=[⟨none,31,0⟩],ps:=[(.bool,0)],D:=⟨4294901760⟩,rs:=[⟨0,1⟩],Dn:=⟨4158521344⟩}),
 ([],100,.block 0,{lv:=[],ps:=[],abn:=true,D:=⟨288230371856744464⟩,rs:=[⟨0,1⟩],Dn:=⟨288230363266809872⟩}),
 ([],100,.loop 0,{lv:=[⟨none,4,0⟩],ps:=[(I,0)],D:=⟨288230371856744464⟩,rs:=[⟨0,1⟩],Dn:=⟨285837276208955408⟩}),
 ([],100,.block 2,{lv:=[],ps:=[],abn:=true,D:=⟨1298074214633706618902247930594272⟩,wr:=[⟨0,6⟩],rs:=[⟨0,1⟩],Dn:=⟨1298074214633706042441495627170784⟩}),
 ([],100,.loop 2,{lv:=[⟨none,5,0⟩],ps:=[(I,0)],D:=⟨1298074214633706618902247930594272⟩,wr:=[⟨0,6⟩],rs:=[⟨0,1⟩,⟨0,6⟩],Dn:=⟨1291729771931150983423772785116064⟩}),
 ([],100,.block 4,{lv:=[],ps:=[],abn:=true,D:=⟨1237902260353517317737414784⟩}),
 ([],100,.loop 4,{lv:=[⟨none,7,0⟩],ps:=[(I,0)],D:=⟨1237902260353517317737414784⟩,rs:=[⟨0,1⟩,⟨0,6⟩],Dn:=⟨1159322082078566421381513344⟩}),
 ([],100,.block 6,{lv:=[],ps:=[],abn:=true,D:=⟨1361128169609539220146591297102990543872⟩,rs:=[⟨0,1⟩],Dn:=⟨1361125573461109952732777031854825933824⟩}),
 ([],100,.loop 6,{lv:=[⟨none,10,0⟩],ps:=[(I,0)],D:=⟨1361128169609539220146591297102990543872⟩,rs:=[⟨0,1⟩],Dn:=⟨1355642507978497174757048827731169512448⟩})] []
theorem qiJ:KT qco qiF [qdU,qcX,qe6] 40:=λx=>by kernel_rfl
theorem qiO:OT qco:=entK (qn qi3 (qn qgY (qn qoI qz))) hJ qiJ
def qeB(a0:yy2):Option Int :=
 (qbW a0).bind λx1 =>
 some x1.2
def qc0:Entry:=⟨36,[.ty yt1],[(I,0)],λx=>qeB x⟩
def qkj:TH:=qcn [] []
theorem qko:KT qc0 qkj [qco] 40:=λx=>by kernel_rfl
theorem qkB:OT qc0:=entK (qn qiO qz) hJ qko
def qcv(a0:yy8):Option yy8 :=
 (app [] a0).bind λx1 =>
 some x1
def qcD:Entry:=⟨54,[.ty (.sl .str)],[((.sl .str),1)],λx=>qcv x⟩
def qmI:TH:=qcn [] []
theorem qmS:KT qcD qmI [] 40:=λx=>by kernel_rfl
theorem qhp:OT qcD:=entK qz hJ qmS
def qdh(a0:yy3):Option yy3 :=
 (qG (λ(s3:(yy3×Int)) =>
   bif decide (s3.2<(a0.length:Int))then
    (idx a0 s3.2).bind λx4 =>
    (idx a0 s3.2).bind λx5 =>
    (idx a0 s3.2).bind λx6 =>
    (qcv x6.2.1).bind λx7 =>
    (app s3.1 ([(x4.1,x7,x5.2.2.1,())])).bind λx8 =>
    some (.inl (x8,w64 (s3.2+1)))
   else
    some (.inr s3.1)) ([],0)).bind λ(p9:yy3) =>
 some p9
def qdD:Entry:=⟨27,[.ty yt4],[(yt4,2)],λx=>qdh x⟩
def qlr:TH:=qcn [([],27,.block 0,{lv:=[⟨none,3,0⟩],ps:=[(yt4,2)],D:=⟨2147483640⟩}),
 ([],27,.loop 0,{lv:=[⟨none,3,0⟩,⟨none,4,0⟩],ps:=[(yt4,2),(I,0)],D:=⟨2147483640⟩})] []
theorem qly:KT qdD qlr [qcD] 40:=λx=>by kernel_rfl
theorem qlK:OT qdD:=entK (qn qhp qz) hJ qly
def qbe(a0:yy3):Option (List UInt8) :=
 (qG (λ(s3:(yy8×Int)) =>
   bif decide (s3.2<(a0.length:Int))then
    (idx a0 s3.2).bind λx4 =>
    (strconv_Itoa x4.2.2.1).bind λx5 =>
    (app ([x4.1,x5]) x4.2.1).bind λx6 =>
    (strings_Join x6 ([32])).bind λx7 =>
    (app s3.1 ([x7])).bind λx8 =>
    some (.inl (x8,w64 (s3.2+1)))
   else
    some (.inr s3.1)) ([],0)).bind λ(p9:yy8) =>
 (strings_Join p9 ([59])).bind λx10 =>
 some x10
def qcp:Entry:=⟨26,[.ty yt4],[(.str,0)],λx=>qbe x⟩
def qiH:TH:=qcn [([],26,.block 0,{lv:=[⟨none,3,0⟩],ps:=[((.sl .str),1)],D:=⟨268435048⟩,wr:=[⟨0,5⟩]}),
 ([],26,.loop 0,{lv:=[⟨none,3,0⟩,⟨none,9,0⟩],ps:=[((.sl .str),1),(I,0)],D:=⟨268435048⟩,wr:=[⟨0,5⟩],rs:=[⟨0,5⟩],Dn:=⟨267869768⟩})] []
theorem qiL:KT qcp qiH [qcx,qdW] 40:=λx=>by kernel_rfl
theorem qiQ:OT qcp:=entK (qn qi4 (qn qpE qz)) hJ qiL
def qa2(a0:yy8)(a1:(List UInt8)):Option Int :=
 (qG (λ(s2:Int) =>
   bif decide (s2<(a0.length:Int))then
    (idx a0 s2).bind λx3 =>
    bif decide (a1=x3)then
     some (.inr (.inr s2))
    else
     some (.inl (w64 (s2+1)))
   else
    some (.inr (.inl ()))) 0).bind (Sum.elim (λ(p4:Unit) =>
 some (-1)) some)
def qaS:Entry:=⟨134,[.ty (.sl .str),.ty .str],[(I,0)],λx=>qa2 x.1 x.2⟩
def qex:TH:=qcn [([],134,.block 0,{lv:=[],ps:=[],abn:=true,D:=⟨524064⟩}),
 ([],134,.loop 0,{lv:=[⟨none,8,0⟩],ps:=[(I,0)],D:=⟨524064⟩})] []
theorem qey:KT qaS qex [] 40:=λx=>by kernel_rfl
theorem qeA:OT qaS:=entK qz hJ qey
def qN(a0:yy8)(a1:(List UInt8)):Option Bool :=
 (qa2 a0 a1).bind λx1 =>
 some (decide (x1>=0))
def qaA:Entry:=⟨85,[.ty (.sl .str),.ty .str],[(.bool,0)],λx=>qN x.1 x.2⟩
def qdt:TH:=qcn [] []
theorem qdu:KT qaA qdt [qaS] 40:=λx=>by kernel_rfl
theorem qdv:OT qaA:=entK (qn qeA qz) hJ qdu
def qcj(a0:(List UInt8))(a1:Int):Option (Int×Bool) :=
 (strconv_Atoi a0).bind λx1 =>
 (bif x1.2 then
   bif decide (x1.1>=0)then
    (strconv_Itoa x1.1).bind λx2 =>
    bif decide (x2=a0)then
     some (x1.1,decide ((a0.length:Int)<=a1))
    else
     some (x1.1,false)
   else
    some (x1.1,false)
  else
   some (x1.1,false)).bind λ(p3:(Int×Bool)) =>
 some (p3.1,p3.2)
def qe7:Entry:=⟨90,[.ty .str,.ty I],[(I,0),(.bool,0)],λx=>qcj x.1 x.2⟩
def qol:TH:=qcn [([],90,.region 2,{lv:=[⟨none,4,0⟩,⟨none,5,0⟩],ps:=[(I,0),(.bool,0)],D:=⟨4294959152⟩})] []
theorem qor:KT qe7 qol [qdV,qcx] 40:=λx=>by kernel_rfl
theorem qoK:OT qe7:=entK (qn qpD (qn qi4 qz)) hJ qor
def qp(a0:Bool)(a1:Int):Option Int :=
 bif a0 then
  some 0
 else
  some a1
def qE:Entry:=⟨73,[.ty .bool,.ty I],[(I,0)],λx=>qp x.1 x.2⟩
def qfa:TH:=qcn [] []
theorem qfc:KT qE qfa [] 40:=λx=>by kernel_rfl
theorem qak:OT qE:=entK qz hJ qfc
def qw(a0:(List Int)):Option Int :=
 (qG (λ(s2:Int) =>
   bif decide (s2<(a0.length:Int))then
    (idx a0 s2).bind λx3 =>
    bif !(decide (x3=0))then
     some (.inr (.inr x3))
    else
     some (.inl (w64 (s2+1)))
   else
    some (.inr (.inl ()))) 0).bind (Sum.elim (λ(p4:Unit) =>
 some 0) some)
def qJ:Entry:=⟨72,[.ty (.sl I)],[(I,0)],λx=>qw x⟩
def qfU:TH:=qcn [([],72,.block 0,{lv:=[],ps:=[],abn:=true,D:=⟨32656⟩}),
 ([],72,.loop 0,{lv:=[⟨none,7,0⟩],ps:=[(I,0)],D:=⟨32656⟩})] []
theorem qfV:KT qJ qfU [] 40:=λx=>by kernel_rfl
theorem qas:OT qJ:=entK qz hJ qfV
def qB(a0:Int)(a1:Int)(a2:Int):Option Bool :=
 (bif decide (a1<=a0)then
   some (decide (a0<=a2))
  else
   some false).bind λ(p1:Bool) =>
 some p1
def qF:Entry:=⟨74,[.ty I,.ty I,.ty I],[(.bool,0)],λx=>qB x.1 x.2.1 x.2.2⟩
def qfb:TH:=qcn [([],74,.region 1,{lv:=[⟨none,6,0⟩],ps:=[(.bool,0)],D:=⟨32704⟩})] []
theorem qfd:KT qF qfb [] 40:=λx=>by kernel_rfl
theorem qal:OT qF:=entK qz hJ qfd
def q9(a0:(List UInt8)):Option Bool :=
 (qG (λ(s2:Int) =>
   bif decide (s2<(a0.length:Int))then
    (idx a0 s2).bind λx3 =>
    ((qB (w64 ((x3.toNat:Int))) (97:Int) (122:Int)).bind λx4 =>
     bif x4 then
      some true
     else
      (qB (w64 ((x3.toNat:Int))) (65:Int) (90:Int)).bind λx5 =>
      some x5).bind λ(p6:Bool) =>
    (bif !p6 then
      bif decide (s2=0)then
       some true
      else
       bif !(decide (w64 ((x3.toNat:Int))=45))then
        (qB (w64 ((x3.toNat:Int))) (48:Int) (57:Int)).bind λx7 =>
        some (!x7)
       else
        some false
     else
      some false).bind λ(p8:Bool) =>
    bif p8 then
     some (.inr (.inr false))
    else
     some (.inl (w64 (s2+1)))
   else
    some (.inr (.inl ()))) 0).bind (Sum.elim (λ(p9:Unit) =>
 (qB (a0.length:Int) (1:Int) (12:Int)).bind λx10 =>
 some x10) some)
def qb1:Entry:=⟨156,[.ty .str],[(.bool,0)],λx=>q9 x⟩
def qok:TH:=qcn [([],156,.block 0,{lv:=[],ps:=[],abn:=true,D:=⟨137438953272⟩}),
 ([],156,.loop 0,{lv:=[⟨none,8,0⟩],ps:=[(I,0)],D:=⟨137438953272⟩}),
 ([],156,.region 5,{lv:=[⟨none,5,0⟩],ps:=[(.bool,0)],D:=⟨2064416⟩}),
 ([],156,.region 6,{lv:=[⟨none,35,0⟩],ps:=[(.bool,0)],D:=⟨68717379584⟩})] []
theorem qoq:KT qb1 qok [qF] 40:=λx=>by kernel_rfl
theorem qfm:OT qb1:=entK (qn qal qz) hJ qoq
def qa0(a0:yy3):Option (Int×Int) :=
 (qp (decide ((a0.length:Int) > 0)) (10:Int)).bind λx1 =>
 (qp (decide ((a0.length:Int)<=6)) (8:Int)).bind λx2 =>
 (qw ([x1,x2])).bind λx3 =>
 bif !(decide (x3=0))then
  some (0,x3)
 else
  ((qG (λ(s5:(Int×yy8)) =>
     bif decide (s5.1<(a0.length:Int))then
      (idx a0 s5.1).bind λx6 =>
      (q9 x6.1).bind λx7 =>
      (qp x7 (4:Int)).bind λx8 =>
      (qp (!(qfJ .str s5.2 x6.1)) (5:Int)).bind λx9 =>
      (qw ([x8,x9])).bind λx10 =>
      (qp (decide ((x6.2.1.length:Int)<=4)) (8:Int)).bind λx11 =>
      (qw ([x10,x11])).bind λx12 =>
      (qG (λ(s14:(Int×Int×yy8)) =>
        bif decide (s14.2.1<(x6.2.1.length:Int))then
         (idx x6.2.1 s14.2.1).bind λx15 =>
         (q9 x15).bind λx16 =>
         (qp x16 (4:Int)).bind λx17 =>
         (qp (!(qfJ .str s14.2.2 x15)) (23:Int)).bind λx18 =>
         (qw ([x17,x18])).bind λx19 =>
         (qw ([s14.1,x19])).bind λx20 =>
         some (.inl (x20,w64 (s14.2.1+1),qhF .str s14.2.2 x15))
        else
         some (.inr s14.1)) (x12,0,[])).bind λ(p21:Int) =>
      (qB x6.2.2.1 (0:Int) (20:Int)).bind λx22 =>
      (qp x22 (2:Int)).bind λx23 =>
      (qw ([p21,x23])).bind λx24 =>
      bif !(decide (x24=0))then
       some (.inr (.inr (s5.1,x24,qhF .str s5.2 x6.1)))
      else
       some (.inl (w64 (s5.1+1),qhF .str s5.2 x6.1))
     else
      some (.inr (.inl s5.2))) (0,[])).bind (Sum.elim (λ(p25:yy8) =>
   some (0,0,p25)) some)).bind λ(p26:(Int×Int×yy8)) =>
  some (p26.1,p26.2.1)
def qbB:Entry:=⟨91,[.ty yt4],[(I,0),(I,0)],λx=>qa0 x⟩
def qjj:TH:=qcn [([22],148,.inl 0,{lv:=[⟨none,4,0⟩,⟨none,5,0⟩,⟨some 0,16403,0⟩],ps:=[(I,0),(I,0),((.mset .str),0)],D:=⟨33554416⟩,wr:=[⟨0,16403⟩,⟨1,7⟩],rs:=[⟨0,5⟩,⟨1,7⟩],Dn:=⟨33488752⟩}),
 ([22],148,.block 0,{lv:=[⟨some 0,16403,0⟩],ps:=[((.mset .str),0)],abn:=true,D:=⟨33552832⟩,wr:=[⟨0,16403⟩,⟨1,7⟩]}),
 ([22],148,.loop 0,{lv:=[⟨none,11,0⟩,⟨some 0,16403,0⟩],ps:=[(I,0),((.mset .str),0)],D:=⟨33552832⟩,wr:=[⟨0,16403⟩,⟨1,7⟩],rs:=[⟨0,5⟩,⟨1,7⟩],Dn:=⟨33487168⟩}),
 ([19,22],149,.block 0,{lv:=[⟨none,7,0⟩],ps:=[(I,0)],D:=⟨68685922944⟩,wr:=[⟨2,16394⟩]}),
 ([19,22],149,.loop 0,{lv:=[⟨none,7,0⟩,⟨none,25,0⟩,⟨some 2,16394,0⟩],ps:=[(I,0),(I,0),((.mset .str),0)],D:=⟨68685922944⟩,wr:=[⟨2,16394⟩],rs:=[⟨2,16394⟩],Dn:=⟨67612181120⟩})] []
theorem qjp:KT qbB qjj [qJ,qb1,qE,qF] 40:=λx=>by kernel_rfl
theorem qfl:OT qbB:=entK (qn qas (qn qfm (qn qak (qn qal qz)))) hJ qjp
def qbr(a0:(List UInt8)):Option (yy3×Int) :=
 bif decide ((a0.length:Int) > 60000)then
  some ([],8)
 else
  (qG (λ(s2:(yy3×(List UInt8))) =>
    (strings_Index s2.2 ([59])).bind λx3 =>
    bif decide (x3<0)then
     some (.inr (.inl (s2.1,s2.2)))
    else
     (slc s2.2 0 (w64 (x3+0))).bind λx4 =>
     (strings_Split x4 ([32])).bind λx5 =>
     (bif decide ((x5.length:Int)<2)then
       some true
      else
       (qN x5 []).bind λx6 =>
       some x6).bind λ(p7:Bool) =>
     bif p7 then
      some (.inr (.inr ([],7)))
     else
      (idx x5 1).bind λx8 =>
      (qcj x8 (3:Int)).bind λx9 =>
      bif !x9.2 then
       some (.inr (.inr ([],7)))
      else
       (idx x5 0).bind λx10 =>
       (slc x5 2 (x5.length:Int)).bind λx11 =>
       (app s2.1 ([(x10,x11,x9.1,())])).bind λx12 =>
       (slc s2.2 (w64 (x3+1)) (s2.2.length:Int)).bind λx13 =>
       some (.inl (x12,x13))) ([],a0)).bind (Sum.elim (λ(p14:(yy3×(List UInt8))) =>
  (strings_Split p14.2 ([32])).bind λx15 =>
  (bif decide ((x15.length:Int)<2)then
    some true
   else
    (qN x15 []).bind λx16 =>
    some x16).bind λ(p17:Bool) =>
  bif p17 then
   some ([],7)
  else
   (idx x15 1).bind λx18 =>
   (qcj x18 (3:Int)).bind λx19 =>
   bif !x19.2 then
    some ([],7)
   else
    (idx x15 0).bind λx20 =>
    (slc x15 2 (x15.length:Int)).bind λx21 =>
    (app p14.1 ([(x20,x21,x19.1,())])).bind λx22 =>
    (qa0 x22).bind λx23 =>
    bif !(decide (x23.2=0))then
     some ([],x23.2)
    else
     some (x22,0)) some)
def qcK:Entry:=⟨29,[.ty .str],[(yt4,2000),(I,0)],λx=>qbr x⟩
def qjk:TH:=qcn [([16],195,.block 2,{lv:=[⟨some 0,4,0⟩,⟨some 0,15,0⟩],ps:=[(yt4,1001),(.str,0)],abn:=true,D:=⟨562949416550784⟩,wr:=[⟨0,4⟩,⟨0,15⟩]}),
 ([16],195,.loop 2,{lv:=[⟨some 0,4,0⟩,⟨some 0,15,0⟩],ps:=[(yt4,1001),(.str,0)],D:=⟨562949416550784⟩,wr:=[⟨0,4⟩,⟨0,15⟩],rs:=[⟨0,16⟩],Dn:=⟨562399660736896⟩}),
 ([41,16],29,.region 7,{lv:=[⟨none,25,0⟩],ps:=[(.bool,0)],D:=⟨66584576⟩}),
 ([51,16],29,.region 7,{lv:=[⟨none,25,0⟩],ps:=[(.bool,0)],D:=⟨66584576⟩})] []
theorem qjq:KT qcK qjk [qbB,qe7,qaA,qc3,qc4] 40:=λx=>by kernel_rfl
theorem qjw:OT qcK:=entK (qn qfl (qn qoK (qn qdv (qn qoM (qn qoN qz))))) hJ qjq
def qif(a0:yy8)(a1:yy8):Option Bool :=
 bif !(decide ((a0.length:Int)=(a1.length:Int)))then
  some false
 else
  (qG (λ(s2:Int) =>
    bif decide (s2<(a0.length:Int))then
     (idx a0 s2).bind λx3 =>
     (idx a1 s2).bind λx4 =>
     bif !(decide (x3=x4))then
      some (.inr (.inr false))
     else
      some (.inl (w64 (s2+1)))
    else
     some (.inr (.inl ()))) 0).bind (Sum.elim (λ(p5:Unit) =>
  some true) some)
def qhB:Entry:=⟨98,[.ty (.sl .str),.ty (.sl .str)],[(.bool,0)],λx=>qif x.1 x.2⟩
def qtd:TH:=qcn [([],98,.block 0,{lv:=[],ps:=[],abn:=true,D:=⟨67106848⟩}),
 ([],98,.loop 0,{lv:=[⟨none,5,0⟩],ps:=[(I,0)],D:=⟨67106848⟩})] []
theorem qtf:KT qhB qtd [] 40:=λx=>by kernel_rfl
theorem qtv:OT qhB:=entK qz hJ qtf
def qdj(a0:yy3)(a1:yy3):Option Bool :=
 bif !(decide ((a0.length:Int)=(a1.length:Int)))then
  some false
 else
  (qG (λ(s2:Int) =>
    bif decide (s2<(a0.length:Int))then
     ((idx a0 s2).bind λx3 =>
      (idx a1 s2).bind λx4 =>
      bif !(decide (x3.1=x4.1))then
       some true
      else
       (idx a0 s2).bind λx5 =>
       (idx a1 s2).bind λx6 =>
       bif !(decide (x5.2.2.1=x6.2.2.1))then
        some true
       else
        (idx a0 s2).bind λx7 =>
        (idx a1 s2).bind λx8 =>
        (qif x7.2.1 x8.2.1).bind λx9 =>
        some (!x9)).bind λ(p10:Bool) =>
     bif p10 then
      some (.inr (.inr false))
     else
      some (.inl (w64 (s2+1)))
    else
     some (.inr (.inl ()))) 0).bind (Sum.elim (λ(p11:Unit) =>
  some true) some)
def qdF:Entry:=⟨35,[.ty yt4,.ty yt4],[(.bool,0)],λx=>qdj x.1 x.2⟩
def qlt:TH:=qcn [([],35,.block 0,{lv:=[],ps:=[],abn:=true,D:=⟨36028797018961952⟩}),
 ([],35,.loop 0,{lv:=[⟨none,5,0⟩],ps:=[(I,0)],D:=⟨36028797018961952⟩}),
 ([],35,.region 6,{lv:=[⟨none,54,0⟩],ps:=[(.bool,0)],D:=⟨36028797018832896⟩})] []
theorem qlA:KT qdF qlt [qhB] 40:=λx=>by kernel_rfl
theorem qlM:OT qdF:=entK (qn qtv qz) hJ qlA
def qcV(a0:(List Int)):Option (List Int) :=
 (app [] a0).bind λx1 =>
 some x1
def qe5:Entry:=⟨21,[.ty (.sl I)],[((.sl I),1)],λx=>qcV x⟩
def qoh:TH:=qcn [] []
theorem qon:KT qe5 qoh [] 40:=λx=>by kernel_rfl
theorem qoH:OT qe5:=entK qz hJ qon
def qaK(a0:yy12):Option yy12 :=
 (qcV a0.1).bind λx1 =>
 (qcV a0.2.1).bind λx2 =>
 some (x1,x2,())
def qep:Entry:=⟨55,[.ty yt6],[(yt6,1)],λx=>qaK x⟩
def qmK:TH:=qcn [] []
theorem qmU:KT qep qmK [qe5] 40:=λx=>by kernel_rfl
theorem qm3:OT qep:=entK (qn qoH qz) hJ qmU
def qdP(a0:yy2):Option yy2 :=
 (qcv a0.1).bind λx1 =>
 (qG (λ(s4:(Int×yy8×yy11×(List yy12))) =>
   bif decide (s4.1<(a0.2.1.length:Int))then
    (idx a0.2.1 s4.1).bind λx5 =>
    (idx a0.2.1 s4.1).bind λx6 =>
    (qaK (x6.2.1,x6.2.2.1,())).bind λx7 =>
    (idx a0.2.1 s4.1).bind λx8 =>
    (qaK (x8.2.2.2.1,x8.2.2.2.2.1,())).bind λx9 =>
    (app s4.2.2.1 ([(x5.1,x7.1,x7.2.1,x9.1,x9.2.1,())])).bind λx10 =>
    some (.inl (w64 (s4.1+1),s4.2.1,x10,s4.2.2.2))
   else
    some (.inr (s4.2.1,s4.2.2.1,s4.2.2.2))) (0,x1,[],[])).bind λ(p11:(yy8×yy11×(List yy12))) =>
 (qG (λ(s13:(Int×yy8×yy11×(List yy12))) =>
   bif decide (s13.1<(a0.2.2.1.length:Int))then
    (idx a0.2.2.1 s13.1).bind λx14 =>
    (qaK x14).bind λx15 =>
    (app s13.2.2.2 ([x15])).bind λx16 =>
    some (.inl (w64 (s13.1+1),s13.2.1,s13.2.2.1,x16))
   else
    some (.inr (s13.2.1,s13.2.2.1,s13.2.2.2))) (0,p11.1,p11.2.1,p11.2.2)).bind λ(p17:(yy8×yy11×(List yy12))) =>
 some (p17.1,p17.2.1,p17.2.2,())
def qhC:Entry:=⟨11,[.ty yt1],[(yt1,0)],λx=>qdP x⟩
def qte:TH:=qcn [([],11,.block 0,{lv:=[⟨some 0,3,0⟩,⟨some 0,3,1⟩,⟨some 0,3,2⟩],ps:=[((.sl .str),1),(yt14,2),((.sl yt6),1)],D:=⟨8796093021200⟩,wr:=[⟨0,3⟩],rs:=[⟨0,1⟩],Dn:=⟨8796093019152⟩}),
 ([],11,.loop 0,{lv:=[⟨none,4,0⟩,⟨some 0,3,0⟩,⟨some 0,3,1⟩,⟨some 0,3,2⟩],ps:=[(I,0),((.sl .str),1),(yt14,2),((.sl yt6),1)],D:=⟨8796093021200⟩,wr:=[⟨0,3⟩],rs:=[⟨0,1⟩,⟨0,3⟩],Dn:=⟨4393717330960⟩}),
 ([],11,.block 2,{lv:=[⟨some 0,3,0⟩,⟨some 0,3,1⟩,⟨some 0,3,2⟩],ps:=[((.sl .str),1),(yt14,2),((.sl yt6),2001)],D:=⟨2305834213120671776⟩,wr:=[⟨0,3⟩],rs:=[⟨0,1⟩],Dn:=⟨2305816620934627360⟩}),
 ([],11,.loop 2,{lv:=[⟨none,5,0⟩,⟨some 0,3,0⟩,⟨some 0,3,1⟩,⟨some 0,3,2⟩],ps:=[(I,0),((.sl .str),1),(yt14,2),((.sl yt6),2001)],D:=⟨2305834213120671776⟩,wr:=[⟨0,3⟩],rs:=[⟨0,1⟩,⟨0,3⟩],Dn:=⟨1147265616793567264⟩})] []
theorem qtg:KT qhC qte [qcD,qep] 40:=λx=>by kernel_rfl
theorem qtw:OT qhC:=entK (qn qhp (qn qm3 qz)) hJ qtg
def qb9(a0:(List Int))(a1:Int):Option Int :=
 (qG (λ(s2:Int) =>
   bif decide (s2<(a0.length:Int))then
    (idx a0 s2).bind λx3 =>
    bif decide (a1=x3)then
     some (.inr (.inr s2))
    else
     some (.inl (w64 (s2+1)))
   else
    some (.inr (.inl ()))) 0).bind (Sum.elim (λ(p4:Unit) =>
 some (-1)) some)
def qbD:Entry:=⟨221,[.ty (.sl I),.ty I],[(I,0)],λx=>qb9 x.1 x.2⟩
def qgK:TH:=qcn [([],221,.block 0,{lv:=[],ps:=[],abn:=true,D:=⟨524064⟩}),
 ([],221,.loop 0,{lv:=[⟨none,8,0⟩],ps:=[(I,0)],D:=⟨524064⟩})] []
theorem qgN:KT qbD qgK [] 40:=λx=>by kernel_rfl
theorem qg0:OT qbD:=entK qz hJ qgN
def qaq(a0:(List Int))(a1:Int):Option Bool :=
 (qb9 a0 a1).bind λx1 =>
 some (decide (x1>=0))
def qa4:Entry:=⟨193,[.ty (.sl I),.ty I],[(.bool,0)],λx=>qaq x.1 x.2⟩
def qfw:TH:=qcn [] []
theorem qfx:KT qa4 qfw [qbD] 40:=λx=>by kernel_rfl
theorem qfy:OT qa4:=entK (qn qg0 qz) hJ qfx
def qbs(a0:(List Int))(a1:Int):Option Int :=
 ((qG (λ(s2:(Int×Int)) =>
    bif decide (s2.1<(a0.length:Int))then
     (idx a0 s2.1).bind λx3 =>
     (qB x3 (0:Int) (w64 (a1-1))).bind λx4 =>
     (qp x4 (6:Int)).bind λx5 =>
     (qp (decide (x3 > s2.2)) (9:Int)).bind λx6 =>
     (qw ([x5,x6])).bind λx7 =>
     bif !(decide (x7=0))then
      some (.inr (.inr (s2.1,x7,x3)))
     else
      some (.inl (w64 (s2.1+1),x3))
    else
     some (.inr (.inl s2.2))) (0,(-1))).bind (Sum.elim (λ(p8:Int) =>
  some (0,0,p8)) some)).bind λ(p9:(Int×Int×Int)) =>
 some p9.2.1
def qcL:Entry:=⟨194,[.ty (.sl I),.ty I],[(I,0)],λx=>qbs x.1 x.2⟩
def qjl:TH:=qcn [([11],70,.inl 0,{lv:=[⟨none,4,0⟩,⟨none,5,0⟩,⟨some 0,5,0⟩],ps:=[(I,0),(I,0),(I,0)],D:=⟨33554416⟩,wr:=[⟨0,5⟩],rs:=[⟨0,3⟩,⟨0,5⟩],Dn:=⟨33488880⟩}),
 ([11],70,.block 0,{lv:=[⟨some 0,5,0⟩],ps:=[(I,0)],abn:=true,D:=⟨33552832⟩,wr:=[⟨0,5⟩]}),
 ([11],70,.loop 0,{lv:=[⟨none,11,0⟩,⟨some 0,5,0⟩],ps:=[(I,0),(I,0)],D:=⟨33552832⟩,wr:=[⟨0,5⟩],rs:=[⟨0,3⟩,⟨0,5⟩],Dn:=⟨33487296⟩})] []
theorem qjr:KT qcL qjl [qJ,qE,qF] 40:=λx=>by kernel_rfl
theorem qjx:OT qcL:=entK (qn qas (qn qak (qn qal qz))) hJ qjr
def qaM(a0:yy12)(a1:Int):Option Int :=
 ((qG (λ(s2:Int) =>
    bif decide (s2<(a0.1.length:Int))then
     (idx a0.1 s2).bind λx3 =>
     (qaq a0.2.1 x3).bind λx4 =>
     bif x4 then
      some (.inr (.inr s2))
     else
      some (.inl (w64 (s2+1)))
    else
     some (.inr (.inl ()))) 0).bind (Sum.elim (λ(p5:Unit) =>
  some (-1)) some)).bind λ(p6:Int) =>
 (qbs a0.1 a1).bind λx7 =>
 (qbs a0.2.1 a1).bind λx8 =>
 (qp (!(decide (p6>=0))) (13:Int)).bind λx9 =>
 (qw ([x7,x8,x9])).bind λx10 =>
 some x10
def qev:Entry:=⟨143,[.ty yt6,.ty I],[(I,0)],λx=>qaM x.1 x.2⟩
def qmR:TH:=qcn [([7,9],201,.inl 0,{lv:=[⟨none,4,0⟩],ps:=[(I,0)],D:=⟨524272⟩,rs:=[⟨0,2⟩],Dn:=⟨522224⟩}),
 ([7,9],201,.block 0,{lv:=[],ps:=[],abn:=true,D:=⟨524064⟩}),
 ([7,9],201,.loop 0,{lv:=[⟨none,8,0⟩],ps:=[(I,0)],D:=⟨524064⟩,rs:=[⟨0,2⟩],Dn:=⟨522016⟩})] []
theorem qm1:KT qev qmR [qJ,qcL,qE,qa4] 40:=λx=>by kernel_rfl
theorem qm9:OT qev:=entK (qn qas (qn qjx (qn qak (qn qfy qz)))) hJ qm1
def qbJ(a0:yy2):Option (Int×Int) :=
 (bif decide ((a0.1.length:Int)<=8)then
   bif decide ((a0.2.1.length:Int)<=10)then
    some (decide ((a0.2.2.1.length:Int)<=4))
   else
    some false
  else
   some false).bind λ(p1:Bool) =>
 (qp (decide ((a0.1.length:Int) > 0)) (10:Int)).bind λx2 =>
 (qp p1 (8:Int)).bind λx3 =>
 (qw ([x2,x3])).bind λx4 =>
 bif !(decide (x4=0))then
  some (0,x4)
 else
  ((qG (λ(s6:(Int×yy8)) =>
     bif decide (s6.1<(a0.1.length:Int))then
      (idx a0.1 s6.1).bind λx7 =>
      (q9 x7).bind λx8 =>
      (qp x8 (4:Int)).bind λx9 =>
      (qp (!(qfJ .str s6.2 x7)) (5:Int)).bind λx10 =>
      (qw ([x9,x10])).bind λx11 =>
      bif !(decide (x11=0))then
       some (.inr (.inr (s6.1,x11,qhF .str s6.2 x7)))
      else
       some (.inl (w64 (s6.1+1),qhF .str s6.2 x7))
     else
      some (.inr (.inl s6.2))) (0,[])).bind (Sum.elim (λ(p12:yy8) =>
   some (0,0,p12)) some)).bind λ(p13:(Int×Int×yy8)) =>
  bif !(decide (p13.2.1=0))then
   some (p13.1,p13.2.1)
  else
   ((qG (λ(s15:(Int×yy8)) =>
      bif decide (s15.1<(a0.2.1.length:Int))then
       (idx a0.2.1 s15.1).bind λx16 =>
       (q9 x16.1).bind λx17 =>
       (qp x17 (4:Int)).bind λx18 =>
       (qp (!(qfJ .str s15.2 x16.1)) (5:Int)).bind λx19 =>
       (qw ([x18,x19])).bind λx20 =>
       (qaM (x16.2.1,x16.2.2.1,()) (a0.1.length:Int)).bind λx21 =>
       (qaM (x16.2.2.2.1,x16.2.2.2.2.1,()) (a0.1.length:Int)).bind λx22 =>
       (qw ([x20,x21,x22])).bind λx23 =>
       bif !(decide (x23=0))then
        some (.inr (.inr (s15.1,x23,qhF .str s15.2 x16.1)))
       else
        some (.inl (w64 (s15.1+1),qhF .str s15.2 x16.1))
      else
       some (.inr (.inl s15.2))) (0,[])).bind (Sum.elim (λ(p24:yy8) =>
    some (0,0,p24)) some)).bind λ(p25:(Int×Int×yy8)) =>
   bif !(decide (p25.2.1=0))then
    some (p25.1,p25.2.1)
   else
    ((qG (λ(s27:Int) =>
       bif decide (s27<(a0.2.2.1.length:Int))then
        (idx a0.2.2.1 s27).bind λx28 =>
        (qaM x28 (a0.1.length:Int)).bind λx29 =>
        bif !(decide (x29=0))then
         some (.inr (.inr (s27,x29)))
        else
         some (.inl (w64 (s27+1)))
       else
        some (.inr (.inl ()))) 0).bind (Sum.elim (λ(p30:Unit) =>
     some (0,0)) some)).bind λ(p31:(Int×Int)) =>
    some (p31.1,p31.2)
def qb0:Entry:=⟨88,[.ty yt1],[(I,0),(I,0)],λx=>qbJ x⟩
def qhH:TH:=qcn [([],88,.region 2,{lv:=[⟨none,5,0⟩],ps:=[(.bool,0)],D:=⟨536838176⟩,rs:=[⟨0,1⟩],Dn:=⟨519798816⟩}),
 ([44],139,.inl 0,{lv:=[⟨none,4,0⟩,⟨none,5,0⟩,⟨some 0,16423,0⟩],ps:=[(I,0),(I,0),((.mset .str),0)],D:=⟨33554416⟩,wr:=[⟨0,16423⟩],rs:=[⟨0,7⟩],Dn:=⟨33488880⟩}),
 ([44],139,.block 0,{lv:=[⟨some 0,16423,0⟩],ps:=[((.mset .str),0)],abn:=true,D:=⟨33552832⟩,wr:=[⟨0,16423⟩]}),
 ([44],139,.loop 0,{lv:=[⟨none,11,0⟩,⟨some 0,16423,0⟩],ps:=[(I,0),((.mset .str),0)],D:=⟨33552832⟩,wr:=[⟨0,16423⟩],rs:=[⟨0,7⟩],Dn:=⟨33487296⟩}),
 ([56],141,.inl 0,{lv:=[⟨none,4,0⟩,⟨none,5,0⟩,⟨some 0,16435,0⟩],ps:=[(I,0),(I,0),((.mset .str),0)],D:=⟨33554416⟩,wr:=[⟨0,16435⟩,⟨1,7⟩],rs:=[⟨0,4⟩,⟨0,7⟩,⟨1,7⟩],Dn:=⟨33488752⟩}),
 ([56],141,.block 0,{lv:=[⟨some 0,16435,0⟩],ps:=[((.mset .str),0)],abn:=true,D:=⟨33552832⟩,wr:=[⟨0,16435⟩,⟨1,7⟩]}),
 ([56],141,.loop 0,{lv:=[⟨none,11,0⟩,⟨some 0,16435,0⟩],ps:=[(I,0),((.mset .str),0)],D:=⟨33552832⟩,wr:=[⟨0,16435⟩,⟨1,7⟩],rs:=[⟨0,4⟩,⟨0,7⟩,⟨1,7⟩],Dn:=⟨33487168⟩}),
 ([66],144,.inl 0,{lv:=[⟨none,4,0⟩,⟨none,5,0⟩],ps:=[(I,0),(I,0)],D:=⟨33554416⟩,wr:=[⟨1,7⟩],rs:=[⟨0,4⟩,⟨1,7⟩],Dn:=⟨33488752⟩}),
 ([66],144,.block 0,{lv:=[],ps:=[],abn:=true,D:=⟨33552832⟩,wr:=[⟨1,7⟩]}),
 ([66],144,.loop 0,{lv:=[⟨none,11,0⟩],ps:=[(I,0)],D:=⟨33552832⟩,wr:=[⟨1,7⟩],rs:=[⟨0,4⟩,⟨1,7⟩],Dn:=⟨33487168⟩})] []
theorem qhI:KT qb0 qhH [qJ,qb1,qev,qE] 40:=λx=>by kernel_rfl
theorem qhO:OT qb0:=entK (qn qas (qn qfm (qn qm9 (qn qak qz)))) hJ qhI
def qh3(a0:(List Int)):Option Int :=
 (qG (λ(s2:(Int×Int)) =>
   bif decide (s2.2<(a0.length:Int))then
    (idx a0 s2.2).bind λx3 =>
    (qDu .i64 (1:Int) x3).bind λx4 =>
    some (.inl (orI .i64 s2.1 x4,w64 (s2.2+1)))
   else
    some (.inr s2.1)) (0,0)).bind λ(p5:Int) =>
 some p5
def qjg:Entry:=⟨202,[.ty (.sl I)],[(I,0)],λx=>qh3 x⟩
def quZ:TH:=qcn [([],202,.block 0,{lv:=[⟨none,3,0⟩],ps:=[(I,0)],D:=⟨130856⟩}),
 ([],202,.loop 0,{lv:=[⟨none,3,0⟩,⟨none,8,0⟩],ps:=[(I,0),(I,0)],D:=⟨130856⟩})] []
theorem qu2:KT qjg quZ [] 40:=λx=>by kernel_rfl
theorem qvc:OT qjg:=entK qz hJ qu2
def qaL(a0:yy12):Option (Int×Int×Unit) :=
 (qh3 a0.1).bind λx1 =>
 (qh3 a0.2.1).bind λx2 =>
 some (x1,x2,())
def qeu:Entry:=⟨168,[.ty yt6],[(yt5,0)],λx=>qaL x⟩
def qmQ:TH:=qcn [] []
theorem qm0:KT qeu qmQ [qjg] 40:=λx=>by kernel_rfl
theorem qm8:OT qeu:=entK (qn qvc qz) hJ qm0
def qg9(a0:yy2):Option ((yy7×yy7×yy7×Int×Unit)×Int) :=
 (qbJ a0).bind λx1 =>
 bif !(decide (x1.2=0))then
  some (([],[],[],0,()),x1.2)
 else
  (qDu .i64 (1:Int) (a0.1.length:Int)).bind λx2 =>
  (qG (λ(s5:(Int×yy7×yy7×yy7×Int)) =>
    bif decide (s5.1<(a0.2.1.length:Int))then
     (idx a0.2.1 s5.1).bind λx6 =>
     (qaL (x6.2.1,x6.2.2.1,())).bind λx7 =>
     (app s5.2.1 ([x7])).bind λx8 =>
     (qaL (x6.2.2.2.1,x6.2.2.2.2.1,())).bind λx9 =>
     (app s5.2.2.1 ([x9])).bind λx10 =>
     some (.inl (w64 (s5.1+1),x8,x10,s5.2.2.2.1,s5.2.2.2.2))
    else
     some (.inr (s5.2.1,s5.2.2.1,s5.2.2.2.1,s5.2.2.2.2))) (0,[],[],[],x2)).bind λ(p11:(yy7×yy7×yy7×Int)) =>
  (qG (λ(s14:(Int×yy7×yy7×yy7×Int)) =>
    bif decide (s14.1<(a0.2.2.1.length:Int))then
     (idx a0.2.2.1 s14.1).bind λx15 =>
     (qaL x15).bind λx16 =>
     (app s14.2.2.2.1 ([x16])).bind λx17 =>
     some (.inl (w64 (s14.1+1),s14.2.1,s14.2.2.1,x17,s14.2.2.2.2))
    else
     some (.inr (s14.2.1,s14.2.2.1,s14.2.2.2.1,s14.2.2.2.2))) (0,p11.1,p11.2.1,p11.2.2.1,p11.2.2.2)).bind λ(p18:(yy7×yy7×yy7×Int)) =>
  some ((p18.1,p18.2.1,p18.2.2.1,p18.2.2.2,()),0)
def qgF:Entry:=⟨115,[.ty yt1],[(yt15,2000),(I,0)],λx=>qg9 x⟩
def qrn:TH:=qcn [([],115,.block 0,{lv:=[⟨some 0,6,0⟩,⟨some 0,6,1⟩,⟨some 0,6,2⟩,⟨some 0,6,3⟩],ps:=[((.sl yt5),1),((.sl yt5),1),((.sl yt5),1),(I,0)],D:=⟨562949684987136⟩,wr:=[⟨0,6⟩,⟨0,8⟩]}),
 ([],115,.loop 0,{lv:=[⟨none,28,0⟩,⟨some 0,6,0⟩,⟨some 0,6,1⟩,⟨some 0,6,2⟩,⟨some 0,6,3⟩],ps:=[(I,0),((.sl yt5),1),((.sl yt5),1),((.sl yt5),1),(I,0)],D:=⟨562949684987136⟩,wr:=[⟨0,6⟩,⟨0,8⟩],rs:=[⟨0,6⟩,⟨0,8⟩],Dn:=⟨349073198547968⟩}),
 ([],115,.block 2,{lv:=[⟨some 0,6,0⟩,⟨some 0,6,1⟩,⟨some 0,6,2⟩,⟨some 0,6,3⟩],ps:=[((.sl yt5),1),((.sl yt5),1),((.sl yt5),1),(I,0)],D:=⟨18442240474082182400⟩,wr:=[⟨0,6⟩,⟨0,8⟩,⟨0,10⟩]}),
 ([],115,.loop 2,{lv:=[⟨none,52,0⟩,⟨some 0,6,0⟩,⟨some 0,6,1⟩,⟨some 0,6,2⟩,⟨some 0,6,3⟩],ps:=[(I,0),((.sl yt5),1),((.sl yt5),1),((.sl yt5),1),(I,0)],D:=⟨18442240474082182400⟩,wr:=[⟨0,6⟩,⟨0,8⟩,⟨0,10⟩],rs:=[⟨0,6⟩,⟨0,10⟩],Dn:=⟨13758496861616865536⟩})] []
theorem qrt:KT qgF qrn [qb0,qeu] 40:=λx=>by kernel_rfl
theorem qrE:OT qgF:=entK (qn qhO (qn qm8 qz)) hJ qrt
def qbN(a0:yy2)(a1:Int):Option ((yy7×yy7×yy7×Int×Unit)×Int×Int) :=
 (qg9 a0).bind λx1 =>
 (qB a1 (0:Int) (w64 (x1.1.2.2.2.1-1))).bind λx2 =>
 (qp x2 (2:Int)).bind λx3 =>
 (qw ([x1.2,x3])).bind λx4 =>
 some (x1.1,a1,x4)
def qbS:Entry:=⟨51,[.ty yt1,.ty I],[(yt15,0),(I,0),(I,0)],λx=>qbN x.1 x.2⟩
def qkl:TH:=qcn [] []
theorem qkq:KT qbS qkl [qJ,qgF,qE,qF] 40:=λx=>by kernel_rfl
theorem qfL:OT qbS:=entK (qn qas (qn qrE (qn qak (qn qal qz)))) hJ qkq
def qaJ(a0:(Int×Int×Unit))(a1:Int):Option Bool :=
 (bif decide (qyM .i64 a1 a0.1=a0.1)then
   some (decide (qyM .i64 a1 a0.2.1=0))
  else
   some false).bind λ(p1:Bool) =>
 some p1
def qbC:Entry:=⟨120,[.ty yt5,.ty I],[(.bool,0)],λx=>qaJ x.1 x.2⟩
def qjn:TH:=qcn [([],120,.region 1,{lv:=[⟨none,4,0⟩],ps:=[(.bool,0)],D:=⟨524272⟩,rs:=[⟨0,2⟩],Dn:=⟨507312⟩})] []
theorem qjt:KT qbC qjn [] 40:=λx=>by kernel_rfl
theorem qfn:OT qbC:=entK qz hJ qjt
def qae(a0:(yy7×yy7×yy7×Int×Unit))(a1:Int):Option Bool :=
 ((qG (λ(s2:Int) =>
    bif decide (s2<(a0.2.2.1.length:Int))then
     (idx a0.2.2.1 s2).bind λx3 =>
     (qaJ x3 a1).bind λx4 =>
     bif x4 then
      some (.inr (.inr s2))
     else
      some (.inl (w64 (s2+1)))
    else
     some (.inr (.inl ()))) 0).bind (Sum.elim (λ(p5:Unit) =>
  some (-1)) some)).bind λ(p6:Int) =>
 some (decide (p6>=0))
def qaW:Entry:=⟨58,[.ty yt15,.ty I],[(.bool,0)],λx=>qae x.1 x.2⟩
def qgI:TH:=qcn [([7,8],179,.inl 0,{lv:=[⟨none,4,0⟩],ps:=[(I,0)],D:=⟨524272⟩,rs:=[⟨0,3⟩],Dn:=⟨522224⟩}),
 ([7,8],179,.block 0,{lv:=[],ps:=[],abn:=true,D:=⟨524064⟩}),
 ([7,8],179,.loop 0,{lv:=[⟨none,8,0⟩],ps:=[(I,0)],D:=⟨524064⟩,rs:=[⟨0,3⟩],Dn:=⟨522016⟩})] []
theorem qgL:KT qaW qgI [qbC] 40:=λx=>by kernel_rfl
theorem qdb:OT qaW:=entK (qn qfn qz) hJ qgL
def qbO(a0:(Int×Int×Unit))(a1:Int):Option Int :=
 some (qjd .i64 (orI .i64 a1 a0.1) a0.2.1)
def qc2:Entry:=⟨128,[.ty yt5,.ty I],[(I,0)],λx=>qbO x.1 x.2⟩
def qkm:TH:=qcn [] []
theorem qkr:KT qc2 qkm [] 40:=λx=>by kernel_rfl
theorem qkD:OT qc2:=entK qz hJ qkr
def qaN(a0:(yy7×yy7×yy7×Int×Unit))(a1:Int)(a2:Int):Option yy13 :=
 (qG (λ(s2:(yy13×Int×(List Int))) =>
   bif decide (s2.2.1<(s2.1.length:Int))then
    ((idx s2.1 s2.2.1).bind λx3 =>
     (qae a0 x3.1).bind λx4 =>
     bif x4 then
      some (s2.1,s2.2.2)
     else
      (idx s2.1 s2.2.1).bind λx5 =>
      ((qG (λ(s7:(Int×yy13×(List Int))) =>
         bif decide (s7.1<(a0.1.length:Int))then
          (idx a0.1 s7.1).bind λx8 =>
          ((qEg .i64 a2 s7.1).bind λx9 =>
           bif decide (qyM .i64 x9 (1:Int)=0)then
            (qaJ x8 x5.1).bind λx10 =>
            bif x10 then
             (idx a0.2.1 s7.1).bind λx11 =>
             (qbO x11 x5.1).bind λx12 =>
             (bif !(qfJ I s7.2.2 x12)then
               (app s7.2.1 ([(x12,s2.2.1,s7.1,())])).bind λx13 =>
               some (x13,qhF I s7.2.2 x12)
              else
               some (s7.2.1,s7.2.2)).bind λ(p14:(yy13×(List Int))) =>
             some (false,p14.1,p14.2)
            else
             some (false,s7.2.1,s7.2.2)
           else
            some (false,s7.2.1,s7.2.2)).bind λ(p15:(Bool×yy13×(List Int))) =>
          bif p15.1 then
           some (.inr (.inr (p15.2.1,p15.2.2)))
          else
           some (.inl (w64 (s7.1+1),p15.2.1,p15.2.2))
         else
          some (.inr (.inl (s7.2.1,s7.2.2)))) (0,s2.1,s2.2.2)).bind (Sum.elim (λ(p16:(yy13×(List Int))) =>
       some (p16.1,p16.2)) some)).bind λ(p17:(yy13×(List Int))) =>
      some (p17.1,p17.2)).bind λ(p18:(yy13×(List Int))) =>
    some (.inl (p18.1,w64 (s2.2.1+1),p18.2))
   else
    some (.inr s2.1)) ([(a1,(-1),(-1),())],0,qhF I [] a1)).bind λ(p19:yy13) =>
 some p19
def qaX:Entry:=⟨52,[.ty yt15,.ty I,.ty I],[(yt16,1)],λx=>qaN x.1 x.2.1 x.2.2⟩
def qgJ:TH:=qcn [([],52,.block 0,{lv:=[⟨some 0,7,0⟩],ps:=[(yt16,1)],D:=⟨36028797018705408⟩,wr:=[⟨0,7⟩,⟨0,9⟩,⟨0,16399⟩],rs:=[⟨0,9⟩],Dn:=⟨36028797018704896⟩}),
 ([],52,.loop 0,{lv:=[⟨some 0,7,0⟩,⟨some 0,9,0⟩,⟨some 0,16399,0⟩],ps:=[(yt16,1),(I,0),((.mset I),0)],D:=⟨36028797018705408⟩,wr:=[⟨0,7⟩,⟨0,9⟩,⟨0,16399⟩],rs:=[⟨0,9⟩],Dn:=⟨36028797018704896⟩,kp:=[(9,⟨0,9⟩,0)]}),
 ([],52,.block 1,{lv:=[⟨some 0,7,0⟩,⟨some 0,16399,0⟩],ps:=[(yt16,1),((.mset I),0)],D:=⟨549739036672⟩,wr:=[⟨0,7⟩,⟨0,16399⟩]}),
 ([39],127,.inl 0,{lv:=[⟨some 0,7,0⟩,⟨some 0,16399,0⟩],ps:=[(yt16,1),((.mset I),0)],D:=⟨549755813856⟩,wr:=[⟨0,7⟩,⟨0,16399⟩,⟨1,6⟩],rs:=[⟨0,39⟩,⟨1,6⟩],Dn:=⟨549688704928⟩}),
 ([39],127,.block 0,{lv:=[⟨some 0,7,0⟩,⟨some 0,16399,0⟩],ps:=[(yt16,1),((.mset I),0)],abn:=true,D:=⟨549755812960⟩,wr:=[⟨0,7⟩,⟨0,16399⟩,⟨1,6⟩]}),
 ([39],127,.loop 0,{lv:=[⟨none,10,0⟩,⟨some 0,7,0⟩,⟨some 0,16399,0⟩],ps:=[(I,0),(yt16,1),((.mset I),0)],D:=⟨549755812960⟩,wr:=[⟨0,7⟩,⟨0,16399⟩,⟨1,6⟩],rs:=[⟨0,39⟩,⟨1,6⟩],Dn:=⟨549688704032⟩}),
 ([39],127,.region 3,{lv:=[⟨none,37,0⟩,⟨some 0,7,0⟩,⟨some 0,16399,0⟩],ps:=[(.bool,0),(yt16,1),((.mset I),0)],D:=⟨274877874176⟩,wr:=[⟨0,7⟩,⟨0,16399⟩],rs:=[⟨0,39⟩],Dn:=⟨274810765312⟩}),
 ([35,39],52,.cond 44,{lv:=[⟨some 0,7,0⟩,⟨some 0,16399,0⟩],ps:=[(yt16,1),((.mset I),0)],D:=⟨17979214137393152⟩,wr:=[⟨0,7⟩,⟨0,16399⟩],rs:=[⟨0,16399⟩],Dn:=⟨17944029765304320⟩})] [([],52,38)]
theorem qgM:KT qaX qgJ [qaW,qc2,qbC] 40:=λx=>by kernel_rfl
theorem qdc:OT qaX:=entK (qn qdb (qn qkD (qn qfn qz))) hJ qgM
def qbf(a0:yy2)(a1:Int):Option yy17 :=
 (qbN a0 a1).bind λx1 =>
 bif !(decide (x1.2.2=0))then
  some ([],x1.2.2)
 else
  (qaN x1.1 x1.2.1 (0:Int)).bind λx2 =>
  (qG (λ(s5:yy17) =>
    bif decide (s5.2<(x2.length:Int))then
     (idx x2 s5.2).bind λx6 =>
     (app s5.1 ([x6.1])).bind λx7 =>
     some (.inl (x7,w64 (s5.2+1)))
    else
     some (.inr s5.1)) ([],0)).bind λ(p8:(List Int)) =>
  (qAR p8).bind λx9 =>
  some (x9,0)
def qcq:Entry:=⟨10,[.ty yt1,.ty I],[((.sl I),1),(I,0)],λx=>qbf x.1 x.2⟩
def qiI:TH:=qcn [([],10,.block 0,{lv:=[⟨none,9,0⟩],ps:=[((.sl I),1)],D:=⟨68652370432⟩,wr:=[⟨0,11⟩]}),
 ([],10,.loop 0,{lv:=[⟨none,9,0⟩,⟨none,26,0⟩],ps:=[((.sl I),1),(I,0)],D:=⟨68652370432⟩,wr:=[⟨0,11⟩],rs:=[⟨0,11⟩],Dn:=⟨66504884736⟩})] []
theorem qiM:KT qcq qiI [qaX,qbS] 40:=λx=>by kernel_rfl
theorem qiR:OT qcq:=entK (qn qdc (qn qfL qz)) hJ qiM
def qb8(a0:yy2)(a1:Int):Option yy17 :=
 (qbN a0 a1).bind λx1 =>
 bif !(decide (x1.2.2=0))then
  some ([],x1.2.2)
 else
  (qaN x1.1 x1.2.1 (0:Int)).bind λx2 =>
  ((qG (λ(s4:Int) =>
     bif decide (s4<(x2.length:Int))then
      (idx x2 s4).bind λx5 =>
      (qae x1.1 x5.1).bind λx6 =>
      bif x6 then
       some (.inr (.inr s4))
      else
       some (.inl (w64 (s4+1)))
     else
      some (.inr (.inl ()))) 0).bind (Sum.elim (λ(p7:Unit) =>
   some (-1)) some)).bind λ(p8:Int) =>
  bif decide (p8<0)then
   some ([],12)
  else
   (idx x2 p8).bind λx9 =>
   (qG (λ(s11:((List Int)×Int×Int×Int)) =>
     bif decide (s11.2.2.1>=0)then
      (app s11.1 ([s11.2.2.2])).bind λx12 =>
      (idx x2 s11.2.2.1).bind λx13 =>
      some (.inl (x12,x13.1,x13.2.1,x13.2.2.1))
     else
      some (.inr s11.1)) ([],x9.1,x9.2.1,x9.2.2.1)).bind λ(p14:(List Int)) =>
   (qD9 p14).bind λx15 =>
   some (x15,0)
def qdG:Entry:=⟨12,[.ty yt1,.ty I],[((.sl I),1),(I,0)],λx=>qb8 x.1 x.2⟩
def qlu:TH:=qcn [([28],56,.inl 0,{lv:=[⟨none,4,0⟩],ps:=[(I,0)],D:=⟨524272⟩,rs:=[⟨0,6⟩],Dn:=⟨522224⟩}),
 ([28],56,.block 0,{lv:=[],ps:=[],abn:=true,D:=⟨524064⟩}),
 ([28],56,.loop 0,{lv:=[⟨none,8,0⟩],ps:=[(I,0)],D:=⟨524064⟩,rs:=[⟨0,6⟩],Dn:=⟨522016⟩}),
 ([],12,.block 0,{lv:=[⟨none,11,0⟩],ps:=[((.sl I),1)],D:=⟨562915593689088⟩,wr:=[⟨0,12⟩],rs:=[⟨0,12⟩],Dn:=⟨562881233946624⟩}),
 ([],12,.loop 0,{lv:=[⟨none,11,0⟩,⟨some 0,12,0⟩,⟨some 0,12,1⟩,⟨some 0,12,2⟩],ps:=[((.sl I),1),(I,0),(I,0),(I,0)],D:=⟨562915593689088⟩,wr:=[⟨0,12⟩],rs:=[⟨0,12⟩],Dn:=⟨562365837871104⟩,kp:=[(12,⟨0,12⟩,0)]})] []
theorem qlB:KT qdG qlu [qaW,qaX,qbS] 40:=λx=>by kernel_rfl
theorem qlN:OT qdG:=entK (qn qdb (qn qdc (qn qfL qz))) hJ qlB
def qdi(a0:(List yy9)):Option (List yy9) :=
 (app [] a0).bind λx1 =>
 some x1
def qdE:Entry:=⟨43,[.ty (.sl yt10)],[((.sl yt10),1)],λx=>qdi x⟩
def qls:TH:=qcn [] []
theorem qlz:KT qdE qls [] 40:=λx=>by kernel_rfl
theorem qlL:OT qdE:=entK qz hJ qlz
def qZ(a0:(List yy9))(a1:yy9):Option Int :=
 (qG (λ(s2:Int) =>
   bif decide (s2<(a0.length:Int))then
    (idx a0 s2).bind λx3 =>
    let v4:Bool:=(bif decide (a1.1=x3.1)then (bif decide (a1.2.1=x3.2.1)then (bif decide (a1.2.2.1=x3.2.2.1)then true else false)else false)else false)
    bif v4 then
     some (.inr (.inr s2))
    else
     some (.inl (w64 (s2+1)))
   else
    some (.inr (.inl ()))) 0).bind (Sum.elim (λ(p5:Unit) =>
 some (-1)) some)
def qW:Entry:=⟨200,[.ty (.sl yt10),.ty yt10],[(I,0)],λx=>qZ x.1 x.2⟩
def qbm:TH:=qcn [([],200,.block 0,{lv:=[],ps:=[],abn:=true,D:=⟨524064⟩}),
 ([],200,.loop 0,{lv:=[⟨none,8,0⟩],ps:=[(I,0)],D:=⟨524064⟩})] []
theorem qbn:KT qW qbm [] 40:=λx=>by kernel_rfl
theorem qbq:OT qW:=entK qz hJ qbn
def qu(a0:(List yy9))(a1:yy9):Option Bool :=
 (qZ a0 a1).bind λx1 =>
 some (decide (x1>=0))
def qQ:Entry:=⟨157,[.ty (.sl yt10),.ty yt10],[(.bool,0)],λx=>qu x.1 x.2⟩
def qba:TH:=qcn [] []
theorem qbb:KT qQ qba [qW] 40:=λx=>by kernel_rfl
theorem qbd:OT qQ:=entK (qn qbq qz) hJ qbb
def qdp(a0:Int)(a1:(List yy9)):Option Int :=
 bif decide ((a1.length:Int) > 20)then
  some 8
 else
  ((qG (λ(s2:Int) =>
     bif decide (s2<(a1.length:Int))then
      (idx a1 s2).bind λx3 =>
      ((qB x3.1 (0:Int) (w64 (a0-1))).bind λx4 =>
       (qp x4 (6:Int)).bind λx5 =>
       (q9 x3.2.1).bind λx6 =>
       bif x6 then
        (q9 x3.2.2.1).bind λx7 =>
        (qp x7 (4:Int)).bind λx8 =>
        (slc a1 0 s2).bind λx9 =>
        (qu x9 x3).bind λx10 =>
        (qp (!x10) (23:Int)).bind λx11 =>
        (qw ([x5,x8,x11])).bind λx12 =>
        some x12
       else
        (qp false (4:Int)).bind λx13 =>
        (slc a1 0 s2).bind λx14 =>
        (qu x14 x3).bind λx15 =>
        (qp (!x15) (23:Int)).bind λx16 =>
        (qw ([x5,x13,x16])).bind λx17 =>
        some x17).bind λ(p18:Int) =>
      bif !(decide (p18=0))then
       some (.inr (.inr (s2,p18)))
      else
       some (.inl (w64 (s2+1)))
     else
      some (.inr (.inl ()))) 0).bind (Sum.elim (λ(p19:Unit) =>
   some (0,0)) some)).bind λ(p20:(Int×Int)) =>
  some p20.2
def qdH:Entry:=⟨103,[.ty I,.ty (.sl yt10)],[(I,0)],λx=>qdp x.1 x.2⟩
def qlw:TH:=qcn [([13],154,.inl 0,{lv:=[⟨none,4,0⟩,⟨none,5,0⟩],ps:=[(I,0),(I,0)],D:=⟨33554416⟩,wr:=[⟨1,7⟩],rs:=[⟨0,2⟩,⟨0,3⟩,⟨1,7⟩],Dn:=⟨33488752⟩}),
 ([13],154,.block 0,{lv:=[],ps:=[],abn:=true,D:=⟨33552832⟩,wr:=[⟨1,7⟩]}),
 ([13],154,.loop 0,{lv:=[⟨none,11,0⟩],ps:=[(I,0)],D:=⟨33552832⟩,wr:=[⟨1,7⟩],rs:=[⟨0,2⟩,⟨0,3⟩,⟨1,7⟩],Dn:=⟨33487168⟩}),
 ([19,13],155,.region 1,{lv:=[⟨none,6,0⟩],ps:=[(I,0)],D:=⟨2147483584⟩,rs:=[⟨2,5⟩],Dn:=⟨2147344192⟩})] []
theorem qlD:KT qdH qlw [qJ,qb1,qE,qF,qQ] 40:=λx=>by kernel_rfl
theorem qlP:OT qdH:=entK (qn qas (qn qfm (qn qak (qn qal (qn qbd qz))))) hJ qlD
def qd7(a0:yy3)(a1:Int)(a2:(List yy9)):Option yy17 :=
 (qG (λ(s2:(Int×yy8×yy8)) =>
   bif decide (s2.1<(a2.length:Int))then
    (idx a2 s2.1).bind λx3 =>
    (bif decide (x3.1=a1)then
      some (qhF .str s2.2.1 x3.2.2.1,qhF .str s2.2.2 x3.2.1)
     else
      some (s2.2.1,s2.2.2)).bind λ(p4:(yy8×yy8)) =>
    some (.inl (w64 (s2.1+1),p4.1,p4.2))
   else
    some (.inr (s2.2.1,s2.2.2))) (0,[],[])).bind λ(p5:(yy8×yy8)) =>
 (idx a0 a1).bind λx6 =>
 (qG (λ(s8:yy17) =>
   bif decide (s8.2<(x6.2.1.length:Int))then
    (idx x6.2.1 s8.2).bind λx9 =>
    (bif !(qfJ .str p5.1 x9)then
      (app s8.1 ([s8.2])).bind λx10 =>
      some x10
     else
      some s8.1).bind λ(p11:(List Int)) =>
    some (.inl (p11,w64 (s8.2+1)))
   else
    some (.inr s8.1)) ([],0)).bind λ(p12:(List Int)) =>
 some (p12,(p5.2.length:Int))
def qet:Entry:=⟨104,[.ty yt4,.ty I,.ty (.sl yt10)],[((.sl I),1),(I,0)],λx=>qd7 x.1 x.2.1 x.2.2⟩
def qmP:TH:=qcn [([],104,.block 0,{lv:=[⟨some 0,16399,0⟩,⟨some 0,16400,0⟩],ps:=[((.mset .str),0),((.mset .str),0)],D:=⟨17179351040⟩,wr:=[⟨0,11⟩,⟨0,16399⟩,⟨0,16400⟩]}),
 ([],104,.loop 0,{lv:=[⟨none,19,0⟩,⟨some 0,16399,0⟩,⟨some 0,16400,0⟩],ps:=[(I,0),((.mset .str),0),((.mset .str),0)],D:=⟨17179351040⟩,wr:=[⟨0,11⟩,⟨0,16399⟩,⟨0,16400⟩],rs:=[⟨0,11⟩,⟨0,16399⟩,⟨0,16400⟩],Dn:=⟨13547081728⟩}),
 ([],104,.cond 26,{lv:=[⟨some 0,16399,0⟩,⟨some 0,16400,0⟩],ps:=[((.mset .str),0),((.mset .str),0)],D:=⟨8455716864⟩,wr:=[⟨0,16399⟩,⟨0,16400⟩],rs:=[⟨0,11⟩,⟨0,16399⟩,⟨0,16400⟩],Dn:=⟨4831838208⟩}),
 ([],104,.block 2,{lv:=[⟨none,12,0⟩],ps:=[((.sl I),1)],D:=⟨18013298997882880⟩}),
 ([],104,.loop 2,{lv:=[⟨none,12,0⟩,⟨none,40,0⟩],ps:=[((.sl I),1),(I,0)],D:=⟨18013298997882880⟩,rs:=[⟨0,16399⟩],Dn:=⟨17978114625794048⟩}),
 ([],104,.cond 48,{lv:=[⟨none,12,0⟩],ps:=[((.sl I),1)],D:=⟨8444249301323776⟩})] []
theorem qmZ:KT qet qmP [] 40:=λx=>by kernel_rfl
theorem qm7:OT qet:=entK qz hJ qmZ
def qd5(a0:yy3)(a1:(List yy9)):Option (Int×Int) :=
 (qa0 a0).bind λx1 =>
 (qdp (a0.length:Int) a1).bind λx2 =>
 (qw ([x1.2,x2])).bind λx3 =>
 bif !(decide (x3=0))then
  some (0,x3)
 else
  (qG (λ(s5:Int) =>
    bif decide (s5<(a0.length:Int))then
     (idx a0 s5).bind λx6 =>
     (qd7 a0 s5 a1).bind λx7 =>
     (bif decide ((x7.1.length:Int) > 0)then
       some true
      else
       some (decide (x7.2<x6.2.2.1))).bind λ(p8:Bool) =>
     bif p8 then
      some (.inr (.inr (s5,0)))
     else
      some (.inl (w64 (s5+1)))
    else
     some (.inr (.inl ()))) 0).bind (Sum.elim (λ(p9:Unit) =>
  some ((a0.length:Int),0)) some)
def qes:Entry:=⟨42,[.ty yt4,.ty (.sl yt10)],[(I,0),(I,0)],λx=>qd5 x.1 x.2⟩
def qmN:TH:=qcn [([],42,.block 0,{lv:=[],ps:=[],abn:=true,D:=⟨4503599090503424⟩,wr:=[⟨0,9⟩]}),
 ([],42,.loop 0,{lv:=[⟨none,29,0⟩],ps:=[(I,0)],D:=⟨4503599090503424⟩,wr:=[⟨0,9⟩],rs:=[⟨0,9⟩],Dn:=⟨4433230346325248⟩}),
 ([],42,.region 9,{lv:=[⟨none,49,0⟩],ps:=[(.bool,0)],D:=⟨1123700883588096⟩,rs:=[⟨0,9⟩],Dn:=⟨1053332139410432⟩})] []
theorem qmX:KT qes qmN [qbB,qJ,qet,qdH] 40:=λx=>by kernel_rfl
theorem qm6:OT qes:=entK (qn qfl (qn qas (qn qm7 (qn qlP qz)))) hJ qmX
def qdS(a0:yy3)(a1:(List yy9))(a2:yy2):Option Bool :=
 (qfu).bind λx1 =>
 bif !x1 then
  some false
 else
  ((qks a2 a0).bind λx2 =>
   bif !x2 then
    some true
   else
    (qd1 a0).bind λx3 =>
    bif !(decide (x3=0))then
     some true
    else
     bif decide ((a1.length:Int) > 20)then
      some true
     else
      (qd2 (a0.length:Int) a1).bind λx4 =>
      bif !(decide (x4=0))then
       some true
      else
       (qeB a2).bind λx5 =>
       bif !(decide (x5=0))then
        some true
       else
        some (decide ((a2.2.1.length:Int) > 8))).bind λ(p6:Bool) =>
  bif p6 then
   some true
  else
   (qdh a0).bind λx7 =>
   (qbe x7).bind λx8 =>
   (qbr x8).bind λx9 =>
   (bif !(decide (x9.2=0))then
     some true
    else
     (qdj x9.1 a0).bind λx10 =>
     some (!x10)).bind λ(p11:Bool) =>
   bif p11 then
    some false
   else
    (qdP a2).bind λx12 =>
    (qbf x12 (0:Int)).bind λx13 =>
    (qdP a2).bind λx14 =>
    (qb8 x14 (0:Int)).bind λx15 =>
    (bif !(decide (x13.2=0))then
      some true
     else
      some (decide ((x13.1.length:Int) > 256))).bind λ(p16:Bool) =>
    bif p16 then
     some false
    else
     (qG (λ(s18:(Int×(List Int)×Int)) =>
       bif decide (s18.2.2<=(a1.length:Int))then
        (slc a1 0 s18.2.2).bind λx19 =>
        (qdi x19).bind λx20 =>
        (qd5 x9.1 x20).bind λx21 =>
        (bif !(decide (x21.2=0))then
          some true
         else
          bif decide (x21.1<s18.1)then
           some true
          else
           some (decide (x21.1 > (a0.length:Int)))).bind λ(p22:Bool) =>
        bif p22 then
         some (.inr (.inr false))
        else
         (qdP a2).bind λx23 =>
         (bif decide ((x23.2.1.length:Int) > w64 (x21.1+2))then
           (slc x23.2.1 0 (w64 (x21.1+2))).bind λx24 =>
           some (x23.1,x24,x23.2.2.1)
          else
           some (x23.1,x23.2.1,x23.2.2.1)).bind λ(p25:(yy8×yy11×(List yy12))) =>
         (qdP (p25.1,p25.2.1,p25.2.2,())).bind λx26 =>
         (qbf x26 (0:Int)).bind λx27 =>
         (qb8 (p25.1,p25.2.1,p25.2.2,()) (0:Int)).bind λx28 =>
         (bif !(decide (x27.2=0))then
           some true
          else
           bif decide ((x27.1.length:Int) > (x13.1.length:Int))then
            some true
           else
            bif decide (x15.2=12)then
             some (!(decide (x28.2=12)))
            else
             some false).bind λ(p29:Bool) =>
         bif p29 then
          some (.inr (.inr false))
         else
          (qG (λ(s31:Int) =>
            bif decide (s31<(x27.1.length:Int))then
             (idx x27.1 s31).bind λx32 =>
             (qgy x13.1 x32).bind λx33 =>
             bif !x33 then
              some (.inr (.inr (.inr (.inr false))))
             else
              some (.inl (w64 (s31+1)))
            else
             some (.inr (.inl ()))) 0).bind (Sum.elim (λ(p34:Unit) =>
          (qG (λ(s36:Int) =>
            bif decide (s36<(s18.2.1.length:Int))then
             (idx s18.2.1 s36).bind λx37 =>
             (qgy x27.1 x37).bind λx38 =>
             bif !x38 then
              some (.inr (.inr (.inr (.inr false))))
             else
              some (.inl (w64 (s36+1)))
            else
             some (.inr (.inl ()))) 0).bind (Sum.elim (λ(p39:Unit) =>
          some (.inl (x21.1,x27.1,w64 (s18.2.2+1)))) some)) some)
       else
        some (.inr (.inl ()))) (0,[],0)).bind (Sum.elim (λ(p40:Unit) =>
     some true) some)
def qbE:Entry:=⟨6,[.ty yt4,.ty (.sl yt10),.ty yt1],[(.bool,0)],λx=>qdS x.1 x.2.1 x.2.2⟩
def qjo:TH:=qcn [([],6,.region 3,{lv:=[⟨none,58,0⟩],ps:=[(.bool,0)],D:=⟨576460752169205760⟩,rs:=[⟨0,5⟩],Dn:=⟨558446353659723776⟩}),
 ([],6,.region 6,{lv:=[⟨none,73,0⟩],ps:=[(.bool,0)],D:=⟨18815678955183742648320⟩}),
 ([],6,.region 10,{lv:=[⟨none,92,0⟩],ps:=[(.bool,0)],D:=⟨9826149061827705932011798528⟩}),
 ([],6,.block 0,{lv:=[],ps:=[],abn:=true,D:=⟨6277101735386680763835789423187859375473789360065682071552⟩,wr:=[⟨0,18⟩]}),
 ([],6,.loop 0,{lv:=[⟨none,13,0⟩,⟨none,14,0⟩,⟨none,15,0⟩],ps:=[(I,0),((.sl I),1),(I,0)],D:=⟨6277101735386680763835789423187859375473789360065682071552⟩,wr:=[⟨0,18⟩],rs:=[⟨0,18⟩],Dn:=⟨6277101735386680673958709260194987713209971172149902958592⟩}),
 ([],6,.region 17,{lv:=[⟨none,121,0⟩],ps:=[(.bool,0)],D:=⟨5316262946032346638161661929080225792⟩}),
 ([],6,.cond 130,{lv:=[⟨some 0,18,0⟩,⟨some 0,18,1⟩,⟨some 0,18,2⟩],ps:=[((.sl .str),0),(yt14,0),((.sl yt6),0)],D:=⟨171502312928152985585540802145611178573824⟩,wr:=[⟨0,18⟩],rs:=[⟨0,18⟩],Dn:=⟨81667768061025231231209905783624370749440⟩}),
 ([],6,.region 25,{lv:=[⟨none,164,0⟩],ps:=[(.bool,0)],D:=⟨46767695582665716892547650075428694255205745688576⟩}),
 ([],6,.block 2,{lv:=[],ps:=[],abn:=true,D:=⟨383077117164077625696204238872930374848055790712913920⟩}),
 ([],6,.loop 2,{lv:=[⟨none,23,0⟩],ps:=[(I,0)],D:=⟨383077117164077625696204238872930374848055790712913920⟩}),
 ([],6,.block 4,{lv:=[],ps:=[],abn:=true,D:=⟨3138167743808123909703305124847045630755273037451488133120⟩}),
 ([],6,.loop 4,{lv:=[⟨none,24,0⟩],ps:=[(I,0)],D:=⟨3138167743808123909703305124847045630755273037451488133120⟩})] []
theorem qju:KT qbE qjo [qik,qje,qhC,qdD,qdE,qeq,qc0,qdF,qer,qcp,qdG,qes,qcK,qcq,qcd] 40:=λx=>by kernel_rfl
theorem qjz:OT qbE:=entK (qn qqn (qn qva (qn qtw (qn qlK (qn qlL (qn qm4 (qn qkB (qn qlM (qn qm5 (qn qiQ (qn qlN (qn qm6 (qn qjw (qn qiR (qn qlQ qz))))))))))))))) hJ qju
end
end
theorem wit(n lo hi:Int):qB n lo hi=some (decide (lo<=n/\n<=hi)):=by
 unfold qB;by_cases h:lo<=n<;>by_cases h':n<=hi<;>simp [h,h']
theorem Wit(n lo hi:Int):qdA n lo hi=some (decide (lo<=n/\n<=hi)):=by
 unfold qdA;by_cases h:lo<=n<;>by_cases h':n<=hi<;>simp [h,h']
theorem wq{n:Int}(h1 : -9223372036854775808<=n)(h2:n<=9223372036854775807):w64 n=n:=qf0 h1 h2
theorem unl(b:Bool)(e:Int):qp b e=some (if b then 0 else e):=by cases b<;>rfl
theorem qul(l:List Int)(h:l.length<=1000000000):qw l=some (qhm l):=by
 unfold qw;exact qzl l h
abbrev Rg:=Int×Int×Unit
def wOk(w:Rg):Prop:=(-1000000<=w.1/\w.1<=1000000)/\(1<=w.2.1/\w.2.1<=8)
instance (w:Rg):Decidable (wOk w):=by unfold wOk;infer_instance
abbrev Nm:=List UInt8
abbrev Gt:=List UInt8×List (List UInt8)×Int×Unit
abbrev Sg:=Int×List UInt8×List UInt8×Unit
theorem qEz(l:List Nm)(m:Nm):qfJ .str l m=decide (m∈l):=by
 have:=qwA (τ:=.str) rfl (l:=l) (k:=m);by_cases h:m∈l
 ·rw [decide_eq_true h];exact this.2 h
 ·rw [decide_eq_false h];cases hm:qfJ .str l m with
  |false=>rfl
  |true=>exact absurd (this.1 hm) h
theorem qFX(l:List Nm)(k:Nm):qhF .str l k=if k∈l then l else l++[k]:=by
 unfold qhF;rw [qEz];by_cases h:k∈l
 ·rw [decide_eq_true h,if_pos h];rfl
 ·rw [decide_eq_false h,if_neg h];rfl
theorem qky(l:List Nm)(m k:Nm):m∈qhF .str l k↔m∈l\/m=k:=by
 rw [qFX];split
 ·rename_i h;exact ⟨λh=>.inl h,λh'=>h'.elim id λe=>e▸h⟩
 ·simp
theorem qj9{ρ:Type}(n:Nat)(K:Int->Option (Int⊕(Unit⊕ρ)))(q:Nat->Prop)[∀i,Decidable (q i)](r:ρ)(c:Prop)[Decidable c](hc:c↔∃j,j<n/\q j)
  (h:∀i,i<n->K (i:Int)=some (if q i then .inr (.inr r)else .inl ((i:Int)+1))) :
  qG (λs=>bif decide (s<(n:Int))then K s else some (.inr (.inl ()))) 0=some (if c then .inr r else .inl ()):=by
 refine Ok.eq (qcN n (λi (s:Int)=>s=(i:Int)/\∀j,j<i->¬ q j) _ ⟨rfl,by omega⟩ ?_);rintro i s hi ⟨rfl,hI⟩;by_cases hlt:i<n
 ·have h0:decide ((i:Int)<(n:Int))=true:=by simp<;>omega
  simp only [h0,cond_true];rw [h i hlt];by_cases hq:q i
  ·rw [if_pos hq,qaT,if_pos (hc.2 ⟨i,hlt,hq⟩)]
  ·rw [if_neg hq,qa1];refine ⟨hlt,by simp,λj hj=>?_⟩;by_cases e:j=i
   ·subst e;exact hq
   ·exact hI j (by omega)
 ·have h0:decide ((i:Int)<(n:Int))=false:=by simp<;>omega
  simp only [h0,cond_false];rw [qaT,if_neg (λh=>by
   obtain ⟨j,h1,h2⟩:=hc.1 h;exact hI j (by omega) h2)]
theorem qcG{α:Type}{l:List α}{i:Nat}{a:α}:a∈l.take i↔∃j,j<i/\l[j]?=some a:=by
 rw [List.mem_iff_getElem?];constructor
 ·rintro ⟨j,h⟩;rw [List.getElem?_take]at h;split at h
  ·exact ⟨j,by assumption,h⟩
  ·cases h
 ·rintro ⟨j,h1,h2⟩;exact ⟨j,by rw [List.getElem?_take,if_pos h1];exact h2⟩
theorem qnU{α:Type}{g:Nat->α->Int}:∀(l m:List α) (k:Nat),qai g k (l++m)=if (qai g k l).2=0 then qai g (k+l.length) m else qai g k l
 |[],m,k=>by simp [qai]
 |a::l,m,k=>by
  simp only [List.cons_append,qai];by_cases h:g k a=0
  ·simp only [h,if_true];rw [qnU l m (k+1),List.length_cons,show k+1+l.length=k+(l.length+1) by omega]
  ·simp [h]
theorem qnk{α:Type}{g:Nat->α->Int}:∀{l:List α} {k:Nat},(qai g k l).2=0->qai g k l=(0,0)
 |[],k,_=>rfl
 |a::l,k,h=>by
  simp only [qai]at h ⊢;by_cases h0:g k a=0
  ·simp only [h0,if_true]at h ⊢;exact qnk h
  ·simp [h0]at h
theorem qle{α:Type}{g:Nat->α->Int}{l:List α}{i:Nat}{a:α}(h:l[i]?=some a):(qai g 0 (l.take (i+1))).2=if (qai g 0 (l.take i)).2=0 then g i a else (qai g 0 (l.take i)).2:=by
 have hlt:=qao h;rw [qbQ a hlt,getD_at h,qnU];split
 ·rw [List.length_take,Nat.min_eq_left (by omega),Nat.zero_add];simp only [qai];by_cases h0:g i a=0<;>simp [h0]
 ·rfl
theorem qsI{α:Type}{g:Nat->α->Int}{l:List α}{i:Nat}{a:α}(h:l[i]?=some a)(h0:(qai g 0 (l.take i)).2=0)(ha:g i a≠0):qai g 0 l=((i:Int),g i a):=by
 have hlt:=qao h;have hl:l=l.take i++a::l.drop (i+1):=by
  have h2:l[i]=a:=by
   have:=List.getElem?_eq_getElem hlt;rw [this]at h;exact Option.some.inj h
  rw [<- h2,<- List.drop_eq_getElem_cons hlt];simp
 rw [hl,qnU,if_pos h0,List.length_take,Nat.min_eq_left (by omega),Nat.zero_add];simp [qai,ha]
def qBk(c:UInt8):Bool:=decide (97<=(c.toNat:Int)/\(c.toNat:Int)<=122)||decide (65<=(c.toNat:Int)/\(c.toNat:Int)<=90)
def qv6(i:Nat)(c:UInt8):Bool:=!qBk c&&(decide ((i:Int)=0)||(!decide ((c.toNat:Int)=45)&&!decide (48<=(c.toNat:Int)/\(c.toNat:Int)<=57)))
def isN(s:Nm):Bool:=decide (1<=(s.length:Int)/\(s.length:Int)<=12)&&(qax (λi c=>if qv6 i c=true then some false else none) 0 s).isNone
theorem qFq(c:UInt8):(c.toNat:Int)<256:=by
 have:=UInt8.toNat_lt c;omega
theorem qf7(s:Nm)(hl:s.length<=1000000000):q9 s=some (isN s):=by
 unfold q9;rw [qau s _ (λi c=>if qv6 i c=true then some false else none) (λi c hi=>by
  have:=qao hi;have hu:=qFq c;rw [q7 hi];simp only [qa];rw [wq (by omega) (by omega)];simp only [wit,qa];have c1:(bif decide (97<=(c.toNat:Int)/\(c.toNat:Int)<=122)then some true else some (decide (65<=(c.toNat:Int)/\(c.toNat:Int)<=90)))=some (qBk c):=by
   unfold qBk;cases decide (97<=(c.toNat:Int)/\(c.toNat:Int)<=122)<;>rfl
  rw [c1];simp only [qa];have c2:(bif !qBk c then bif decide ((i:Int)=0)then some true else bif !(decide ((c.toNat:Int)=45))then some (!decide (48<=(c.toNat:Int)/\(c.toNat:Int)<=57))else some false else some false)=some (qv6 i c):=by
   unfold qv6;cases qBk c<;>cases decide ((i:Int)=0)<;>cases decide ((c.toNat:Int)=45)<;>rfl
  rw [c2];simp only [qa];cases qv6 i c
  ·simp only [cond_false,qf,if_false,stp];rw [wq (by omega) (by omega)]
  ·rfl),qaa]
 unfold isN;have hs:∀r,qax (λi c=>if qv6 i c=true then some false else none) 0 s=some r->r=false:=by
  intro r hr;obtain ⟨i,a,_,h2,_⟩:=qaZ hr;split at h2
  ·exact (Option.some.inj h2).symm
  ·cases h2
 cases hf:qax (λi c=>if qv6 i c=true then some false else none) 0 s with
 |none=>simp [wit]
 |some r=>rw [hs r hf];simp
theorem qjX(s:Nm):qby s=some (isN s):=by
 unfold qby;by_cases h1:(s.length:Int)<1
 ·have:¬ (1<=(s.length:Int)/\(s.length:Int)<=12):=by omega
  simp only [isN,decide_eq_false this,Bool.false_and];simp only [h1,decide_true,cond_true,qa]
 ·by_cases h2:(s.length:Int) > 12
  ·have:¬ (1<=(s.length:Int)/\(s.length:Int)<=12):=by omega
   simp only [isN,decide_eq_false this,Bool.false_and];simp only [h1,h2,decide_true,decide_false,cond_true,cond_false,qa]
  ·have hr:(1<=(s.length:Int)/\(s.length:Int)<=12):=by omega
   simp only [isN,decide_eq_true hr,Bool.true_and];simp only [h1,h2,decide_true,decide_false,cond_true,cond_false,qa];rw [qau s _ (λi c=>if qv6 i c=true then some false else none) (λi c hi=>by
    have:=qao hi;have hu:=qFq c;rw [q7 hi];simp only [qa];have c1:(bif decide ((c.toNat:Int)>=97)then bif decide ((c.toNat:Int)<=122)then some true else bif decide ((c.toNat:Int)>=65)then some (decide ((c.toNat:Int)<=90))else some false
      else bif decide ((c.toNat:Int)>=65)then some (decide ((c.toNat:Int)<=90))else some false)=some (qBk c):=by
     unfold qBk;by_cases a1:(c.toNat:Int)>=97<;>by_cases a2:(c.toNat:Int)<=122<;>by_cases a3:(c.toNat:Int)>=65<;>by_cases a4:(c.toNat:Int)<=90<;>simp [a1,a2,a3,a4]
    rw [c1];simp only [qa];have c2:(bif !qBk c then bif decide ((i:Int)=0)then some true else bif !(decide ((c.toNat:Int)=45))then bif decide ((c.toNat:Int)<48)then some true else some (decide ((c.toNat:Int) > 57))else some false else some false)=some (qv6 i c):=by
     unfold qv6;have e:(bif decide ((c.toNat:Int)<48)then some true else some (decide ((c.toNat:Int) > 57)))=some (!decide (48<=(c.toNat:Int)/\(c.toNat:Int)<=57)):=by
      by_cases a1:(c.toNat:Int)<48
      ·have:¬ (48<=(c.toNat:Int)/\(c.toNat:Int)<=57):=by omega
       rw [decide_eq_true a1,decide_eq_false this];rfl
      ·rw [decide_eq_false a1];by_cases a2:(c.toNat:Int) > 57
       ·have:¬ (48<=(c.toNat:Int)/\(c.toNat:Int)<=57):=by omega
        rw [decide_eq_true a2,decide_eq_false this];rfl
       ·have:(48<=(c.toNat:Int)/\(c.toNat:Int)<=57):=by omega
        rw [decide_eq_false a2,decide_eq_true this];rfl
     rw [e];cases qBk c<;>cases decide ((i:Int)=0)<;>cases decide ((c.toNat:Int)=45)<;>rfl
    rw [c2];simp only [qa];cases qv6 i c
    ·simp only [cond_false,qf,if_false,stp];rw [wq (by omega) (by omega)]
    ·rfl),qaa]
   have hs:∀r,qax (λi c=>if qv6 i c=true then some false else none) 0 s=some r->r=false:=by
    intro r hr;obtain ⟨i,a,_,h2,_⟩:=qaZ hr;split at h2
    ·exact (Option.some.inj h2).symm
    ·cases h2
   cases hf:qax (λi c=>if qv6 i c=true then some false else none) 0 s with
   |none=>simp
   |some r=>rw [hs r hf];simp
theorem qzE{s:Nm}(h:isN s=true):s.length<=12:=by
 unfold isN at h;simp only [qe,decide_eq_true_eq]at h;omega
def qg8(l:List Nm)(i:Nat)(r:Nm):Int:=if isN r=true then (if r∈l.take i then 23 else 0)else 4
def qkK(l:List Nm):Int:=(qai (qg8 l) 0 l).2
def qkb(gs:List Gt)(i:Nat)(g:Gt):Int :=
 if isN g.1=true then (if g.1∈(gs.take i).map (·.1)then 5 else if (g.2.1.length:Int)<=4 then (if qkK g.2.1=0 then (if 0<=g.2.2.1/\g.2.2.1<=20 then 0 else 2)else qkK g.2.1)else 8)else 4
def qc6(gs:List Gt):Int×Int:=if (gs.length:Int) > 0 then (if (gs.length:Int)<=6 then qai (qkb gs) 0 gs else (0,8))else (0,10)
structure GB (gs:List Gt):Prop where
 len:gs.length<=8
 nm:∀g∈gs,g.1.length<=30
 rl:∀g∈gs,g.2.1.length<=6
 rn:∀g∈gs,∀r∈g.2.1,r.length<=30
theorem qCz(l:List Nm)(e0:Int)(hl:l.length<=1000)(hr:∀r∈l,r.length<=1000):(qG (λ(s14:(Int×Int×(List (List UInt8)))) =>
        bif decide (s14.2.1<(l.length:Int))then
         (idx l s14.2.1).bind λx15 =>
         (q9 x15).bind λx16 =>
         (qw ([if x16=true then 0 else 4,if (!(qfJ .str s14.2.2 x15))=true then 0 else 23])).bind λx19 =>
         (qw ([s14.1,x19])).bind λx20 =>
         some (.inl (x20,w64 (s14.2.1+1),qhF .str s14.2.2 x15))
        else
         some (.inr s14.1)) (e0,0,[]))=some (if e0=0 then qkK l else e0):=by
 refine Ok.eq (qcN l.length (λi (st:Int×Int×List Nm)=>st.1=(if e0=0 then (qai (qg8 l) 0 (l.take i)).2 else e0)/\st.2.1=(i:Int)/\∀r,r∈st.2.2↔r∈l.take i) _ ⟨by by_cases h:e0=0<;>simp [h,qai],rfl,by simp⟩ ?_);rintro i ⟨e,i0,kn⟩ hi ⟨e1,e2,e3⟩;simp only at e1 e2 e3;subst e2;by_cases hlt:i<l.length
 ·have h0:decide ((i:Int)<(l.length:Int))=true:=by simp<;>omega
  obtain ⟨r,hx⟩:∃r,l[i]?=some r:=⟨_,List.getElem?_eq_getElem hlt⟩
  simp only [h0,cond_true];rw [q7 hx];simp only [qa];rw [qf7 r (by have:=hr r (List.mem_of_getElem? hx);omega),qEz];simp only [qa];rw [qul _ (by simp)];simp only [qa];rw [qul _ (by simp)];simp only [qa];rw [qa1];refine ⟨hlt,?_,?_,λr'=>?_⟩
  ·simp only
   rw [qle hx,e1];have hm:(decide (r∈kn)=true)↔r∈l.take i:=by rw [decide_eq_true_iff];exact e3 r
   unfold qg8;by_cases a1:e0=0
   ·simp only [a1,if_true,qhm];by_cases a2:(qai (λi r=>if isN r=true then if r∈List.take i l then 23 else 0 else 4) 0 (List.take i l)).2=0
    ·simp only [a2,if_true];by_cases a3:isN r=true
     ·by_cases a4:r∈l.take i
      ·have:r∈kn:=(e3 r).2 a4;simp [a3,a4,this]
      ·have:r∉kn:=λh=>a4 ((e3 r).1 h);simp [a3,a4,this]
     ·simp [a3]
    ·simp [a2]
   ·simp [a1,qhm]
  ·simp only;rw [wq (by omega) (by omega)];simp
  ·simp only
   rw [qky,e3,qbQ r hlt,getD_at hx];simp
 ·have:i=l.length:=by omega
  subst this;have h0:decide ((l.length:Int)<(l.length:Int))=false:=by simp
  simp only [h0,cond_false];rw [qaT,e1,List.take_length];rfl
theorem qj0{gs:List Gt}(hb:GB gs):qa0 gs=some (qc6 gs):=by
 unfold qa0 qc6;simp only [unl,qa];rw [qul _ (by simp)];simp only [qa,qhm];by_cases h1:(gs.length:Int) > 0
 ·by_cases h2:(gs.length:Int)<=6
  ·simp only [h1,h2,decide_true,if_true,Bool.not_true,cond_false];refine Ok.eq ?_;rw [qve,qvf];refine (qcN gs.length (λi (st:Int×List Nm)=>st.1=(i:Int)/\(∀r,r∈st.2↔r∈(gs.take i).map (·.1))/\(qai (qkb gs) 0 (gs.take i)).2=0)
    (λr:List Nm⊕(Int×Int×List Nm)=>match r with
     |.inl _=>(qai (qkb gs) 0 gs)=(0,0)
     |.inr q=>(q.1,q.2.1)=qai (qkb gs) 0 gs) ⟨rfl,by simp,rfl⟩ ?_).mono ?_
   ·rintro i ⟨i0,kn⟩ hi ⟨e1,e2,e3⟩;simp only at e1 e2;subst e1;by_cases hlt:i<gs.length
    ·have h0:decide ((i:Int)<(gs.length:Int))=true:=by simp<;>omega
     obtain ⟨g,hx⟩:∃g,gs[i]?=some g:=⟨_,List.getElem?_eq_getElem hlt⟩
     have hg:=List.mem_of_getElem? hx;simp only [h0,cond_true];rw [q7 hx];simp only [qa];rw [qf7 g.1 (by have:=hb.nm g hg;omega),qEz];simp only [qa];rw [qul _ (by simp)];simp only [qa];rw [qul _ (by simp)];simp only [qa];rw [qCz g.2.1 _ (by have:=hb.rl g hg;omega) (λr hr=>by have:=hb.rn g hg r hr;omega)];simp only [qa,wit];rw [qul _ (by simp)];simp only [qa];have hE:∀a b c d:Int,qhm [a,b]=(if a=0 then b else a):=by intro a b _ _;simp only [qhm];by_cases h:a=0<;>by_cases h':b=0<;>simp [h,h']
     have c1:qhm [if qhm [qhm [if isN g.1=true then 0 else 4,if (!decide (g.1∈kn))=true then 0 else 5],if decide ((g.2.1.length:Int)<=4)=true then 0 else 8]=0 then qkK g.2.1 else qhm [qhm [if isN g.1=true then 0 else 4,if (!decide (g.1∈kn))=true then 0 else 5],if decide ((g.2.1.length:Int)<=4)=true then 0 else 8],if decide (0<=g.2.2.1/\g.2.2.1<=20)=true then 0 else 2]=qkb gs i g:=by
      simp only [hE _ _ 0 0];unfold qkb;by_cases a1:isN g.1=true
      ·by_cases a2:g.1∈(gs.take i).map (·.1)
       ·have a2':g.1∈kn:=(e2 _).2 a2;rw [if_pos a1,if_pos a2];simp [a1,a2']
       ·have a2':g.1∉kn:=λh=>a2 ((e2 _).1 h);rw [if_pos a1,if_neg a2];by_cases a3:(g.2.1.length:Int)<=4
        ·by_cases a4:qkK g.2.1=0
         ·simp [a1,a2',a3,a4]
         ·simp [a1,a2',a3,a4]
        ·simp [a1,a2',a3]
      ·rw [if_neg a1];simp [a1]
     rw [c1];by_cases h4:qkb gs i g=0
     ·simp only [h4,decide_true,Bool.not_true,cond_false];rw [qa1];refine ⟨hlt,?_,λr=>?_,?_⟩
      ·simp only;rw [wq (by omega) (by omega)];simp
      ·simp only
       rw [qky,e2,qbQ g hlt,getD_at hx];simp
      ·rw [qle hx,if_pos e3];exact h4
     ·simp only [h4,decide_false,Bool.not_false,cond_true];rw [qaT];simp only
      rw [qsI hx e3 h4]
    ·have:i=gs.length:=by omega
     subst this;have h0:decide ((gs.length:Int)<(gs.length:Int))=false:=by simp
     simp only [h0,cond_false];rw [qaT];simp only
     rw [List.take_length]at e3;exact qnk e3
   ·intro r hr;cases r with
    |inl p=>simp only [qfo];exact hr.symm
    |inr q=>simp only [qfo];exact hr
  ·simp only [h1,h2,decide_true,decide_false,if_true,qf,if_false,show ((8:Int)=0)=False by simp,Bool.not_false,cond_true]
 ·simp only [h1,decide_false,qf,if_false,show ((10:Int)=0)=False by simp,Bool.not_false,cond_true]
theorem qpM(l:List Nm)(t:Nm)(hl:l.length<=1000000000):qec l t=some (decide (t∈l)):=by
 unfold qec;rw [qj9 l.length _ (λj=>l[j]?=some t) true (t∈l) (by
  rw [List.mem_iff_getElem?];exact ⟨λ⟨j,h⟩=>⟨j,qao h,h⟩,λ⟨j,_,h⟩=>⟨j,h⟩⟩) (λi hi=>by
  have hx:l[i]?=some l[i]:=List.getElem?_eq_getElem hi;rw [q7 hx];simp only [qa,hx,qb];by_cases h:l[i]=t
  ·simp [h]
  ·simp only [h,decide_false,cond_false,if_false];rw [wq (by omega) (by omega)])]
 by_cases h:t∈l<;>simp [h]
theorem qqW{gs:List Gt}(hb:GB gs):qcH gs=some (qc6 gs):=by
 unfold qcH qc6;by_cases h1:(gs.length:Int) > 0
 ·have h1':¬ (gs.length:Int)=0:=by omega
  by_cases h2:(gs.length:Int)<=6
  ·have h2':¬ (gs.length:Int) > 6:=by omega
   rw [if_pos h1,if_pos h2,decide_eq_false h1',decide_eq_false h2'];simp only [cond_false];rw [qau gs _ (λi a=>if qkb gs i a=0 then none else some ((i:Int),qkb gs i a)) (λi a hi=>by
    have hlt:=qao hi;have hg:=List.mem_of_getElem? hi;have hrl:=hb.rl a hg;simp only [q7 hi,qa,qjX];unfold qkb;by_cases a1:isN a.1=true
    ·simp only [a1,Bool.not_true,cond_false,if_true];rw [qj9 i _ (λj=>∃b,gs[j]?=some b/\b.1=a.1) (.inr (.inr ((i:Int),(5:Int)))) (a.1∈(gs.take i).map (·.1)) (by
      rw [List.mem_map];constructor
      ·rintro ⟨b,hb1,hb2⟩;obtain ⟨j,hj,hj2⟩:=qcG.1 hb1;exact ⟨j,hj,b,hj2,hb2⟩
      ·rintro ⟨j,hj,b,hj2,hb2⟩;exact ⟨b,qcG.2 ⟨j,hj,hj2⟩,hb2⟩) (λj hj=>by
      have hx:gs[j]?=some gs[j]:=List.getElem?_eq_getElem (by omega);rw [q7 hx];simp only [qa,hx,qb,exists_eq_left'];by_cases h:gs[j].1=a.1
      ·simp [h]
      ·simp only [h,decide_false,cond_false,if_false];rw [wq (by omega) (by omega)])]
     by_cases a2:a.1∈(gs.take i).map (·.1)
     ·simp only [a2,if_true,qa,Sum.elim_inr,stp]<;>rfl
     ·simp only [a2,if_false,qa,Sum.elim_inl];by_cases a3:(a.2.1.length:Int)<=4
      ·have a3':¬ (a.2.1.length:Int) > 4:=by omega
       rw [decide_eq_false a3',if_pos a3];simp only [cond_false];rw [qau a.2.1 _ (λk r=>if qg8 a.2.1 k r=0 then none else some (.inr (.inr ((i:Int),qg8 a.2.1 k r)))) (λk r hk=>by
        have hlk:=qao hk;simp only [q7 hk,qa];unfold qg8;by_cases b1:isN r=true
        ·simp only [b1,Bool.not_true,cond_false,if_true];rw [qqG ⟨by omega,by omega,by omega⟩];simp only [Int.toNat_natCast,qa,Int.toNat_zero,List.drop_zero];rw [qpM _ _ (by rw [List.length_take];omega)];simp only [qa];by_cases b2:r∈a.2.1.take k
         ·simp [b2,stp]
         ·simp only [b2,decide_false,cond_false,if_false,if_true,stp];rw [wq (by omega) (by omega)]
        ·simp [b1,stp]),qaa]
       have key:(match qax (λk r=>if qg8 a.2.1 k r=0 then none else some (.inr (.inr ((i:Int),qg8 a.2.1 k r)):Int⊕(Unit⊕(Int×Int)))) 0 a.2.1 with
         |some r=>some r
         |none=>(none:Option (Int⊕(Unit⊕(Int×Int)))))=if qkK a.2.1=0 then none else some (.inr (.inr ((i:Int),qkK a.2.1))):=by
        have gen:∀(l:List Nm) (k:Nat),qax (λk r=>if qg8 a.2.1 k r=0 then none else some (.inr (.inr ((i:Int),qg8 a.2.1 k r)):Int⊕(Unit⊕(Int×Int)))) k l=if (qai (qg8 a.2.1) k l).2=0 then none else some (.inr (.inr ((i:Int),(qai (qg8 a.2.1) k l).2))):=by
         intro l;induction l with
         |nil=>intro k;simp [qax,qai]
         |cons b l ih =>
          intro k;simp only [qax,qai];by_cases h:qg8 a.2.1 k b=0
          ·simp only [h,if_true];exact ih (k+1)
          ·simp [h]
        rw [gen];unfold qkK;by_cases h:(qai (qg8 a.2.1) 0 a.2.1).2=0<;>simp [h]
       by_cases a4:qkK a.2.1=0
       ·rw [if_pos a4]at key;rw [if_pos a4];cases hf:qax (λk r=>if qg8 a.2.1 k r=0 then none else some (.inr (.inr ((i:Int),qg8 a.2.1 k r)):Int⊕(Unit⊕(Int×Int)))) 0 a.2.1 with
        |some r=>rw [hf]at key;cases key
        |none =>
         simp only [Wit,qa];by_cases a5:0<=a.2.2.1/\a.2.2.1<=20
         ·simp only [a5,and_self,decide_true,Bool.not_true,cond_false,if_true,stp];rw [wq (by omega) (by omega)]
         ·simp [a5,stp]
       ·rw [if_neg a4]at key;rw [if_neg a4];cases hf:qax (λk r=>if qg8 a.2.1 k r=0 then none else some (.inr (.inr ((i:Int),qg8 a.2.1 k r)):Int⊕(Unit⊕(Int×Int)))) 0 a.2.1 with
        |some r=>rw [hf]at key;simp only at key;simp only [key];rw [if_neg a4]<;>rfl
        |none=>rw [hf]at key;cases key
      ·have a3':(a.2.1.length:Int) > 4:=by omega
       rw [decide_eq_true a3',if_neg a3];rfl
    ·simp [a1,stp]),qaa]
   rw [<- qeU (qkb gs) gs 0];cases qax (λi a=>if qkb gs i a=0 then none else some ((i:Int),qkb gs i a)) 0 gs<;>rfl
  ·have h2':(gs.length:Int) > 6:=by omega
   rw [if_pos h1,if_neg h2,decide_eq_false h1',decide_eq_true h2'];rfl
 ·have h1':(gs.length:Int)=0:=by omega
  rw [if_neg h1,decide_eq_true h1'];rfl
theorem qup{gs:List Gt}(hb:GB gs):qd1 gs=some (qc6 gs).2:=by
 unfold qd1;rw [qqW hb];rfl
def SB(l:List Sg):Prop:=l.length<=22/\∀x∈l,x.2.1.length<=30/\x.2.2.1.length<=30
def qkS(G:Int)(l:List Sg)(i:Nat)(x:Sg):Int:=if 0<=x.1/\x.1<=w64 (G-1)then (if isN x.2.1=true/\isN x.2.2.1=true then (if x∈l.take i then 23 else 0)else 4)else 6
def qfs(G:Int)(l:List Sg):Int:=if (l.length:Int) > 20 then 8 else (qai (qkS G l) 0 l).2
theorem qFh(x y:Sg):(bif decide (x.1=y.1)then (bif decide (x.2.1=y.2.1)then (bif decide (x.2.2.1=y.2.2.1)then true else false)else false)else false)=decide (x=y):=by
 obtain ⟨a,b,c,⟨⟩⟩:=x;obtain ⟨a',b',c',⟨⟩⟩:=y;by_cases h1:a=a'<;>by_cases h2:b=b'<;>by_cases h3:c=c'<;>simp [h1,h2,h3]
theorem qun(l:List Sg)(x:Sg)(hl:l.length<=1000000000):qu l x=some (decide (x∈l)):=by
 unfold qu qZ;simp only [qFh];obtain ⟨r,h1,h2⟩:=qzm l (λy=>decide (x=y)) hl;rw [h1];simp only [qa,h2];by_cases h:x∈l
 ·rw [decide_eq_true h,List.any_eq_true.2 ⟨x,h,by simp⟩]
 ·rw [decide_eq_false h];congr 1
  rw [List.any_eq_false];intro y hy;simp only [decide_eq_true_eq];rintro rfl;exact h hy
theorem qvw(G:Int){l:List Sg}(hl:SB l):qdp G l=some (qfs G l):=by
 unfold qdp qfs;obtain ⟨h22,hn⟩:=hl;by_cases h:(l.length:Int) > 20
 ·simp only [h,decide_true,cond_true,if_true]
 ·simp only [h,decide_false,cond_false,if_false];have key:=qwj l (λs2 x3=>((qB x3.1 (0:Int) (w64 (G-1))).bind λx4 =>
       (qp x4 (6:Int)).bind λx5 =>
       (q9 x3.2.1).bind λx6 =>
       bif x6 then
        (q9 x3.2.2.1).bind λx7 =>
        (qp x7 (4:Int)).bind λx8 =>
        (slc l 0 s2).bind λx9 =>
        (qu x9 x3).bind λx10 =>
        (qp (!x10) (23:Int)).bind λx11 =>
        (qw ([x5,x8,x11])).bind λx12 =>
        some x12
       else
        (qp false (4:Int)).bind λx13 =>
        (slc l 0 s2).bind λx14 =>
        (qu x14 x3).bind λx15 =>
        (qp (!x15) (23:Int)).bind λx16 =>
        (qw ([x5,x13,x16])).bind λx17 =>
        some x17)) (qkS G l) (λi a hi=>by
   have hlt:=qao hi;obtain ⟨n1,n2⟩:=hn a (List.mem_of_getElem? hi);simp only [wit,unl,qa,qf7 a.2.1 (by omega),qf7 a.2.2.1 (by omega)];rw [qqG ⟨by omega,by omega,by omega⟩];simp only [Int.toNat_natCast,qa,Int.toNat_zero,List.drop_zero];rw [qun _ _ (by rw [List.length_take];omega)];simp only [qa];rw [qul _ (by simp),qul _ (by simp)];unfold qkS;by_cases a1:0<=a.1/\a.1<=w64 (G-1)
   ·rw [if_pos a1,decide_eq_true a1];cases hq1:isN a.2.1<;>cases hq2:isN a.2.2.1<;>by_cases a2:a∈l.take i<;>simp [a2,qhm]
   ·rw [if_neg a1,decide_eq_false a1];cases hq1:isN a.2.1<;>simp [qhm]) (by omega)
  refine Eq.trans (congrArg (λo=>Option.bind o λp20:Int×Int=>some p20.2) key) rfl
theorem qus(G:Int)(l:List Sg):qd2 G l=some (qfs G l):=by
 unfold qd2 qfs;by_cases h:(l.length:Int) > 20
 ·simp only [h,decide_true,cond_true,if_true]
 ·simp only [h,decide_false,cond_false,if_false];rw [qau l _ (λi a=>if qkS G l i a=0 then none else some (qkS G l i a)) (λi a hi=>by
   have hlt:=qao hi;simp only [q7 hi,qa,Wit,qjX];unfold qkS;by_cases a1:0<=a.1/\a.1<=w64 (G-1)
   ·simp only [a1,and_self,decide_true,Bool.not_true,cond_false,if_true];have c1:(bif !isN a.2.1 then some true else some (!isN a.2.2.1))=some (decide (¬ (isN a.2.1=true/\isN a.2.2.1=true))):=by cases isN a.2.1<;>cases isN a.2.2.1<;>rfl
    rw [c1];simp only [qa];by_cases a2:isN a.2.1=true/\isN a.2.2.1=true
    ·simp only [a2,and_self,not_true,decide_false,cond_false,if_true];rw [qj9 i _ (λj=>l[j]?=some a) (.inr (.inr (23:Int))) (a∈l.take i) qcG (λj hj=>by
      have hx:l[j]?=some l[j]:=List.getElem?_eq_getElem (by omega);rw [q7 hx];simp only [qa,hx,qb,qFh];by_cases h:l[j]=a
      ·simp [h]
      ·simp only [h,decide_false,cond_false,if_false];rw [wq (by omega) (by omega)])]
     by_cases a3:a∈l.take i
     ·simp only [a3,if_true,qa,Sum.elim_inr,stp]<;>rfl
     ·simp only [a3,if_false,if_true,qa,Sum.elim_inl,stp];rw [wq (by omega) (by omega)]
    ·simp only [a2,not_false_eq_true,decide_true,cond_true,if_false]<;>rfl
   ·simp only [a1,decide_false,Bool.not_false,cond_true,if_false];rfl),qaa]
  have gen:∀(m:List Sg) (k:Nat),qax (λi a=>if qkS G l i a=0 then none else some (qkS G l i a)) k m=if (qai (qkS G l) k m).2=0 then none else some (qai (qkS G l) k m).2:=by
   intro m;induction m with
   |nil=>intro k;simp [qax,qai]
   |cons b m ih =>
    intro k;simp only [qax,qai];by_cases h:qkS G l k b=0
    ·simp only [h,if_true];exact ih (k+1)
    ·simp [h]
  rw [gen];by_cases h:(qai (qkS G l) 0 l).2=0<;>simp [h]
theorem qxY{α:Type}{l:List α}:l.Nodup↔∀(i:Nat) a,l[i]?=some a->a∉l.take i:=by
 rw [List.Nodup,List.pairwise_iff_getElem];constructor
 ·intro h i a hi hm;obtain ⟨j,hj,hj2⟩:=qcG.1 hm;have h1:=qao hi;have h2:=qao hj2;have:=h j i h2 h1 hj;rw [List.getElem?_eq_getElem h1]at hi;rw [List.getElem?_eq_getElem h2]at hj2;exact this (by rw [Option.some.inj hi,Option.some.inj hj2])
 ·intro h i j hi hj hlt e;exact h j l[j] (List.getElem?_eq_getElem hj) (qcG.2 ⟨i,hlt,by rw [List.getElem?_eq_getElem hi,e]⟩)
def okS(G:Int)(x:Sg):Prop:=(0<=x.1/\x.1<=w64 (G-1))/\isN x.2.1=true/\isN x.2.2.1=true
theorem qhd{G:Int}{l:List Sg}:qfs G l=0↔l.length<=20/\(∀x∈l,okS G x)/\l.Nodup:=by
 unfold qfs;by_cases h:(l.length:Int) > 20
 ·rw [if_pos h];constructor
  ·intro h;omega
  ·rintro ⟨h,_⟩;omega
 ·rw [if_neg h,qeT,qxY];simp only [Nat.zero_add];have e:∀i x,qkS G l i x=0↔okS G x/\x∉l.take i:=by
   intro i x;unfold qkS okS;split
   ·rename_i h1;split
    ·rename_i h2;split
     ·rename_i h3;simp [h3]
     ·rename_i h3;simp [h1,h2,h3]
    ·rename_i h2;constructor
     ·intro h;omega
     ·rintro ⟨⟨_,h⟩,_⟩;exact absurd h h2
   ·rename_i h1;constructor
    ·intro h;omega
    ·rintro ⟨⟨h,_⟩,_⟩;exact absurd h h1
  simp only [e];constructor
  ·intro h2;exact ⟨by omega,λx hx=>by
    obtain ⟨i,hi⟩:=List.mem_iff_getElem?.1 hx;exact (h2 i x hi).1,λi a hi=>(h2 i a hi).2⟩
  ·rintro ⟨_,h2,h3⟩ i a hi;exact ⟨h2 a (List.mem_of_getElem? hi),h3 i a hi⟩
def qhv(l:List Sg)(g:Int)(r:Nm):Bool:=l.any λx=>decide (x.1=g)&&decide (x.2.2.1=r)
def qrP(g:Int)(acc:List Nm)(x:Sg):List Nm:=if x.1=g then (if x.2.1∈acc then acc else acc++[x.2.1])else acc
def qpF(g:Int)(l:List Sg):List Nm:=l.foldl (qrP g) []
def qu8(seen:Nm->Bool)(i:Nat)(b:List Int)(r:Nm):List Int:=if seen r=true then b else b++[(i:Int)]
def qrC(seen:Nm->Bool)(l:List Nm):List Int:=foldI (qu8 seen) 0 [] l
theorem qz6(seen:Nm->Bool)(i:Nat)(b:List Int)(r:Nm):(qu8 seen i b r).length<=b.length+1:=by
 unfold qu8;split<;>simp
theorem qsR{seen:Nm->Bool}:∀{l:List Nm} {k:Nat} {b:List Int},foldI (qu8 seen) k b l=[]↔b=[]/\∀r∈l,seen r=true
 |[],k,b=>by simp [foldI]
 |r::l,k,b=>by
  simp only [foldI];rw [qsR];unfold qu8;by_cases h:seen r=true<;>simp [h]
theorem qtq{seen:Nm->Bool}{l:List Nm}:qrC seen l=[]↔∀r∈l,seen r=true:=by
 unfold qrC;rw [qsR];simp
theorem qxw{α β:Type}{f:β->α->β}{b:β}{l:List α}{i:Nat}{a:α}(h:l[i]?=some a):(l.take (i+1)).foldl f b=f ((l.take i).foldl f b) a:=by
 rw [qbQ a (qao h),getD_at h,List.foldl_append];rfl
theorem qvY{α:Type}{f:α->Bool}{l:List α}{i:Nat}{a:α}(h:l[i]?=some a):(l.take (i+1)).any f=((l.take i).any f||f a):=by
 rw [qbQ a (qao h),getD_at h,List.any_append];simp
theorem qxW{gs:List Gt}{g:Nat}{t:Gt}(ht:gs[g]?=some t)(hr:t.2.1.length<=1000){l:List Sg}(hl:l.length<=1000):qd7 gs (g:Int) l=some (qrC (qhv l g) t.2.1,((qpF g l).length:Int)):=by
 unfold qd7;refine Ok.eq ?_;rw [qve];refine (qcN l.length (λi (st:Int×List Nm×List Nm)=>st.1=(i:Int)/\(∀r,r∈st.2.1↔qhv (l.take i) g r=true)/\st.2.2=qpF g (l.take i))
  (λr:List Nm×List Nm=>(∀q,q∈r.1↔qhv l g q=true)/\r.2=qpF g l) ⟨rfl,by simp [qhv],rfl⟩ ?_).mono ?_
 ·rintro i ⟨i0,kn,pl⟩ hi ⟨e1,e2,e3⟩;simp only at e1 e2 e3;subst e1;by_cases hlt:i<l.length
  ·have h0:decide ((i:Int)<(l.length:Int))=true:=by simp<;>omega
   obtain ⟨x,hx⟩:∃x,l[i]?=some x:=⟨_,List.getElem?_eq_getElem hlt⟩
   simp only [h0,cond_true];rw [q7 hx];simp only [qa];have hp:qpF g (l.take (i+1))=qrP g (qpF g (l.take i)) x:=qxw hx;by_cases hg:x.1=(g:Int)
   ·simp only [hg,decide_true,cond_true,qa];rw [qa1];refine ⟨hlt,?_,λr=>?_,?_⟩
    ·simp only;rw [wq (by omega) (by omega)];simp
    ·simp only
     rw [qky,e2];unfold qhv;rw [qvY hx];simp only [hg,decide_true,Bool.true_and,Bool.or_eq_true,decide_eq_true_eq];exact ⟨λh=>h.elim .inl λh=>.inr h.symm,λh=>h.elim .inl λh=>.inr h.symm⟩
    ·simp only
     rw [hp,qFX,e3];unfold qrP;rw [if_pos hg]
   ·simp only [hg,decide_false,cond_false,qa];rw [qa1];refine ⟨hlt,?_,λr=>?_,?_⟩
    ·simp only;rw [wq (by omega) (by omega)];simp
    ·simp only
     rw [e2];unfold qhv;rw [qvY hx];simp [hg]
    ·simp only
     rw [hp,e3];unfold qrP;rw [if_neg hg]
  ·have:i=l.length:=by omega
   subst this;have h0:decide ((l.length:Int)<(l.length:Int))=false:=by simp
   simp only [h0,cond_false];rw [qaT];rw [List.take_length]at e2 e3;exact ⟨e2,e3⟩
 ·rintro ⟨kn,pl⟩ ⟨h1,h2⟩;simp only at h1 h2;simp only [q7 ht,qa];rw [qzU t.2.1 (qu8 (qhv l g)) id (λi b=>b.length<=i) (by simp) (λi r b hi hb=>by
   have hlt:=qao hi;refine ⟨?_,by have:=qz6 (qhv l g) i b r;omega⟩;have h0:decide ((i:Int)<(t.2.1.length:Int))=true:=by simp<;>omega
   simp only [h0,cond_true,q7 hi,qa,qEz];unfold qu8;by_cases hs:qhv l g r=true
   ·have:r∈kn:=(h1 r).2 hs;simp only [this,hs,decide_true,Bool.not_true,cond_false,if_true,qa];rw [wq (by omega) (by omega)]
   ·have:r∉kn:=λh=>hs ((h1 r).1 h);simp only [this,decide_false,Bool.not_false,cond_true];rw [qdz (by omega),if_neg hs];simp only [qa];rw [wq (by omega) (by omega)]) (λb hb=>by simp)]
  simp only [qa,id,qfo,h2]<;>rfl
def qgO(l:List Sg)(i:Nat)(t:Gt):Bool:=decide (((qrC (qhv l i) t.2.1).length:Int) > 0)||decide (((qpF i l).length:Int)<t.2.2.1)
def qzP(gs:List Gt)(l:List Sg):Option Int:=qax (λi t=>if qgO l i t=true then some (i:Int)else none) 0 gs
def level(gs:List Gt)(l:List Sg):Int:=(qzP gs l).getD gs.length
theorem qxd{gs:List Gt}(hb:GB gs){l:List Sg}(hl:SB l):qd5 gs l=some (if (qc6 gs).2=0 then (if qfs gs.length l=0 then (level gs l,0)else (0,qfs gs.length l))else (0,(qc6 gs).2)):=by
 unfold qd5;rw [qj0 hb];simp only [qa,qvw _ hl];rw [qul _ (by simp)];simp only [qa,qhm];by_cases h1:(qc6 gs).2=0
 ·by_cases h2:qfs gs.length l=0
  ·simp only [h1,h2,if_true,decide_true,Bool.not_true,cond_false];rw [qau gs _ (λi t=>if qgO l i t=true then some ((i:Int),(0:Int))else none) (λi t hi=>by
    have hlt:=qao hi;have:=hb.rl t (List.mem_of_getElem? hi);have:=hb.len;have:=hl.1;simp only [q7 hi,qa];rw [qxW hi (by omega) (by omega)];simp only [qa];have c1:(bif decide (((qrC (qhv l i) t.2.1).length:Int) > 0)then some true else some (decide (((qpF i l).length:Int)<t.2.2.1)))=some (qgO l i t):=by
     unfold qgO;cases decide (((qrC (qhv l i) t.2.1).length:Int) > 0)<;>rfl
    rw [c1];simp only [qa];cases qgO l i t
    ·simp only [cond_false,qf,if_false,stp];rw [wq (by omega) (by omega)]
    ·rfl),qaa]
   have gen:∀(m:List Gt) (k:Nat),qax (λi t=>if qgO l i t=true then some ((i:Int),(0:Int))else none) k m=(qax (λi t=>if qgO l i t=true then some (i:Int)else none) k m).map λi=>(i,0):=by
    intro m;induction m with
    |nil=>intro k;rfl
    |cons b m ih =>
     intro k;simp only [qax];cases qgO l k b
     ·simp only [qf,if_false];exact ih (k+1)
     ·rfl
   rw [gen];unfold level qzP;cases qax (λi t=>if qgO l i t=true then some (i:Int)else none) 0 gs<;>rfl
  ·simp [h1,h2]
 ·simp [h1]
def okG(g:Gt):Prop:=g.1.length<=30/\g.2.1.length<=6/\∀r∈g.2.1,r.length<=30
theorem quN(gs:List Gt):∃b,qdZ gs=some b/\(b=true->GB gs):=by
 unfold qdZ;by_cases h8:(gs.length:Int) > 8
 ·exact ⟨false,by simp [h8],λh=>by cases h⟩
 ·simp only [h8,decide_false,cond_false];have key:Ok (qG (λ(s2:Int) =>
    bif decide (s2<(gs.length:Int))then
     ((idx gs s2).bind λx3 =>
      bif decide ((x3.1.length:Int) > 30)then
       some true
      else
       (idx gs s2).bind λx4 =>
       some (decide ((x4.2.1.length:Int) > 6))).bind λ(p5:Bool) =>
     bif p5 then
      some (.inr (.inr false))
     else
      (qG (λ(s7:Int) =>
        (idx gs s2).bind λx8 =>
        bif decide (s7<(x8.2.1.length:Int))then
         (idx gs s2).bind λx9 =>
         (idx x9.2.1 s7).bind λx10 =>
         bif decide ((x10.length:Int) > 30)then
          some (.inr (.inr (.inr (.inr false))))
         else
          some (.inl (w64 (s7+1)))
        else
         some (.inr (.inl ()))) 0).bind (Sum.elim (λ(p11:Unit) =>
      some (.inl (w64 (s2+1)))) some)
    else
     some (.inr (.inl ()))) 0) (λr:Unit⊕Bool=>match r with
    |.inl _=>GB gs
    |.inr b=>b=false):=by
   refine qcN gs.length (λi (s:Int)=>s=(i:Int)/\∀j t,j<i->gs[j]?=some t->okG t) _ ⟨rfl,by omega⟩ ?_;rintro i s hi ⟨rfl,hI⟩;by_cases hlt:i<gs.length
   ·have h0:decide ((i:Int)<(gs.length:Int))=true:=by simp<;>omega
    obtain ⟨t,hx⟩:∃t,gs[i]?=some t:=⟨_,List.getElem?_eq_getElem hlt⟩
    simp only [h0,cond_true,q7 hx,qa];by_cases a1:(t.1.length:Int) > 30
    ·simp only [a1,decide_true,cond_true,qa];rw [qaT]
    ·by_cases a2:(t.2.1.length:Int) > 6
     ·simp only [a1,a2,decide_true,decide_false,cond_false,cond_true,qa];rw [qaT]
     ·simp only [a1,a2,decide_false,cond_false,qa];rw [qCy];refine (qcN t.2.1.length (λk (s:Int)=>s=(k:Int)/\∀j r,j<k->t.2.1[j]?=some r->r.length<=30) (λr:Unit⊕(Int⊕(Unit⊕Bool))=>match r with
       |.inl _=>okG t
       |.inr b=>b=.inr (.inr false)) ⟨rfl,by omega⟩ ?_).mono ?_
      ·rintro k s hk ⟨rfl,hK⟩;by_cases hlt2:k<t.2.1.length
       ·have h0:decide ((k:Int)<(t.2.1.length:Int))=true:=by simp<;>omega
        obtain ⟨r,hr⟩:∃r,t.2.1[k]?=some r:=⟨_,List.getElem?_eq_getElem hlt2⟩
        simp only [h0,cond_true,q7 hr,qa];by_cases a3:(r.length:Int) > 30
        ·simp only [a3,decide_true,cond_true];rw [qaT]
        ·simp only [a3,decide_false,cond_false];rw [wq (by omega) (by omega),qa1];refine ⟨hlt2,by simp,λj q hj hq=>?_⟩;by_cases e:j=k
         ·subst e;rw [hr]at hq;cases hq;omega
         ·exact hK j q (by omega) hq
       ·have:k=t.2.1.length:=by omega
        subst this;have h0:decide ((t.2.1.length:Int)<(t.2.1.length:Int))=false:=by simp
        simp only [h0,cond_false];rw [qaT];refine ⟨by omega,by omega,λr hr=>?_⟩;obtain ⟨j,hj⟩:=List.mem_iff_getElem?.1 hr;exact hK j r (qao hj) hj
      ·intro r hr;cases r with
       |inl _ =>
        simp only at hr ⊢;rw [wq (by omega) (by omega),qa1];refine ⟨hlt,by simp,λj q hj hq=>?_⟩;by_cases e:j=i
        ·subst e;rw [hx]at hq;cases hq;exact hr
        ·exact hI j q (by omega) hq
       |inr b =>
        simp only at hr ⊢;subst hr;simp only
   ·have:i=gs.length:=by omega
    subst this;have h0:decide ((gs.length:Int)<(gs.length:Int))=false:=by simp
    simp only [h0,cond_false];rw [qaT];have hall:∀t∈gs,okG t:=λt ht=>by
     obtain ⟨j,hj⟩:=List.mem_iff_getElem?.1 ht;exact hI j t (qao hj) hj
    exact ⟨by omega,λt ht=>(hall t ht).1,λt ht=>(hall t ht).2.1,λt ht=>(hall t ht).2.2⟩
  obtain ⟨r,h1,h2⟩:=key;rw [h1];cases r with
  |inl _=>exact ⟨true,rfl,λ_=>h2⟩
  |inr b=>exact ⟨b,rfl,λh=>by rw [h2]at h;cases h⟩
theorem qso{gs:List Gt}(hb:GB gs):qdh gs=some gs:=by
 unfold qdh qcv;have h8:=hb.len;rw [quP gs (λt:Gt=>t) (λi t out hi ho=>by
  have hlt:=qao hi;have:=hb.rl t (List.mem_of_getElem? hi);have h0:decide ((i:Int)<(gs.length:Int))=true:=by simp<;>omega
  simp only [h0,cond_true,q7 hi,qa];rw [qq4 (by omega)];simp only [qa];rw [qdz (by omega)];simp only [qa];rw [wq (by omega) (by omega)]) (λout ho=>by simp)]
 simp
theorem qsp{l:List Sg}(h:l.length<=1000):qdi l=some l:=by
 unfold qdi;rw [qq4 (by omega)];rfl
theorem qoG{α:Type}[DecidableEq α]:∀{l m:List α},l.Nodup->(∀a∈l,a∈m)->l.length<=m.length
 |[],m,_,_=>by simp
 |a::l,m,hn,h=>by
  have ha:a∈m:=h a (by simp);obtain ⟨h1,h2⟩:=List.nodup_cons.1 hn;have:=qoG (l:=l) (m:=m.erase a) h2 (λb hb=>by
   have hne:b≠a:=λe=>h1 (e▸hb);exact (List.mem_erase_of_ne hne).2 (h b (by simp [hb])))
  rw [List.length_erase_of_mem ha]at this;have:=List.length_pos_of_mem ha;simp only [List.length_cons]<;>omega
theorem qrN(g:Int):∀(l:List Sg) (acc:List Nm) (n:Nm),n∈l.foldl (qrP g) acc↔n∈acc\/∃x∈l,x.1=g/\x.2.1=n
 |[],acc,n=>by simp
 |x::l,acc,n=>by
  rw [List.foldl_cons,qrN g l];have h:n∈qrP g acc x↔n∈acc\/(x.1=g/\x.2.1=n):=by
   unfold qrP;by_cases hg:x.1=g
   ·by_cases hm:x.2.1∈acc
    ·rw [if_pos hg,if_pos hm];exact ⟨.inl,λh=>h.elim id λ⟨_,e⟩=>e▸hm⟩
    ·rw [if_pos hg,if_neg hm,qj,List.mem_singleton];exact ⟨λh=>h.elim .inl λe=>.inr ⟨hg,e.symm⟩,λh=>h.elim .inl λe=>.inr e.2.symm⟩
   ·rw [if_neg hg];exact ⟨.inl,λh=>h.elim id λe=>absurd e.1 hg⟩
  rw [h];simp only [qk,exists_eq_or_imp,or_assoc]
theorem qqp(g:Int):∀(l:List Sg) (acc:List Nm),acc.Nodup->(l.foldl (qrP g) acc).Nodup
 |[],acc,h=>h
 |x::l,acc,h=>by
  refine qqp g l _ ?_;unfold qrP;split
  ·split
   ·exact h
   ·rename_i hm;rw [List.nodup_append];refine ⟨h,by simp,λa ha b hb=>?_⟩;rw [List.mem_singleton]at hb;rintro rfl;exact hm (hb▸ha)
  ·exact h
theorem qAl{l m:List Sg}(h:∀x∈l,x∈m)(g:Int):(qpF g l).length<=(qpF g m).length:=by
 refine qoG (qqp g l [] (by simp)) λn hn=>?_;obtain h0|⟨x,hx,h1⟩:=(qrN g l [] n).1 hn
 ·cases h0
 ·exact (qrN g m [] n).2 (.inr ⟨x,h x hx,h1⟩)
theorem qAJ{l m:List Sg}(h:∀x∈l,x∈m){g:Int}{r:Nm}(hs:qhv l g r=true):qhv m g r=true:=by
 unfold qhv at hs ⊢;obtain ⟨x,hx,h1⟩:=List.any_eq_true.1 hs;exact List.any_eq_true.2 ⟨x,h x hx,h1⟩
theorem qBY{l:List Sg}{i:Nat}{t:Gt}:qgO l i t=true↔qrC (qhv l i) t.2.1≠[]\/((qpF i l).length:Int)<t.2.2.1:=by
 unfold qgO;simp only [Bool.or_eq_true,decide_eq_true_eq];rw [show (((qrC (qhv l i) t.2.1).length:Int) > 0)↔qrC (qhv l i) t.2.1≠[] by
  rw [<- List.length_pos_iff];omega]
theorem qzN{l m:List Sg}(h:∀x∈l,x∈m){i:Nat}{t:Gt}(hl:qgO m i t=true):qgO l i t=true:=by
 rw [qBY]at hl ⊢;rcases hl with hl|hl
 ·left
  intro e;rw [qtq]at e;exact hl (qtq.2 λr hr=>qAJ h (e r hr))
 ·right
  have:=qAl h (i:Int);omega
theorem qf9(gs:List Gt)(l:List Sg):∃n:Nat,level gs l=n/\n<=gs.length/\(∀j t,j<n->gs[j]?=some t->qgO l j t=false)/\(n<gs.length->∃t,gs[n]?=some t/\qgO l n t=true):=by
 unfold level qzP;cases hf:qax (λi t=>if qgO l i t=true then some (i:Int)else none) 0 gs with
 |none =>
  rw [qaQ]at hf;refine ⟨gs.length,rfl,Nat.le_refl _,λj t hj ht=>?_,by omega⟩;have:=hf j t ht;rw [Nat.zero_add]at this;cases h:qgO l j t
  ·rfl
  ·rw [if_pos h]at this;cases this
 |some r =>
  obtain ⟨i,t,h1,h2,h3⟩:=qaZ hf;simp only [Nat.zero_add]at h2 h3;have hlt:=qao h1;split at h2
  ·rename_i hl;cases h2;refine ⟨i,rfl,by omega,λj u hj hu=>?_,λ_=>⟨t,h1,hl⟩⟩;have:=h3 j u hj hu;cases h:qgO l j u
   ·rfl
   ·rw [if_pos h]at this;cases this
  ·cases h2
theorem qB0{gs:List Gt}{l:List Sg}{i:Nat}{t:Gt}(ht:gs[i]?=some t)(h:qgO l i t=true):level gs l<=i:=by
 obtain ⟨n,h1,h2,h3,h4⟩:=qf9 gs l;rw [h1];by_cases hc:i<n
 ·rw [h3 i t hc ht]at h;cases h
 ·omega
theorem qqd{gs:List Gt}{l m:List Sg}(h:∀x∈l,x∈m):level gs l<=level gs m:=by
 obtain ⟨n,h1,h2,h3,h4⟩:=qf9 gs m;by_cases hc:n<gs.length
 ·obtain ⟨t,ht,hl⟩:=h4 hc;rw [h1];exact qB0 ht (qzN h hl)
 ·obtain ⟨n',h1',h2',_,_⟩:=qf9 gs l;omega
theorem qsV{gs:List Gt}(h:(qc6 gs).2=0):0<gs.length/\gs.length<=6:=by
 unfold qc6 at h;split at h
 ·split at h
  ·omega
  ·simp at h
 ·simp at h
theorem qCG{G:Int}{l:List Sg}(h:qfs G l=0):SB l:=by
 obtain ⟨h1,h2,_⟩:=qhd.1 h;refine ⟨by omega,λx hx=>?_⟩;obtain ⟨_,a,b⟩:=h2 x hx;have:=qzE a;have:=qzE b;omega
theorem qAM{G:Int}{l m:List Sg}(h:qfs G l=0)(h1:m.length<=l.length)(h2:∀x∈m,x∈l)(h3:m.Nodup):qfs G m=0:=by
 obtain ⟨a,b,_⟩:=qhd.1 h;exact qhd.2 ⟨by omega,λx hx=>b x (h2 x hx),h3⟩
end Go.Proofs.YtkcaaaiihhhnmaaGreatDoor
end
section
namespace Go.Dec
open Go Go.Lib
def isD(c:UInt8):Prop:=48<=c.toNat/\c.toNat<=57
instance:DecidablePred isD:=λc=>inferInstanceAs (Decidable (_/\_))
def ql7(n:Nat)(c:UInt8):Nat:=10*n+(c.toNat-48)
def val(l:List UInt8):Nat:=l.foldl ql7 0
theorem qse(l:List UInt8)(c:UInt8):val (l++[c])=10*val l+(c.toNat-48):=by simp [val,ql7]
theorem qhP{d:Nat}(h:d<10):(UInt8.ofNat (48+d)).toNat=48+d:=by
 rw [UInt8.toNat_ofNat'];omega
theorem qf3{u:Nat}(h:u<10):decDigits u=[UInt8.ofNat (48+u)]:=by rw [decDigits,dif_pos h]
theorem quC{u:Nat}(h:¬ u<10):decDigits u=decDigits (u / 10)++[UInt8.ofNat (48+u % 10)]:=by rw [decDigits,dif_neg h]
theorem qhA:∀u:Nat,(∀c∈decDigits u,isD c)/\decDigits u≠[]/\val (decDigits u)=u/\(0<u->(decDigits u).head?≠some 48):=by
 intro u;induction u using Nat.strongRecOn with
 |_ u ih =>
  by_cases h:u<10
  ·rw [qf3 h];refine ⟨?_,by simp,?_,?_⟩
   ·intro c hc;rw [List.mem_singleton]at hc;subst hc;unfold isD;rw [qhP h];omega
   ·simp only [val,List.foldl,ql7];rw [qhP h];omega
   ·intro h0 e;simp only [List.head?_cons,qb]at e;have e2:=congrArg UInt8.toNat e;rw [qhP h]at e2;have:(48:UInt8).toNat=48:=rfl;omega
  ·obtain ⟨h1,h2,h3,h4⟩:=ih (u / 10) (by omega);have hm:u % 10<10:=Nat.mod_lt _ (by omega);rw [quC h];refine ⟨λc hc=>?_,by simp,?_,λ_=>?_⟩
   ·rcases qj.1 hc with hc|hc
    ·exact h1 c hc
    ·rw [List.mem_singleton]at hc;subst hc;unfold isD;rw [qhP hm];omega
   ·rw [qse,h3,qhP hm];omega
   ·cases hd:decDigits (u / 10)with
    |nil=>exact absurd hd h2
    |cons a t =>
     rw [hd]at h4;simpa using h4 (by omega)
theorem qlb:∀(k u:Nat),u<10 ^ k->1<=k->(decDigits u).length<=k
 |0,u,h,h1=>by omega
 |k+1,u,h,_=>by
  by_cases h9:u<10
  ·rw [qf3 h9];simp
  ·rw [quC h9,List.length_append,List.length_singleton];have hk:1<=k:=by
    rcases Nat.eq_zero_or_pos k with rfl|h0
    ·simp at h;omega
    ·exact h0
   have:=qlb k (u / 10) (by rw [Nat.pow_succ]at h;omega) hk;omega
theorem quD:∀(n:Nat) (ds:List UInt8),ds.length<=n->ds≠[]->(∀c∈ds,isD c)->(ds.head?≠some 48\/ds.length=1)->decDigits (val ds)=ds
 |0,ds,hl,h0,_,_=>absurd (List.eq_nil_of_length_eq_zero (by omega)) h0
 |n+1,ds,hl,h0,hd,hh=>by
  obtain ⟨es,c,rfl⟩:∃es c,ds=es++[c]:=⟨ds.dropLast,ds.getLast h0,(List.dropLast_concat_getLast h0).symm⟩
  have hc:=hd c (by simp);unfold isD at hc;have hcc:UInt8.ofNat (48+(c.toNat-48))=c:=by
   rw [show 48+(c.toNat-48)=c.toNat by omega];simp
  rw [qse];by_cases he:es=[]
  ·subst he;simp only [val,List.foldl,Nat.mul_zero,Nat.zero_add,List.nil_append];rw [qf3 (by omega),hcc]
  ·have hlen:1<=es.length:=List.length_pos_iff.2 he;rw [List.length_append,List.length_singleton]at hl hh;have hh2:es.head?≠some 48:=by
    rcases hh with hh|hh
    ·cases es with
     |nil=>exact absurd rfl he
     |cons a t=>simpa using hh
    ·omega
   have ih:=quD n es (by omega) he (λx hx=>hd x (by simp [hx])) (.inl hh2);have hv:0<val es:=by
    rcases Nat.eq_zero_or_pos (val es)with h|h
    ·rw [h]at ih;rw [<- ih,qf3 (by omega)]at hh2;exact absurd rfl hh2
    ·exact h
   rw [quC (by omega),show (10*val es+(c.toNat-48)) / 10=val es by omega,show (10*val es+(c.toNat-48)) % 10=c.toNat-48 by omega,ih,hcc]
theorem qDC:∀(n:Nat) (ds:List UInt8),ds.length<=n->(∀c∈ds,isD c)->val ds<10 ^ n
 |0,ds,hl,_=>by
  have:ds=[]:=List.eq_nil_of_length_eq_zero (by omega);subst this;simp [val]
 |n+1,ds,hl,hd=>by
  by_cases h0:ds=[]
  ·subst h0;simp only [val,List.foldl];exact Nat.pow_pos (by omega)
  ·obtain ⟨es,c,rfl⟩:∃es c,ds=es++[c]:=⟨ds.dropLast,ds.getLast h0,(List.dropLast_concat_getLast h0).symm⟩
   have hc:=hd c (by simp);unfold isD at hc;rw [List.length_append,List.length_singleton]at hl;have:=qDC n es (by omega) (λx hx=>hd x (by simp [hx]));rw [qse,Nat.pow_succ];omega
theorem qzi:∀(l:List UInt8) (a:Nat),a<=l.foldl ql7 a
 |[],a=>Nat.le_refl _
 |c::l,a=>Nat.le_trans (by unfold ql7;omega) (qzi l (ql7 a c))
theorem qmz:∀(l:List UInt8) (a:Nat),(∀c∈l,isD c)->l.foldl ql7 a<10 ^ 18->parseUint10 a l=.ok (l.foldl ql7 a)
 |[],a,_,_=>rfl
 |c::l,a,hd,h=>by
  have hc:=hd c (by simp);have h1:=qzi l (ql7 a c);simp only [List.foldl_cons]at h ⊢;have h2:ql7 a c<10 ^ 18:=by omega
  unfold isD at hc;unfold parseUint10;rw [if_pos hc];have e:a*10+(c.toNat-48)=ql7 a c:=by unfold ql7;omega
  have h3:a*10<=ql7 a c:=by omega
  rw [if_neg (by omega),e,if_neg (by omega)];exact qmz l _ (λx hx=>hd x (by simp [hx])) h
def num(d:Nat)(w:List UInt8):Option Int:=match atoiAll w with
 |.ok v=>if itoa v=w/\(trimPrefix w [45]).length<=d then some v else none
 |_=>none
theorem qmg(r:List UInt8):trimPrefix (45::r) [45]=r:=by
 unfold trimPrefix hasPrefix;simp
theorem qqO{w:List UInt8}(h:w.head?≠some 45):trimPrefix w [45]=w:=by
 unfold trimPrefix hasPrefix;cases w with
 |nil=>simp
 |cons c l =>
  have:¬ (45:UInt8)=c:=λe=>h (by simp [e]);simp [this]
def qej(w:List UInt8):List UInt8:=if w.head?=some 45 then w.drop 1 else w
def qEM(d:Nat)(w:List UInt8):Prop:=qej w=[]\/d<(qej w).length\/((qej w).head?=some 48/\1<w.length)\/¬ ∀c∈qej w,isD c
instance (d:Nat) (w:List UInt8):Decidable (qEM d w):=inferInstanceAs (Decidable (_\/_))
def qE5(d:Nat)(w:List UInt8):Option Int:=if qEM d w then none else some (if w.head?=some 45 then -((val (qej w):Nat):Int)else ((val (qej w):Nat):Int))
theorem qAa{d:Nat}{v:Int}(h:(trimPrefix (itoa v) [45]).length<=d):qE5 d (itoa v)=some v:=by
 by_cases hv:v<0
 ·have e:itoa v=45::decDigits v.natAbs:=by unfold itoa;rw [if_pos hv]
  obtain ⟨h1,h2,h3,h4⟩:=qhA v.natAbs;have hr:qej (45::decDigits v.natAbs)=decDigits v.natAbs:=by simp [qej]
  rw [e,qmg]at h;rw [e];unfold qE5;rw [if_neg,hr,h3]
  ·simp only [List.head?_cons,if_true];congr 1;omega
  ·unfold qEM;rw [hr];rintro (h5|h5|⟨h5,_⟩|h5)
   ·exact h2 h5
   ·omega
   ·exact h4 (by omega) h5
   ·exact h5 h1
 ·have e:itoa v=decDigits v.toNat:=by unfold itoa;rw [if_neg hv]
  obtain ⟨h1,h2,h3,h4⟩:=qhA v.toNat;have hh:(decDigits v.toNat).head?≠some 45:=by
   intro hc;cases hd:decDigits v.toNat with
   |nil=>rw [hd]at hc;cases hc
   |cons a t =>
    rw [hd]at hc;simp only [List.head?_cons,qb]at hc;have:=h1 a (by rw [hd];simp);unfold isD at this;rw [hc]at this;exact absurd this.1 (by decide)
  have hr:qej (decDigits v.toNat)=decDigits v.toNat:=by unfold qej;rw [if_neg hh]
  rw [e,qqO hh]at h;rw [e];unfold qE5;rw [if_neg,hr,h3,if_neg hh]
  ·congr 1;omega
  ·unfold qEM;rw [hr];rintro (h5|h5|⟨h5,h6⟩|h5)
   ·exact h2 h5
   ·omega
   ·rcases Nat.eq_zero_or_pos v.toNat with h0|h0
    ·rw [h0,qf3 (by omega)]at h6;simp at h6
    ·exact h4 h0 h5
   ·exact h5 h1
theorem qCc{d:Nat}(hd:d<=18){w:List UInt8}{v:Int}(h:qE5 d w=some v):num d w=some v:=by
 unfold qE5 at h;split at h
 ·cases h
 ·rename_i hb;simp only [qb]at h;unfold qEM at hb;simp only [not_or,not_and,Classical.not_not]at hb;obtain ⟨b1,b2,b3,b4⟩:=hb;have hlt:val (qej w)<10 ^ 18:=qDC 18 _ (by omega) b4;have hp:parseMag (qej w)=.ok (val (qej w)):=by
   unfold parseMag;rw [if_neg b1];exact qmz _ 0 b4 hlt
  by_cases hm:w.head?=some 45
  ·rw [if_pos hm]at h;cases w with
   |nil=>cases hm
   |cons c r =>
    simp only [List.head?_cons,qb]at hm;subst hm;have hr:qej (45::r)=r:=by simp [qej]
    rw [hr]at b1 b2 b3 b4 hlt hp h;have h48:r.head?≠some 48:=λe=>by
     have:=b3 e;have h0:0<r.length:=List.length_pos_iff.2 b1;simp only [List.length_cons]at this;omega
    have hdv:=quD r.length r (Nat.le_refl _) b1 b4 (.inl h48);have hpos:0<val r:=by
     rcases Nat.eq_zero_or_pos (val r)with h0|h0
     ·rw [h0,qf3 (by omega)]at hdv;rw [<- hdv]at h48;exact absurd rfl h48
     ·exact h0
    have ha:atoiAll (45::r)=.ok v:=by
     unfold atoiAll;have e45:(45:UInt8).toNat=45:=rfl;simp only [e45,or_true,if_true,hp,not_true,false_and,if_false,true_and];rw [if_neg (by omega),h]
    have hi:itoa v=45::r:=by
     rw [<- h];unfold itoa;rw [if_pos (by omega),show (-((val r:Nat):Int)).natAbs=val r by omega,hdv]
    unfold num;rw [ha];simp only
    rw [if_pos ⟨hi,by rw [qmg];omega⟩]
  ·rw [if_neg hm]at h;have hr:qej w=w:=by unfold qej;rw [if_neg hm]
   rw [hr]at b1 b2 b3 b4 hlt hp h;have hdv:=quD w.length w (Nat.le_refl _) b1 b4 (by
    by_cases h48:w.head?=some 48
    ·right
     have:=b3 h48;have h0:0<w.length:=List.length_pos_iff.2 b1;omega
    ·exact .inl h48)
   have ha:atoiAll w=.ok v:=by
    cases w with
    |nil=>exact absurd rfl b1
    |cons c r =>
     have hc:=b4 c (by simp);unfold isD at hc;unfold atoiAll;have e1:¬ (c.toNat=43\/c.toNat=45):=by omega
     have e2:¬ c.toNat=45:=by omega
     simp only [if_neg e1];rw [hp];simp only [e2,not_false_eq_true,true_and,false_and,if_false];rw [if_neg (by omega),h]
   have hi:itoa v=w:=by
    rw [<- h];unfold itoa;rw [if_neg (by omega),Int.toNat_natCast,hdv]
   unfold num;rw [ha];simp only
   rw [if_pos ⟨hi,by rw [qqO hm];omega⟩]
theorem qCd{d:Nat}{w:List UInt8}{v:Int}(h:num d w=some v):atoiAll w=.ok v/\itoa v=w/\(trimPrefix w [45]).length<=d:=by
 unfold num at h;split at h
 ·rename_i u hu;split at h
  ·rename_i hc;cases h;exact ⟨hu,hc.1,hc.2⟩
  ·cases h
 ·cases h
theorem qCb{d:Nat}(hd:d<=18)(h1:1<=d){v:Int}(h:v.natAbs<10 ^ d):num d (itoa v)=some v:=by
 refine qCc hd (qAa ?_);by_cases hv:v<0
 ·have e:itoa v=45::decDigits v.natAbs:=by unfold itoa;rw [if_pos hv]
  rw [e,qmg];exact qlb d _ h h1
 ·have e:itoa v=decDigits v.toNat:=by unfold itoa;rw [if_neg hv]
  have hl:=qlb d v.toNat (by omega) h1;rw [e];unfold trimPrefix;split
  ·rw [List.length_drop];omega
  ·exact hl
theorem qxI(v:Int):∀c∈itoa v,c=45\/isD c:=by
 intro c hc;unfold itoa at hc;split at hc
 ·rcases qk.1 hc with h|h
  ·exact .inl h
  ·exact .inr ((qhA _).1 c h)
 ·exact .inr ((qhA _).1 c hc)
theorem qzI{v:Int}{c:UInt8}(h1:c≠45)(h2:¬ isD c):c∉itoa v:=λh=>(qxI v c h).elim h1 h2
theorem qDW(v:Int):itoa v≠[]:=by
 unfold itoa;split
 ·simp
 ·exact (qhA _).2.1
theorem qBU{v:Int}(h : -9223372036854775808<=v/\v<=9223372036854775807):(itoa v).length<=21:=by
 unfold itoa;split
 ·have:=qlb 20 v.natAbs (by omega) (by omega);simp only [List.length_cons]<;>omega
 ·have:=qlb 20 v.toNat (by omega) (by omega);omega
def parts(c:UInt8):List UInt8->List (List UInt8)
 |[]=>[[]]
 |b::l=>if b=c then []::parts c l else match parts c l with
  |[]=>[[b]]
  |p::ps=>(b::p)::ps
theorem qrM(c:UInt8):∀l,parts c l≠[]
 |[]=>by simp [parts]
 |b::l=>by
  unfold parts;split
  ·simp
  ·split<;>simp
theorem qgj{c:UInt8}:∀{l:List UInt8},c∉l->parts c l=[l]
 |[],_=>rfl
 |b::l,h=>by
  simp only [qk,not_or]at h;unfold parts;rw [if_neg (λe=>h.1 e.symm),qgj h.2]
theorem qfp{c:UInt8}:∀{p r:List UInt8},c∉p->parts c (p++c::r)=p::parts c r
 |[],r,_=>by simp [parts]
 |b::p,r,h=>by
  simp only [qk,not_or]at h;rw [List.cons_append,parts,if_neg (λe=>h.1 e.symm),qfp h.2]
theorem qtE(c:UInt8):∀l:List UInt8,(parts c l).length<=l.length+1
 |[]=>by simp [parts]
 |b::l=>by
  have:=qtE c l;unfold parts;split
  ·simp<;>omega
  ·split
   ·simp
   ·rename_i p ps h;rw [h]at this;simp at this ⊢;omega
theorem qf5(c:UInt8):∀s:List UInt8,(index s [c] = -1/\c∉s)\/∃p r,s=p++c::r/\c∉p/\index s [c]=(p.length:Int)
 |[]=>.inl ⟨rfl,by simp⟩
 |b::l=>by
  have e:index (b::l) [c]=if [c].isPrefixOf (b::l)then 0 else if index l [c] == -1 then -1 else index l [c]+1:=rfl;by_cases h:c=b
  ·subst h;exact .inr ⟨[],l,rfl,List.not_mem_nil,by rw [e];simp⟩
  ·have hp:([c].isPrefixOf (b::l))=false:=by simp [List.isPrefixOf,h]
   rw [e,hp];simp only [qf,if_false];rcases qf5 c l with ⟨h1,h2⟩|⟨p,r,rfl,h2,h3⟩
   ·exact .inl ⟨by rw [h1];rfl,by simp only [qk,not_or];exact ⟨h,h2⟩⟩
   ·refine .inr ⟨b::p,r,rfl,by simp only [qk,not_or];exact ⟨h,h2⟩,?_⟩;rw [h3];have:(((p.length:Int) == -1))=false:=by rw [beq_eq_false_iff_ne];omega
    simp [this]
theorem qlx(x y:List UInt8)(r:List (List UInt8))(sep:List UInt8):join (x::y::r) sep=x++sep++join (y::r) sep:=by
 rw [join_cons,join_cons];simp [joinTail]
theorem qlT{c:UInt8}:∀{ws:List (List UInt8)},ws≠[]->(∀w∈ws,c∉w)->parts c (join ws [c])=ws
 |[],h,_=>absurd rfl h
 |[w],_,h=>by rw [join_one];exact qgj (h w (by simp))
 |w::v::r,_,h=>by
  rw [qlx];have e:w++[c]++join (v::r) [c]=w++c::join (v::r) [c]:=by simp
  rw [e,qfp (h w (by simp)),qlT (by simp) (λx hx=>h x (by simp [hx]))]
theorem qrp(sep:List UInt8){B:Nat}:∀ws:List (List UInt8),(∀w∈ws,w.length<=B)->(join ws sep).length<=ws.length*(B+sep.length)
 |[],_=>by simp [join_nil]
 |[w],h=>by
  rw [join_one];have:=h w (by simp);simp only [List.length_singleton]<;>omega
 |w::v::r,h=>by
  rw [qlx];have h1:=h w (by simp);have h2:=qrp sep (v::r) (λx hx=>h x (by simp [hx]));simp only [List.length_append,List.length_cons]at h2 ⊢;rw [show (r.length+1+1)*(B+sep.length)=(r.length+1)*(B+sep.length)+(B+sep.length) by rw [Nat.add_mul (r.length+1) 1,Nat.one_mul]];omega
def qxU{α β:Type}(f:α->Option β):List α->Option (List β)
 |[]=>some []
 |a::l=>(f a).bind λb=>(qxU f l).map (b::·)
theorem qzX{α β:Type}{f:α->Option β}{g:β->α}:∀{l:List β},(∀b∈l,f (g b)=some b)->qxU f (l.map g)=some l
 |[],_=>rfl
 |b::l,h=>by
  simp only [qh,qxU];rw [h b (by simp),qzX (λx hx=>h x (by simp [hx]))];rfl
theorem qmD(c:UInt8):∀(k:Nat) (s:List UInt8),(parts c s).length<=k+1->splitK [c] 0 k s=parts c s
 |0,s,h=>by
  unfold splitK;rcases qf5 c s with ⟨_,h1⟩|⟨p,q,rfl,h1,_⟩
  ·rw [qgj h1]
  ·rw [qfp h1]at h;have:=qrM c q;cases hq:parts c q with
   |nil=>exact absurd hq this
   |cons a l=>rw [hq]at h;simp at h
 |k+1,s,h=>by
  unfold splitK;rcases qf5 c s with ⟨e,h1⟩|⟨p,q,rfl,h1,e⟩
  ·rw [e,qgj h1];rfl
  ·rw [qfp h1]at h ⊢;have hn:((p.length:Int) == -1)=false:=by rw [beq_eq_false_iff_ne];omega
   have hd:(p++c::q).drop (p.length+1)=q:=by
    rw [show p++c::q=(p++[c])++q by simp,List.drop_left' (by simp)]
   rw [e,hn];simp only [qf,if_false,Int.toNat_natCast,Nat.add_zero,List.length_singleton,hd];rw [qmD c k q (by simp at h;omega)];simp
theorem qoQ(c:UInt8):∀s:List UInt8,(parts c s).length=s.count c+1
 |[]=>rfl
 |b::l=>by
  have ih:=qoQ c l;unfold parts;by_cases h:b=c
  ·subst h;rw [if_pos rfl,List.length_cons,ih,List.count_cons_self]
  ·rw [if_neg h,List.count_cons_of_ne h];cases hp:parts c l with
   |nil=>exact absurd hp (qrM c l)
   |cons p ps=>rw [hp]at ih;simpa using ih
theorem qvB(c:UInt8)(s:ByteArray):(splitB ⟨#[c]⟩ 0 (countB s ⟨#[c]⟩) s).map (λx=>x.data.toList)=parts c s.data.toList:=by
 rw [splitB_data];have e:countB s ⟨#[c]⟩=s.data.toList.count c:=count_one c s.data.toList;rw [e];exact qmD c _ _ (by rw [qoQ];exact Nat.le_refl _)
end Go.Dec
end
section
namespace Go.Proofs.YtkcaaaiihhhnmaaGreatDoor
open Go Go.Ab Go.Tx Go.Dec
def qET(n:Int):Prop:=-9223372036854775808<=n/\n<=9223372036854775807
theorem wid{n:Int}(h1 : -9223372036854775808<=n)(h2:n<=9223372036854775807):w64 n=n:=qf0 h1 h2
theorem qyF{n:Int}(h:qET n):strconv_Itoa n=some (Lib.itoa n):=by
 unfold strconv_Itoa;exact if_pos h
theorem qg1(c:UInt8):∀{s w:List UInt8},w∈parts c s->w.length<=s.length
 |[],w,h=>by simp [parts]at h;simp [h]
 |b::l,w,h=>by
  unfold parts at h;split at h
  ·rcases qk.1 h with rfl|h
   ·simp
   ·have:=qg1 c h;simp<;>omega
  ·split at h
   ·rename_i hp;exact absurd hp (qrM c l)
   ·rename_i p ps hp;rcases qk.1 h with rfl|h
    ·have:=qg1 c (s:=l) (w:=p) (by rw [hp];simp);simp<;>omega
    ·have:=qg1 c (s:=l) (w:=w) (by rw [hp];simp [h]);simp<;>omega
theorem qyi{β γ:Type}(c:UInt8)(f:List UInt8->Option β)(bad:γ){s:List UInt8}{B:List β×List UInt8->Option ((List β×List UInt8)⊕((List β×List UInt8)⊕γ))}
  (h1:∀out r,out.length+r.length<=s.length->c∉r->B (out,r)=some (.inr (.inl (out,r))))
  (h2:∀out p q,out.length+p.length+1+q.length<=s.length->c∉p->B (out,p++c::q)=some (match f p with|none=>.inr (.inr bad)|some b=>.inl (out++[b],q))) :
  Ok (qG B ([],s)) λx=>match x with
   |.inl p=>c∉p.2/\p.1.length+p.2.length<=s.length/\qxU f (parts c s)=(f p.2).map λb=>p.1++[b]
   |.inr q=>q=bad/\qxU f (parts c s)=none:=by
 refine qu5 (λst=>st.2.length) (λ(st:List β×List UInt8)=>qxU f (parts c s)=(qxU f (parts c st.2)).map (st.1++·)/\st.1.length+st.2.length<=s.length) _ ⟨by simp,by simp⟩ ?_;rintro ⟨out,r⟩ ⟨e,hl⟩;simp only at e hl;rcases qf5 c r with ⟨_,h3⟩|⟨p,q,rfl,h3,_⟩
 ·rw [h1 out r hl h3,qaT];refine ⟨h3,hl,?_⟩;rw [e,qgj h3];simp only [qxU];cases f r<;>rfl
 ·have hq:(p++c::q).length=p.length+1+q.length:=by simp<;>omega
  rw [hq]at hl;rw [h2 out p q (by omega) h3];rw [qfp h3]at e;simp only [qxU]at e;cases hf:f p with
  |none =>
   rw [hf]at e;rw [qaT];exact ⟨rfl,e⟩
  |some b =>
   rw [hf]at e;rw [qa1];refine ⟨⟨?_,by simp;omega⟩,by simp only;rw [hq];omega⟩;simp only [e,qa];cases qxU f (parts c q)<;>simp
theorem qE8{α β:Type}{o:Option (α⊕β)}{k:α->Option β}{r:β}(h:Ok o λx=>match x with|.inl p=>k p=some r|.inr q=>q=r):o.bind (Sum.elim k some)=some r:=by
 obtain ⟨x,rfl,h⟩:=h;cases x with
 |inl p=>exact h
 |inr q=>exact congrArg some h
theorem qwX{α:Type}{l:List α}{a:Nat}(h:a<=l.length):slc l (a:Int) (l.length:Int)=some (l.drop a):=by
 rw [qqG (by omega)];simp
theorem qDv{α:Type}{l:List α}{a:Nat}(h:a<=l.length):slc l 0 (a:Int)=some (l.take a):=by
 rw [qqG (by omega)];simp
theorem qCM{c:UInt8}{s p q:List UInt8}(hs:s.length<=100000)(h3:p.length+1+q.length<=s.length)(hi:c∉p):strings_Index (p++c::q) [c]=some (p.length:Int) /\
  slc (p++c::q) 0 (w64 ((p.length:Int)+0))=some p/\slc (p++c::q) (w64 ((p.length:Int)+1)) ((p++c::q).length:Int)=some q:=by
 have hl:(p++c::q).length=p.length+1+q.length:=by simp<;>omega
 refine ⟨?_,?_,?_⟩
 ·unfold strings_Index;rw [if_pos (by omega)];rcases qf5 c (p++c::q)with ⟨_,h⟩|⟨p',q',e,h1,h2⟩
  ·exact absurd (by simp) h
  ·have h4:=qfp (r:=q) hi;rw [e,qfp h1]at h4;rw [h2,(List.cons.inj h4).1]
 ·rw [wid (by omega) (by omega),show ((p.length:Int)+0)=((p.length:Nat):Int) by omega,qDv (by rw [hl];omega)];simp
 ·rw [wid (by omega) (by omega),show ((p.length:Int)+1)=((p.length+1:Nat):Int) by omega,qwX (by rw [hl];omega)];rw [show p++c::q=(p++[c])++q by simp,List.drop_left' (by simp)]
theorem index_none{c:UInt8}{r:List UInt8}(hr:r.length<=100000)(h:c∉r):strings_Index r [c]=some (-1):=by
 unfold strings_Index;rw [if_pos (by omega)];rcases qf5 c r with ⟨h1,_⟩|⟨p,q,rfl,_,_⟩
 ·rw [h1]
 ·exact absurd (by simp) h
theorem qwB{c:UInt8}(sep:List UInt8):∀{l:List (List UInt8)},c∈Lib.join l sep->c∈sep\/∃w∈l,c∈w
 |[],h=>by rw [Lib.join_nil]at h;cases h
 |[w],h=>by rw [Lib.join_one]at h;exact .inr ⟨w,by simp,h⟩
 |w::v::r,h=>by
  rw [qlx]at h;rcases qj.1 h with h|h
  ·rcases qj.1 h with h|h
   ·exact .inr ⟨w,by simp,h⟩
   ·exact .inl h
  ·rcases qwB sep h with h|⟨x,h1,h2⟩
   ·exact .inl h
   ·exact .inr ⟨x,by simp [qk.1 h1],h2⟩
theorem qsn(l:List Nm)(x:Nm)(hl:l.length<=1000000000):qN l x=some (decide (x∈l)):=by
 unfold qN qa2;obtain ⟨r,h1,h2⟩:=qzm l (λy=>decide (x=y)) hl;rw [h1];simp only [qa,h2];by_cases h:x∈l
 ·rw [decide_eq_true h,List.any_eq_true.2 ⟨x,h,by simp⟩]
 ·rw [decide_eq_false h];congr 1
  rw [List.any_eq_false];intro y hy;simp only [decide_eq_true_eq];rintro rfl;exact h hy
def qfG(g:Gt):List Nm:=g.1::Lib.itoa g.2.2.1::g.2.1
def qpz(g:Gt):Nm:=Lib.join (qfG g) [32]
def qmp(gs:List Gt):Nm:=Lib.join (gs.map qpz) [59]
theorem qsX{gs:List Gt}(hb:GB gs)(hs:∀g∈gs,qET g.2.2.1):∀g∈gs,(qpz g).length<=248:=by
 intro g hg;have h1:=qrp [32] (B:=30) (qfG g) (λw hw=>by
  unfold qfG at hw;rcases qk.1 hw with rfl|hw
  ·exact hb.nm g hg
  ·rcases qk.1 hw with rfl|hw
   ·have:=qBU (hs g hg);omega
   ·exact hb.rn g hg w hw)
 have h2:(qfG g).length<=8:=by
  have:=hb.rl g hg;unfold qfG;simp<;>omega
 have h3:(qfG g).length*(30+[(32:UInt8)].length)<=8*31:=Nat.mul_le_mul h2 (by simp);unfold qpz;omega
theorem qp6{gs:List Gt}(hb:GB gs)(hs:∀g∈gs,qET g.2.2.1):(qmp gs).length<=2000:=by
 have h1:=qrp [59] (B:=248) (gs.map qpz) (λw hw=>by
  obtain ⟨g,hg,rfl⟩:=List.mem_map.1 hw;exact qsX hb hs g hg)
 have h2:=hb.len;have h3:(gs.map qpz).length*(248+[(59:UInt8)].length)<=8*249:=Nat.mul_le_mul (by rw [List.length_map];exact h2) (by simp);unfold qmp;omega
theorem qpv{gs:List Gt}(hb:GB gs)(hs:∀g∈gs,qET g.2.2.1):qbe gs=some (qmp gs):=by
 unfold qbe;have hlen:=hb.len;rw [quP gs qpz]
 ·simp only [qa];have:=qp6 hb hs;unfold strings_Join;rw [if_pos ⟨by rw [List.length_map];omega,by unfold qmp at this;omega⟩];rfl
 ·intro i g out hg ho;have hlt:=qao hg;have hm:=List.mem_of_getElem? hg;have h0:decide ((i:Int)<(gs.length:Int))=true:=by simp<;>omega
  have hr:=hb.rl g hm;have hl:=qsX hb hs g hm;simp only [h0,cond_true,q7 hg,qa];rw [qyF (hs g hm)];simp only [qa];rw [qyQ (by simp;omega)];simp only [qa];have hw : [g.1,Lib.itoa g.2.2.1]++g.2.1=qfG g:=rfl;rw [hw];have h2:(qfG g).length<=8:=by unfold qfG;simp<;>omega
  unfold strings_Join;rw [if_pos ⟨by omega,by unfold qpz at hl;omega⟩];simp only [qa];rw [qdz (by omega)];simp only [qa];rw [wid (by omega) (by omega)];rfl
 ·intro out ho;have h0:decide ((gs.length:Int)<(gs.length:Int))=false:=by simp
  simp only [h0,cond_false]
def qD3(w:Nm):Option Int:=match Lib.atoiAll w with
 |.ok v=>if 0<=v/\Lib.itoa v=w/\w.length<=3 then some v else none
 |_=>none
theorem qAb{w:Nm}(hw:w.length<=100000):∃v,qcj w 3=some (v,(qD3 w).isSome)/\∀n,qD3 w=some n->v=n:=by
 unfold qcj strconv_Atoi;rw [if_pos (by omega)];unfold qDI qD3;cases ha:Lib.atoiAll w with
 |ok v =>
  have hb:=Lib.atoiAll_bounds ha;simp only [qa,cond_true];refine ⟨v,?_,?_⟩
  ·by_cases c0:0<=v
   ·have c1:decide (v>=0)=true:=by simp<;>omega
    simp only [c1,cond_true];rw [qyF ⟨by omega,by omega⟩];simp only [qa];by_cases c:Lib.itoa v=w
    ·simp only [c,decide_true,cond_true,true_and];by_cases e:w.length<=3
     ·have:(w.length:Int)<=3:=by omega
      simp [e,this,c0]
     ·have:¬ (w.length:Int)<=3:=by omega
      simp [e,this]
    ·simp [c]
   ·have c1:decide (v>=0)=false:=by simp<;>omega
    simp only [c1,cond_false,qa];simp [c0]
  ·intro n hn;split at hn
   ·cases hn;rfl
   ·cases hn
 |range=>exact ⟨_,rfl,λn hn=>by cases hn⟩
 |_=>exact ⟨0,rfl,λn hn=>by cases hn⟩
theorem qBp{w:Nm}(hw:w.length<=100000):strings_Split w [32]=some (parts 32 w):=by
 unfold strings_Split;rw [if_pos ⟨by omega,by simp⟩];congr 1
 exact qvB 32 ⟨w.toArray⟩
def pg(w:Nm):Option Gt:=match parts 32 w with
 |n::k::l=>if []∈n::k::l then none else (qD3 k).map λv=>(n,l,v,())
 |_=>none
theorem qAj{α:Type}{w:Nm}(hw:w.length<=100000)(A:Option α)(K:Nm->List Nm->Int->Option α) :
  ((strings_Split w [32]).bind λx5 =>
     (bif decide ((x5.length:Int)<2)then
       some true
      else
       (qN x5 []).bind λx6 =>
       some x6).bind λ(p7:Bool) =>
     bif p7 then
      A
     else
      (idx x5 1).bind λx8 =>
      (qcj x8 (3:Int)).bind λx9 =>
      bif !x9.2 then
       A
      else
       (idx x5 0).bind λx10 =>
       (slc x5 2 (x5.length:Int)).bind λx11=>K x10 x11 x9.1)=match pg w with
   |none=>A
   |some g=>K g.1 g.2.1 g.2.2.1:=by
 rw [qBp hw];simp only [qa];have hpl:=qtE 32 w;have hsh:∀x∈parts 32 w,x.length<=w.length:=λx hx=>qg1 32 hx;unfold pg;cases hp:parts 32 w with
 |nil=>rfl
 |cons n l =>
  cases l with
  |nil=>rfl
  |cons k l =>
   rw [hp]at hpl hsh;have h0:decide (((n::k::l).length:Int)<2)=false:=by simp<;>omega
   simp only [h0,cond_false];rw [qsn _ _ (by omega)];simp only [qa];by_cases hc : []∈n::k::l
   ·rw [decide_eq_true hc,if_pos hc];rfl
   ·rw [decide_eq_false hc,if_neg hc];simp only [cond_false];have hk:=hsh k (by simp);obtain ⟨v,h1,h2⟩:=qAb (w:=k) (by omega);have e1:idx (n::k::l) 1=some k:=rfl;have e0:idx (n::k::l) 0=some n:=rfl;rw [e1];simp only [qa];rw [h1];simp only [qa];cases hn:qD3 k with
    |none=>rfl
    |some u =>
     simp only [Option.isSome_some,Bool.not_true,cond_false,qi];rw [e0];simp only [qa];have e2:slc (n::k::l) 2 ((n::k::l).length:Int)=some l:=by
      have:=qwX (l:=n::k::l) (a:=2) (by simp);exact this
     rw [e2];simp only [qa];rw [h2 u hn]
def qCu(s:Nm):List Gt×Int:=match qxU pg (parts 59 s)with
 |none=>([],7)
 |some gs=>if (qc6 gs).2=0 then (gs,0)else ([],(qc6 gs).2)
theorem qqX{s:Nm}(hs:s.length<=60000)(hb:∀gs,qxU pg (parts 59 s)=some gs->GB gs):qbr s=some (qCu s):=by
 unfold qbr;have h0:decide ((s.length:Int) > 60000)=false:=by simp<;>omega
 simp only [h0,cond_false];refine qE8 ((qyi 59 pg (([],7):List Gt×Int) ?_ ?_).mono ?_)
 ·intro out r hl hr;simp only
  rw [index_none (by omega) hr];rfl
 ·intro out p q hl hp;obtain ⟨h1,h2,h3⟩:=qCM (by omega) (by omega) hp (c:=59) (q:=q) (s:=s);have h0:decide (((p.length:Nat):Int)<0)=false:=by simp
  simp only
  rw [h1];simp only [qa,h0,cond_false];rw [h2];simp only [qa];refine (qAj (α:=(List Gt×Nm)⊕((List Gt×Nm)⊕(List Gt×Int))) (w:=p) (by omega) (some (.inr (.inr ([],7)))) (λa b v=>(app out ([(a,b,v,())])).bind λx12 =>
       (slc (p++59::q) (w64 ((p.length:Int)+1)) ((p++59::q).length:Int)).bind λx13 =>
       some (.inl (x12,x13)))).trans ?_
  cases hn:pg p with
  |none=>rfl
  |some z =>
   simp only
   rw [qdz (by omega)];simp only [qa];rw [h3];rfl
 ·rintro x hx;cases x with
  |inr q=>obtain ⟨rfl,h⟩:=hx;simp only;unfold qCu;rw [h]
  |inl p =>
   obtain ⟨h1,h2,h3⟩:=hx;simp only
   refine (qAj (w:=p.2) (by omega) (some ([],7)) (λa b v=>(app p.1 ([(a,b,v,())])).bind λx22 =>
    (qa0 x22).bind λx23 =>
    bif !(decide (x23.2=0))then
     some ([],x23.2)
    else
     some (x22,0))).trans ?_
   unfold qCu;rw [h3];cases hn:pg p.2 with
   |none=>rfl
   |some z =>
    rw [hn]at h3;have hgb:=hb (p.1++[z]) h3;simp only [qi];rw [qdz (by omega)];simp only [qa];have e:p.1++[(z.1,z.2.1,z.2.2.1,())]=p.1++[z]:=rfl;rw [e,qj0 hgb];simp only [qa];by_cases c:(qc6 (p.1++[z])).2=0
    ·simp [c]
    ·simp [c]
theorem qnt{s:Nm}(h:isN s=true):∀c∈s,c≠32/\c≠59:=by
 intro c hc;unfold isN at h;simp only [qe,Option.isNone_iff_eq_none]at h;have hf:=h.2;obtain ⟨i,hi⟩:=List.mem_iff_getElem?.1 hc;have:=(qaQ (l:=s)).1 hf i c hi;split at this
 ·cases this
 ·rename_i hb;unfold qv6 qBk at hb;constructor<;>rintro rfl<;>exact hb (by cases i<;>simp<;>decide)
theorem qDj{s:Nm}(h:isN s=true):s≠[]:=by
 rintro rfl;simp [isN]at h
theorem qz7{v:Int}(h0:0<=v)(h1:v<=20):qD3 (Lib.itoa v)=some v:=by
 have h2:=qCb (d:=3) (by omega) (by omega) (v:=v) (by omega);obtain ⟨h3,_,_⟩:=qCd h2;have e:Lib.itoa v=Lib.decDigits v.toNat:=by unfold Lib.itoa;rw [if_neg (by omega)]
 have h4:=qlb 3 v.toNat (by omega) (by omega);unfold qD3;rw [h3];show (if 0<=v/\Lib.itoa v=Lib.itoa v/\(Lib.itoa v).length<=3 then some v else none)=some v;rw [if_pos ⟨h0,rfl,by rw [e];exact h4⟩]
theorem qxb{g:Gt}(hn:isN g.1=true)(hr:∀r∈g.2.1,isN r=true)(hs:0<=g.2.2.1):∀w∈qfG g,(32:UInt8)∉w/\(59:UInt8)∉w/\w≠[]:=by
 intro w hw;unfold qfG at hw;rcases qk.1 hw with rfl|hw
 ·exact ⟨λh=>(qnt hn _ h).1 rfl,λh=>(qnt hn _ h).2 rfl,qDj hn⟩
 ·rcases qk.1 hw with rfl|hw
  ·exact ⟨qzI (by decide) (by decide),qzI (by decide) (by decide),qDW _⟩
  ·have:=hr w hw;exact ⟨λh=>(qnt this _ h).1 rfl,λh=>(qnt this _ h).2 rfl,qDj this⟩
theorem qFc{g:Gt}(hn:isN g.1=true)(hr:∀r∈g.2.1,isN r=true)(h0:0<=g.2.2.1)(h1:g.2.2.1<=20):pg (qpz g)=some g:=by
 have hw:=qxb hn hr h0;unfold pg qpz;rw [qlT (by simp [qfG]) (λw h=>(hw w h).1)];have hne : []∉qfG g:=λh=>(hw [] h).2.2 rfl;unfold qfG at hne ⊢;simp only
 rw [if_neg hne,qz7 h0 h1];rfl
theorem qBK{g:Gt}(hn:isN g.1=true)(hr:∀r∈g.2.1,isN r=true)(h0:0<=g.2.2.1):(59:UInt8)∉qpz g:=by
 intro h;rcases qwB [32] h with h|⟨w,h1,h2⟩
 ·simp at h
 ·exact (qxb hn hr h0 w h1).2.1 h2
def qE7(g:Gt):Prop:=isN g.1=true/\(∀r∈g.2.1,isN r=true)/\0<=g.2.2.1/\g.2.2.1<=20
theorem qnj{α:Type}{f:Nat->α->Int}:∀{l:List α} {k:Nat},(qai f k l).2=0->∀(i:Nat) a,l[i]?=some a->f (k+i) a=0
 |[],k,_,i,a,h=>by simp at h
 |b::l,k,h,i,a,ha=>by
  simp only [qai]at h;by_cases h0:f k b=0
  ·rw [if_pos h0]at h;cases i with
   |zero=>simp at ha;subst ha;simpa using h0
   |succ i=>rw [show k+(i+1)=(k+1)+i by omega];exact qnj h i a (by simpa using ha)
  ·rw [if_neg h0]at h;exact absurd h h0
theorem qp5{gs:List Gt}(h:(qc6 gs).2=0):∀g∈gs,qE7 g:=by
 intro g hg;obtain ⟨h1,h2⟩:=qsV h;unfold qc6 at h;rw [if_pos (by omega),if_pos (by omega)]at h;obtain ⟨i,hi⟩:=List.mem_iff_getElem?.1 hg;have hz:=qnj h i g hi;unfold qkb at hz;by_cases c1:isN g.1=true
 ·rw [if_pos c1]at hz;split at hz
  ·omega
  ·split at hz
   ·split at hz
    ·rename_i hr;split at hz
     ·rename_i hs;refine ⟨c1,λr hr'=>?_,hs.1,hs.2⟩;obtain ⟨j,hj⟩:=List.mem_iff_getElem?.1 hr';have:=qnj hr j r hj;unfold qg8 at this;split at this
      ·assumption
      ·omega
     ·omega
    ·rename_i hr;exact absurd hz hr
   ·omega
 ·rw [if_neg c1]at hz;omega
theorem qCv{gs:List Gt}(h:(qc6 gs).2=0):qxU pg (parts 59 (qmp gs))=some gs:=by
 have h0:gs≠[]:=by
  have:=(qsV h).1;intro e;subst e;simp at this
 have hk:=qp5 h;unfold qmp;rw [qlT (by simpa using h0)]
 ·have e:gs.map (λg=>g)=gs:=by simp
  refine qzX λg hg=>?_;obtain ⟨a,b,c,d⟩:=hk g hg;exact qFc a b c d
 ·intro w hw;obtain ⟨g,hg,rfl⟩:=List.mem_map.1 hw;obtain ⟨a,b,c,_⟩:=hk g hg;exact qBK a b c
theorem qui{gs:List Gt}(hb:GB gs)(h:(qc6 gs).2=0):qbe gs=some (qmp gs)/\qbr (qmp gs)=some (gs,0):=by
 have hs:∀g∈gs,qET g.2.2.1:=λg hg=>by
  have:=qp5 h g hg;exact ⟨by have:=this.2.2.1;omega,by have:=this.2.2.2;omega⟩
 refine ⟨qpv hb hs,?_⟩;have hl:=qp6 hb hs;have hr:=qCv h;rw [qqX (by omega) (λgs' h'=>by rw [hr]at h';cases h';exact hb)];unfold qCu;rw [hr];simp only
 rw [if_pos h]
theorem qxf(l:List Nm)(h:l.length<=1000000000):qif l l=some true:=by
 unfold qif;simp only [decide_true,Bool.not_true,cond_false];rw [qau l _ (λ_ _=>(none:Option Bool)) (λi a hi=>by
  have:=qao hi;rw [q7 hi];simp only [qa,decide_true,Bool.not_true,cond_false,stp];rw [wid (by omega) (by omega)])]
 have:qax (λ_ _=>(none:Option Bool)) 0 l=none:=qaQ.2 (λ_ _ _=>rfl);rw [this];rfl
theorem qpw{gs:List Gt}(hb:GB gs):qdj gs gs=some true:=by
 have hlen:=hb.len;unfold qdj;simp only [decide_true,Bool.not_true,cond_false];rw [qau gs _ (λ_ _=>(none:Option Bool)) (λi a hi=>by
  have:=qao hi;have hr:=hb.rl a (List.mem_of_getElem? hi);rw [q7 hi];simp only [qa,decide_true,Bool.not_true,cond_false];rw [qxf _ (by omega)];simp only [qa,Bool.not_true,cond_false,stp];rw [wid (by omega) (by omega)])]
 have:qax (λ_ _=>(none:Option Bool)) 0 gs=none:=qaQ.2 (λ_ _ _=>rfl);rw [this];rfl
end Go.Proofs.YtkcaaaiihhhnmaaGreatDoor
end
section
namespace Go.Proofs.YtkcaaaiihhhnmaaGreatDoor
open Go Go.Ab Go.Tx
abbrev Lm:=Int×Int×Int×Int×Int×Unit
abbrev Mo:=Int×Int×Int×Unit
abbrev En:=Int×Int×Int×Int×Unit
structure LimOk (x:Lm):Prop where
 lo : -60<=x.1/\x.1<=60
 hi : -60<=x.2.1/\x.2.1<=60
 sp:1<=x.2.2.1/\x.2.2.1<=8
 pu:1<=x.2.2.2.1/\x.2.2.2.1<=3
 je:1<=x.2.2.2.2.1/\x.2.2.2.2.1<=6
theorem qzQ(x:Lm):LimOk x↔(-60<=x.1/\x.1<=60)/\(-60<=x.2.1/\x.2.1<=60)/\(1<=x.2.2.1/\x.2.2.1<=8)/\(1<=x.2.2.2.1/\x.2.2.2.1<=3)/\(1<=x.2.2.2.2.1/\x.2.2.2.2.1<=6) :=
 ⟨λh=>⟨h.1,h.2,h.3,h.4,h.5⟩,λh=>⟨h.1,h.2.1,h.2.2.1,h.2.2.2.1,h.2.2.2.2⟩⟩
instance (x:Lm):Decidable (LimOk x):=decidable_of_iff _ (qzQ x).symm
def qyG(x:Lm)(s:Mo):Prop:=(x.1<=s.1/\s.1<=x.2.1)/\(-x.2.2.1<=s.2.1/\s.2.1<=x.2.2.1)/\(-x.2.2.2.1<=s.2.2.1/\s.2.2.1<=x.2.2.2.1)
instance (x:Lm) (s:Mo):Decidable (qyG x s):=by unfold qyG;infer_instance
def nxt(s:Mo)(p:Int):Mo:=(s.1+(s.2.1+p),s.2.1+p,p,())
def pok(x:Lm)(s:Mo)(p:Int):Prop:=(-x.2.2.2.1<=p/\p<=x.2.2.2.1)/\(-x.2.2.2.2.1<=p-s.2.2.1/\p-s.2.2.1<=x.2.2.2.2.1)/\qyG x (nxt s p)
instance (x:Lm) (s:Mo) (p:Int):Decidable (pok x s p):=by unfold pok;infer_instance
def mot(e:En):Mo:=(e.1,e.2.1,e.2.2.1,())
def qzH(m:Mo):Prop:=m.2.1=0/\m.2.2.1=0
instance (m:Mo):Decidable (qzH m):=by unfold qzH;infer_instance
def qFW(m:Mo)(k:Int):En:=(m.1,m.2.1,m.2.2.1,k,())
inductive Pth (all:List En):Nat->List Int->Prop
 |nil {k:Nat} {e:En}:all[k]?=some e->e.2.2.2.1<0->Pth all k []
 |snoc {k:Nat} {e:En} {l:List Int}:all[k]?=some e->0<=e.2.2.2.1->Pth all e.2.2.2.1.toNat l->Pth all k (l++[e.2.2.1])
structure Good (x:Lm) (all:List En):Prop where
 nd:(all.map mot).Nodup
 ok:∀e∈all,qyG x (mot e)
 bef:∀(k:Nat) e,all[k]?=some e->e.2.2.2.1<k /\ -1<=e.2.2.2.1
 pos:0<all.length
def qFA(x:Lm)(m:Mo):Int:=((m.1-x.1)*(2*x.2.2.1+1)+(m.2.1+x.2.2.1))*(2*x.2.2.2.1+1)+(m.2.2.1+x.2.2.2.1)
def NN(x:Lm):Int:=(x.2.1-x.1+1)*(2*x.2.2.1+1)*(2*x.2.2.2.1+1)
abbrev E6:=Int×Int×Int×Int×Int×Unit
def prj(e:E6):En:=(e.1,e.2.1,e.2.2.1,e.2.2.2.1,())
structure Sn (x:Lm) (fo:List E6) (sn:List Bool):Prop where
 len:sn.length=(NN x).toNat
 at_:∀m,qyG x m->sn[(qFA x m).toNat]?=some (decide (m∈(fo.map prj).map mot))
def qyw(x:Lm):Mo->List Int->Option Mo
 |m,[]=>some m
 |m,p::ps=>if pok x m p then qyw x (nxt m p) ps else none
theorem qnI(l:List Int)(h:l.length<=1000):qcV l=some l:=by
 unfold qcV;rw [qq4 (by omega)];rfl
theorem qug(x:Lm):∀(l:List Int) (m:Mo) (p:Int),qyw x m (l++[p])=(qyw x m l).bind λm'=>if pok x m' p then some (nxt m' p)else none
 |[],m,p=>by simp [qyw]
 |q::l,m,p=>by
  simp only [List.cons_append,qyw];split
  ·exact qug x l _ p
  ·rfl
structure Bf (x:Lm) (s:Mo) (i:Nat) (all:List En) (d:Nat->Nat):Prop where
 le:i<=all.length
 root:all[0]?=some (qFW s (-1))/\d 0=0
 par:∀(k:Nat) e,all[k]?=some e->0<k->∃(j:Nat) (e':En),e.2.2.2.1=(j:Int)/\j<k/\d k=d j+1/\all[j]?=some e'/\pok x (mot e') e.2.2.1/\mot e=nxt (mot e') e.2.2.1
 mono:∀k k',k<=k'->k'<all.length->d k<=d k'
 done:∀(k:Nat) e,k<i->all[k]?=some e->¬ qzH (mot e)/\∀p,pok x (mot e) p->∃(k2:Nat) (e2:En),all[k2]?=some e2/\mot e2=nxt (mot e) p/\d k2<=d k+1
 top:∀k,k<all.length->i<all.length->d k<=d i+1
theorem Bf.path{x:Lm}{s:Mo}{i:Nat}{all:List En}{d:Nat->Nat}(hb:Bf x s i all d){k:Nat}{l:List Int}(h:Pth all k l):∀{e:En},all[k]?=some e->qyw x s l=some (mot e)/\l.length=d k:=by
 induction h with
 |@nil k e h1 h2 =>
  intro e' he';have hk:k=0:=by
   by_cases h:k=0
   ·exact h
   ·obtain ⟨j,_,q,_⟩:=hb.par k e h1 (by omega);omega
  subst hk;rw [hb.root.1]at he';cases he';exact ⟨rfl,hb.root.2.symm⟩
 |@snoc k e l h1 h2 h3 ih =>
  intro e' he';rw [h1]at he';cases he';have hk:0<k:=by
   by_cases h:k=0
   ·subst h;rw [hb.root.1]at h1;cases h1;simp only [qFW]at h2;omega
   ·omega
  obtain ⟨j,e'',q1,q2,q3,q4,q5,q6⟩:=hb.par k e h1 hk;have hj:e.2.2.2.1.toNat=j:=by omega
  rw [hj]at ih;obtain ⟨w1,w2⟩:=ih q4;refine ⟨?_,?_⟩
  ·rw [qug,w1];simp only [qa];rw [if_pos q5,q6]
  ·simp only [List.length_append,List.length_singleton]<;>omega
theorem qC7(l:List Int)(t:Int)(hl:l.length<=1000000000):qgy l t=some (decide (t∈l)):=by
 unfold qgy;have key:=qau l (λs2=>(idx l s2).bind λx3 =>
    bif decide (x3=t)then
     some (.inr (.inr true))
    else
     some (.inl (w64 (s2+1)))) (λ_ a=>if a=t then some true else none) (λi a hi=>by
  have:=qao hi;rw [q7 hi];simp only [qa];by_cases h:a=t
  ·simp [h,stp]
  ·simp only [h,decide_false,cond_false,if_false,stp];rw [wq (by omega) (by omega)])
 rw [key,qaa];cases hf:qax (λ(_:Nat) a=>if a=t then some true else none) 0 l with
 |none =>
  rw [qaQ]at hf;have:t∉l:=λh=>by
   obtain ⟨i,hi⟩:=List.mem_iff_getElem?.1 h;have:=hf i t hi;simp at this
  simp [this]
 |some r =>
  obtain ⟨i,a,h1,h2,_⟩:=qaZ hf;split at h2
  ·rename_i h;subst h;simp only [qb]at h2;subst h2;simp [List.mem_of_getElem? h1]
  ·cases h2
abbrev Ts:=List Int×List Int×Unit
abbrev Ac:=Nm×List Int×List Int×List Int×List Int×Unit
abbrev Mc:=List Nm×List Ac×List Ts×Unit
abbrev qfj(a:Ac):Ts:=(a.2.1,a.2.2.1,())
abbrev dos(a:Ac):Ts:=(a.2.2.2.1,a.2.2.2.2.1,())
def shT(t:Ts):Prop:=t.1.length<=10/\t.2.1.length<=10
instance (t:Ts):Decidable (shT t):=by unfold shT;infer_instance
structure MB (m:Mc):Prop where
 fl:m.1.length<=10
 ac:m.2.1.length<=12
 hm:m.2.2.1.length<=6
 fn:∀s∈m.1,s.length<=30
 an:∀a∈m.2.1,a.1.length<=30/\shT (qfj a)/\shT (dos a)
 ht:∀t∈m.2.2.1,shT t
theorem qwW(t:Ts):qdK t=some (decide (shT t)):=by
 unfold qdK shT;by_cases h1:t.1.length<=10
 ·have h1':(t.1.length:Int)<=10:=by omega
  by_cases h2:t.2.1.length<=10
  ·have h2':(t.2.1.length:Int)<=10:=by omega
   simp [h1,h2,h1',h2']
  ·have h2':¬ (t.2.1.length:Int)<=10:=by omega
   simp [h1,h2,h1',h2']
 ·have h1':¬ (t.1.length:Int)<=10:=by omega
  simp [h1,h1']
theorem qER(m:Mc):∃b,qkt m=some b/\(b=true->MB m):=by
 unfold qkt;by_cases g1:(m.1.length:Int) > 10
 ·exact ⟨false,by simp only [g1,decide_true,cond_true,qa],λh=>by cases h⟩
 by_cases g2:(m.2.1.length:Int) > 12
 ·exact ⟨false,by simp only [g1,g2,decide_true,decide_false,cond_true,cond_false,qa],λh=>by cases h⟩
 by_cases g3:(m.2.2.1.length:Int) > 6
 ·exact ⟨false,by simp only [g1,g2,g3,decide_true,decide_false,cond_true,cond_false,qa],λh=>by cases h⟩
 simp only [g1,g2,g3,decide_false,cond_false,qa];rw [qau m.1 _ (λ_ s=>if (s.length:Int) > 30 then some false else none) (λi a hi=>by
  have:=qao hi;rw [q7 hi];simp only [qa];by_cases h:(a.length:Int) > 30
  ·simp only [h,decide_true,cond_true,if_true,stp]
  ·simp only [h,decide_false,cond_false,if_false,stp];rw [wq (by omega) (by omega)]),qaa]
 cases hf1:qax (λ_ (s:Nm)=>if (s.length:Int) > 30 then some false else none) 0 m.1 with
 |some r =>
  obtain ⟨i,a,_,h2,_⟩:=qaZ hf1;split at h2
  ·cases h2;exact ⟨false,rfl,λh=>by cases h⟩
  ·cases h2
 |none =>
  simp only
  rw [qau m.2.1 _ (λ_ a=>if (a.1.length:Int) > 30\/¬ shT (qfj a)\/¬ shT (dos a)then some false else none) (λi a hi=>by
   have:=qao hi;rw [q7 hi];simp only [qa,qwW];by_cases h:(a.1.length:Int) > 30
   ·simp only [h,decide_true,cond_true,true_or,if_true,stp,qa]
   ·by_cases h2:shT (qfj a)
    ·by_cases h3:shT (dos a)
     ·simp only [h,h2,h3,decide_true,decide_false,cond_false,Bool.not_true,not_true,or_self,if_false,stp,qa];rw [wq (by omega) (by omega)]
     ·simp only [h,h2,h3,decide_true,decide_false,cond_false,cond_true,Bool.not_true,Bool.not_false,not_true,not_false_eq_true,or_true,if_true,stp,qa]
    ·simp only [h,h2,decide_true,decide_false,cond_false,cond_true,Bool.not_true,Bool.not_false,not_false_eq_true,or_true,true_or,if_true,stp,qa]),qaa]
  cases hf2:qax (λ_ (a:Ac)=>if (a.1.length:Int) > 30\/¬ shT (qfj a)\/¬ shT (dos a)then some false else none) 0 m.2.1 with
  |some r =>
   obtain ⟨i,a,_,h2,_⟩:=qaZ hf2;split at h2
   ·cases h2;exact ⟨false,rfl,λh=>by cases h⟩
   ·cases h2
  |none =>
   simp only
   rw [qau m.2.2.1 _ (λ_ a=>if ¬ shT a then some false else none) (λi a hi=>by
    have:=qao hi;rw [q7 hi];simp only [qa,qwW];by_cases h:shT a
    ·simp only [h,decide_true,cond_false,Bool.not_true,not_true,if_false,stp];rw [wq (by omega) (by omega)]
    ·simp only [h,decide_false,cond_true,Bool.not_false,not_false_eq_true,if_true,stp]),qaa]
   cases hf3:qax (λ_ (a:Ts)=>if ¬ shT a then some false else none) 0 m.2.2.1 with
   |some r =>
    obtain ⟨i,a,_,h2,_⟩:=qaZ hf3;split at h2
    ·cases h2;exact ⟨false,rfl,λh=>by cases h⟩
    ·cases h2
   |none =>
    refine ⟨true,rfl,λ_=>⟨by omega,by omega,by omega,λs hs=>?_,λa ha=>?_,λt ht=>?_⟩⟩
    ·obtain ⟨i,hi⟩:=List.mem_iff_getElem?.1 hs;have:=qaQ.1 hf1 i s hi;by_cases h:(s.length:Int) > 30
     ·simp only [h,if_true]at this;cases this
     ·omega
    ·obtain ⟨i,hi⟩:=List.mem_iff_getElem?.1 ha;have:=qaQ.1 hf2 i a hi;by_cases h:(a.1.length:Int) > 30\/¬ shT (qfj a)\/¬ shT (dos a)
     ·simp only [h,if_true]at this;cases this
     ·simp only [not_or,Classical.not_not]at h;exact ⟨by omega,h.2⟩
    ·obtain ⟨i,hi⟩:=List.mem_iff_getElem?.1 ht;have:=qaQ.1 hf3 i t hi;by_cases h:¬ shT t
     ·simp only [h,not_false_eq_true,if_true]at this;cases this
     ·exact Classical.not_not.1 h
theorem qja{t:Ts}(h:shT t):qaK t=some t:=by
 obtain ⟨h1,h2⟩:=h;unfold qaK;rw [qnI _ (by omega),qnI _ (by omega)];rfl
theorem qyE{m:Mc}(hb:MB m):qdP m=some m:=by
 have h1:=hb.fl;have h2:=hb.ac;have h3:=hb.hm;unfold qdP qcv;rw [qq4 (by omega)];simp only [qa];have k1:Ok (qG (λ(s4:(Int×(List Nm)×(List Ac)×(List Ts))) =>
   bif decide (s4.1<(m.2.1.length:Int))then
    (idx m.2.1 s4.1).bind λx5 =>
    (idx m.2.1 s4.1).bind λx6 =>
    (qaK (x6.2.1,x6.2.2.1,())).bind λx7 =>
    (idx m.2.1 s4.1).bind λx8 =>
    (qaK (x8.2.2.2.1,x8.2.2.2.2.1,())).bind λx9 =>
    (app s4.2.2.1 ([(x5.1,x7.1,x7.2.1,x9.1,x9.2.1,())])).bind λx10 =>
    some (.inl (w64 (s4.1+1),s4.2.1,x10,s4.2.2.2))
   else
    some (.inr (s4.2.1,s4.2.2.1,s4.2.2.2))) (0,m.1,[],[])) (λr=>r=(m.1,m.2.1,[])):=by
  refine qcN m.2.1.length (λi (s:Int×List Nm×List Ac×List Ts)=>s=((i:Int),m.1,m.2.1.take i,[])) _ rfl ?_;rintro i s hi rfl;by_cases hlt:i<m.2.1.length
  ·obtain ⟨a,ha⟩:∃a,m.2.1[i]?=some a:=⟨_,List.getElem?_eq_getElem hlt⟩
   have h0:decide ((i:Int)<(m.2.1.length:Int))=true:=by simp<;>omega
   obtain ⟨_,b1,b2⟩:=hb.an a (List.mem_of_getElem? ha);simp only [h0,cond_true,q7 ha,qa];rw [qja b1,qja b2];simp only [qa];rw [qdz (by rw [List.length_take];omega)];simp only [qa];rw [wq (by omega) (by omega),qa1];exact ⟨hlt,by rw [qbQ a hlt,getD_at ha];simp⟩
  ·have:i=m.2.1.length:=by omega
   subst this;have h0:decide ((m.2.1.length:Int)<(m.2.1.length:Int))=false:=by simp
   simp only [h0,cond_false];rw [qaT,List.take_length]
 rw [k1.eq];simp only [qa];have k2:Ok (qG (λ(s13:(Int×(List Nm)×(List Ac)×(List Ts))) =>
   bif decide (s13.1<(m.2.2.1.length:Int))then
    (idx m.2.2.1 s13.1).bind λx14 =>
    (qaK x14).bind λx15 =>
    (app s13.2.2.2 ([x15])).bind λx16 =>
    some (.inl (w64 (s13.1+1),s13.2.1,s13.2.2.1,x16))
   else
    some (.inr (s13.2.1,s13.2.2.1,s13.2.2.2))) (0,m.1,m.2.1,[])) (λr=>r=(m.1,m.2.1,m.2.2.1)):=by
  refine qcN m.2.2.1.length (λi (s:Int×List Nm×List Ac×List Ts)=>s=((i:Int),m.1,m.2.1,m.2.2.1.take i)) _ rfl ?_;rintro i s hi rfl;by_cases hlt:i<m.2.2.1.length
  ·obtain ⟨a,ha⟩:∃a,m.2.2.1[i]?=some a:=⟨_,List.getElem?_eq_getElem hlt⟩
   have h0:decide ((i:Int)<(m.2.2.1.length:Int))=true:=by simp<;>omega
   have b1:=hb.ht a (List.mem_of_getElem? ha);simp only [h0,cond_true,q7 ha,qa];rw [qja b1];simp only [qa];rw [qdz (by rw [List.length_take];omega)];simp only [qa];rw [wq (by omega) (by omega),qa1];exact ⟨hlt,by rw [qbQ a hlt,getD_at ha];simp⟩
  ·have:i=m.2.2.1.length:=by omega
   subst this;have h0:decide ((m.2.2.1.length:Int)<(m.2.2.1.length:Int))=false:=by simp
   simp only [h0,cond_false];rw [qaT,List.take_length]
 rw [k2.eq];rfl
theorem qwg{α:Type}(g:Nat->α->Int):∀(l:List α) (k:Nat),qax (λi a=>if g i a=0 then none else some (g i a)) k l=if (qai g k l).2=0 then none else some (qai g k l).2
 |[],k=>rfl
 |a::l,k=>by
  simp only [qax,qai];by_cases h:g k a=0
  ·simp only [h,if_true];exact qwg g l (k+1)
  ·simp [h]
theorem quG{α σ:Type}(l:List α)(g:Nat->α->Int)(J:Nat->σ->Prop)(K:Int×σ->Option ((Int×σ)⊕(σ⊕(Int×Int×σ))))(s0:σ)(h0:J 0 s0)
  (h:∀(i:Nat) a s,l[i]?=some a->J i s->∃s',J (i+1) s'/\K ((i:Int),s)=some (if g i a=0 then .inl ((i:Int)+1,s')else .inr (.inr ((i:Int),g i a,s')))) :
  Ok ((qG (λs=>bif decide (s.1<(l.length:Int))then K s else some (.inr (.inl s.2))) (0,s0)).bind (Sum.elim (λp=>some (0,0,p)) some)) (λr=>(r.1,r.2.1)=qai g 0 l):=by
 rw [qvf];refine (qcN l.length (λi (s:Int×σ)=>s.1=(i:Int)/\J i s.2/\(qai g 0 (l.take i)).2=0)
  (λr:σ⊕(Int×Int×σ)=>match r with
   |.inl _=>(qai g 0 l)=(0,0)
   |.inr q=>(q.1,q.2.1)=qai g 0 l) ⟨rfl,h0,rfl⟩ ?_).mono ?_
 ·rintro i ⟨i0,s⟩ hi ⟨e1,e2,e3⟩;simp only at e1 e2;subst e1;by_cases hlt:i<l.length
  ·have h0:decide ((i:Int)<(l.length:Int))=true:=by simp<;>omega
   obtain ⟨a,ha⟩:∃a,l[i]?=some a:=⟨_,List.getElem?_eq_getElem hlt⟩
   simp only [h0,cond_true];obtain ⟨s',hJ,hK⟩:=h i a s ha e2;rw [hK];by_cases hg:g i a=0
   ·rw [if_pos hg,qa1];exact ⟨hlt,by simp,hJ,by rw [qle ha,if_pos e3,hg]⟩
   ·rw [if_neg hg,qaT];exact (qsI ha e3 hg).symm
  ·have:i=l.length:=by omega
   subst this;have h0:decide ((l.length:Int)<(l.length:Int))=false:=by simp
   simp only [h0,cond_false];rw [qaT];rw [List.take_length]at e3;exact qnk e3
 ·intro r hr;cases r with
  |inl p=>simp only at hr ⊢;rw [qfo];exact hr.symm
  |inr q=>exact hr
def ixE(f:Int)(l:List Int)(i:Nat)(n:Int):Int:=if 0<=n/\n<=f-1 then (if 0<i/\n<=l.getD (i-1) 0 then 9 else 0)else 6
def qxJ(f:Int)(l:List Int):Int:=(qai (ixE f l) 0 l).2
theorem qkd(l:List Int)(f:Int)(hl:l.length<=1000)(hf:0<=f/\f<=1000):qbs l f=some (qxJ f l):=by
 unfold qbs;have key:=quG l (ixE f l) (λi (p:Int)=>p=if i=0 then -1 else l.getD (i-1) 0) (λ(s2:Int×Int)=>(idx l s2.1).bind λx3 =>
     (qB x3 (0:Int) (w64 (f-1))).bind λx4 =>
     (qp x4 (6:Int)).bind λx5 =>
     (qp (decide (x3 > s2.2)) (9:Int)).bind λx6 =>
     (qw ([x5,x6])).bind λx7 =>
     bif !(decide (x7=0))then
      some (.inr (.inr (s2.1,x7,x3)))
     else
      some (.inl (w64 (s2.1+1),x3))) (-1) rfl (by
  rintro i a p ha rfl;have hlt:=qao ha;refine ⟨a,by simp [ha],?_⟩;rw [wq (by omega) (by omega),q7 ha];simp only [qa,wit,unl];rw [qul _ (by simp)];simp only [qa];rw [wq (by omega) (by omega)];unfold ixE;by_cases c1:0<=a/\a<=f-1
  ·by_cases c2:i=0
   ·subst c2;have c3:a > -1:=by omega
    simp [c1,c3,qhm]
   ·have c4:0<i:=by omega
    by_cases c3:a<=l.getD (i-1) 0
    ·have c3':¬ a > l.getD (i-1) 0:=by omega
     simp only [c1,c2,c3,c3',c4,and_self,decide_true,decide_false,if_true,if_false,qf,qhm];rfl
    ·have c3':a > l.getD (i-1) 0:=by omega
     simp only [c1,c2,c3,c3',c4,and_self,and_false,decide_true,decide_false,if_true,if_false,qf,qhm];rfl
  ·simp only [c1,decide_false,if_false,qf,qhm];rfl)
 obtain ⟨r,h1,h2⟩:=key;rw [h1];simp only [qa];unfold qxJ;rw [<- h2]
theorem qjW(l:List Int)(f:Int)(hl:l.length<=1000)(hf:0<=f/\f<=1000):qbM l f=some (qxJ f l):=by
 unfold qbM;rw [qau l _ (λi n=>if ixE f l i n=0 then none else some (ixE f l i n)) (λi a hi=>by
  have hlt:=qao hi;rw [q7 hi];simp only [qa,Wit];rw [wq (n:=f-1) (by omega) (by omega)];unfold ixE;by_cases c1:0<=a/\a<=f-1
  ·by_cases c2:0<i
   ·have c2':(i:Int) > 0:=by omega
    have e1:((i:Int)-1)=((i-1:Nat):Int):=by omega
    obtain ⟨b,hb⟩:∃b,l[i-1]?=some b:=⟨_,List.getElem?_eq_getElem (by omega)⟩
    rw [wq (n:=(i:Int)-1) (by omega) (by omega),e1,q7 hb,getD_at hb];by_cases c3:a<=b
    ·simp [c1,c2,c2',c3,stp]
    ·simp only [c1,c2,c2',c3,and_self,and_false,decide_true,decide_false,Bool.not_true,cond_false,cond_true,qa,if_true,if_false,stp];rw [wq (by omega) (by omega)]
   ·have c2':¬ (i:Int) > 0:=by omega
    simp only [c1,c2,c2',and_self,false_and,decide_true,decide_false,Bool.not_true,cond_false,cond_true,qa,if_true,if_false,stp];rw [wq (by omega) (by omega)]
  ·simp [c1,stp]),qaa,qwg]
 unfold qxJ;by_cases h:(qai (ixE f l) 0 l).2=0<;>simp [h]
def tsE(f:Int)(t:Ts):Int:=if qxJ f t.1=0 then (if qxJ f t.2.1=0 then (if ∃x∈t.1,x∈t.2.1 then 13 else 0)else qxJ f t.2.1)else qxJ f t.1
theorem qsm(l:List Int)(x:Int)(hl:l.length<=1000000000):qaq l x=some (decide (x∈l)):=by
 unfold qaq qb9;rw [qau l _ (λi n=>if x=n then some (i:Int)else none) (λi a hi=>by
  have:=qao hi;rw [q7 hi];simp only [qa];by_cases h:x=a
  ·simp only [h,decide_true,cond_true,if_true,stp]
  ·simp only [h,decide_false,cond_false,if_false,stp];rw [wq (by omega) (by omega)]),qaa]
 cases hf:qax (λi n=>if x=n then some (i:Int)else none) 0 l with
 |none =>
  have:x∉l:=λh=>by
   obtain ⟨i,hi⟩:=List.mem_iff_getElem?.1 h;have:=qaQ.1 hf i x hi;simp at this
  simp [this]
 |some r =>
  obtain ⟨i,a,h1,h2,_⟩:=qaZ hf;by_cases h:x=a
  ·subst h;simp only [if_true,qb]at h2;have:x∈l:=List.mem_of_getElem? h1;have h3:r>=0:=by omega
   simp [this,h3]
  ·simp [h]at h2
theorem qma(t:Ts)(f:Int)(h:shT t)(hf:0<=f/\f<=1000):qaM t f=some (tsE f t):=by
 obtain ⟨h1,h2⟩:=h;unfold qaM;have key:=qzk t.1 (λx=>qaq t.2.1 x) (λx=>decide (x∈t.2.1)) (λx _=>qsm _ _ (by omega)) (by omega);obtain ⟨p,e1,e2⟩:=qd.1 key;rw [e1];simp only [qa];rw [qkd _ _ (by omega) hf,qkd _ _ (by omega) hf];simp only [qa,unl];rw [Option.some.inj e2,qul _ (by simp)];simp only [qa];unfold tsE;by_cases c1:qxJ f t.1=0
 ·by_cases c2:qxJ f t.2.1=0
  ·by_cases c3:∃x∈t.1,x∈t.2.1
   ·simp [c1,c2,c3,qhm]
   ·simp [c1,c2,c3,qhm]
  ·simp [c1,c2,qhm]
 ·simp [c1,qhm]
theorem qk4(t:Ts)(f:Int)(h:shT t)(hf:0<=f/\f<=1000):qch t f=some (tsE f t):=by
 obtain ⟨h1,h2⟩:=h;unfold qch;rw [qjW _ _ (by omega) hf,qjW _ _ (by omega) hf];simp only [qa];unfold tsE;by_cases c1:qxJ f t.1=0
 ·by_cases c2:qxJ f t.2.1=0
  ·simp only [c1,c2,decide_true,Bool.not_true,cond_false,if_true];rw [qj9 t.1.length _ (λj=>∃x,t.1[j]?=some x/\x∈t.2.1) (13:Int) (∃x∈t.1,x∈t.2.1) (by
    constructor
    ·rintro ⟨x,hx,hm⟩;obtain ⟨j,hj⟩:=List.mem_iff_getElem?.1 hx;exact ⟨j,qao hj,x,hj,hm⟩
    ·rintro ⟨j,_,x,hj,hm⟩;exact ⟨x,List.mem_of_getElem? hj,hm⟩) (λi hi=>by
    obtain ⟨a,ha⟩:∃a,t.1[i]?=some a:=⟨_,List.getElem?_eq_getElem hi⟩
    rw [q7 ha];simp only [qa];rw [qC7 _ _ (by omega)];simp only [qa];by_cases c:a∈t.2.1
    ·simp [c,ha]
    ·simp only [c,decide_false,cond_false,ha,qb,exists_eq_left',if_false];rw [wq (by omega) (by omega)])]
   by_cases c3:∃x∈t.1,x∈t.2.1
   ·rw [if_pos c3,if_pos c3];rfl
   ·rw [if_neg c3,if_neg c3];rfl
  ·simp [c1,c2]
 ·simp [c1]
def nmE(l:List Nm)(i:Nat)(s:Nm):Int:=if isN s=true then (if s∈l.take i then 5 else 0)else 4
def acE(m:Mc)(i:Nat)(a:Ac):Int :=
 if isN a.1=true then (if a.1∈(m.2.1.take i).map (·.1)then 5 else if tsE m.1.length (qfj a)=0 then tsE m.1.length (dos a)else tsE m.1.length (qfj a))else 4
def hmE(m:Mc)(_:Nat)(t:Ts):Int:=tsE m.1.length t
def qfX(m:Mc):Int×Int :=
 if (m.1.length:Int) > 0 then (if (m.1.length:Int)<=8/\(m.2.1.length:Int)<=10/\(m.2.2.1.length:Int)<=4 then
  (if (qai (nmE m.1) 0 m.1).2=0 then (if (qai (acE m) 0 m.2.1).2=0 then qai (hmE m) 0 m.2.2.1 else qai (acE m) 0 m.2.1)else qai (nmE m.1) 0 m.1)else (0,8))else (0,10)
theorem qnP{m:Mc}(hb:MB m):qbJ m=some (qfX m):=by
 have h1:=hb.fl;have h2:=hb.ac;have h3:=hb.hm;unfold qbJ qfX;have c0:(bif decide ((m.1.length:Int)<=8)then bif decide ((m.2.1.length:Int)<=10)then some (decide ((m.2.2.1.length:Int)<=4))else some false else some false)
   = some (decide ((m.1.length:Int)<=8/\(m.2.1.length:Int)<=10/\(m.2.2.1.length:Int)<=4)):=by
  by_cases a1:(m.1.length:Int)<=8<;>by_cases a2:(m.2.1.length:Int)<=10<;>simp [a1,a2]
 rw [c0];simp only [unl,qa];rw [qul _ (by simp)];simp only [qa];by_cases g1:(m.1.length:Int) > 0
 ·by_cases g2:(m.1.length:Int)<=8/\(m.2.1.length:Int)<=10/\(m.2.2.1.length:Int)<=4
  ·rw [if_pos g1,if_pos g2,decide_eq_true g1,decide_eq_true g2];simp only [if_true,qhm,decide_true,Bool.not_true,cond_false];obtain ⟨r1,e1,q1⟩:=quG m.1 (nmE m.1) (λi (kn:List Nm)=>∀r,r∈kn↔r∈m.1.take i) (λs6=>(idx m.1 s6.1).bind λx7 =>
      (q9 x7).bind λx8 =>
      (qw ([if x8=true then 0 else 4,if (!(qfJ .str s6.2 x7))=true then 0 else 5])).bind λx11 =>
      bif !(decide (x11=0))then
       some (.inr (.inr (s6.1,x11,qhF .str s6.2 x7)))
      else
       some (.inl (w64 (s6.1+1),qhF .str s6.2 x7))) [] (by simp) (by
    intro i a kn ha hk;have hlt:=qao ha;refine ⟨qhF .str kn a,λr=>by rw [qky,hk,qbQ a hlt,getD_at ha];simp,?_⟩;rw [q7 ha];simp only [qa];rw [qf7 a (by have:=hb.fn a (List.mem_of_getElem? ha);omega),qEz];simp only [qa];rw [qul _ (by simp)];simp only [qa];rw [wq (by omega) (by omega)];unfold nmE;by_cases a3:isN a=true
    ·by_cases a4:a∈m.1.take i
     ·have:a∈kn:=(hk a).2 a4;simp [a3,a4,this,qhm]
     ·have:a∉kn:=λh=>a4 ((hk a).1 h);simp [a3,a4,this,qhm]
    ·simp [a3,qhm])
   rw [e1];simp only [qa];by_cases E1:(qai (nmE m.1) 0 m.1).2=0
   ·have E1':r1.2.1=0:=by rw [<- q1]at E1;exact E1
    rw [if_pos E1];simp only [E1',decide_true,Bool.not_true,cond_false];obtain ⟨r2,e2,q2⟩:=quG m.2.1 (acE m) (λi (kn:List Nm)=>∀r,r∈kn↔r∈(m.2.1.take i).map (·.1)) (λs15=>(idx m.2.1 s15.1).bind λx16 =>
       (q9 x16.1).bind λx17 =>
       (qw ([if x17=true then 0 else 4,if (!(qfJ .str s15.2 x16.1))=true then 0 else 5])).bind λx20 =>
       (qaM (x16.2.1,x16.2.2.1,()) (m.1.length:Int)).bind λx21 =>
       (qaM (x16.2.2.2.1,x16.2.2.2.2.1,()) (m.1.length:Int)).bind λx22 =>
       (qw ([x20,x21,x22])).bind λx23 =>
       bif !(decide (x23=0))then
        some (.inr (.inr (s15.1,x23,qhF .str s15.2 x16.1)))
       else
        some (.inl (w64 (s15.1+1),qhF .str s15.2 x16.1))) [] (by simp) (by
     intro i a kn ha hk;have hlt:=qao ha;refine ⟨qhF .str kn a.1,λr=>by rw [qky,hk,qbQ a hlt,getD_at ha];simp,?_⟩;rw [q7 ha];simp only [qa];obtain ⟨b0,b1,b2⟩:=hb.an a (List.mem_of_getElem? ha);rw [qf7 a.1 (by omega),qEz];simp only [qa];rw [qul _ (by simp)];simp only [qa];rw [qma (qfj a) _ b1 (by omega),qma (dos a) _ b2 (by omega)];simp only [qa];rw [qul _ (by simp)];simp only [qa];rw [wq (by omega) (by omega)];unfold acE;by_cases a3:isN a.1=true
     ·by_cases a4:a.1∈(m.2.1.take i).map (·.1)
      ·have:a.1∈kn:=(hk a.1).2 a4;simp only [a3,a4,this,decide_true,Bool.not_true,qf,if_true,if_false,qhm];rfl
      ·have:a.1∉kn:=λh=>a4 ((hk a.1).1 h);simp only [a3,a4,this,decide_false,Bool.not_false,if_true,if_false,qhm];by_cases a5:tsE m.1.length (qfj a)=0
       ·by_cases a6:tsE m.1.length (dos a)=0
        ·simp [a5,a6]
        ·simp [a5,a6]
       ·simp [a5]
     ·simp [a3,qhm])
    rw [e2];simp only [qa];by_cases E2:(qai (acE m) 0 m.2.1).2=0
    ·have E2':r2.2.1=0:=by rw [<- q2]at E2;exact E2
     rw [if_pos E2];simp only [E2',decide_true,Bool.not_true,cond_false];have e3:=qwj m.2.2.1 (λ_ t=>qaM t (m.1.length:Int)) (hmE m) (λi a ha=>qma a _ (hb.ht a (List.mem_of_getElem? ha)) (by omega)) (by omega);rw [e3];rfl
    ·have E2':r2.2.1≠0:=by rw [<- q2]at E2;exact E2
     rw [if_neg E2];simp only [E2',decide_false,Bool.not_false,cond_true];rw [q2]
   ·have E1':r1.2.1≠0:=by rw [<- q1]at E1;exact E1
    rw [if_neg E1];simp only [E1',decide_false,Bool.not_false,cond_true];rw [q1]
  ·rw [if_pos g1,if_neg g2,decide_eq_true g1,decide_eq_false g2];rfl
 ·rw [if_neg g1,decide_eq_false g1];rfl
theorem qnH{m:Mc}(hb:MB m):qbW m=some (qfX m):=by
 have h1:=hb.fl;have h2:=hb.ac;have h3:=hb.hm;unfold qbW qfX;by_cases g1:(m.1.length:Int) > 0
 ·have g1':¬ (m.1.length:Int)=0:=by omega
  rw [if_pos g1,decide_eq_false g1'];simp only [cond_false];by_cases g2:(m.1.length:Int)<=8/\(m.2.1.length:Int)<=10/\(m.2.2.1.length:Int)<=4
  ·obtain ⟨a1,a2,a3⟩:=g2;have a1':¬ (m.1.length:Int) > 8:=by omega
   have a2':¬ (m.2.1.length:Int) > 10:=by omega
   have a3':¬ (m.2.2.1.length:Int) > 4:=by omega
   rw [if_pos ⟨a1,a2,a3⟩];simp only [a1',a2',a3',decide_false,cond_false,qa];rw [qau m.1 _ (λi s=>if nmE m.1 i s=0 then none else some ((i:Int),nmE m.1 i s)) (λi a hi=>by
    have hlt:=qao hi;rw [q7 hi];simp only [qa];rw [qjX];simp only [qa];unfold nmE;by_cases c1:isN a=true
    ·rw [qqG (by omega)];simp only [qa,Int.toNat_natCast,Int.toNat_zero,List.drop_zero,c1,Bool.not_true,cond_false,if_true];rw [qpM _ _ (by simp;omega)];simp only [qa];by_cases c2:a∈m.1.take i
     ·simp [c2,stp]
     ·simp only [c2,decide_false,cond_false,if_false,if_true,stp];rw [wq (by omega) (by omega)]
    ·simp [c1,stp]),qaa]
   have f1:=qeU (nmE m.1) m.1 0;cases hf1:qax (λi s=>if nmE m.1 i s=0 then none else some ((i:Int),nmE m.1 i s)) 0 m.1 with
   |some r =>
    rw [hf1]at f1;simp only at f1;have hr:r.2≠0:=by
     obtain ⟨i,a,_,h2,_⟩:=qaZ hf1;split at h2
     ·cases h2
     ·rename_i h;cases h2;exact h
    simp only
    rw [f1,if_neg (by rw [<- Option.some.inj f1];exact hr)]
   |none =>
    rw [hf1]at f1;simp only at f1 ⊢;rw [if_pos (by rw [<- Option.some.inj f1])];rw [qau m.2.1 _ (λi s=>if acE m i s=0 then none else some ((i:Int),acE m i s)) (λi a hi=>by
     have hlt:=qao hi;obtain ⟨b0,b1,b2⟩:=hb.an a (List.mem_of_getElem? hi);rw [q7 hi];simp only [qa];rw [qjX];simp only [qa];unfold acE;by_cases c1:isN a.1=true
     ·simp only [c1,Bool.not_true,cond_false,if_true];rw [qj9 i _ (λj=>∃x,m.2.1[j]?=some x/\x.1=a.1) (.inr (.inr ((i:Int),5)):Int⊕(Unit⊕(Int×Int))) (a.1∈(m.2.1.take i).map (·.1)) (by
       rw [List.mem_map];constructor
       ·rintro ⟨x,hx,e⟩;obtain ⟨j,hj,hx⟩:=qcG.1 hx;exact ⟨j,hj,x,hx,e⟩
       ·rintro ⟨j,hj,x,hx,e⟩;exact ⟨x,qcG.2 ⟨j,hj,hx⟩,e⟩) (λj hj=>by
       obtain ⟨x,hx⟩:∃x,m.2.1[j]?=some x:=⟨_,List.getElem?_eq_getElem (by omega)⟩
       rw [q7 hx];simp only [qa];by_cases c:x.1=a.1
       ·simp [c,hx]
       ·simp only [c,decide_false,cond_false,hx,qb,exists_eq_left',if_false];rw [wq (by omega) (by omega)])]
      by_cases c2:a.1∈(m.2.1.take i).map (·.1)
      ·rw [if_pos c2,if_pos c2];rfl
      ·rw [if_neg c2,if_neg c2];simp only [qa,Sum.elim_inl];rw [qk4 (qfj a) _ b1 (by omega),qk4 (dos a) _ b2 (by omega)];simp only [qa];by_cases c3:tsE m.1.length (qfj a)=0
       ·by_cases c4:tsE m.1.length (dos a)=0
        ·simp only [c3,c4,decide_true,Bool.not_true,cond_false,if_true,stp];rw [wq (by omega) (by omega)]
        ·simp [c3,c4,stp]
       ·simp [c3,stp]
     ·simp [c1,stp]),qaa]
    have f2:=qeU (acE m) m.2.1 0;cases hf2:qax (λi s=>if acE m i s=0 then none else some ((i:Int),acE m i s)) 0 m.2.1 with
    |some r =>
     rw [hf2]at f2;simp only at f2;have hr:r.2≠0:=by
      obtain ⟨i,a,_,h2,_⟩:=qaZ hf2;split at h2
      ·cases h2
      ·rename_i h;cases h2;exact h
     simp only
     rw [f2,if_neg (by rw [<- Option.some.inj f2];exact hr)]
    |none =>
     rw [hf2]at f2;simp only at f2 ⊢;rw [if_pos (by rw [<- Option.some.inj f2])];rw [qau m.2.2.1 _ (λi s=>if hmE m i s=0 then none else some ((i:Int),hmE m i s)) (λi a hi=>by
      have hlt:=qao hi;rw [q7 hi];simp only [qa];rw [qk4 a _ (hb.ht a (List.mem_of_getElem? hi)) (by omega)];simp only [qa];unfold hmE;by_cases c3:tsE m.1.length a=0
      ·simp only [c3,decide_true,Bool.not_true,cond_false,if_true,stp];rw [wq (by omega) (by omega)]
      ·simp [c3,stp]),qaa]
     rw [<- qeU (hmE m) m.2.2.1 0];cases qax (λi s=>if hmE m i s=0 then none else some ((i:Int),hmE m i s)) 0 m.2.2.1<;>rfl
  ·rw [if_neg g2];have key:(bif decide ((m.1.length:Int) > 8)then some true else bif decide ((m.2.1.length:Int) > 10)then some true else some (decide ((m.2.2.1.length:Int) > 4)))=some true:=by
    by_cases a1:(m.1.length:Int) > 8
    ·simp [a1]
    ·by_cases a2:(m.2.1.length:Int) > 10
     ·simp [a1,a2]
     ·have a3:(m.2.2.1.length:Int) > 4:=by
       rw [not_and,not_and]at g2;have:=g2 (by omega) (by omega);omega
      simp [a1,a2,a3]
   rw [key];rfl
 ·have g1':(m.1.length:Int)=0:=by omega
  rw [if_neg g1,decide_eq_true g1'];rfl
theorem qgi{a:Nat}(h:a<9223372036854775808):(BitVec.ofInt 64 (a:Int)).toNat=a:=by
 rw [BitVec.ofInt_natCast,BitVec.toNat_ofNat,Nat.mod_eq_of_lt (by omega)]
theorem qq2{a b:Nat}(ha:a<9223372036854775808)(hb:b<9223372036854775808):qyM .i64 (a:Int) (b:Int)=((a &&& b:Nat):Int):=by
 unfold qyM;have e:(BitVec.ofInt 64 (a:Int) &&& BitVec.ofInt 64 (b:Int)).toNat=a &&& b:=by rw [BitVec.toNat_and,qgi ha,qgi hb]
 show IntKind.wrap .i64 ((BitVec.ofInt 64 (a:Int) &&& BitVec.ofInt 64 (b:Int)).toNat:Int)=_;rw [e];have h:=Nat.and_le_left (n:=a) (m:=b);exact qf0 (by omega) (by omega)
theorem qAi{a b:Nat}(ha:a<2 ^ 62)(hb:b<2 ^ 62):orI .i64 (a:Int) (b:Int)=((a ||| b:Nat):Int):=by
 unfold orI;have e:(BitVec.ofInt 64 (a:Int) ||| BitVec.ofInt 64 (b:Int)).toNat=a ||| b:=by rw [BitVec.toNat_or,qgi (by omega),qgi (by omega)]
 show IntKind.wrap .i64 ((BitVec.ofInt 64 (a:Int) ||| BitVec.ofInt 64 (b:Int)).toNat:Int)=_;rw [e];have h:=Nat.or_lt_two_pow ha hb;exact qf0 (by omega) (by omega)
def qDG(a b:Nat):Nat:=a &&& (2 ^ 64-(b+1))
theorem quu{a b:Nat}(ha:a<2 ^ 62)(hb:b<2 ^ 62):qjd .i64 (a:Int) (b:Int)=((qDG a b:Nat):Int):=by
 unfold qjd;have e:(BitVec.ofInt 64 (a:Int) &&& ~~~ BitVec.ofInt 64 (b:Int)).toNat=qDG a b:=by
  rw [BitVec.toNat_and,BitVec.toNat_not,qgi (by omega),qgi (by omega)];unfold qDG;congr 1
  omega
 show IntKind.wrap .i64 ((BitVec.ofInt 64 (a:Int) &&& ~~~ BitVec.ofInt 64 (b:Int)).toNat:Int)=_;rw [e];have h:=Nat.and_le_left (n:=a) (m:=2 ^ 64-(b+1));unfold qDG;exact qf0 (by omega) (by omega)
theorem qBq{a b k:Nat}(ha:a<2 ^ 62)(hb:b<2 ^ 62):(qDG a b).testBit k=(a.testBit k&&!b.testBit k):=by
 unfold qDG;rw [Nat.testBit_and,Nat.testBit_two_pow_sub_succ (by omega)];by_cases h:k<64
 ·simp [h]
 ·have:a.testBit k=false:=Nat.testBit_lt_two_pow (Nat.lt_of_lt_of_le ha (Nat.pow_le_pow_right (by omega) (by omega)));simp [h,this]
theorem qwV{x:Int}(h0:0<=x)(h1:x<62):qDu .i64 1 x=some ((2 ^ x.toNat:Nat):Int):=by
 unfold qDu;rw [if_pos h0];have e:min x.toNat (IntKind.bits .i64)=x.toNat:=by
  show min x.toNat 64=x.toNat;omega
 rw [e,Int.one_mul];have h2:2 ^ x.toNat<2 ^ 62:=Nat.pow_lt_pow_right (by omega) (by omega);have h3:((2:Int) ^ x.toNat)=((2 ^ x.toNat:Nat):Int):=by simp
 rw [h3];generalize 2 ^ x.toNat=p at h2 ⊢;exact congrArg some (qf0 (by omega) (by omega))
theorem qCF{a:Nat}{x:Int}(h0:0<=x)(h1:x<62):qEg .i64 (a:Int) x=some ((a / 2 ^ x.toNat:Nat):Int):=by
 unfold qEg;rw [if_pos h0];have e:min x.toNat (IntKind.bits .i64)=x.toNat:=by
  show min x.toNat 64=x.toNat;omega
 rw [e];have h3:((2:Int) ^ x.toNat)=((2 ^ x.toNat:Nat):Int):=by simp
 rw [h3];generalize 2 ^ x.toNat=p;rw [Int.fdiv_eq_ediv_of_nonneg _ (by omega)]
 norm_cast
theorem qDM{a k:Nat}(ha:a<9223372036854775808):qyM .i64 ((a / 2 ^ k:Nat):Int) 1=if a.testBit k=true then 1 else 0:=by
 have h:=qq2 (a:=a / 2 ^ k) (b:=1) (Nat.lt_of_le_of_lt (Nat.div_le_self ..) ha) (by omega);rw [show ((1:Nat):Int)=1 from rfl]at h;rw [h,Nat.and_one_is_mod,Nat.testBit_eq_decide_div_mod_eq];by_cases c:a / 2 ^ k % 2=1
 ·rw [c];simp
 ·have:a / 2 ^ k % 2=0:=by omega
  rw [this];simp
def qeK(l:List Int):Nat:=l.foldl (λa x=>a ||| 2 ^ x.toNat) 0
theorem qBt(l:List Int)(h:∀x∈l,0<=x)(k:Nat):∀a:Nat,(l.foldl (λa x=>a ||| 2 ^ x.toNat) a).testBit k=(a.testBit k||decide ((k:Int)∈l)):=by
 induction l with
 |nil=>simp
 |cons x l ih =>
  intro a;rw [List.foldl_cons,ih (λy hy=>h y (by simp [hy])),Nat.testBit_or,Nat.testBit_two_pow];have:=h x (by simp);by_cases e:x=(k:Int)
  ·subst e;simp
  ·have e':x.toNat≠k:=by omega
   have e'':(k:Int)≠x:=λh=>e h.symm;simp [e',e'']
theorem qgz{l:List Int}(h:∀x∈l,0<=x)(k:Nat):(qeK l).testBit k=decide ((k:Int)∈l):=by
 unfold qeK;rw [qBt l h k];simp
theorem qDN{l:List Int}{f:Nat}(h:∀x∈l,0<=x/\x<f):qeK l<2 ^ f:=by
 refine Nat.lt_pow_two_of_testBit _ λk hk=>?_;rw [qgz λx hx=>(h x hx).1];simp only [decide_eq_false_iff_not];intro hm;have:=(h _ hm).2;omega
def qEA(l:List Int):Prop:=∀x∈l,0<=x/\x<8
theorem qnL{l:List Int}(h:qEA l):qeK l<256:=by
 have:=qDN (f:=8) h;omega
theorem of_eq{l:List Int}(h:qEA l)(hl:l.length<=1000):qh3 l=some ((qeK l:Nat):Int):=by
 unfold qh3;have key:Ok (qG (λ(s2:(Int×Int)) =>
   bif decide (s2.2<(l.length:Int))then
    (idx l s2.2).bind λx3 =>
    (qDu .i64 (1:Int) x3).bind λx4 =>
    some (.inl (orI .i64 s2.1 x4,w64 (s2.2+1)))
   else
    some (.inr s2.1)) (0,0)) (λr=>r=((qeK l:Nat):Int)):=by
  refine qcN l.length (λi (s:Int×Int)=>s=(((qeK (l.take i):Nat):Int),(i:Int))) _ (by simp [qeK]) ?_;rintro i s hi rfl;by_cases hlt:i<l.length
  ·obtain ⟨a,ha⟩:∃a,l[i]?=some a:=⟨_,List.getElem?_eq_getElem hlt⟩
   have h0:decide ((i:Int)<(l.length:Int))=true:=by simp<;>omega
   obtain ⟨b1,b2⟩:=h a (List.mem_of_getElem? ha);simp only [h0,cond_true,q7 ha,qa];rw [qwV b1 (by omega)];simp only [qa];have c1:qeK (l.take i)<256:=qnL λx hx=>h x (List.mem_of_mem_take hx);have c2:2 ^ a.toNat<2 ^ 62:=Nat.pow_lt_pow_right (by omega) (by omega);rw [qAi (by omega) c2,wq (by omega) (by omega),qa1];refine ⟨hlt,?_⟩;rw [qbQ a hlt,getD_at ha];unfold qeK;rw [List.foldl_append];simp
  ·have:i=l.length:=by omega
   subst this;have h0:decide ((l.length:Int)<(l.length:Int))=false:=by simp
   simp only [h0,cond_false];rw [qaT,List.take_length]
 rw [key.eq];rfl
def qEB(t:Ts):Prop:=qEA t.1/\qEA t.2.1/\shT t
abbrev Bt:=Int×Int×Unit
def bt(t:Ts):Bt:=(((qeK t.1:Nat):Int),((qeK t.2.1:Nat):Int),())
def hold(t:Ts)(s:Nat):Bool:=(t.1.all λx=>s.testBit x.toNat)&&(t.2.1.all λx=>!s.testBit x.toNat)
def qxq(t:Ts)(s:Nat):Nat:=qDG (s ||| qeK t.1) (qeK t.2.1)
theorem qlJ{t:Ts}(h:qEB t):qaL t=some (bt t):=by
 obtain ⟨h1,h2,h3,h4⟩:=h;unfold qaL;rw [of_eq h1 (by omega),of_eq h2 (by omega)];rfl
theorem qCQ{l:List Int}(h:qEA l)(s:Nat):s &&& qeK l=qeK l↔∀x∈l,s.testBit x.toNat=true:=by
 constructor
 ·intro e x hx;have h0:=(h x hx).1;have:(s &&& qeK l).testBit x.toNat=true:=by
   rw [e,qgz λx hx=>(h x hx).1];have:((x.toNat:Nat):Int)=x:=by omega
   rw [this];simp [hx]
  rw [Nat.testBit_and]at this;simp only [qe]at this;exact this.1
 ·intro hs;refine Nat.eq_of_testBit_eq λk=>?_;rw [Nat.testBit_and,qgz λx hx=>(h x hx).1];by_cases hk:(k:Int)∈l
  ·have:=hs _ hk;rw [Int.toNat_natCast]at this;simp [hk,this]
  ·simp [hk]
theorem qBz{l:List Int}(h:qEA l)(s:Nat):s &&& qeK l=0↔∀x∈l,s.testBit x.toNat=false:=by
 constructor
 ·intro e x hx;have h0:=(h x hx).1;have:(s &&& qeK l).testBit x.toNat=false:=by rw [e];simp
  rw [Nat.testBit_and,qgz λx hx=>(h x hx).1]at this;have e2:((x.toNat:Nat):Int)=x:=by omega
  rw [e2]at this;simpa [hx]using this
 ·intro hs;refine Nat.eq_of_testBit_eq λk=>?_;rw [Nat.testBit_and,qgz λx hx=>(h x hx).1];by_cases hk:(k:Int)∈l
  ·have:=hs _ hk;rw [Int.toNat_natCast]at this;simp [this]
  ·simp [hk]
theorem qnr{t:Ts}(h:qEB t){s:Nat}(hs:s<256):qaJ (bt t) (s:Int)=some (hold t s):=by
 obtain ⟨h1,h2,_⟩:=h;have b1:=qnL h1;have b2:=qnL h2;unfold qaJ bt hold;simp only
 rw [qq2 (by omega) (by omega),qq2 (by omega) (by omega)];have e1:(((s &&& qeK t.1:Nat):Int)=((qeK t.1:Nat):Int))↔∀x∈t.1,s.testBit x.toNat=true:=by
  rw [<- qCQ h1];omega
 have e2:(((s &&& qeK t.2.1:Nat):Int)=0)↔∀x∈t.2.1,s.testBit x.toNat=false:=by
  rw [<- qBz h2];omega
 have f1:(t.1.all λx=>s.testBit x.toNat)=decide (∀x∈t.1,s.testBit x.toNat=true):=by
  rw [Bool.eq_iff_iff];simp
 have f2:(t.2.1.all λx=>!s.testBit x.toNat)=decide (∀x∈t.2.1,s.testBit x.toNat=false):=by
  rw [Bool.eq_iff_iff];simp
 rw [f1,f2];by_cases c1:∀x∈t.1,s.testBit x.toNat=true
 ·rw [decide_eq_true (e1.2 c1),decide_eq_true c1];simp only [cond_true,Bool.true_and,qa];by_cases c2:∀x∈t.2.1,s.testBit x.toNat=false
  ·rw [decide_eq_true (e2.2 c2),decide_eq_true c2]
  ·rw [decide_eq_false λe=>c2 (e2.1 e),decide_eq_false c2]
 ·rw [decide_eq_false λe=>c1 (e1.1 e),decide_eq_false c1];rfl
theorem qDR{t:Ts}(h:qEB t){s:Nat}(hs:s<256):qbO (bt t) (s:Int)=some ((qxq t s:Nat):Int):=by
 obtain ⟨h1,h2,_⟩:=h;have b1:=qnL h1;have b2:=qnL h2;unfold qbO bt qxq;simp only
 have b3:s ||| qeK t.1<2 ^ 8:=Nat.or_lt_two_pow (by omega) (by omega)
 rw [qAi (by omega) (by omega),quu (by omega) (by omega)]
theorem qBA{t:Ts}(h:qEB t){s:Nat}(hs:s<256)(k:Nat):(qxq t s).testBit k=((s.testBit k||decide ((k:Int)∈t.1))&&!decide ((k:Int)∈t.2.1)):=by
 obtain ⟨h1,h2,_⟩:=h;have b1:=qnL h1;have b2:=qnL h2;have b3:s ||| qeK t.1<2 ^ 8:=Nat.or_lt_two_pow (by omega) (by omega)
 unfold qxq;rw [qBq (by omega) (by omega),Nat.testBit_or,qgz λx hx=>(h1 x hx).1,qgz λx hx=>(h2 x hx).1]
theorem qzc{t:Ts}{f:Nat}(h:qEB t)(hf:∀x∈t.1,x<f){s:Nat}(h8:f<=8)(hs:s<2 ^ f):qxq t s<2 ^ f:=by
 have h256:s<256:=Nat.lt_of_lt_of_le hs (Nat.pow_le_pow_right (n:=2) (by omega) h8);refine Nat.lt_pow_two_of_testBit _ λk hk=>?_;rw [qBA h h256];have e1:s.testBit k=false:=Nat.testBit_lt_two_pow (Nat.lt_of_lt_of_le hs (Nat.pow_le_pow_right (by omega) hk));have e2:(k:Int)∉t.1:=λhm=>by have:=hf _ hm;omega
 simp [e1,e2]
def okF(f:Nat)(t:Ts):Prop:=(∀x∈t.1,0<=x/\x<f)/\(∀x∈t.2.1,0<=x/\x<f)/\shT t
theorem okF.ok{f:Nat}{t:Ts}(h:okF f t)(h8:f<=8):qEB t:=⟨λx hx=>by have:=h.1 x hx;omega,λx hx=>by have:=h.2.1 x hx;omega,h.2.2⟩
structure VM (m:Mc):Prop where
 f0:0<m.1.length
 f8:m.1.length<=8
 a10:m.2.1.length<=10
 h4:m.2.2.1.length<=4
 nd:∀a∈m.2.1,okF m.1.length (qfj a)
 ds:∀a∈m.2.1,okF m.1.length (dos a)
 ht:∀t∈m.2.2.1,okF m.1.length t
theorem qzJ{f:Nat}{l:List Int}(h:qxJ f l=0):∀x∈l,0<=x/\x<(f:Int):=by
 intro x hx;obtain ⟨i,hi⟩:=List.mem_iff_getElem?.1 hx;have:=qeT.1 h i x hi;unfold ixE at this;split at this
 ·omega
 ·omega
theorem qBd{f:Nat}{t:Ts}(hs:shT t)(h:tsE f t=0):okF f t:=by
 unfold tsE at h;split at h
 ·rename_i h1;split at h
  ·rename_i h2;exact ⟨qzJ h1,qzJ h2,hs⟩
  ·rename_i h2;exact absurd h h2
 ·rename_i h1;exact absurd h h1
theorem qfI{m:Mc}(hb:MB m)(h:(qfX m).2=0):VM m/\qfX m=(0,0):=by
 unfold qfX at h ⊢;split at h
 ·rename_i h1;split at h
  ·rename_i h2;split at h
   ·rename_i h3;split at h
    ·rename_i h4;rw [if_pos h1,if_pos h2,if_pos h3,if_pos h4];refine ⟨⟨by omega,by omega,by omega,by omega,λa ha=>?_,λa ha=>?_,λt ht=>?_⟩,qnk h⟩
     ·obtain ⟨i,hi⟩:=List.mem_iff_getElem?.1 ha;have:=qeT.1 h4 i a hi;obtain ⟨_,b1,b2⟩:=hb.an a ha;unfold acE at this;split at this
      ·split at this
       ·omega
       ·split at this
        ·rename_i h5;exact qBd b1 h5
        ·rename_i h5;exact absurd this h5
      ·omega
     ·obtain ⟨i,hi⟩:=List.mem_iff_getElem?.1 ha;have:=qeT.1 h4 i a hi;obtain ⟨_,b1,b2⟩:=hb.an a ha;unfold acE at this;split at this
      ·split at this
       ·omega
       ·split at this
        ·exact qBd b2 this
        ·rename_i h5;exact absurd this h5
      ·omega
     ·obtain ⟨i,hi⟩:=List.mem_iff_getElem?.1 ht;exact qBd (hb.ht t ht) (qeT.1 h i t hi)
    ·rename_i h4;exact absurd h h4
   ·rename_i h3;exact absurd h h3
  ·cases h
 ·cases h
abbrev Bm:=List Bt×List Bt×List Bt×Int×Unit
def bm(m:Mc):Bm:=(m.2.1.map λa=>bt (qfj a),m.2.1.map λa=>bt (dos a),m.2.2.1.map bt,((2 ^ m.1.length:Nat):Int),())
def qx6(m:Mc):Bm×Int:=if (qfX m).2=0 then (bm m,0)else (([],[],[],0,()),(qfX m).2)
theorem qD4{m:Mc}(hb:MB m):qg9 m=some (qx6 m):=by
 unfold qg9 qx6;rw [qnP hb];simp only [qa];by_cases h:(qfX m).2=0
 ·obtain ⟨hv,_⟩:=qfI hb h;have h8:=hv.f8;have h10:=hv.a10;have h4:=hv.h4;simp only [h,decide_true,Bool.not_true,cond_false,if_true];rw [qwV (by omega) (by omega)];simp only [qa,Int.toNat_natCast];have k1:Ok (qG (λ(s5:(Int×(List Bt)×(List Bt)×(List Bt)×Int)) =>
    bif decide (s5.1<(m.2.1.length:Int))then
     (idx m.2.1 s5.1).bind λx6 =>
     (qaL (x6.2.1,x6.2.2.1,())).bind λx7 =>
     (app s5.2.1 ([x7])).bind λx8 =>
     (qaL (x6.2.2.2.1,x6.2.2.2.2.1,())).bind λx9 =>
     (app s5.2.2.1 ([x9])).bind λx10 =>
     some (.inl (w64 (s5.1+1),x8,x10,s5.2.2.2.1,s5.2.2.2.2))
    else
     some (.inr (s5.2.1,s5.2.2.1,s5.2.2.2.1,s5.2.2.2.2))) (0,[],[],[],((2 ^ m.1.length:Nat):Int))) (λr=>r=(m.2.1.map λa=>bt (qfj a),m.2.1.map λa=>bt (dos a),[],((2 ^ m.1.length:Nat):Int))):=by
   refine qcN m.2.1.length (λi (s:Int×List Bt×List Bt×List Bt×Int)=>s=((i:Int),(m.2.1.take i).map (λa=>bt (qfj a)),(m.2.1.take i).map (λa=>bt (dos a)),[],((2 ^ m.1.length:Nat):Int))) _ rfl ?_;rintro i s hi rfl;by_cases hlt:i<m.2.1.length
   ·obtain ⟨a,ha⟩:∃a,m.2.1[i]?=some a:=⟨_,List.getElem?_eq_getElem hlt⟩
    have h0:decide ((i:Int)<(m.2.1.length:Int))=true:=by simp<;>omega
    have hm:=List.mem_of_getElem? ha;simp only [h0,cond_true,q7 ha,qa];rw [qlJ ((hv.nd a hm).ok h8)];simp only [qa];rw [qdz (by simp;omega)];simp only [qa];rw [qlJ ((hv.ds a hm).ok h8)];simp only [qa];rw [qdz (by simp;omega)];simp only [qa];rw [wq (by omega) (by omega),qa1];exact ⟨hlt,by rw [qbQ a hlt,getD_at ha];simp⟩
   ·have:i=m.2.1.length:=by omega
    subst this;have h0:decide ((m.2.1.length:Int)<(m.2.1.length:Int))=false:=by simp
    simp only [h0,cond_false];rw [qaT,List.take_length]
  rw [k1.eq];simp only [qa];have k2:Ok (qG (λ(s14:(Int×(List Bt)×(List Bt)×(List Bt)×Int)) =>
    bif decide (s14.1<(m.2.2.1.length:Int))then
     (idx m.2.2.1 s14.1).bind λx15 =>
     (qaL x15).bind λx16 =>
     (app s14.2.2.2.1 ([x16])).bind λx17 =>
     some (.inl (w64 (s14.1+1),s14.2.1,s14.2.2.1,x17,s14.2.2.2.2))
    else
     some (.inr (s14.2.1,s14.2.2.1,s14.2.2.2.1,s14.2.2.2.2))) (0,m.2.1.map (λa=>bt (qfj a)),m.2.1.map (λa=>bt (dos a)),[],((2 ^ m.1.length:Nat):Int))) (λr=>r=(m.2.1.map (λa=>bt (qfj a)),m.2.1.map (λa=>bt (dos a)),m.2.2.1.map bt,((2 ^ m.1.length:Nat):Int))):=by
   refine qcN m.2.2.1.length (λi (s:Int×List Bt×List Bt×List Bt×Int)=>s=((i:Int),m.2.1.map (λa=>bt (qfj a)),m.2.1.map (λa=>bt (dos a)),(m.2.2.1.take i).map bt,((2 ^ m.1.length:Nat):Int))) _ rfl ?_;rintro i s hi rfl;by_cases hlt:i<m.2.2.1.length
   ·obtain ⟨a,ha⟩:∃a,m.2.2.1[i]?=some a:=⟨_,List.getElem?_eq_getElem hlt⟩
    have h0:decide ((i:Int)<(m.2.2.1.length:Int))=true:=by simp<;>omega
    have hm:=List.mem_of_getElem? ha;simp only [h0,cond_true,q7 ha,qa];rw [qlJ ((hv.ht a hm).ok h8)];simp only [qa];rw [qdz (by simp;omega)];simp only [qa];rw [wq (by omega) (by omega),qa1];exact ⟨hlt,by rw [qbQ a hlt,getD_at ha];simp⟩
   ·have:i=m.2.2.1.length:=by omega
    subst this;have h0:decide ((m.2.2.1.length:Int)<(m.2.2.1.length:Int))=false:=by simp
    simp only [h0,cond_false];rw [qaT,List.take_length]
  rw [k2.eq];rfl
 ·simp [h]
def stE(m:Mc)(s:Int):Int:=if (qfX m).2=0 then (if 0<=s/\s<=((2 ^ m.1.length:Nat):Int)-1 then 0 else 2)else (qfX m).2
theorem qlU{m:Mc}(hv:VM m):0<2 ^ m.1.length/\2 ^ m.1.length<=256:=⟨Nat.pow_pos (by omega),Nat.pow_le_pow_right (n:=2) (by omega) hv.f8⟩
theorem qmy{m:Mc}(hb:MB m)(s:Int):qbN m s=some ((qx6 m).1,s,stE m s):=by
 unfold qbN;rw [qD4 hb];simp only [qa,wit,unl];rw [qul _ (by simp)];simp only [qa];unfold qx6 stE;by_cases h:(qfX m).2=0
 ·obtain ⟨hv,_⟩:=qfI hb h;obtain ⟨p1,p2⟩:=qlU hv;simp only [h,if_true,bm,qhm];generalize 2 ^ m.1.length=p at p1 p2 ⊢;rw [wq (by omega) (by omega)];by_cases c:0<=s/\s<=(p:Int)-1<;>simp [c,qhm]
 ·simp [h,qhm]
theorem qDx{m:Mc}(hb:MB m){s:Int}(h:stE m s=0):VM m/\qfX m=(0,0)/\qx6 m=(bm m,0)/\∃n:Nat,s=(n:Int)/\n<2 ^ m.1.length/\n<256:=by
 unfold stE at h;split at h
 ·rename_i h1;obtain ⟨hv,h2⟩:=qfI hb h1;obtain ⟨p1,p2⟩:=qlU hv;split at h
  ·rename_i h3;refine ⟨hv,h2,by unfold qx6;rw [if_pos h1],s.toNat,by omega,?_,?_⟩
   ·generalize 2 ^ m.1.length=p at p1 p2 h3 ⊢;omega
   ·generalize 2 ^ m.1.length=p at p1 p2 h3 ⊢;omega
  ·cases h
 ·rename_i h1;exact absurd h h1
def qyH(m:Mc)(i:Nat):Ac:=m.2.1.getD i ([],[],[],[],[],())
theorem qib{m:Mc}{i:Nat}{a:Ac}(h:m.2.1[i]?=some a):qyH m i=a:=getD_at h
def qs1(m:Mc)(s:Nat):Bool:=m.2.2.1.any λt=>hold t s
theorem qs6{m:Mc}(hv:VM m){n:Nat}(hn:n<256):qae (bm m) (n:Int)=some (qs1 m n):=by
 unfold qae;have h4:=hv.h4;have h8:=hv.f8;have key:=qzk (m.2.2.1.map bt) (λx=>qaJ x (n:Int)) (λx=>decide (∃t∈m.2.2.1,bt t=x/\hold t n=true)) (λx hx=>by
  obtain ⟨t,ht,rfl⟩:=List.mem_map.1 hx;rw [qnr ((hv.ht t ht).ok h8) hn];congr 1
  rw [Bool.eq_iff_iff,decide_eq_true_iff];constructor
  ·intro h;exact ⟨t,ht,rfl,h⟩
  ·rintro ⟨t2,ht2,e,h⟩;have a1:=qnr ((hv.ht t ht).ok h8) hn;have a2:=qnr ((hv.ht t2 ht2).ok h8) hn;rw [e,a1]at a2;rw [Option.some.inj a2];exact h) (by simp;omega)
 refine key.trans ?_;congr 1
 unfold qs1;rw [Bool.eq_iff_iff,List.any_eq_true,List.any_eq_true];constructor
 ·rintro ⟨x,hx,h⟩;obtain ⟨t,ht,_,h⟩:=of_decide_eq_true h;exact ⟨t,ht,h⟩
 ·rintro ⟨t,ht,h⟩;exact ⟨bt t,List.mem_map.2 ⟨t,ht,rfl⟩,decide_eq_true ⟨t,ht,rfl,h⟩⟩
def opens(m:Mc)(l:List Int)(n:Nat):Prop:=∃a∈m.2.1,hold (qfj a) n=true/\(((qxq (dos a) n:Nat):Int)∉l)
instance (m:Mc) (l:List Int) (n:Nat):Decidable (opens m l n):=by unfold opens;infer_instance
end Go.Proofs.YtkcaaaiihhhnmaaGreatDoor
end
