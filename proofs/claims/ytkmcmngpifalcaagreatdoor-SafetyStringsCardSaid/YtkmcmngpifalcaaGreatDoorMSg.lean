/-
  ONE LAW OF A CHAPTER: its program side is run by an interpreter that is proved sound; what it computes is shown to be what the law says. No conditions. Part 7 of 8.
-/
import Derived.Test.YtkmcmngpifalcaaGreatDoorMSf
import Derived.Test.YtkmcmngpifalcaaGreatDoorRows
import Derived.WalkKit
import Derived.Shelf.Strings.Split
import Derived.Lib.CutLaws
import Derived.Test.YtkmcmngpifalcaaGreatDoorProg
import Derived.KernelRfl
import Derived.Lib.AppendIntMem
import Derived.Lib.ItoaLen
import Derived.Shelf.Small.Wraps
import Derived.ProofKit
import Derived.LaidMore
import Derived.OpenShut
import Derived.Stop.Joined
import Derived.Stop.LaidErr
import Derived.Lib.LaidTab
import Derived.Shelf.Vars
import Derived.ChangeArms
import Derived.HandedShaped
import Derived.Lib.AtoiAll
import Derived.Lib.ItoaNum
import Derived.Lib.Strings
import Derived.Lib.Join
import Derived.Lib.IndexMore
import Derived.Lib.Split
import Derived.Lib.SplitLaws
set_option linter.unusedSimpArgs false
set_option linter.unusedVariables false
set_option linter.unnecessarySimpa false
section
namespace Go.Tx
open Go Go.Ab Go.RowKit Go.ChangeShapes Go.WideShapes Go.Deep
section
variable {H:Type} {enc:TypeId × Value->H} {P:Program}
theorem qsi{f:Func}{s:ChangeSpec}{apart fresh handsOn again:Bool}{W W':World}{args:Array Value}{v:Value}{ds gs:List (DataW H)}{before pa pv:List MemPlace}
  (hW:DataW.Whole enc P f.params.toList s.vars apart W args.toList ds gs before)
  (hres:∀(b:Nat) (sp:Nat->Bool) (hd:Bool),DataW.TrodAll enc P W' b sp hd f.resultTypes.toList (v.resultList f.resultTypes.size) (s.fn H (ds++gs)).results [])
  (hargs:∀sp:Nat->Bool,(∀p∈before,sp p.block=true)->DataW.TrodAll enc P W' 0 sp true f.params.toList args.toList (s.fn H (ds++gs)).args pa)
  (hvars:∀sp:Nat->Bool,(∀p∈before,sp p.block=true)->DataW.TrodVars enc P W' sp s.vars (s.fn H (ds++gs)).vars pv)
  (hps:before=pa++pv) (hb:Below W.heap.size W W')
  (hok:∀(j:Nat) (t:TypeId) (r:Value),f.resultTypes[j]?=some t->(v.resultList f.resultTypes.size)[j]?=some r->Value.okWide P W' .any 0 t r) :
  s.post enc P f apart fresh handsOn again W args v W':=by
 have hlt:∀p∈before,p.block<W.heap.size:=λp hp=>hW.lt p hp;have hold:∀p∈before,(λb=>decide (b<W.heap.size)) p.block=true:=λp hp=>by simpa using hlt p hp
 refine ⟨ds,gs,before,[],pa,pv,hW,hres _ _ _,hargs _ hold,hvars _ hold,World.keptBut_mono (λp hp=>⟨hp,?_⟩) (hb.frame (·∈before)),λ_=>?_⟩
 ·rw [hps,qj]at hp;exact Or.inr hp
 ·obtain ⟨_,_,_,_,_,hz,hn⟩:=hW;refine ⟨hok,_,_,([]++pa)++pv,⟨[]++pa,pv,trodAll_append (hargs _ (λ_ _=>rfl)) (hres _ _ _),hvars _ (λ_ _=>rfl),rfl,?_,?_⟩,?_⟩
  ·intro b off hp;have hin:MemPlace.cell b off∈before:=by rw [hps];simpa using hp
   rw [hb.frozen (hlt _ hin)];exact hz b off hin
  ·intro ha;have:=hn ha;rw [hps]at this;simpa using this
  ·intro p hp _;rw [hps];simpa using hp
theorem qpF:∀{ts:List TypeId} {vs:List Value} {ds:List (DataW H)} {ps:List MemPlace} {w:World} {b:Nat} {sp:Nat->Bool} {hd:Bool},DataW.TrodAll enc P w b sp hd ts vs ds ps->ds.length=ts.length
 |[],[],[],_,_,_,_,_,_=>rfl
 |[],[],d::ds,_,_,_,_,_,h=>h.elim
 |[],v::vs,_,_,_,_,_,_,h=>by cases h
 |t::ts,[],_,_,_,_,_,_,h=>by cases h
 |t::ts,v::vs,[],_,_,_,_,_,h=>by cases h
 |t::ts,v::vs,d::ds,ps,w,b,sp,hd,⟨p,q,h1,h2,e⟩=>by simp [qpF h2]
end
theorem qFo{H:Type}:Sm (H:=H) maxLen (λ_=>True) where
 slice:=λes sp _ h=>⟨h,λ_ _=>trivial⟩
 agg:=λ_ _ _ _=>trivial
 str:=λ_ _ h=>h
theorem qtO{P:Program}{H0:Hints}{lib:FuncId->Option (List V->Option V)}(hm:P.follows .mixedOrders=true)(qcw:qke P H0)
  (qxW:∀g h args r,lib g=some h->h args=some r->qan P g args [] r []) (hl:laidOutB P=true) {k:FuncId} {fn:Func} (hfn:P.funcs[k]?=some fn) (hbody:fn.body.isSome=true)
  {ts:List TypeId} {τs:List Ty} (hps:fn.params.toList=ts) (hts:ts.mapM (qDF P)=some τs) (hok:ts.all (okT P 10)=true) (hrd:ts.all (λt=>P.readableRec t&&decide (t<P.types.size))=true)
  {tb:TypeId} (hres:fn.resultTypes=#[tb]) (htb:P.underlying tb=some .bool) {F:denP (τs.map .ty)->Option Bool}
  (he:qav P H0 lib ⟨k,τs.map .ty,[(.bool,0)],F⟩) (hF:∀x,qEL maxLen τs x->F x=some true)
  {s:ChangeSpec} (hv:s.vars=[]) (hs:∀(H:Type) (ds:List (DataW H)),ds.length=ts.length->s.fn H ds={results:=[.lit (.bool true)],args:=ds})
  (H:Type) (enc:TypeId×Value->H) (W:World) (base:Nat) (args:Array Value) (ds gs:List (DataW H)) (before:List MemPlace)
  (hval:∀(j:Nat) t v,fn.params[j]?=some t->args[j]?=some v->Value.okWide P W .any base t v)
  (hW:DataW.Whole enc P fn.params.toList s.vars false W args.toList ds gs before) (hgl:qhi W (cx0 W)) :
  Calls P k args W λe W'=>∃v,e=.returned v/\s.post enc P fn false true false false W args v W':=by
 have hW':=hW;have hlt:∀p∈before,p.block<W.heap.size:=λp hp=>hW.lt p hp;obtain ⟨p,q,hA,hV,rfl,hfz,hnd⟩:=hW;rw [hv]at hV;obtain ⟨rfl,rfl⟩:=trodVars_none hV;rw [hps]at hA;have hlen:=qpF hA;have hval':∀(j:Nat) t v,ts[j]?=some t->args.toList[j]?=some v->Value.okWide P W .any base t v:=λj t v h1 h2 =>
  hval j t v (by rw [<- hps]at h1;simpa using h1) (by simpa using h2)
 refine (qz9 hm qcw qxW hl qFo hfn hbody hts hok he hF hval' hA (λ_ _=>trivial) hgl).mono λe W' ⟨h1,hb⟩=>?_;subst h1;have hfs:s.fn H (ds++[])={results:=[.lit (.bool true)],args:=ds}:=by rw [List.append_nil];exact hs H ds hlen
 refine ⟨_,rfl,qsi (pa:=p) (pv:=[]) hW' ?_ ?_ ?_ rfl hb ?_⟩
 ·intro b sp hd;rw [hfs,hres];exact trodAll_mk1 (shut_bool htb true)
 ·intro sp hsp;rw [hfs,hps];exact qlm hl hb hrd hA (λx hx=>hlt x (by simpa using hx)) sp (λx hx=>hsp x (by simpa using hx))
 ·intro sp _;rw [hfs,hv];rfl
 ·exact ok_one hres rfl (okWide_bool_mk htb true)
end Go.Tx
namespace Go.Proofs.YtkmcmngpifalcaaGreatDoor
open Go Go.Ab Go.Tx
theorem own:ownKnob Tryz.prog.godebug=none:=by kernel_rfl
theorem qCa:laidOutB Tryz.prog=true:=by kernel_rfl
end Go.Proofs.YtkmcmngpifalcaaGreatDoor
end
section
namespace Go.Ab
open Go Go.RowKit Go.Shelf Go.Proofs
section
variable {P:Program}
theorem qpB:∀xs:List ByteArray,ptrsL (xs.map λx=>V.val (.string x))=[]
 |[]=>rfl
 |x::l=>by simp [ptrsL,V.qq,qpB l]
theorem quE{w:World}{X:Cx}:∀xs:List ByteArray,RepE w X 1 (xs.map λx=>V.val (.string x)) (xs.map Value.string) []
 |[]=>by simp [RepE]
 |x::l=>by
  simp only [qh,RepE];exact ⟨.string x,l.map Value.string,[],[],by simp [Value.cells],by simp [Value.cells],rfl,by simp [Rep],quE l⟩
theorem qzs{g:FuncId}{args:List V}(xs:List ByteArray)(h:∀(w:World) (X:Cx) (vals:List Value),RepL w X args vals []->qhi w X->Dom w X ->
  (callFunc g vals.toArray).run P w=.ok (.enter g vals.toArray) w/\Calls P g vals.toArray w λe w'=>e=.returned (.slice (some ⟨w.heap.size,0,none⟩) xs.length xs.length)/\∃t,w'=w.alloc (.cells (xs.map Value.string).toArray t)) :
  qan P g args [] (.sl .shared true (xs.map λx=>.val (.string x))) []:=by
 intro w X vals O h1 h2 h3 _ _;obtain ⟨h4,h5⟩:=h w X vals h1 h2 h3.dom;refine .inl ⟨h4,h5.mono ?_⟩;rintro e w' ⟨rfl,t,rfl⟩;have hnew:(w.alloc (.cells (xs.map Value.string).toArray t)).heap[w.heap.size]?=some (.cells (xs.map Value.string).toArray t):=by
  show (w.heap.push _)[w.heap.size]?=_;exact Array.getElem?_push_size
 have hold:∀b,b<w.heap.size->(w.alloc (.cells (xs.map Value.string).toArray t)).heap[b]?=w.heap[b]?:=λb hb=>by
  show (w.heap.push _)[b]?=_;rw [Array.getElem?_push,if_neg (by omega)]
 have hsz:(w.alloc (.cells (xs.map Value.string).toArray t)).heap.size=w.heap.size+1:=Array.size_push _;refine ⟨_,rfl,{X with ω:=λb=>if b=w.heap.size then some (xs.length,true)else X.ω b},O,[],?_,?_,Lin.nil,λ_ _ hb=>absurd hb (by simp),λq hq=>absurd hq (by simp [V.qq,qpB]),rfl,λ_=>rfl,?_⟩
 ·simp only [Rep];refine ⟨qpB xs,.inr ⟨w.heap.size,0,xs.length,1,xs.map Value.string,[],by simp,by simp,λ_=>by simp,by simp,by omega,?_,?_,?_,quE xs,λh=>(by cases h),λ_=>⟨trivial,rfl⟩⟩⟩
  ·intro x hx;obtain ⟨y,_,rfl⟩:=List.mem_map.1 hx;rfl
  ·intro i v hi;simp only [World.cell?,hnew,Nat.zero_add];simpa using hi
  ·exact ⟨xs.length,true,by simp,by simp,rfl⟩
 ·exact {
      box:=λr c hc=>by simp [qa6]at hc,boxD:=h3.boxD,inj:=λr r' b h1=>by simp [qa6]at h1,lin:=h3.lin,dis:=h3.dis,ptrB:=λr c hc=>by simp [qa6]at hc,up:=λr c hc=>by simp [qa6]at hc,
      dom:=λb e fz hω=>by
       simp only at hω;rw [hsz];split at hω
       ·omega
       ·have:=h3.dom b e fz hω;omega}
 ·have hne:∀b e fz,X.ω b=some (e,fz)->b≠w.heap.size:=λb e fz hω=>by have:=h3.dom b e fz hω;omega
  refine ⟨by omega,λb hb _=>⟨hold b hb,by simp only;rw [if_neg (by omega)]⟩,λb e fz hω=>⟨e,fz,by simp only;rw [if_neg (hne b e fz hω)];exact hω,Nat.le_refl _,λh=>h,λi v _ hc=>?_⟩,λ_ _=>rfl,?_,rfl,rfl,rfl⟩
  ·rw [cell_of_heap (hold b (h3.dom b e fz hω))];exact hc
  ·rintro b (hb|⟨q,hb⟩)
   ·exact absurd hb (by simp)
   ·exact .inr (.inr ⟨q,hb⟩)
theorem qCT{ρ:Ren}(L:Lays.n146 P ρ)(hi9:(P.info? (ρ.t 9)).map (λi=>(i.zero,i.size,i.bytes))=some (some (.string ByteArray.empty),1,16))(hen:Enters P (ρ.f 146))(hm:∀(w:World) (X:Cx),qhi w X->∃m,w.cell? ⟨ρ.g 1,0,none⟩=some (.int .i64 m))(s p:ByteArray)(hs:s.size<4294967281)(h1:1<=p.size) :
  qan P (ρ.f 146) [.val (.string s),.val (.string p)] [] (.sl .shared true ((Lib.splitB p 0 (Lib.countB s p) s).map λx=>.val (.string x))) []:=by
 refine qzs _ λw X vals hr hg _=>?_;obtain rfl:=qk5 hr;obtain ⟨m,hm⟩:=hm w X hg;have hlen:=Lib.splitB_all p h1 0 _ s rfl;refine ⟨hen _ _,(Any.strings_Split L hi9 s p m w hs hm h1).mono ?_⟩;rintro e w' ⟨rfl,rfl⟩;rw [hlen];exact ⟨rfl,_,rfl⟩
end
end Go.Ab
end
section
namespace Go.Proofs.YtkmcmngpifalcaaGreatDoor
open Go Go.Ab Go.Tx
section
set_option maxRecDepth 100000
noncomputable section
@[reducible] def I:Ty:=.int .i64
@[reducible] def w64 (n:Int):Int:=IntKind.wrap .i64 n
def qr3:List (List Tmp×FuncId×Kind×Join)->List Tmp->FuncId->Kind->Option Join
 |[],_,_,_=>none
 |(c,f,k,j)::l,c',f',k'=>if f=f' then (if k=k' then (if c=c' then some j else qr3 l c' f' k')else qr3 l c' f' k')else qr3 l c' f' k'
def strconv_Itoa(n:Int):Option (List UInt8):=if -9223372036854775808<=n/\n<=9223372036854775807 then some (Lib.itoa n)else none
def qDM(s:List UInt8):Int×Bool:=match Lib.atoiAll s with
 |.ok v=>(v,true)
 |.range=>(Lib.atoiSat s,false)
 |_=>(0,false)
def strconv_Atoi(s:List UInt8):Option (Int×Bool):=if s.length<=281474976710656 then some (qDM s)else none
def strings_Join(l:List (List UInt8))(sep:List UInt8):Option (List UInt8):=if l.length<=140737488355328/\(Lib.join l sep).length<=140737488355328 then some (Lib.join l sep)else none
def strings_Index(s p:List UInt8):Option Int:=if s.length<4294967281 then some (Lib.index s p)else none
def qFp(s p:List UInt8):List (List UInt8):=(Lib.splitB ⟨p.toArray⟩ 0 (Lib.countB ⟨s.toArray⟩ ⟨p.toArray⟩) ⟨s.toArray⟩).map λx=>x.data.toList
def strings_Split(s p:List UInt8):Option (List (List UInt8)):=if s.length<4294967281/\1<=p.length then some (qFp s p)else none
def strings_Cut(s p:List UInt8):Option (List UInt8×List UInt8×Bool):=if s.length<4294967281 then some (Lib.cut s p)else none
def strings_CutPrefix(s p:List UInt8):Option (List UInt8×Bool):=some (Lib.trimPrefix s p,Lib.hasPrefix s p)
def signed(c:UInt8)(zs:List Int):List UInt8:=(zs.map λz=>c::Lib.itoa z).flatten
def qqJ(zs:List Int):Bool:=decide (zs.length<=1099511627)&&zs.all λz=>decide (-9223372036854775808<=z)&&decide (z<=9223372036854775807)
def q9(t:List Int×List Int×Unit):Option (List UInt8):=if qqJ t.1&&qqJ t.2.1 then some (signed 43 t.1++signed 45 t.2.1)else none
def qEY:List V->Option V
 |[.val (.string s),.val (.string p)]=>if s.size<4294967281 then some (.tuple [.val (.string ⟨(Lib.cut s.data.toList p.data.toList).1.toArray⟩),.val (.string ⟨(Lib.cut s.data.toList p.data.toList).2.1.toArray⟩),.val (.bool (Lib.cut s.data.toList p.data.toList).2.2)])else none
 |_=>none
def qBX:List V->Option V
 |[.val (.string s),.val (.string p)]=>some (.tuple [.val (.string ⟨(Lib.trimPrefix s.data.toList p.data.toList).toArray⟩),.val (.bool (Lib.hasPrefix s.data.toList p.data.toList))])
 |_=>none
def qEZ:List V->Option V
 |[.agg [.sl _ _ l,.sl _ _ m]]=>(qdA l).bind λx=>(qdA m).bind λy=>(q9 (x,y,())).map λs=>.val (.string ⟨s.toArray⟩)
 |_=>none
def qtn:List V->Option V
 |[.val (.string s),.val (.string p)]=>if s.size<4294967281/\1<=p.size then some (.sl .shared true ((Lib.splitB p 0 (Lib.countB s p) s).map λx=>.val (.string x)))else none
 |_=>none
def qzO:List V->Option V
 |[.val (.int .i64 n)]=>(strconv_Itoa n).map λs=>.val (.string ⟨s.toArray⟩)
 |_=>none
def qzM:List V->Option V
 |[.val (.string s)]=>if s.size<=281474976710656 then some (qzk 247 s.data.toList)else none
 |_=>none
def qzP:List V->Option V
 |[.sl _ _ l,.val (.string sep)]=>(qgp l).bind λxs=>(strings_Join xs sep.data.toList).map λs=>.val (.string ⟨s.toArray⟩)
 |_=>none
def qtm:List V->Option V
 |[.val (.string s),.val (.string p)]=>if s.size<4294967281 then some (.val (.int .i64 (Lib.index s.data.toList p.data.toList)))else none
 |_=>none
def qDq:List V->Option V
 |[]=>some (.val (.bool true))
 |_=>none
def qF7:List (FuncId×(List V->Option V)):=[(4,qDq),(36,qzO),(96,qzM),(33,qzP),(85,qtm),(37,qtn),(84,qEY),(134,qBX),(32,qEZ)]
def qCc:List (FuncId×(List V->Option V))->FuncId->Option (List V->Option V)
 |[],_=>none
 |(k,h)::l,g=>if g=k then some h else qCc l g
def Lb:FuncId->Option (List V->Option V):=qCc qF7
def qcd(js:List (List Tmp×FuncId×Kind×Join))(inl:List (List Tmp×FuncId×Tmp)):TH where
 lib:=λg=>(Lb g).isSome
 join:=qr3 js
 inl:=λc f d=>inl.any λ(c',f',d')=>decide (f=f')&&decide (d=d')&&decide (c=c')
theorem hJ{js:List (List Tmp×FuncId×Kind×Join)}{inl:List (List Tmp×FuncId×Tmp)}:∀g,(qcd js inl).lib g=false->Lb g=none:=λg h=>by
 simpa [qcd]using h
theorem qdg{e:Entry}{h:List V->Option V}(hl:Lb e.g=some h)(hx:∀x y,e.F x=some y->∀vs,RVL (qcI e.ps x) vs->∃v,h vs=some v/\RV (qgT e.rs y) v):qav Tryz.prog Hn.hints Lb e:=λx y hy vs hv=>by
 obtain ⟨v,h1,h2⟩:=hx x y hy vs hv;refine ⟨v,⟨1,λm hm=>?_⟩,h2⟩;obtain ⟨m',rfl⟩:∃m',m=m'+1:=⟨m-1,by omega⟩
 simp [qvH,hl,h1]
def qcD:Entry:=⟨36,[.ty I],[(.str,0)],λx=>strconv_Itoa x⟩
theorem qjk:qav Tryz.prog Hn.hints Lb qcD:=qdg (h:=qzO) rfl λx y hy vs hv=>by
 simp only [qcD]at hy hv x y;simp only [qcI,qyn,ofTy,RVL,RV,RTy]at hv;obtain ⟨v,l,rfl,rfl,rfl⟩:=hv;exact ⟨.val (.string ⟨y.toArray⟩),by simp [qzO,hy],by simp [qgT,qcD,ofL,qaR,ofTy,RV,RTy]⟩
def qdU:Entry:=⟨96,[.ty .str],[(I,0),(.err,0)],λx=>strconv_Atoi x⟩
theorem qpY:qav Tryz.prog Hn.hints Lb qdU:=qdg (h:=qzM) rfl λx y hy vs hv=>by
 simp only [qdU]at hy hv x y;simp only [qcI,qyn,ofTy,RVL,RV,RTy]at hv;obtain ⟨v,l,rfl,rfl,rfl⟩:=hv;unfold strconv_Atoi at hy;split at hy
 ·rename_i hl;cases hy;refine ⟨qzk 247 x,?_,?_⟩
  ·have:(⟨x.toArray⟩:ByteArray).size<=281474976710656:=by simpa [ByteArray.size]using hl
   simp only [qzM];rw [if_pos this]
  ·unfold qzk qDM;cases Lib.atoiAll x<;>simp [qgT,qdU,ofL,qaR,ofTy,RV,RTy,RVL]
   all_goals exact ⟨_,_,⟨rfl,rfl⟩,rfl,_,rfl,_,rfl⟩
 ·cases hy
theorem qBa{τ:Nat}:∀{l:List (List UInt8)} {l':List V},All2 (RTy .str τ) l l'->qgp l'=some l:=by
 intro l l' h;induction h with
 |nil=>rfl
 |cons h1 _ ih=>simp only [RTy]at h1;subst h1;simp [qgp,ih]
def qcE:Entry:=⟨33,[.ty (.sl .str),.ty .str],[(.str,0)],λx=>strings_Join x.1 x.2⟩
theorem qjl:qav Tryz.prog Hn.hints Lb qcE:=qdg (h:=qzP) rfl λx y hy vs hv=>by
 simp only [qcE]at hy hv x y;simp only [qcI,qyn,ofTy,RVL,RV,RTy]at hv;obtain ⟨v,l,rfl,⟨f,c,l',rfl,_,hall⟩,v2,l2,rfl,rfl,rfl⟩:=hv;have hs:qgp l'=some x.1:=qBa (τ:=0) (hall.mono λa b h=>by simpa only [RTy]using h);exact ⟨.val (.string ⟨y.toArray⟩),by simp [qzP,hs,hy],by simp [qgT,qcE,ofL,qaR,ofTy,RV,RTy]⟩
def qb9:Entry:=⟨85,[.ty .str,.ty .str],[(I,0)],λx=>strings_Index x.1 x.2⟩
theorem qhX:qav Tryz.prog Hn.hints Lb qb9:=qdg (h:=qtm) rfl λx y hy vs hv=>by
 simp only [qb9]at hy hv x y;simp only [qcI,qyn,ofTy,RVL,RV,RTy]at hv;obtain ⟨v,l,rfl,rfl,v2,l2,rfl,rfl,rfl⟩:=hv;unfold strings_Index at hy;split at hy
 ·rename_i hl;cases hy;refine ⟨.val (.int .i64 (Lib.index x.1 x.2)),?_,by simp [qgT,qb9,ofL,qaR,ofTy,RV,RTy]⟩;have:(⟨x.1.toArray⟩:ByteArray).size<4294967281:=by simpa [ByteArray.size]using hl
  simp only [qtm];rw [if_pos this]
 ·cases hy
theorem quD{τ:Nat}:∀xs:List ByteArray,All2 (RTy .str τ) (xs.map λx=>x.data.toList) (xs.map λx=>V.val (.string x))
 |[]=>.nil
 |x::l=>.cons (by simp [RTy]) (quD l)
def qbn:Entry:=⟨37,[.ty .str,.ty .str],[(.sl .str,1000)],λx=>strings_Split x.1 x.2⟩
theorem qft:qav Tryz.prog Hn.hints Lb qbn:=qdg (h:=qtn) rfl λx y hy vs hv=>by
 simp only [qbn]at hy hv x y;simp only [qcI,qyn,ofTy,RVL,RV,RTy]at hv;obtain ⟨v,l,rfl,rfl,v2,l2,rfl,rfl,rfl⟩:=hv;unfold strings_Split at hy;split at hy
 ·rename_i hl;cases hy;refine ⟨.sl .shared true ((Lib.splitB ⟨x.2.toArray⟩ 0 (Lib.countB ⟨x.1.toArray⟩ ⟨x.2.toArray⟩) ⟨x.1.toArray⟩).map λx=>.val (.string x)),?_,?_⟩
  ·have:(⟨x.1.toArray⟩:ByteArray).size<4294967281/\1<=(⟨x.2.toArray⟩:ByteArray).size:=by simpa [ByteArray.size]using hl
   simp only [qtn];rw [if_pos this]
  ·simp only [qgT,qbn,ofL,qaR,ofTy,RV,RTy];exact ⟨_,_,_,rfl,qhb rfl (by simp) (λ_=>rfl),(quD (τ:=nx 1000) _).mono λa b h=>by simpa only [RTy]using h⟩
 ·cases hy
def qeN:Entry:=⟨84,[.ty .str,.ty .str],[(.str,0),(.str,0),(.bool,0)],λx=>strings_Cut x.1 x.2⟩
theorem qsb:qav Tryz.prog Hn.hints Lb qeN:=qdg (h:=qEY) rfl λx y hy vs hv=>by
 simp only [qeN]at hy hv x y;simp only [qcI,qyn,ofTy,RVL,RV,RTy]at hv;obtain ⟨v,l,rfl,rfl,v2,l2,rfl,rfl,rfl⟩:=hv;unfold strings_Cut at hy;split at hy
 ·rename_i hl;cases hy;refine ⟨.tuple [.val (.string ⟨(Lib.cut x.1 x.2).1.toArray⟩),.val (.string ⟨(Lib.cut x.1 x.2).2.1.toArray⟩),.val (.bool (Lib.cut x.1 x.2).2.2)],?_,by simp [qgT,qeN,ofL,qaR,ofTy,RV,RTy,RVL]⟩;have:(⟨x.1.toArray⟩:ByteArray).size<4294967281:=by simpa [ByteArray.size]using hl
  simp only [qEY];rw [if_pos this]
 ·cases hy
def qbG:Entry:=⟨134,[.ty .str,.ty .str],[(.str,0),(.bool,0)],λx=>strings_CutPrefix x.1 x.2⟩
theorem qjR:qav Tryz.prog Hn.hints Lb qbG:=qdg (h:=qBX) rfl λx y hy vs hv=>by
 simp only [qbG]at hy hv x y;simp only [qcI,qyn,ofTy,RVL,RV,RTy]at hv;obtain ⟨v,l,rfl,rfl,v2,l2,rfl,rfl,rfl⟩:=hv;cases hy;exact ⟨.tuple [.val (.string ⟨(Lib.trimPrefix x.1 x.2).toArray⟩),.val (.bool (Lib.hasPrefix x.1 x.2))],rfl,by simp [qgT,qbG,ofL,qaR,ofTy,RV,RTy,RVL]⟩
theorem qtu:∀{l:List Int} {l':List V},All2 (λa b=>b=V.val (.int .i64 a)) l l'->qdA l'=some l:=by
 intro l l' h;induction h with
 |nil=>rfl
 |cons h1 _ ih=>subst h1;simp [qdA,ih]
def qbE:Entry:=⟨32,[.ty (.pair (.sl I) (.pair (.sl I) .unit))],[(.str,0)],λx=>q9 x⟩
theorem qjO:qav Tryz.prog Hn.hints Lb qbE:=qdg (h:=qEZ) rfl λx y hy vs hv=>by
 simp only [qbE]at hy hv x y;simp only [qcI,qyn,ofTy,ofTyC,RVL,RV,RTy]at hv;obtain ⟨v,m,rfl,⟨l',rfl,v1,m1,rfl,⟨f1,c1,l1,rfl,_,h1⟩,v2,m2,rfl,⟨f2,c2,l2,rfl,_,h2⟩,rfl⟩,rfl⟩:=hv;refine ⟨.val (.string ⟨y.toArray⟩),?_,by simp [qgT,qbE,ofL,qaR,ofTy,RV,RTy]⟩;have hy':q9 (x.1,x.2.1,())=some y:=hy;simp [qEZ,qtu h1,qtu h2,hy']
def qjJ:Option Bool:=some true
def qeM:Entry:=⟨4,[],[(.bool,0)],λ_=>qjJ⟩
theorem qr7:qav Tryz.prog Hn.hints Lb qeM:=qdg (h:=qDq) rfl λx y hy vs hv=>by
 obtain rfl:true=y:=Option.some.inj hy;simp only [qeM,qcI,RVL]at hv;subst hv;exact ⟨.val (.bool true),rfl,by simp [qgT,qeM,ofL,qaR,ofTy,RV,RTy]⟩
end
end
end Go.Proofs.YtkmcmngpifalcaaGreatDoor
end
section
namespace Go.Proofs.YtkmcmngpifalcaaGreatDoor
open Go Go.Ab Go.RowKit Go.Shelf
def qz8:Go.Shelf.Ren:=⟨λ| 171=>36|243=>81|246=>129|283=>164|284=>165|285=>166|286=>167|129=>158|317=>191|318=>192|319=>193|320=>194|337=>202|338=>203|n=>n,λ| 3=>3|9=>9|2=>2|4=>4|171=>236|0=>0|53=>229|37=>139|5=>5|173=>238|212=>258|51=>227|20=>20|213=>259|46=>178|232=>279|233=>280|n=>n,λ| 17=>1|18=>6|19=>7|n=>n⟩
theorem qE2:LaysM.n171 Tryz.prog qz8 where
 mixed:=by kernel_rfl
 f129:=Tryz.func158.trans (congrArg some (by kernel_rfl))
 f171:=Tryz.func36.trans (congrArg some (by kernel_rfl))
 f243:=Tryz.func81.trans (congrArg some (by kernel_rfl))
 f246:=Tryz.func129.trans (congrArg some (by kernel_rfl))
 f283:=Tryz.func164.trans (congrArg some (by kernel_rfl))
 f284:=Tryz.func165.trans (congrArg some (by kernel_rfl))
 f285:=Tryz.func166.trans (congrArg some (by kernel_rfl))
 f286:=Tryz.func167.trans (congrArg some (by kernel_rfl))
 f317:=Tryz.func191.trans (congrArg some (by kernel_rfl))
 f318:=Tryz.func192.trans (congrArg some (by kernel_rfl))
 f319:=Tryz.func193.trans (congrArg some (by kernel_rfl))
 f320:=Tryz.func194.trans (congrArg some (by kernel_rfl))
 f337:=Tryz.func202.trans (congrArg some (by kernel_rfl))
 f338:=Tryz.func203.trans (congrArg some (by kernel_rfl))
 t0:=Tryz.underlying0
 a0:=Tryz.isAgg0
 z0:=Tryz.sizeOf0
 v0:=Tryz.zeroValue0
 t2:=Tryz.underlying2
 a2:=Tryz.isAgg2
 z2:=Tryz.sizeOf2
 v2:=Tryz.zeroValue2
 t3:=Tryz.underlying3
 a3:=Tryz.isAgg3
 z3:=Tryz.sizeOf3
 v3:=Tryz.zeroValue3
 t4:=Tryz.underlying4
 a4:=Tryz.isAgg4
 z4:=Tryz.sizeOf4
 v4:=Tryz.zeroValue4
 t5:=Tryz.underlying5
 a5:=Tryz.isAgg5
 z5:=Tryz.sizeOf5
 v5:=Tryz.zeroValue5
 t9:=Tryz.underlying9
 a9:=Tryz.isAgg9
 z9:=Tryz.sizeOf9
 v9:=Tryz.zeroValue9
 t20:=Tryz.underlying20
 a20:=Tryz.isAgg20
 z20:=Tryz.sizeOf20
 v20:=Tryz.zeroValue20
 t37:=Tryz.underlying139
 a37:=Tryz.isAgg139
 z37:=Tryz.sizeOf139
 v37:=Tryz.zeroValue139
 t46:=Tryz.underlying178
 a46:=Tryz.isAgg178
 z46:=Tryz.sizeOf178
 v46:=Tryz.zeroValue178
 t51:=Tryz.underlying227
 a51:=Tryz.isAgg227
 z51:=Tryz.sizeOf227
 v51:=Tryz.zeroValue227
 t53:=Tryz.underlying229
 a53:=Tryz.isAgg229
 z53:=Tryz.sizeOf229
 v53:=Tryz.zeroValue229
 t171:=Tryz.underlying236
 a171:=Tryz.isAgg236
 z171:=Tryz.sizeOf236
 v171:=Tryz.zeroValue236
 t173:=Tryz.underlying238
 a173:=Tryz.isAgg238
 z173:=Tryz.sizeOf238
 v173:=Tryz.zeroValue238
 t212:=Tryz.underlying258
 a212:=Tryz.isAgg258
 z212:=Tryz.sizeOf258
 v212:=Tryz.zeroValue258
 t213:=Tryz.underlying259
 a213:=Tryz.isAgg259
 z213:=Tryz.sizeOf259
 t232:=Tryz.underlying279
 a232:=Tryz.isAgg279
 z232:=Tryz.sizeOf279
 v232:=Tryz.zeroValue279
 t233:=Tryz.underlying280
 a233:=Tryz.isAgg280
 z233:=Tryz.sizeOf280
 v233:=Tryz.zeroValue280
 g17:=by kernel_rfl
 g18:=by kernel_rfl
 g19:=by kernel_rfl
 i0:=by kernel_rfl
 i2:=by kernel_rfl
 i3:=by kernel_rfl
 i4:=by kernel_rfl
 i5:=by kernel_rfl
 i9:=by kernel_rfl
 i20:=by kernel_rfl
 i37:=by kernel_rfl
 i46:=by kernel_rfl
 i51:=by kernel_rfl
 i53:=by kernel_rfl
 i171:=by kernel_rfl
 i173:=by kernel_rfl
 i212:=by kernel_rfl
 i232:=by kernel_rfl
 i233:=by kernel_rfl
 m17:=by kernel_rfl
 m18:=by kernel_rfl
 m19:=by kernel_rfl
def qoN:Go.Shelf.Ren:=⟨λ| 172=>96|244=>141|245=>142|247=>179|279=>180|280=>181|281=>182|282=>183|287=>198|316=>199|171=>36|205=>200|321=>204|322=>205|243=>81|246=>129|283=>164|284=>165|285=>166|286=>167|129=>158|317=>191|318=>192|319=>193|320=>194|337=>202|338=>203|n=>n,λ| 9=>9|3=>3|75=>143|76=>144|4=>4|5=>5|167=>244|37=>139|0=>0|85=>245|2=>2|168=>247|53=>229|175=>267|46=>178|210=>271|127=>205|145=>278|143=>276|21=>21|171=>236|173=>238|212=>258|51=>227|20=>20|213=>259|232=>279|233=>280|80=>146|n=>n,λ| 15=>4|16=>5|17=>1|18=>6|19=>7|n=>n⟩
theorem qFI:LaysC.n172 Tryz.prog qoN where
 mixed:=by kernel_rfl
 f129:=Tryz.func158.trans (congrArg some (by kernel_rfl))
 f171:=Tryz.func36.trans (congrArg some (by kernel_rfl))
 f172:=Tryz.func96.trans (congrArg some (by kernel_rfl))
 f205:=Tryz.func200.trans (congrArg some (by kernel_rfl))
 f243:=Tryz.func81.trans (congrArg some (by kernel_rfl))
 f244:=Tryz.func141.trans (congrArg some (by kernel_rfl))
 f245:=Tryz.func142.trans (congrArg some (by kernel_rfl))
 f246:=Tryz.func129.trans (congrArg some (by kernel_rfl))
 f247:=Tryz.func179.trans (congrArg some (by kernel_rfl))
 f279:=Tryz.func180.trans (congrArg some (by kernel_rfl))
 f280:=Tryz.func181.trans (congrArg some (by kernel_rfl))
 f281:=Tryz.func182.trans (congrArg some (by kernel_rfl))
 f282:=Tryz.func183.trans (congrArg some (by kernel_rfl))
 f283:=Tryz.func164.trans (congrArg some (by kernel_rfl))
 f284:=Tryz.func165.trans (congrArg some (by kernel_rfl))
 f285:=Tryz.func166.trans (congrArg some (by kernel_rfl))
 f286:=Tryz.func167.trans (congrArg some (by kernel_rfl))
 f287:=Tryz.func198.trans (congrArg some (by kernel_rfl))
 f316:=Tryz.func199.trans (congrArg some (by kernel_rfl))
 f317:=Tryz.func191.trans (congrArg some (by kernel_rfl))
 f318:=Tryz.func192.trans (congrArg some (by kernel_rfl))
 f319:=Tryz.func193.trans (congrArg some (by kernel_rfl))
 f320:=Tryz.func194.trans (congrArg some (by kernel_rfl))
 f321:=Tryz.func204.trans (congrArg some (by kernel_rfl))
 f322:=Tryz.func205.trans (congrArg some (by kernel_rfl))
 f337:=Tryz.func202.trans (congrArg some (by kernel_rfl))
 f338:=Tryz.func203.trans (congrArg some (by kernel_rfl))
 t0:=Tryz.underlying0
 a0:=Tryz.isAgg0
 z0:=Tryz.sizeOf0
 v0:=Tryz.zeroValue0
 t2:=Tryz.underlying2
 a2:=Tryz.isAgg2
 z2:=Tryz.sizeOf2
 v2:=Tryz.zeroValue2
 t3:=Tryz.underlying3
 a3:=Tryz.isAgg3
 z3:=Tryz.sizeOf3
 v3:=Tryz.zeroValue3
 t4:=Tryz.underlying4
 a4:=Tryz.isAgg4
 z4:=Tryz.sizeOf4
 v4:=Tryz.zeroValue4
 t5:=Tryz.underlying5
 a5:=Tryz.isAgg5
 z5:=Tryz.sizeOf5
 v5:=Tryz.zeroValue5
 t9:=Tryz.underlying9
 a9:=Tryz.isAgg9
 z9:=Tryz.sizeOf9
 v9:=Tryz.zeroValue9
 t20:=Tryz.underlying20
 a20:=Tryz.isAgg20
 z20:=Tryz.sizeOf20
 v20:=Tryz.zeroValue20
 t21:=Tryz.underlying21
 a21:=Tryz.isAgg21
 z21:=Tryz.sizeOf21
 v21:=Tryz.zeroValue21
 t37:=Tryz.underlying139
 a37:=Tryz.isAgg139
 z37:=Tryz.sizeOf139
 v37:=Tryz.zeroValue139
 t46:=Tryz.underlying178
 a46:=Tryz.isAgg178
 z46:=Tryz.sizeOf178
 v46:=Tryz.zeroValue178
 t51:=Tryz.underlying227
 a51:=Tryz.isAgg227
 z51:=Tryz.sizeOf227
 v51:=Tryz.zeroValue227
 t53:=Tryz.underlying229
 a53:=Tryz.isAgg229
 z53:=Tryz.sizeOf229
 v53:=Tryz.zeroValue229
 t75:=Tryz.underlying143
 a75:=Tryz.isAgg143
 z75:=Tryz.sizeOf143
 v75:=Tryz.zeroValue143
 t76:=Tryz.underlying144
 a76:=Tryz.isAgg144
 z76:=Tryz.sizeOf144
 v76:=Tryz.zeroValue144
 t85:=Tryz.underlying245
 a85:=Tryz.isAgg245
 z85:=Tryz.sizeOf245
 v85:=Tryz.zeroValue245
 t127:=Tryz.underlying205
 a127:=Tryz.isAgg205
 z127:=Tryz.sizeOf205
 v127:=Tryz.zeroValue205
 t143:=Tryz.underlying276
 a143:=Tryz.isAgg276
 z143:=Tryz.sizeOf276
 v143:=Tryz.zeroValue276
 t145:=Tryz.underlying278
 a145:=Tryz.isAgg278
 z145:=Tryz.sizeOf278
 v145:=Tryz.zeroValue278
 t167:=Tryz.underlying244
 a167:=Tryz.isAgg244
 z167:=Tryz.sizeOf244
 v167:=Tryz.zeroValue244
 t168:=Tryz.underlying247
 a168:=Tryz.isAgg247
 z168:=Tryz.sizeOf247
 v168:=Tryz.zeroValue247
 t171:=Tryz.underlying236
 a171:=Tryz.isAgg236
 z171:=Tryz.sizeOf236
 v171:=Tryz.zeroValue236
 t173:=Tryz.underlying238
 a173:=Tryz.isAgg238
 z173:=Tryz.sizeOf238
 v173:=Tryz.zeroValue238
 t175:=Tryz.underlying267
 a175:=Tryz.isAgg267
 z175:=Tryz.sizeOf267
 v175:=Tryz.zeroValue267
 t210:=Tryz.underlying271
 a210:=Tryz.isAgg271
 z210:=Tryz.sizeOf271
 v210:=Tryz.zeroValue271
 t212:=Tryz.underlying258
 a212:=Tryz.isAgg258
 z212:=Tryz.sizeOf258
 v212:=Tryz.zeroValue258
 t213:=Tryz.underlying259
 a213:=Tryz.isAgg259
 z213:=Tryz.sizeOf259
 t232:=Tryz.underlying279
 a232:=Tryz.isAgg279
 z232:=Tryz.sizeOf279
 v232:=Tryz.zeroValue279
 t233:=Tryz.underlying280
 a233:=Tryz.isAgg280
 z233:=Tryz.sizeOf280
 v233:=Tryz.zeroValue280
 g15:=by kernel_rfl
 g16:=by kernel_rfl
 g17:=by kernel_rfl
 g18:=by kernel_rfl
 g19:=by kernel_rfl
 t80:=Tryz.underlying146
 a80:=Tryz.isAgg146
 z80:=Tryz.sizeOf146
 v80:=Tryz.zeroValue146
 i0:=by kernel_rfl
 i2:=by kernel_rfl
 i3:=by kernel_rfl
 i4:=by kernel_rfl
 i5:=by kernel_rfl
 i9:=by kernel_rfl
 i20:=by kernel_rfl
 i21:=by kernel_rfl
 i37:=by kernel_rfl
 i46:=by kernel_rfl
 i51:=by kernel_rfl
 i53:=by kernel_rfl
 i75:=by kernel_rfl
 i76:=by kernel_rfl
 i80:=by kernel_rfl
 i85:=by kernel_rfl
 i127:=by kernel_rfl
 i143:=by kernel_rfl
 i145:=by kernel_rfl
 i167:=by kernel_rfl
 i168:=by kernel_rfl
 i171:=by kernel_rfl
 i173:=by kernel_rfl
 i175:=by kernel_rfl
 i210:=by kernel_rfl
 i212:=by kernel_rfl
 i232:=by kernel_rfl
 i233:=by kernel_rfl
 m15:=by kernel_rfl
 m16:=by kernel_rfl
 m17:=by kernel_rfl
 m18:=by kernel_rfl
 m19:=by kernel_rfl
 c0:=by kernel_rfl
 c2:=by kernel_rfl
 c3:=by kernel_rfl
 c4:=by kernel_rfl
 c5:=by kernel_rfl
 c9:=by kernel_rfl
 c20:=by kernel_rfl
 c21:=by kernel_rfl
 c37:=by kernel_rfl
 c46:=by kernel_rfl
 c51:=by kernel_rfl
 c53:=by kernel_rfl
 c75:=by kernel_rfl
 c76:=by kernel_rfl
 c80:=by kernel_rfl
 c85:=by kernel_rfl
 c127:=by kernel_rfl
 c143:=by kernel_rfl
 c145:=by kernel_rfl
 c167:=by kernel_rfl
 c168:=by kernel_rfl
 c171:=by kernel_rfl
 c173:=by kernel_rfl
 c175:=by kernel_rfl
 c210:=by kernel_rfl
 c212:=by kernel_rfl
 c213:=by kernel_rfl
 c232:=by kernel_rfl
 c233:=by kernel_rfl
def qtN:Go.Shelf.Ren:=⟨λ| 156=>33|165=>79|166=>77|169=>78|240=>127|241=>128|276=>162|277=>163|n=>n,λ| 31=>22|9=>9|3=>3|4=>4|0=>0|20=>20|72=>141|76=>144|70=>138|37=>139|75=>143|127=>205|164=>233|5=>5|80=>146|n=>n,λn=>n⟩
theorem qD6:Lays.n156 Tryz.prog qtN where
 mixed:=by kernel_rfl
 f156:=Tryz.func33.trans (congrArg some (by kernel_rfl))
 f165:=Tryz.func79.trans (congrArg some (by kernel_rfl))
 f166:=Tryz.func77.trans (congrArg some (by kernel_rfl))
 f169:=Tryz.func78.trans (congrArg some (by kernel_rfl))
 f240:=Tryz.func127.trans (congrArg some (by kernel_rfl))
 f241:=Tryz.func128.trans (congrArg some (by kernel_rfl))
 f276:=Tryz.func162.trans (congrArg some (by kernel_rfl))
 f277:=Tryz.func163.trans (congrArg some (by kernel_rfl))
 t0:=Tryz.underlying0
 a0:=Tryz.isAgg0
 z0:=Tryz.sizeOf0
 v0:=Tryz.zeroValue0
 t3:=Tryz.underlying3
 a3:=Tryz.isAgg3
 z3:=Tryz.sizeOf3
 v3:=Tryz.zeroValue3
 t4:=Tryz.underlying4
 a4:=Tryz.isAgg4
 z4:=Tryz.sizeOf4
 v4:=Tryz.zeroValue4
 t9:=Tryz.underlying9
 a9:=Tryz.isAgg9
 z9:=Tryz.sizeOf9
 v9:=Tryz.zeroValue9
 t20:=Tryz.underlying20
 a20:=Tryz.isAgg20
 z20:=Tryz.sizeOf20
 v20:=Tryz.zeroValue20
 t31:=Tryz.underlying22
 a31:=Tryz.isAgg22
 z31:=Tryz.sizeOf22
 v31:=Tryz.zeroValue22
 t37:=Tryz.underlying139
 a37:=Tryz.isAgg139
 z37:=Tryz.sizeOf139
 v37:=Tryz.zeroValue139
 t70:=Tryz.underlying138
 a70:=Tryz.isAgg138
 z70:=Tryz.sizeOf138
 v70:=Tryz.zeroValue138
 t72:=Tryz.underlying141
 a72:=Tryz.isAgg141
 z72:=Tryz.sizeOf141
 v72:=Tryz.zeroValue141
 t75:=Tryz.underlying143
 a75:=Tryz.isAgg143
 z75:=Tryz.sizeOf143
 v75:=Tryz.zeroValue143
 t76:=Tryz.underlying144
 a76:=Tryz.isAgg144
 z76:=Tryz.sizeOf144
 v76:=Tryz.zeroValue144
 t127:=Tryz.underlying205
 a127:=Tryz.isAgg205
 z127:=Tryz.sizeOf205
 v127:=Tryz.zeroValue205
 t164:=Tryz.underlying233
 a164:=Tryz.isAgg233
 z164:=Tryz.sizeOf233
 v164:=Tryz.zeroValue233
def qyb:Go.Shelf.Ren:=⟨λ| 143=>85|219=>133|217=>170|225=>171|224=>172|267=>173|266=>195|314=>196|n=>n,λ| 9=>9|3=>3|4=>4|5=>5|46=>178|146=>260|51=>227|n=>n,λ| 1=>0|n=>n⟩
theorem qE1:Lays.n143 Tryz.prog qyb where
 mixed:=by kernel_rfl
 f143:=Tryz.func85.trans (congrArg some (by kernel_rfl))
 f217:=Tryz.func170.trans (congrArg some (by kernel_rfl))
 f219:=Tryz.func133.trans (congrArg some (by kernel_rfl))
 f224:=Tryz.func172.trans (congrArg some (by kernel_rfl))
 f225:=Tryz.func171.trans (congrArg some (by kernel_rfl))
 f266:=Tryz.func195.trans (congrArg some (by kernel_rfl))
 f267:=Tryz.func173.trans (congrArg some (by kernel_rfl))
 f314:=Tryz.func196.trans (congrArg some (by kernel_rfl))
 t3:=Tryz.underlying3
 a3:=Tryz.isAgg3
 z3:=Tryz.sizeOf3
 v3:=Tryz.zeroValue3
 t4:=Tryz.underlying4
 a4:=Tryz.isAgg4
 z4:=Tryz.sizeOf4
 v4:=Tryz.zeroValue4
 t5:=Tryz.underlying5
 a5:=Tryz.isAgg5
 z5:=Tryz.sizeOf5
 v5:=Tryz.zeroValue5
 t9:=Tryz.underlying9
 a9:=Tryz.isAgg9
 z9:=Tryz.sizeOf9
 v9:=Tryz.zeroValue9
 t46:=Tryz.underlying178
 a46:=Tryz.isAgg178
 z46:=Tryz.sizeOf178
 v46:=Tryz.zeroValue178
 t51:=Tryz.underlying227
 a51:=Tryz.isAgg227
 z51:=Tryz.sizeOf227
 v51:=Tryz.zeroValue227
 t146:=Tryz.underlying260
 a146:=Tryz.isAgg260
 z146:=Tryz.sizeOf260
 v146:=Tryz.zeroValue260
 g1:=by kernel_rfl
def qyc:Go.Shelf.Ren:=⟨λ| 146=>37|221=>82|268=>130|138=>131|143=>85|195=>168|197=>140|218=>169|219=>133|260=>178|217=>170|225=>171|224=>172|267=>173|266=>195|314=>196|n=>n,λ| 9=>9|31=>22|3=>3|4=>4|0=>0|105=>212|21=>21|5=>5|46=>178|119=>263|139=>266|138=>265|146=>260|51=>227|n=>n,λ| 1=>0|3=>2|4=>3|n=>n⟩
theorem qE3:Lays.n146 Tryz.prog qyc where
 mixed:=by kernel_rfl
 f138:=Tryz.func131.trans (congrArg some (by kernel_rfl))
 f143:=Tryz.func85.trans (congrArg some (by kernel_rfl))
 f146:=Tryz.func37.trans (congrArg some (by kernel_rfl))
 f195:=Tryz.func168.trans (congrArg some (by kernel_rfl))
 f197:=Tryz.func140.trans (congrArg some (by kernel_rfl))
 f217:=Tryz.func170.trans (congrArg some (by kernel_rfl))
 f218:=Tryz.func169.trans (congrArg some (by kernel_rfl))
 f219:=Tryz.func133.trans (congrArg some (by kernel_rfl))
 f221:=Tryz.func82.trans (congrArg some (by kernel_rfl))
 f224:=Tryz.func172.trans (congrArg some (by kernel_rfl))
 f225:=Tryz.func171.trans (congrArg some (by kernel_rfl))
 f260:=Tryz.func178.trans (congrArg some (by kernel_rfl))
 f266:=Tryz.func195.trans (congrArg some (by kernel_rfl))
 f267:=Tryz.func173.trans (congrArg some (by kernel_rfl))
 f268:=Tryz.func130.trans (congrArg some (by kernel_rfl))
 f314:=Tryz.func196.trans (congrArg some (by kernel_rfl))
 t0:=Tryz.underlying0
 a0:=Tryz.isAgg0
 z0:=Tryz.sizeOf0
 v0:=Tryz.zeroValue0
 t3:=Tryz.underlying3
 a3:=Tryz.isAgg3
 z3:=Tryz.sizeOf3
 v3:=Tryz.zeroValue3
 t4:=Tryz.underlying4
 a4:=Tryz.isAgg4
 z4:=Tryz.sizeOf4
 v4:=Tryz.zeroValue4
 t5:=Tryz.underlying5
 a5:=Tryz.isAgg5
 z5:=Tryz.sizeOf5
 v5:=Tryz.zeroValue5
 t9:=Tryz.underlying9
 a9:=Tryz.isAgg9
 z9:=Tryz.sizeOf9
 v9:=Tryz.zeroValue9
 t21:=Tryz.underlying21
 a21:=Tryz.isAgg21
 z21:=Tryz.sizeOf21
 v21:=Tryz.zeroValue21
 t31:=Tryz.underlying22
 a31:=Tryz.isAgg22
 z31:=Tryz.sizeOf22
 v31:=Tryz.zeroValue22
 t46:=Tryz.underlying178
 a46:=Tryz.isAgg178
 z46:=Tryz.sizeOf178
 v46:=Tryz.zeroValue178
 t51:=Tryz.underlying227
 a51:=Tryz.isAgg227
 z51:=Tryz.sizeOf227
 v51:=Tryz.zeroValue227
 t105:=Tryz.underlying212
 a105:=Tryz.isAgg212
 z105:=Tryz.sizeOf212
 v105:=Tryz.zeroValue212
 t119:=Tryz.underlying263
 a119:=Tryz.isAgg263
 z119:=Tryz.sizeOf263
 t138:=Tryz.underlying265
 a138:=Tryz.isAgg265
 z138:=Tryz.sizeOf265
 v138:=Tryz.zeroValue265
 t139:=Tryz.underlying266
 a139:=Tryz.isAgg266
 z139:=Tryz.sizeOf266
 v139:=Tryz.zeroValue266
 t146:=Tryz.underlying260
 a146:=Tryz.isAgg260
 z146:=Tryz.sizeOf260
 v146:=Tryz.zeroValue260
 g1:=by kernel_rfl
 g3:=by kernel_rfl
 g4:=by kernel_rfl
def qB9:Go.Shelf.Ren:=⟨λ| 145=>84|220=>132|219=>133|217=>170|225=>171|224=>172|267=>173|266=>195|314=>196|n=>n,λ| 9=>9|4=>4|59=>151|3=>3|5=>5|46=>178|146=>260|51=>227|n=>n,λ| 1=>0|n=>n⟩
theorem qGb:Lays.n145 Tryz.prog qB9 where
 mixed:=by kernel_rfl
 f145:=Tryz.func84.trans (congrArg some (by kernel_rfl))
 f217:=Tryz.func170.trans (congrArg some (by kernel_rfl))
 f219:=Tryz.func133.trans (congrArg some (by kernel_rfl))
 f220:=Tryz.func132.trans (congrArg some (by kernel_rfl))
 f224:=Tryz.func172.trans (congrArg some (by kernel_rfl))
 f225:=Tryz.func171.trans (congrArg some (by kernel_rfl))
 f266:=Tryz.func195.trans (congrArg some (by kernel_rfl))
 f267:=Tryz.func173.trans (congrArg some (by kernel_rfl))
 f314:=Tryz.func196.trans (congrArg some (by kernel_rfl))
 t3:=Tryz.underlying3
 a3:=Tryz.isAgg3
 z3:=Tryz.sizeOf3
 v3:=Tryz.zeroValue3
 t4:=Tryz.underlying4
 a4:=Tryz.isAgg4
 z4:=Tryz.sizeOf4
 v4:=Tryz.zeroValue4
 t5:=Tryz.underlying5
 a5:=Tryz.isAgg5
 z5:=Tryz.sizeOf5
 v5:=Tryz.zeroValue5
 t9:=Tryz.underlying9
 a9:=Tryz.isAgg9
 z9:=Tryz.sizeOf9
 v9:=Tryz.zeroValue9
 t46:=Tryz.underlying178
 a46:=Tryz.isAgg178
 z46:=Tryz.sizeOf178
 v46:=Tryz.zeroValue178
 t51:=Tryz.underlying227
 a51:=Tryz.isAgg227
 z51:=Tryz.sizeOf227
 v51:=Tryz.zeroValue227
 t59:=Tryz.underlying151
 a59:=Tryz.isAgg151
 z59:=Tryz.sizeOf151
 v59:=Tryz.zeroValue151
 t146:=Tryz.underlying260
 a146:=Tryz.isAgg260
 z146:=Tryz.sizeOf260
 v146:=Tryz.zeroValue260
 g1:=by kernel_rfl
def qpW:Go.Shelf.Ren:=⟨λ| 103=>134|210=>174|206=>197|n=>n,λ| 9=>9|4=>4|24=>208|3=>3|n=>n,λn=>n⟩
theorem qya:Lays.n103 Tryz.prog qpW where
 mixed:=by kernel_rfl
 f103:=Tryz.func134.trans (congrArg some (by kernel_rfl))
 f206:=Tryz.func197.trans (congrArg some (by kernel_rfl))
 f210:=Tryz.func174.trans (congrArg some (by kernel_rfl))
 t3:=Tryz.underlying3
 a3:=Tryz.isAgg3
 z3:=Tryz.sizeOf3
 v3:=Tryz.zeroValue3
 t4:=Tryz.underlying4
 a4:=Tryz.isAgg4
 z4:=Tryz.sizeOf4
 v4:=Tryz.zeroValue4
 t9:=Tryz.underlying9
 a9:=Tryz.isAgg9
 z9:=Tryz.sizeOf9
 v9:=Tryz.zeroValue9
 t24:=Tryz.underlying208
 a24:=Tryz.isAgg208
 z24:=Tryz.sizeOf208
 v24:=Tryz.zeroValue208
theorem qz7:Builder.Extra Tryz.prog qtN where
 sizeBuilder:=by kernel_rfl
 liesBuilder:=by kernel_rfl
 t5:=Tryz.underlying5
 a5:=Tryz.isAgg5
 z5:=Tryz.sizeOf5
 v5:=Tryz.zeroValue5
 infoByte:=by kernel_rfl
 cellsByte:=by kernel_rfl
 sizeByte:=by kernel_rfl
 neB5:=by decide
theorem qFs {w : World} {X : Cx} (h : qhi w X) : Lib.TabIs Tryz.prog w "internal/strconv.uint64pow10" .u64 Lib.pow10Tab := qFt h (b := 1) (by simp [qy0]) (by kernel_rfl)
theorem qwE{w:World}{X:Cx}(h:qhi w X){b:Nat}(hm:(b,qvd)∈qy0):∃ev,w.cell? ⟨b,0,none⟩=some ev/\(ev=.nilIface\/∃te pe,ev=.iface te pe):=by
 obtain ⟨arr,t,fr,h1,ev,h2,h3⟩:=qzt h hm;exact ⟨ev,by simp [World.cell?,h1,h2],h3⟩
theorem qrG{w:World}{X:Cx}(h:qhi w X):∃m,w.cell? ⟨0,0,none⟩=some (.int .i64 m):=by
 obtain ⟨arr,t,fr,h1,m,h2⟩:=qzt h (b:=0) (p:=qzW) (by simp [qy0]);exact ⟨m,by simp [World.cell?,h1,h2]⟩
theorem qyJ(c:UInt8):signed c []=[]:=rfl
theorem qv2(c:UInt8)(zs:List Int)(z:Int):signed c (zs++[z])=signed c zs++(c::Lib.itoa z):=by simp [signed]
theorem qiM(c:UInt8):∀(zs:List Int),(∀z∈zs,-9223372036854775808<=z/\z<=9223372036854775807)->(signed c zs).length<=65*zs.length
 |[],_=>by simp [signed]
 |z::l,h=>by
  have h1:=qiM c l λz hz=>h z (by simp [hz]);have h2:=Lib.itoa_length_le z (h z (by simp)).1 (h z (by simp)).2;simp only [signed,qh,List.flatten_cons,List.length_append,List.length_cons]at h1 ⊢;omega
theorem qrv{T e:TypeId}{B b:Nat}{bs:List Value}{w w':World}(h:Lib.IsBuilder T e B b bs w)(hb:Below w.heap.size w w'):Lib.IsBuilder T e B b bs w':=by
 have g:w.grownBy w' none:=⟨hb.os,hb.tape,hb.output,hb.size,λk hk _=>hb.block k hk⟩
 have one:∀p,Lib.BuilderAt T e B b p bs w->Lib.BuilderAt T e B b p bs w':=λp ⟨h1,v,h2,h3,h4⟩ =>
  ⟨h1,v,(hb.block b (Array.getElem?_eq_some_iff.1 h2).1).trans h2,h3.kept g (by cases v.ownBlock<;>simp),h4⟩
 exact h.imp (one _) (one _)
def qy6(w:World)(v:Value)(zs:List Int):Prop:=∃ao cap,v=.slice ao zs.length cap/\∀j z,zs[j]?=some z->∃b off,ao=some ⟨b,off,none⟩/\b<w.heap.size/\w.cell? ⟨b,off+j,none⟩=some (.int .i64 z)
theorem qBi{zs:List Int}{k:Nat}{z:Int}(h:zs[k]?=some z):zs.take (k+1)=zs.take k++[z]:=by rw [List.take_add_one,h];rfl
theorem qCW(c:UInt8)(l:List UInt8):((⟨#[c]⟩:ByteArray)++⟨l.toArray⟩)=⟨(c::l).toArray⟩:=by
 apply ByteArray.ext;simp [ByteArray.data_append]
theorem qqY{w1 wr:World}{N:Nat}(c:UInt8)(pre:List UInt8)(zs:List Int)(k:Nat)(z:Int)(hz:zs[k]?=some z)(hr : -9223372036854775808<=z/\z<=9223372036854775807)(hN:N+1<=wr.heap.size)
  (hl : (pre ++ signed c (zs.take k)).length <= 140737488000000) (htab : Lib.TabIs Tryz.prog wr "internal/strconv.uint64pow10" .u64 Lib.pow10Tab)
  (HB:Lib.IsBuilder 141 5 (N+1) (N+1) (Lib.byteCells (pre++signed c (zs.take k))) wr) (HW:Below (N+1) w1 wr) {Q:Value->World->Prop}
  (h:∀w3,Lib.IsBuilder 141 5 (N+1) (N+1) (Lib.byteCells (pre++signed c (zs.take (k+1)))) w3->Below (N+1) w1 w3->Q (.tuple #[.int .i64 (c::Lib.itoa z).length,.nilIface]) w3) :
  Calls Tryz.prog 36 #[.int .i64 z] wr λe w2=>e=.returned (.string ⟨(Lib.itoa z).toArray⟩) /\
   Calls Tryz.prog 77 #[.pointer (some ⟨N+1,0,none⟩),.string (⟨#[c]⟩++⟨(Lib.itoa z).toArray⟩)] w2 λe w3=>∃v,e=.returned v/\Q v w3:=by
 rw [qCW];refine (Any.strconv_Itoa qE2 z hr.1 hr.2 wr htab).mono ?_;rintro e w2 ⟨rfl,n,os,rfl⟩;have hb:=below_grow wr n os;refine ⟨rfl,(Any.Builder_WriteString {qD6 with} qz7 (N+1) (N+1) _ ⟨(c::Lib.itoa z).toArray⟩ _ (qrv HB hb) ?_ ?_).mono ?_⟩
 ·have:=Lib.itoa_length_le z hr.1 hr.2;rw [Lib.byteCells_length];simp only [ByteArray.size,List.size_toArray,List.length_cons]at *;omega
 ·exact Nat.le_trans hN hb.size
 ·rintro e w3 ⟨rfl,h3,hb3⟩;refine ⟨_,rfl,?_⟩;have e1:ByteArray.size ⟨(c::Lib.itoa z).toArray⟩=(c::Lib.itoa z).length:=by simp [ByteArray.size]
  rw [e1];refine h w3 (.inr ?_) (HW.trans ((hb.mono hN).trans hb3));have e2:Lib.byteCells (pre++signed c (zs.take k))++Lib.strCells ⟨(c::Lib.itoa z).toArray⟩=Lib.byteCells (pre++signed c (zs.take (k+1))):=by
   rw [qBi hz,qv2,Lib.strCells_eq,<- Lib.byteCells_append,List.append_assoc]
  rw [<- e2];exact h3
set_option maxHeartbeats 2000000 in
theorem qBS(v1 v2:Value)(z1 z2:List Int)(w:World)(h1:qy6 w v1 z1)(h2:qy6 w v2 z2)(hr1:∀z∈z1,-9223372036854775808<=z/\z<=9223372036854775807)(hr2:∀z∈z2,-9223372036854775808<=z/\z<=9223372036854775807)
  (hl1 : z1.length <= 1099511627) (hl2 : z2.length <= 1099511627) (htab : Lib.TabIs Tryz.prog w "internal/strconv.uint64pow10" .u64 Lib.pow10Tab) :
  Calls Tryz.prog 32 #[.agg #[v1,v2]] w λe w'=>e=.returned (.string ⟨(signed 43 z1++signed 45 z2).toArray⟩)/\Below w.heap.size w w':=by
 obtain ⟨a1,c1,rfl,hc1⟩:=h1;obtain ⟨a2,c2,rfl,hc2⟩:=h2;have HC1:=Any.hidJ hc1;have HC2:=Any.hidJ hc2;have HT:=Any.hidJ (Lib.tabBelow_of_tabIs htab);have HR1:=Any.hidJ hr1;have HR2:=Any.hidJ hr2;have HL1:=Any.hidJ (show ∀k,([]++signed 43 (z1.take k)).length<=140737488000000 from λk=>by
  have h1:=qiM 43 (z1.take k) λz hz=>hr1 z (List.mem_of_mem_take hz);have h2:(z1.take k).length<=z1.length:=by rw [List.length_take];omega
  rw [List.nil_append];omega)
 have HL2:=Any.hidJ (show ∀k,(signed 43 z1++signed 45 (z2.take k)).length<=140737488000000 from λk=>by
  have h1:=qiM 45 (z2.take k) λz hz=>hr2 z (List.mem_of_mem_take hz);have h2:(z2.take k).length<=z2.length:=by rw [List.length_take];omega
  have h3:=qiM 43 z1 hr1;rw [List.length_append];omega)
 clear hc1 hc2 htab hr1 hr2
 go_enter Tryz.func32,Tryz.ntmps32
 go_wp2_with fail
 have HS:Hid (Lib.IsBuilder 141 5 (w.heap.size+1) (w.heap.size+1) (Lib.byteCells ([]++signed 43 (z1.take 0))) ((w.alloc (Obj.cells #[Value.slice a1 z1.length c1,Value.slice a2 z2.length c2] 55)).alloc (Obj.cells #[Value.pointer none,Value.slice none 0 0] 141))):=by
  have h:=Lib.fresh_isBuilder 141 5 (w.alloc (Obj.cells #[Value.slice a1 z1.length c1,Value.slice a2 z2.length c2] 55));rw [show (w.alloc (Obj.cells #[Value.slice a1 z1.length c1,Value.slice a2 z2.length c2] 55)).heap.size=w.heap.size+1 from Array.size_push _]at h;exact h
 have HA:Hid (Below (w.heap.size+1) (w.alloc (Obj.cells #[Value.slice a1 z1.length c1,Value.slice a2 z2.length c2] 55)) ((w.alloc (Obj.cells #[Value.slice a1 z1.length c1,Value.slice a2 z2.length c2] 55)).alloc (Obj.cells #[Value.pointer none,Value.slice none 0 0] 141))) :=
  ((Below.refl _ _).alloc (by simp) _)
 go_loopw [11] (λi wr=>∃k:Nat,k<=z1.length/\i=.int .i64 k/\Hid (Lib.IsBuilder 141 5 (w.heap.size+1) (w.heap.size+1) (Lib.byteCells ([]++signed 43 (z1.take k))) wr)/\Hid (Below (w.heap.size+1) (w.alloc (Obj.cells #[Value.slice a1 z1.length c1,Value.slice a2 z2.length c2] 55)) wr)) (λi _=>z1.length-(intOf i).toNat)
 case atStart=>exact ⟨0,Nat.zero_le _,rfl,HS,HA⟩
 case round =>
  obtain ⟨k,hk,rfl,HB,HW⟩:=hrel;have hN:w.heap.size+1<=wr.heap.size:=by have:=HW.out.size;rw [show (w.alloc (Obj.cells #[Value.slice a1 z1.length c1,Value.slice a2 z2.length c2] 55)).heap.size=w.heap.size+1 from Array.size_push _]at this;exact this
  by_cases hkn:k<z1.length
  ·obtain ⟨z,hz⟩:∃z,z1[k]?=some z:=⟨z1[k],List.getElem?_eq_getElem hkn⟩
   obtain ⟨b,off,rfl,hb,hc⟩:=HC1.out k z hz;have hc':wr.cell? ⟨b,off+k,none⟩=some (.int .i64 z):=by
    rw [HW.out.cell (p:=⟨b,off+k,none⟩) (show b<w.heap.size+1 by omega),((Below.refl w.heap.size w).alloc (Nat.le_refl _) _).cell (p:=⟨b,off+k,none⟩) hb];exact hc
   have hm:=List.mem_of_getElem? hz;have HRS:=Any.hidJ (qqY (Q:=λv w3=>v=.tuple #[.int .i64 (43::Lib.itoa z).length,.nilIface]/\Lib.IsBuilder 141 5 (w.heap.size+1) (w.heap.size+1) (Lib.byteCells ([]++signed 43 (z1.take (k+1)))) w3/\Below (w.heap.size+1) (w.alloc (Obj.cells #[Value.slice (some ⟨b,off,none⟩) z1.length c1,Value.slice a2 z2.length c2] 55)) w3) 43 [] z1 k z hz (HR1.out z hm) hN (HL1.out k) (HT.out wr ((Below.refl w.heap.size w).alloc (Nat.le_refl _) _ |>.trans (HW.out.mono (Nat.le_succ _)))) HB.out HW.out (λw3 h3 h4=>⟨rfl,h3,h4⟩));clear hz hc
   go_wp2_with fail
   refine HRS.out.mono ?_;rintro e w2 ⟨rfl,h77⟩;have H77:=Any.hidJ h77;have hcat:¬ 9223372036854775807<1+(Lib.itoa z).length:=by have:=Lib.itoa_length_le z (HR1.out z hm).1 (HR1.out z hm).2;omega
   clear h77 HRS
   go_wp2_with fail
   refine H77.out.mono ?_;rintro e w3 ⟨v,rfl,rfl,h3,h4⟩;have H3:=Any.hidJ h3;have H4:=Any.hidJ h4;clear h3 h4 H77
   go_wp2
   exact ⟨⟨k+1,by omega,by go_num,H3,H4⟩,by simp [intOf];omega⟩
  ·have hke:k=z1.length:=by omega
   subst hke;have hall:z1.take z1.length=z1:=List.take_of_length_le (Nat.le_refl _);rw [hall]at HB;have hv:wr.cell? ⟨w.heap.size,1,none⟩=some (Value.slice a2 z2.length c2):=by
    rw [HW.out.cell (p:=⟨w.heap.size,1,none⟩) (Nat.lt_succ_self _),World.cell?_alloc_new];rfl
   go_wp2_with fail
   go_loopw [23] (λi wr=>∃k:Nat,k<=z2.length/\i=.int .i64 k/\Hid (Lib.IsBuilder 141 5 (w.heap.size+1) (w.heap.size+1) (Lib.byteCells (signed 43 z1++signed 45 (z2.take k))) wr)/\Hid (Below (w.heap.size+1) (w.alloc (Obj.cells #[Value.slice a1 z1.length c1,Value.slice a2 z2.length c2] 55)) wr)) (λi _=>z2.length-(intOf i).toNat)
   case atStart=>exact ⟨0,Nat.zero_le _,rfl,by rw [List.take_zero,qyJ,List.append_nil];exact HB,HW⟩
   case round =>
    clear HB HW hN hv hall;obtain ⟨k,hk2,rfl,HB,HW⟩:=hrel;have hN:w.heap.size+1<=wr.heap.size:=by have:=HW.out.size;rw [show (w.alloc (Obj.cells #[Value.slice a1 z1.length c1,Value.slice a2 z2.length c2] 55)).heap.size=w.heap.size+1 from Array.size_push _]at this;exact this
    by_cases hkn:k<z2.length
    ·obtain ⟨z,hz⟩:∃z,z2[k]?=some z:=⟨z2[k],List.getElem?_eq_getElem hkn⟩
     obtain ⟨b,off,rfl,hb,hc⟩:=HC2.out k z hz;have hc':wr.cell? ⟨b,off+k,none⟩=some (.int .i64 z):=by
      rw [HW.out.cell (p:=⟨b,off+k,none⟩) (show b<w.heap.size+1 by omega),((Below.refl w.heap.size w).alloc (Nat.le_refl _) _).cell (p:=⟨b,off+k,none⟩) hb];exact hc
     have hm:=List.mem_of_getElem? hz;have HRS:=Any.hidJ (qqY (Q:=λv w3=>v=.tuple #[.int .i64 (45::Lib.itoa z).length,.nilIface]/\Lib.IsBuilder 141 5 (w.heap.size+1) (w.heap.size+1) (Lib.byteCells (signed 43 z1++signed 45 (z2.take (k+1)))) w3/\Below (w.heap.size+1) (w.alloc (Obj.cells #[Value.slice a1 z1.length c1,Value.slice (some ⟨b,off,none⟩) z2.length c2] 55)) w3) 45 (signed 43 z1) z2 k z hz (HR2.out z hm) hN (HL2.out k) (HT.out wr ((Below.refl w.heap.size w).alloc (Nat.le_refl _) _ |>.trans (HW.out.mono (Nat.le_succ _)))) HB.out HW.out (λw3 h3 h4=>⟨rfl,h3,h4⟩));clear hz hc
     go_wp2_with fail
     refine HRS.out.mono ?_;rintro e w2 ⟨rfl,h77⟩;have H77:=Any.hidJ h77;have hcat:¬ 9223372036854775807<1+(Lib.itoa z).length:=by have:=Lib.itoa_length_le z (HR2.out z hm).1 (HR2.out z hm).2;omega
     clear h77 HRS
     go_wp2_with fail
     refine H77.out.mono ?_;rintro e w3 ⟨v,rfl,rfl,h3,h4⟩;have H3:=Any.hidJ h3;have H4:=Any.hidJ h4;clear h3 h4 H77
     go_wp2
     exact ⟨⟨k+1,by omega,by go_num,H3,H4⟩,by simp [intOf];omega⟩
    ·have hke:k=z2.length:=by omega
     subst hke;have hall:z2.take z2.length=z2:=List.take_of_length_le (Nat.le_refl _);rw [hall]at HB
     go_wp2_with fail
     refine (Any.Builder_String_any {qD6 with} qz7 (w.heap.size+1) (w.heap.size+1) _ wr HB.out hN).mono ?_;rintro e w5 ⟨rfl,hb5⟩;have Hb5:Hid (Below w.heap.size w w5):=(((Below.refl w.heap.size w).alloc (Nat.le_refl _) _).trans (HW.out.mono (Nat.le_succ _))).trans (hb5.mono (Nat.le_succ _));clear hb5
     go_wp2
     go_ret
     exact ⟨rfl,Hb5.out⟩
theorem qBZ{args:List V}{r:V}(h:qzO args=some r):qan Tryz.prog 36 args [] r []:=by
 unfold qzO at h;split at h
 ·rename_i n;obtain ⟨s,hs,rfl⟩:=qc.1 h;unfold strconv_Itoa at hs;split at hs
  ·rename_i hn;cases hs;exact qD3 qE2 (λ_ _=>enters Tryz.func36 (by kernel_rfl) (by kernel_rfl) _ _) (λw X hg=>qFs hg) n hn.1 hn.2
  ·cases hs
 ·cases h
theorem qBW{args:List V}{r:V}(h:qzM args=some r):qan Tryz.prog 96 args [] r []:=by
 unfold qzM at h;split at h
 ·rename_i s;split at h
  ·rename_i hs;cases h;exact qDN qFI (λ_ _=>enters Tryz.func96 (by kernel_rfl) (by kernel_rfl) _ _) (λw X hg=>qwE hg (by simp [qy0,qoN])) (λw X hg=>qwE hg (by simp [qy0,qoN])) s hs
  ·cases h
 ·cases h
theorem qB0{args:List V}{r:V}(h:qzP args=some r):qan Tryz.prog 33 args [] r []:=by
 unfold qzP at h;split at h
 ·rename_i f c l sep;obtain ⟨xs,hxs,h⟩:=qd.1 h;obtain ⟨s,hs,rfl⟩:=qc.1 h;unfold strings_Join at hs;split at hs
  ·rename_i hc;cases hs;exact qD5 qD6 qz7 (λ_ _=>enters Tryz.func33 (by kernel_rfl) (by kernel_rfl) _ _) f c l xs sep hxs hc.1 hc.2
  ·cases hs
 ·cases h
theorem qzN{args:List V}{r:V}(h:qtm args=some r):qan Tryz.prog 85 args [] r []:=by
 unfold qtm at h;split at h
 ·split at h
  ·rename_i hs;cases h;exact qB3 qE1 (λ_ _=>enters Tryz.func85 (by kernel_rfl) (by kernel_rfl) _ _) (λw X hg=>qrG hg) _ _ hs
  ·cases h
 ·cases h
theorem qzQ{args:List V}{r:V}(h:qtn args=some r):qan Tryz.prog 37 args [] r []:=by
 unfold qtn at h;split at h
 ·split at h
  ·rename_i hs;cases h;exact qCT qE3 (by kernel_rfl) (λ_ _=>enters Tryz.func37 (by kernel_rfl) (by kernel_rfl) _ _) (λw X hg=>qrG hg) _ _ hs.1 hs.2
  ·cases h
 ·cases h
theorem qDX{args:List V}{r:V}(h:qEY args=some r):qan Tryz.prog 84 args [] r []:=by
 unfold qEY at h;split at h
 ·split at h
  ·rename_i hs;cases h;exact qEU qGb (λ_ _=>enters Tryz.func84 (by kernel_rfl) (by kernel_rfl) _ _) (λw X hg=>qrG hg) _ _ hs
  ·cases h
 ·cases h
theorem qBY{args:List V}{r:V}(h:qBX args=some r):qan Tryz.prog 134 args [] r []:=by
 unfold qBX at h;split at h
 ·rename_i s p;cases h;refine qdE (by simp [V.qq,ptrsL]) λw X vals hr hg _=>?_;obtain rfl:=qk5 hr;refine ⟨enters Tryz.func134 (by kernel_rfl) (by kernel_rfl) _ _,(Any.strings_CutPrefix qya s p w).mono ?_⟩;rintro e w' ⟨rfl,rfl⟩;exact ⟨_,rfl,λX'=>qnP (qeA _) (qeA _),Below.refl _ _⟩
 ·cases h
theorem qiu{w:World}{X:Cx}:∀{l:List V} {s:Nat} {vals:List Value} {O:List Nat} {xs:List Int},qdA l=some xs->RepE w X s l vals O->vals=xs.map λx=>.int .i64 x
 |[],s,vals,O,xs,hb,hr=>by
  simp only [qdA,qb]at hb;simp only [RepE]at hr;subst hb;exact hr.1
 |x::l,s,vals,O,xs,hb,hr=>by
  unfold qdA at hb;split at hb
  ·rename_i h;cases h
  ·rename_i n l' h;cases h;obtain ⟨xs',hb',rfl⟩:=qc.1 hb;simp only [RepE,Rep]at hr;obtain ⟨u,vs,O1,O2,rfl,hs,rfl,⟨rfl,rfl⟩,hr⟩:=hr;rw [qiu hb' hr];simp [Value.cells]
  ·cases hb
theorem ints_at{w:World}{X:Cx}(hd:Dom w X){fl:Fl}{c:Bool}{l:List V}{v:Value}{O:List Nat}{xs:List Int}(hl:qdA l=some xs)(h:Rep w X (.sl fl c l) v O):qy6 w v xs:=by
 simp only [Rep]at h;have hlen:l.length=xs.length:=by
  clear h;induction l generalizing xs with
  |nil=>simp only [qdA,qb]at hl;subst hl;rfl
  |cons x l ih =>
   unfold qdA at hl;split at hl
   ·rename_i h;cases h
   ·rename_i n l' h;cases h;obtain ⟨xs',hb',rfl⟩:=qc.1 hl;simp [ih hb']
   ·cases hl
 rcases h.2 with ⟨rfl,_,hv⟩|⟨b,off,cap,s,vs,O',rfl,hcap,_,hvl,hs0,hall,hseg,hfl,hE,_⟩
 ·simp only [qdA,qb]at hl;subst hl;rcases hv with rfl|⟨_,a,rfl⟩
  ·exact ⟨none,0,rfl,λj z hz=>by simp at hz⟩
  ·exact ⟨some a,0,rfl,λj z hz=>by simp at hz⟩
 ·have hvs:=qiu hl hE;obtain ⟨e,fz,hω,_⟩:=hfl;refine ⟨some ⟨b,off,none⟩,cap,by rw [hlen],λj z hz=>⟨b,off,rfl,hd b e fz hω,hseg j _ (by rw [hvs,List.getElem?_map,hz];rfl)⟩⟩
theorem qAx{zs:List Int}(h:qqJ zs=true):zs.length<=1099511627/\∀z∈zs,-9223372036854775808<=z/\z<=9223372036854775807:=by
 simp only [qqJ,qe,decide_eq_true_eq,List.all_eq_true]at h;exact ⟨h.1,h.2⟩
theorem qDY{args:List V}{r:V}(h:qEZ args=some r):qan Tryz.prog 32 args [] r []:=by
 unfold qEZ at h;split at h
 ·rename_i f1 c1 l f2 c2 m;obtain ⟨x,hx,h⟩:=qd.1 h;obtain ⟨y,hy,h⟩:=qd.1 h;obtain ⟨s,hs,rfl⟩:=qc.1 h;unfold q9 at hs;split at hs
  ·rename_i hc;cases hs;rw [qe]at hc;have hx1:=qAx hc.1;have hy1:=qAx hc.2;refine qdE rfl λw X vals hr hg hd=>?_;simp only [RepL]at hr;obtain ⟨u,_,O1,_,rfl,_,h1,rfl,_⟩:=hr;simp only [Rep,RepL]at h1;obtain ⟨vals,rfl,u1,vs1,O1',O2',rfl,_,h1,u2,vs2,_,_,rfl,_,h2,rfl,_⟩:=h1;refine ⟨enters Tryz.func32 (by kernel_rfl) (by kernel_rfl) _ _,(qBS u1 u2 x y w (ints_at hd hx (by simpa only [Rep]using h1)) (ints_at hd hy (by simpa only [Rep]using h2)) hx1.2 hy1.2 hx1.1 hy1.1 (qFs hg)).mono ?_⟩;rintro e w' ⟨rfl,hb⟩;exact ⟨_,rfl,λX'=>qeA _,hb⟩
  ·cases hs
 ·cases h
theorem qtQ:∀{l:List (FuncId×(List V->Option V))} {g:FuncId} {h:List V->Option V},qCc l g=some h->(g,h)∈l
 |[],_,_,h=>by cases h
 |(k,f)::l,g,h,hh=>by
  unfold qCc at hh;split at hh
  ·rename_i e;subst e;cases hh;exact List.mem_cons_self
  ·exact List.mem_cons_of_mem _ (qtQ hh)
theorem qxW:∀g h args r,Lb g=some h->h args=some r->qan Tryz.prog g args [] r []:=λg h args r hg hr=>by
 have hm:=qtQ hg;simp only [qF7,qk,Prod.mk.injEq,List.mem_nil_iff,or_false]at hm;rcases hm with ⟨rfl,rfl⟩|⟨rfl,rfl⟩|⟨rfl,rfl⟩|⟨rfl,rfl⟩|⟨rfl,rfl⟩|⟨rfl,rfl⟩|⟨rfl,rfl⟩|⟨rfl,rfl⟩|⟨rfl,rfl⟩
 ·cases args with
  |nil=>cases hr;exact qBE
  |cons a l=>cases hr
 ·exact qBZ hr
 ·exact qBW hr
 ·exact qB0 hr
 ·exact qzN hr
 ·exact qzQ hr
 ·exact qDX hr
 ·exact qBY hr
 ·exact qDY hr
end Go.Proofs.YtkmcmngpifalcaaGreatDoor
end
section
namespace Go
variable {H:Type} {enc:TypeId × Value->H}
theorem qem{a:Assume}{C:Checked}{os:Os}{f:FuncId}{fn:Func}{s:ChangeSpec}{conds:List PathCond}{apart fresh handsOn again:Bool}{X:World->Array Value->Prop}
  (hX:∀(w w':World) (args:Array Value),w.heap=w'.heap->X w args->X w' args)
  (own:ownKnob C.prog.godebug=none) (started:os.Started) (noInit:C.prog.inits.idxOf? f=none) (hfn:C.prog.funcs[f]?=some fn)
  (witness:∃(w:World) (tape:Tape) (i:Input),w.os=os/\(w.forCall tape i).Shaped C.prog/\i.vars=[]/\Input.okWide C.prog (w.forCall tape i) .any w.heap.size f i /\
   ((s.pre enc C.prog fn conds apart (w.forCall tape i).memory i.args/\X (w.forCall tape i).memory i.args)/\sizedMet enc C.prog fn (OpenSpec.ofChange s) apart (w.forCall tape i).memory i.args)/\a.holds C.prog (lone (Frame.enter C.prog f i.args .normal) [] (w.forCall tape i)))
  (contract:∀(W:World) (base:Nat) (args:Array Value) (ds gs:List (DataW H)) (before:List MemPlace),
   (∀(j:Nat) t v,fn.params[j]?=some t->args[j]?=some v->Value.okWide C.prog W .any base t v) ->
   DataW.Whole enc C.prog fn.params.toList s.vars apart W args.toList ds gs before ->
   W.ShapedOpen C.prog->X W args ->
   Calls C.prog f args W λe W'=>∃v,e=.returned v/\s.post enc C.prog fn apart fresh handsOn again W args v W') :
  ReturnsInHanded a C os f .any (λw args=>(s.pre enc C.prog fn conds apart w args/\X w args)/\sizedMet enc C.prog fn (OpenSpec.ofChange s) apart w args) (s.post enc C.prog fn apart fresh handsOn again):=by
 refine returnsInHanded_of_calls own started noInit witness ?_;intro w tape i _ hsh _ hok hpre hholds;obtain ⟨_,_,_,fn',hfn',_,_,_,_,hval⟩:=hok;have e:fn'=fn:=Option.some.inj (hfn'.symm.trans hfn);subst e;obtain ⟨⟨⟨ds,gs,before,hw,hc⟩,hx⟩,hz⟩:=hpre;have hw':=DataW.Whole.of_heap (w':=w.forCall tape i) (by rfl) hw;refine (contract (w.forCall tape i) w.heap.size i.args ds gs before hval hw' hsh (hX _ _ _ (by rfl) hx)).mono λe W' ⟨v,he,hp⟩=>?_;subst he;exact ChangeSpec.post_blind hp
end Go
namespace Go.Proofs.YtkmcmngpifalcaaGreatDoor
open Go Go.Ab Go.Tx Go.ChangeShapes Go.WideShapes Go.ChangeAt Go.WideMaps Go.WideElems Go.RowKit
def qnd : List (String × DataW Unit) := [("math/bits.deBruijn32tab", Rows.laid_math_bits_deBruijn32tab), ("math/bits.deBruijn64tab", Rows.laid_math_bits_deBruijn64tab), ("internal/strconv.uint64pow10", Rows.laid_internal_strconv_uint64pow10), ("unicode/utf8.acceptRanges", Rows.laid_unicode_utf8_acceptRanges), ("strconv.ErrRange", Rows.laid_strconv_ErrRange), ("strconv.ErrSyntax", Rows.laid_strconv_ErrSyntax), ("unicode/utf8.first", Rows.laid_unicode_utf8_first)]
theorem g1 : Tryz.prog.globalNamed "internal/strconv.uint64pow10" = some 1 := by kernel_rfl
theorem g2 : Tryz.prog.globalNamed "strconv.ErrSyntax" = some 4 := by kernel_rfl
theorem g3 : Tryz.prog.globalNamed "strconv.ErrRange" = some 5 := by kernel_rfl
theorem star : "*" ++ "errors.errorString" = "*errors.errorString" := by decide
theorem qDA (u : TypeId) (h : Tryz.prog.typeName? 3 u = some "*errors.errorString") : u = 276 :=
 typeName_ptr_named (nm := "errors.errorString") (by rw [star]; kernel_rfl) (by kernel_rfl) (by decide) u (by rw [star]; exact h)
theorem glE{W:World}{b n:Nat}{c:Array Value}{P:Program}{nm:String}(hg:P.globalNamed nm=some b)(h:W.var? P nm=some c):∃t fr,W.heap[b]?=some (.cells c t fr):=by
 simp only [World.var?,hg,qa]at h;cases hb:W.heap[b]? with
 |none=>rw [hb]at h;cases h
 |some o =>
  cases o with
  |cells a t fr=>rw [hb]at h;simp only [qb]at h;subst h;exact ⟨t,fr,rfl⟩
  |_=>rw [hb]at h;cases h
theorem glC{W:World}{b:Nat}{v:Value}(h:W.cell? ⟨b,0,none⟩=some v):∃c t fr,W.heap[b]?=some (.cells c t fr)/\c[0]?=some v:=by
 simp only [World.cell?]at h;cases hb:W.heap[b]? with
 |none=>rw [hb]at h;cases h
 |some o =>
  cases o with
  |cells a t fr=>rw [hb]at h;exact ⟨a,t,fr,rfl,h⟩
  |_=>rw [hb]at h;cases h
theorem qyd{W:World}(h:laidMetH Tryz.prog qnd W):laidMet Tryz.prog qnd W:=by
 rwa [MakeChecks.laidMetH_plain _ _ _ (by kernel_rfl)]at h
set_option maxRecDepth 100000 in
theorem qF2 {W : World} (h : laidMet Tryz.prog qnd W) : Lib.TabIs Tryz.prog W "internal/strconv.uint64pow10" .u64 Lib.pow10Tab :=
 Lib.tabIs_of_head (t := 258) (e := 229) (n := 20) (rest := qnd.drop 3) g1 (by kernel_rfl) Tryz.underlying258 Tryz.underlying229 (by kernel_rfl) (by kernel_rfl) (show laidMet Tryz.prog (("internal/strconv.uint64pow10", Lib.tabData .u64 Lib.pow10Tab) :: qnd.drop 3) W from h.tail.tail)
theorem qBO {W : World} (h : laidMet Tryz.prog qnd W) : ∃ a, W.var? Tryz.prog "strconv.ErrRange" = some #[.iface 276 (.pointer (some a))] := by
 obtain ⟨a,s,hv,-,-,-⟩:=laid_sentinel h.tail.tail.tail.tail g3 (show (Tryz.prog.globals[5]?).map (·.type)=some 143 by kernel_rfl) Tryz.underlying143 qDA Tryz.underlying276 Tryz.underlying278 rfl rfl Tryz.underlying9 (by kernel_rfl) (by kernel_rfl);exact ⟨a,hv⟩
theorem qzD {W : World} (h : laidMet Tryz.prog qnd W) : ∃ a, W.var? Tryz.prog "strconv.ErrSyntax" = some #[.iface 276 (.pointer (some a))] := by
 obtain ⟨a,s,hv,-,-,-⟩:=laid_sentinel h.tail.tail.tail.tail.tail g2 (show (Tryz.prog.globals[4]?).map (·.type)=some 143 by kernel_rfl) Tryz.underlying143 qDA Tryz.underlying276 Tryz.underlying278 rfl rfl Tryz.underlying9 (by kernel_rfl) (by kernel_rfl);exact ⟨a,hv⟩
theorem qyi{W:World}(h:W.ShapedOpen Tryz.prog):∃m,W.cell? ⟨0,0,none⟩=some (.int .i64 m):=by
 have hr:((begin Tryz.prog (λ_ _=>0) default).world.heap[0]?).bind Obj.row?=some (#[.int .i64 0],3):=by kernel_rfl
 exact cell_of_shapedOpen_int (t:=3) (zero:=#[.int .i64 0]) h (of_decide_eq_true (by kernel_rfl)) hr rfl (by kernel_rfl) (by kernel_rfl) Tryz.underlying3
theorem qDW{W:World}(hs:W.ShapedOpen Tryz.prog)(hL:laidMetH Tryz.prog qnd W):qhi W (cx0 W):=by
 have h:=qyd hL;obtain ⟨m,hm⟩:=qyi hs;obtain ⟨a3,h3⟩:=qBO h;obtain ⟨a2,h2⟩:=qzD h;have h1:=qF2 h;unfold Lib.TabIs at h1;intro x hx;simp only [qy0,qk,List.mem_nil_iff,or_false]at hx;have om:∀{b:Nat} {c:Array Value} {t:TypeId} {fr:Nat×Nat},W.heap[b]?=some (.cells c t fr)->∃e,(cx0 W).ω b=some (e,true):=λ{b c t fr} hb=>⟨c.size,by simp [cx0,hb]⟩
 rcases hx with rfl|rfl|rfl|rfl
 ·obtain ⟨c,t,fr,hb,hc⟩:=glC hm;exact ⟨om hb,c,t,fr,hb,m,hc⟩
 ·obtain ⟨t,fr,hb⟩:=glE (n:=0) g1 h1;exact ⟨om hb,_,t,fr,hb,rfl⟩
 ·obtain ⟨t,fr,hb⟩:=glE (n:=0) g2 h2;exact ⟨om hb,_,t,fr,hb,_,rfl,Or.inr ⟨_,_,rfl⟩⟩
 ·obtain ⟨t,fr,hb⟩:=glE (n:=0) g3 h3;exact ⟨om hb,_,t,fr,hb,_,rfl,Or.inr ⟨_,_,rfl⟩⟩
end Go.Proofs.YtkmcmngpifalcaaGreatDoor
end
section
namespace Go.Tx
open Go
section
theorem qmv{n:Int}(h1 : -9223372036854775808<=n)(h2:n<=9223372036854775807):IntKind.wrap .i64 n=n:=by
 rw [IntKind.wrap_i64];omega
theorem qQ{α:Type}{l:List α}{i:Nat}{a:α}(h:l[i]?=some a):idx l (i:Int)=some a:=by simp [idx,h]
theorem qd9{α:Type}{l l2:List α}(h:l.length+l2.length<=4294967296):app l l2=some (l++l2):=by simp [app,h]
section
variable {σ ρ:Type} {f:σ->Option (σ ⊕ ρ)}
theorem qlZ:∀{n m:Nat} {s:σ} {r:ρ},qdi f n s=some r->n<=m->qdi f m s=some r
 |0,m,s,r,h,_=>by simp [qdi]at h
 |n+1,0,s,r,h,hm=>by omega
 |n+1,m+1,s,r,h,hm=>by
  simp only [qdi]at h ⊢;cases hf:f s with
  |none=>rw [hf]at h;cases h
  |some x =>
   rw [hf]at h;cases x with
   |inl s'=>exact qlZ h (by omega)
   |inr r'=>exact h
theorem qkQ{n:Nat}{s:σ}{r:ρ}(h:qdi f n s=some r):qA f s=some r:=by
 have hex:∃n r,qdi f n s=some r:=⟨n,r,h⟩
 cases hl:qA f s with
 |none=>exfalso;unfold qA at hl;rw [dif_pos hex]at hl;cases hl
 |some r' =>
  obtain ⟨m,hm⟩:=qiy hl;have h1:=qlZ h (Nat.le_max_left n m);have h2:=qlZ hm (Nat.le_max_right n m);rw [<- h1,<- h2]
theorem qoR{s s':σ}(h:f s=some (.inl s')):qA f s=qA f s':=by
 cases hl:qA f s' with
 |some r =>
  obtain ⟨n,hn⟩:=qiy hl;exact qkQ (n:=n+1) (by simp [qdi,h,hn])
 |none =>
  cases hl2:qA f s with
  |none=>rfl
  |some r =>
   obtain ⟨n,hn⟩:=qiy hl2;cases n with
   |zero=>simp [qdi]at hn
   |succ n =>
    simp only [qdi,h]at hn;rw [qkQ hn]at hl;cases hl
theorem qgd{s:σ}{r:ρ}(h:f s=some (.inr r)):qA f s=some r:=qkQ (n:=1) (by simp [qdi,h])
theorem qCd(n:Nat)(I:Nat->σ->Prop)(Q:ρ->Prop)
  (hs:∀i s,i<=n->I i s->(∃s',f s=some (.inl s')/\i<n/\I (i+1) s')\/(∃r,f s=some (.inr r)/\Q r)) {s:σ} (h0:I 0 s):∃r,qA f s=some r/\Q r:=by
 have h:∀k i s,n-i=k->i<=n->I i s->∃r,qA f s=some r/\Q r:=by
  intro k;induction k with
  |zero =>
   intro i s hk hi hI;rcases hs i s hi hI with ⟨s',_,h,_⟩|⟨r,h,hq⟩
   ·omega
   ·exact ⟨r,qgd h,hq⟩
  |succ k ih =>
   intro i s hk hi hI;rcases hs i s hi hI with ⟨s',h,hlt,hI'⟩|⟨r,h,hq⟩
   ·obtain ⟨r,hr,hq⟩:=ih (i+1) s' (by omega) (by omega) hI';exact ⟨r,by rw [qoR h,hr],hq⟩
   ·exact ⟨r,qgd h,hq⟩
 exact h n 0 s (by omega) (by omega) h0
end
def qaX{α ρ:Type}(g:Nat->α->Option ρ):Nat->List α->Option ρ
 |_,[]=>none
 |k,a::l=>match g k a with
  |some r=>some r
  |none=>qaX g (k+1) l
def qC5{ρ:Type}:Option ρ->Unit⊕ρ
 |some r=>.inr r
 |none=>.inl ()
def stp{ρ:Type}(i:Nat):Option ρ->Int⊕(Unit⊕ρ)
 |some r=>.inr (.inr r)
 |none=>.inl ((i:Int)+1)
theorem qAe{α ρ:Type}(l:List α){f:Int->Option (Int⊕(Unit⊕ρ))}(g:Nat->α->Option ρ)
  (h:∀(i:Nat) (a:α),l[i]?=some a->f i=some (stp i (g i a)))
  (he:f l.length=some (.inr (.inl ()))):qA f 0=some (qC5 (qaX g 0 l)):=by
 have key:∀(l2 l1:List α),l1++l2=l->qA f (l1.length:Nat)=some (qC5 (qaX g l1.length l2)):=by
  intro l2;induction l2 with
  |nil =>
   intro l1 e;have:l1=l:=by simpa using e
   subst this;rw [qgd he];rfl
  |cons a l2 ih =>
   intro l1 e;have hi:l[l1.length]?=some a:=by rw [<- e];simp
   have hf:=h _ _ hi;simp only [qaX];cases hg:g l1.length a with
   |some r=>rw [hg]at hf;rw [qgd hf];rfl
   |none =>
    rw [hg]at hf;rw [qoR hf];have:=ih (l1++[a]) (by simp [e]);simpa using this
 simpa using key l [] rfl
end
section
def Ok{α:Type}(o:Option α)(Q:α->Prop):Prop:=∃a,o=some a/\Q a
section
variable {α β σ ρ τ:Type}
theorem qfZ{a:α}{Q:α->Prop}:Ok (some a) Q↔Q a:=⟨λ⟨_,h,hq⟩=>by cases h;exact hq,λh=>⟨a,rfl,h⟩⟩
theorem ok_none{Q:α->Prop}:Ok (none:Option α) Q↔False:=⟨λ⟨_,h,_⟩=>(by cases h),λh=>h.elim⟩
theorem ok_eq{o:Option α}{a:α}:Ok o (λr=>r=a)↔o=some a:=⟨λ⟨_,h,hq⟩=>by rw [h,hq],λh=>⟨a,h,rfl⟩⟩
theorem Ok.eq{o:Option α}{a:α}(h:Ok o (λr=>r=a)):o=some a:=ok_eq.1 h
theorem Ok.mono{o:Option α}{P Q:α->Prop}(h:Ok o P)(hq:∀a,P a->Q a):Ok o Q:=by obtain ⟨a,h1,h2⟩:=h;exact ⟨a,h1,hq a h2⟩
theorem Ok.bind{o:Option α}{k:α->Option β}{P:α->Prop}{Q:β->Prop}(h:Ok o P)(hk:∀a,P a->Ok (k a) Q):Ok (o.bind k) Q:=by
 obtain ⟨a,h1,h2⟩:=h;rw [h1];exact hk a h2
theorem qAv{o:Option α}{k:α->Option β}{Q:β->Prop}:Ok (o.bind k) Q↔Ok o λa=>Ok (k a) Q:=by
 cases o with
 |none=>simp [ok_none]
 |some a=>simp [qfZ]
theorem qzg{l l2:List α}(h:l.length+l2.length<=4294967296):app l l2=some (l++l2):=qd9 h
theorem qaf{l:List α}{a:α}(h:l.length<=4294967295):app l [a]=some (l++[a]):=qd9 (by simp;omega)
theorem quX{l2:List α}(h:l2.length<=4294967296):app [] l2=some l2:=by rw [qd9 (by simpa using h)];rfl
theorem qq4{l:List α}{a b:Int}(h:0<=a/\a<=b/\b<=l.length):slc l a b=some ((l.take b.toNat).drop a.toNat):=by unfold slc;rw [if_pos h]
def Rnd(o:Option (σ⊕ρ))(I:σ->Prop)(Q:ρ->Prop):Prop:=Ok o λx=>match x with
 |.inl s=>I s
 |.inr r=>Q r
theorem qaZ{s:σ}{I:σ->Prop}{Q:ρ->Prop}:Rnd (some (.inl s)) I Q↔I s:=qfZ
theorem qag{r:ρ}{I:σ->Prop}{Q:ρ->Prop}:Rnd (some (.inr r):Option (σ⊕ρ)) I Q↔Q r:=qfZ
theorem qoS{f:σ->Option (σ⊕ρ)}(μ:σ->Nat)(I:σ->Prop)(Q:ρ->Prop){s:σ}(h0:I s)
  (hs:∀s,I s->Rnd (f s) (λs'=>I s'/\μ s'<μ s) Q):Ok (qA f s) Q:=by
 have key:∀n s,μ s<=n->I s->Ok (qA f s) Q:=by
  intro n;induction n with
  |zero =>
   intro s hn hI;obtain ⟨x,hx,h⟩:=hs s hI;cases x with
   |inl s'=>exact absurd h.2 (by omega)
   |inr r=>exact ⟨r,qgd hx,h⟩
  |succ n ih =>
   intro s hn hI;obtain ⟨x,hx,h⟩:=hs s hI;cases x with
   |inl s'=>rw [qoR hx];exact ih s' (by have:=h.2;omega) h.1
   |inr r=>exact ⟨r,qgd hx,h⟩
 exact key _ s (Nat.le_refl _) h0
theorem qc0{f:σ->Option (σ⊕ρ)}(n:Nat)(I:Nat->σ->Prop)(Q:ρ->Prop){s:σ}(h0:I 0 s)
  (hs:∀i s,i<=n->I i s->Rnd (f s) (λs'=>i<n/\I (i+1) s') Q):Ok (qA f s) Q:=by
 obtain ⟨r,h1,h2⟩:=qCd n I Q (λi s hi hI=>by
  obtain ⟨x,hx,h⟩:=hs i s hi hI;cases x with
  |inl s'=>exact .inl ⟨s',hx,h⟩
  |inr r=>exact .inr ⟨r,hx,h⟩) h0
 exact ⟨r,h1,h2⟩
theorem qAw{o:Option (α⊕β)}{k:α->Option β}{Q:β->Prop}:Ok (o.bind (Sum.elim k some)) Q↔Ok o λx=>match x with
  |.inl a=>Ok (k a) Q
  |.inr b=>Q b:=by
 rw [qAv];cases o with
 |none=>simp [ok_none]
 |some x=>cases x<;>simp [qfZ]
end
theorem qCH{α σ ρ:Type}{o:Option (α⊕(σ⊕ρ))}{k:α->Option (σ⊕ρ)}{I:σ->Prop}{Q:ρ->Prop}:Rnd (o.bind (Sum.elim k some)) I Q↔Ok o λx=>match x with
  |.inl a=>Rnd (k a) I Q
  |.inr b=>match b with
   |.inl s=>I s
   |.inr r=>Q r:=by
 cases o with
 |none=>simp [Rnd,ok_none]
 |some x=>cases x with
  |inl a=>simp only [qa,Sum.elim_inl,qfZ]
  |inr b=>simp only [qa,Sum.elim_inr,qfZ];unfold Rnd;rw [qfZ]
theorem getD_at{α:Type}{l:List α}{i:Nat}{a d:α}(h:l[i]?=some a):l.getD i d=a:=by simp [h]
theorem qbw{α:Type}{l:List α}{i:Nat}(d:α)(h:i<l.length):l.take (i+1)=l.take i++[l.getD i d]:=by
 rw [List.take_add_one];simp [h]
end
section
section
variable {α β ρ τ:Type}
theorem qY{l:List α}{i:Nat}{a:α}(h:l[i]?=some a):i<l.length:=(qm.1 h).1
theorem qap(l:List α)(K:Int->Option (Int⊕(Unit⊕ρ)))(g:Nat->α->Option ρ)(h:∀(i:Nat) (a:α),l[i]?=some a->K i=some (stp i (g i a))) :
  qA (λs=>bif decide (s<(l.length:Int))then K s else some (.inr (.inl ()))) 0=some (qC5 (qaX g 0 l)):=by
 refine qAe l g (λi a hi=>?_) ?_
 ·have:=qY hi;have e:decide ((i:Int)<(l.length:Int))=true:=by simp<;>omega
  simp only [e,cond_true];exact h i a hi
 ·simp
theorem qZ{o:Option ρ}{k:Unit->Option ρ}:(some (qC5 o)).bind (Sum.elim k some)=(match o with
  |some r=>some r
  |none=>k ()):=by cases o<;>rfl
theorem qay{g:Nat->α->Option ρ}:∀{l:List α} {k:Nat},qaX g k l=none↔∀i a,l[i]?=some a->g (k+i) a=none
 |[],k=>by simp [qaX]
 |a::l,k=>by
  simp only [qaX];cases hg:g k a with
  |some r =>
   simp only [reduceCtorEq,false_iff];intro h;have:=h 0 a rfl;simp [hg]at this
  |none =>
   simp only
   rw [qay (l:=l) (k:=k+1)];constructor
   ·intro h i b hb;cases i with
    |zero=>simp at hb;subst hb;simpa using hg
    |succ i=>have:=h i b (by simpa using hb);rw [<- this];congr 1;omega
   ·intro h i b hb;have:=h (i+1) b (by simpa using hb);rw [<- this];congr 1;omega
theorem qaT{g:Nat->α->Option ρ}{r:ρ}:∀{l:List α} {k:Nat},qaX g k l=some r->∃i a,l[i]?=some a/\g (k+i) a=some r/\∀j b,j<i->l[j]?=some b->g (k+j) b=none
 |[],k,h=>by simp [qaX]at h
 |a::l,k,h=>by
  simp only [qaX]at h;cases hg:g k a with
  |some r' =>
   rw [hg]at h;simp only [qb]at h;subst h;exact ⟨0,a,rfl,by simpa using hg,λj b hj=>by omega⟩
  |none =>
   rw [hg]at h;obtain ⟨i,b,h1,h2,h3⟩:=qaT (l:=l) (k:=k+1) h;refine ⟨i+1,b,by simpa using h1,by rw [<- h2];congr 1;omega,λj c hj hc=>?_⟩;cases j with
   |zero=>simp at hc;subst hc;simpa using hg
   |succ j=>have:=h3 j c (by omega) (by simpa using hc);rw [<- this];congr 1;omega
theorem qDV(l:List α)(p:α->Bool)(hl:l.length<=1000000000) :
  Ok ((qA (λ(s2:Int) =>
   bif decide (s2<(l.length:Int))then
    (idx l s2).bind λx3 =>
    bif p x3 then
     some (.inr (.inr s2))
    else
     some (.inl (IntKind.wrap .i64 (s2+1)))
   else
    some (.inr (.inl ()))) 0).bind (Sum.elim (λ(p5:Unit) =>
  some (-1)) some)) λr=>decide (r>=0)=l.any p:=by
 rw [qap l _ (λi a=>if p a then some (i:Int)else none) (λi a hi=>by
  have:=qY hi;rw [qQ hi];simp only [qa];cases hp:p a
  ·simp only [cond_false,qf,if_false,stp];rw [qmv (by omega) (by omega)]
  ·simp [stp]),qZ]
 cases hf:qaX (λi a=>if p a then some (i:Int)else none) 0 l with
 |none =>
  rw [qay]at hf;have:l.any p=false:=by
   rw [List.any_eq_false];intro x hx;obtain ⟨i,hi⟩:=List.mem_iff_getElem?.1 hx;have:=hf i x hi;simpa using this
  exact ⟨_,rfl,by rw [this];rfl⟩
 |some r =>
  obtain ⟨i,a,h1,h2,_⟩:=qaT hf;have hp:p a=true:=by
   cases hp:p a
   ·simp [hp]at h2
   ·rfl
  have:l.any p=true:=List.any_eq_true.2 ⟨a,List.mem_of_getElem? h1,hp⟩;simp only [hp,if_true,qb]at h2;exact ⟨_,rfl,by rw [this];simp;omega⟩
theorem qDU(l:List α)(pf:α->Option Bool)(p:α->Bool)(h:∀x∈l,pf x=some (p x))(hl:l.length<=1000000000) :
  ((qA (λ(s2:Int) =>
   bif decide (s2<(l.length:Int))then
    (idx l s2).bind λx3 =>
    (pf x3).bind λx4 =>
    bif x4 then
     some (.inr (.inr s2))
    else
     some (.inl (IntKind.wrap .i64 (s2+1)))
   else
    some (.inr (.inl ()))) 0).bind (Sum.elim (λ(p5:Unit) =>
  some (-1)) some)).bind (λx1=>some (decide (x1>=0)))=some (l.any p):=by
 rw [qap l _ (λi a=>if p a then some (i:Int)else none) (λi a hi=>by
  have:=qY hi;rw [qQ hi];simp only [qa];rw [h a (List.mem_of_getElem? hi)];simp only [qa];cases hp:p a
  ·simp only [cond_false,qf,if_false,stp];rw [qmv (by omega) (by omega)]
  ·simp [stp]),qZ]
 cases hf:qaX (λi a=>if p a then some (i:Int)else none) 0 l with
 |none =>
  rw [qay]at hf;have:l.any p=false:=by
   rw [List.any_eq_false];intro x hx;obtain ⟨i,hi⟩:=List.mem_iff_getElem?.1 hx;have:=hf i x hi;simpa using this
  rw [this];rfl
 |some r =>
  obtain ⟨i,a,h1,h2,_⟩:=qaT hf;have hp:p a=true:=by
   cases hp:p a
   ·simp [hp]at h2
   ·rfl
  have:l.any p=true:=List.any_eq_true.2 ⟨a,List.mem_of_getElem? h1,hp⟩;rw [this];simp only [hp,if_true,qb]at h2;simp only [qa];have:decide (r>=0)=true:=by simp<;>omega
  rw [this]
def qjc:List Int->Int
 |[]=>0
 |e::l=>if e=0 then qjc l else e
theorem qqj:∀(l:List Int) (k:Nat),qaX (λ_ e=>if e=0 then none else some e) k l=if qjc l=0 then none else some (qjc l)
 |[],k=>rfl
 |e::l,k=>by
  simp only [qaX,qjc];by_cases h:e=0
  ·simp only [h,if_true];exact qqj l (k+1)
  ·simp [h]
theorem qzK(l:List Int)(hl:l.length<=1000000000) :
  (qA (λ(s2:Int) =>
   bif decide (s2<(l.length:Int))then
    (idx l s2).bind λx3 =>
    bif !(decide (x3=0))then
     some (.inr (.inr x3))
    else
     some (.inl (IntKind.wrap .i64 (s2+1)))
   else
    some (.inr (.inl ()))) 0).bind (Sum.elim (λ(p4:Unit)=>some 0) some)=some (qjc l):=by
 rw [qap l _ (λ_ e=>if e=0 then none else some e) (λi a hi=>by
  have:=qY hi;rw [qQ hi];simp only [qa];by_cases h:a=0
  ·simp only [h,decide_true,Bool.not_true,cond_false,if_true,stp];rw [qmv (by omega) (by omega)]
  ·simp [h,stp]),qZ,qqj]
 by_cases h:qjc l=0
 ·simp [h]
 ·simp [h]
def qaE(g:Nat->α->Int):Nat->List α->Int×Int
 |_,[]=>(0,0)
 |k,a::l=>if g k a=0 then qaE g (k+1) l else ((k:Int),g k a)
theorem qe0(g:Nat->α->Int):∀(l:List α) (k:Nat),(match qaX (λi a=>if g i a=0 then none else some ((i:Int),g i a)) k l with
  |some r=>some r
  |none=>some (0,0))=some (qaE g k l)
 |[],k=>rfl
 |a::l,k=>by
  simp only [qaX,qaE];by_cases h:g k a=0
  ·simp only [h,if_true];exact qe0 g l (k+1)
  ·simp [h]
theorem qBT(l:List α)(cb:Int->α->Option Int)(g:Nat->α->Int)(h:∀(i:Nat) a,l[i]?=some a->cb i a=some (g i a))(hl:l.length<=1000000000) :
  (qA (λ(s2:Int) =>
   bif decide (s2<(l.length:Int))then
    (idx l s2).bind λx3 =>
    (cb s2 x3).bind λx4 =>
    bif !(decide (x4=0))then
     some (.inr (.inr (s2,x4)))
    else
     some (.inl (IntKind.wrap .i64 (s2+1)))
   else
    some (.inr (.inl ()))) 0).bind (Sum.elim (λ(p5:Unit) =>
  some (0,0)) some)=some (qaE g 0 l):=by
 rw [qap l _ (λi a=>if g i a=0 then none else some ((i:Int),g i a)) (λi a hi=>by
  have:=qY hi;rw [qQ hi];simp only [qa];rw [h i a hi];simp only [qa];by_cases h:g i a=0
  ·simp only [h,decide_true,Bool.not_true,cond_false,if_true,stp];rw [qmv (by omega) (by omega)]
  ·simp [h,stp]),qZ,<- qe0 g l 0]
 cases qaX (λi a=>if g i a=0 then none else some ((i:Int),g i a)) 0 l<;>rfl
theorem qf6{g:Nat->α->Int}:∀{l:List α} {k:Nat},(qaE g k l).2=0↔∀i a,l[i]?=some a->g (k+i) a=0
 |[],k=>by simp [qaE]
 |a::l,k=>by
  simp only [qaE];by_cases h:g k a=0
  ·rw [if_pos h,qf6];constructor
   ·intro hh i b hb;cases i with
    |zero=>simp at hb;subst hb;simpa using h
    |succ i=>have:=hh i b (by simpa using hb);rw [<- this];congr 1;omega
   ·intro hh i b hb;have:=hh (i+1) b (by simpa using hb);rw [<- this];congr 1;omega
  ·rw [if_neg h];constructor
   ·intro hh;exact absurd hh h
   ·intro hh;exact absurd (by simpa using hh 0 a rfl) h
end
end

section
section
variable {α:Type}
end
end
section
section
variable {α β:Type}
theorem qrC{K:List β×Int->Option ((List β×Int)⊕List β)}(l:List α)(f:α->β)
  (h:∀(i:Nat) a out,l[i]?=some a->out.length=i->K (out,(i:Int))=some (.inl (out++[f a],(i:Int)+1))) (he:∀out,out.length=l.length->K (out,(l.length:Int))=some (.inr out)):qA K ([],0)=some (l.map f):=by
 refine Ok.eq (qc0 l.length (λi (s:List β×Int)=>s=((l.take i).map f,(i:Int))) (λr=>r=l.map f) (by simp) ?_);rintro i s hi rfl;by_cases hlt:i<l.length
 ·have ha:l[i]?=some l[i]:=by simp [hlt]
  rw [h i _ _ ha (by simp;omega),qaZ];refine ⟨hlt,?_⟩;have e:(l.take (i+1)).map f=(l.take i).map f++[f l[i]]:=by rw [List.take_add_one,ha];simp only [List.map_append,Option.toList_some,qh,List.map_nil]
  rw [e];rfl
 ·have:i=l.length:=by omega
  subst this;rw [he _ (by simp),qag];simp
end
end
end Go.Tx
end
section
namespace Go.Proofs.YtkmcmngpifalcaaGreatDoor
open Go Go.Ab Go.Tx
section
set_option maxRecDepth 100000
noncomputable section
abbrev yy2 : Type := List ((List UInt8)×(List Int)×(List Int)×(List Int)×(List Int)×Unit)
abbrev yt3 : Ty := .pair (.sl I) (.pair (.sl I) .unit)
abbrev yy4 : Type := List (List UInt8)
abbrev yy5 : Type := (List Int)×(List Int)×Unit
abbrev yt6 : Ty := .sl (.pair .str (.pair (.sl .str) (.pair I .unit)))
abbrev yy7 : Type := List ((List UInt8)×yy4×Int×Unit)
abbrev yy9 : Type := (List UInt8)×Int
abbrev yy10 : Type := Bool×(List Int)×(List UInt8)
abbrev yy11 : Type := Bool×yy4×yy2×(List yy5)
abbrev yy12 : Type := Int×yy4×yy2×(List yy5)
abbrev yt1 : Ty := .sl (.pair .str (.pair (.sl I) (.pair (.sl I) yt3)))
abbrev yt8 : Ty := .pair (.sl .str) (.pair yt1 (.pair (.sl yt3) .unit))
def KT(e:Entry)(j:TH)(l:List Entry)(n:Nat):Prop:=∀x:denP e.ps,fnT Tryz.prog Hn.hints j (qp1 l) n e.g (qcI e.ps x) e.rs=e.F x
abbrev OT(e:Entry):Prop:=qav Tryz.prog Hn.hints Lb e
theorem entK{e:Entry}{j:TH}{l:List Entry}{n:Nat}(h:TOk Tryz.prog Hn.hints Lb (qp1 l))(hj:∀g,j.lib g=false->Lb g=none)(k:KT e j l n):OT e:=qde h hj n e.g e.ps e.rs e.F k
def qdK(a0:yy5):Option Bool :=
 (bif decide ((a0.1.length:Int)<=10)then
   some (decide ((a0.2.1.length:Int)<=10))
  else
   some false).bind λ(p1:Bool) =>
 some p1
def qgA:Entry:=⟨31,[.ty yt3],[(.bool,0)],λx=>qdK x⟩
def qrQ:TH:=qcd [([],31,.region 1,{lv:=[⟨none,2,0⟩],ps:=[(.bool,0)],D:=⟨8188⟩,rs:=[⟨0,1⟩],Dn:=⟨7924⟩})] []
theorem qrW:KT qgA qrQ [] 40:=λx=>by kernel_rfl
theorem qr8:OT qgA:=entK qx hJ qrW
def qkO(a0:(yy4×yy2×(List yy5)×Unit)):Option Bool :=
 (bif decide ((a0.1.length:Int) > 10)then
   some true
  else
   bif decide ((a0.2.1.length:Int) > 12)then
    some true
   else
    some (decide ((a0.2.2.1.length:Int) > 6))).bind λ(p1:Bool) =>
 bif p1 then
  some false
 else
  (qA (λ(s3:Int) =>
    bif decide (s3<(a0.1.length:Int))then
     (idx a0.1 s3).bind λx4 =>
     bif decide ((x4.length:Int) > 30)then
      some (.inr (.inr false))
     else
      some (.inl (w64 (s3+1)))
    else
     some (.inr (.inl ()))) 0).bind (Sum.elim (λ(p5:Unit) =>
  (qA (λ(s7:Int) =>
    bif decide (s7<(a0.2.1.length:Int))then
     ((idx a0.2.1 s7).bind λx8 =>
      bif decide ((x8.1.length:Int) > 30)then
       some true
      else
       (idx a0.2.1 s7).bind λx9 =>
       (qdK (x9.2.1,x9.2.2.1,())).bind λx10 =>
       bif !x10 then
        some true
       else
        (idx a0.2.1 s7).bind λx11 =>
        (qdK (x11.2.2.2.1,x11.2.2.2.2.1,())).bind λx12 =>
        some (!x12)).bind λ(p13:Bool) =>
     bif p13 then
      some (.inr (.inr false))
     else
      some (.inl (w64 (s7+1)))
    else
     some (.inr (.inl ()))) 0).bind (Sum.elim (λ(p14:Unit) =>
  (qA (λ(s16:Int) =>
    bif decide (s16<(a0.2.2.1.length:Int))then
     (idx a0.2.2.1 s16).bind λx17 =>
     (qdK x17).bind λx18 =>
     bif !x18 then
      some (.inr (.inr false))
     else
      some (.inl (w64 (s16+1)))
    else
     some (.inr (.inl ()))) 0).bind (Sum.elim (λ(p19:Unit) =>
  some true) some)) some)) some)
def qjw:Entry:=⟨5,[.ty yt8],[(.bool,0)],λx=>qkO x⟩
def qvt:TH:=qcd [([],5,.region 1,{lv:=[⟨none,21,0⟩],ps:=[(.bool,0)],D:=⟨4194240⟩,rs:=[⟨0,1⟩],Dn:=⟨4061056⟩}),
 ([],5,.block 0,{lv:=[],ps:=[],abn:=true,D:=⟨68715282440⟩,rs:=[⟨0,1⟩],Dn:=⟨68706893832⟩}),
 ([],5,.loop 0,{lv:=[⟨none,3,0⟩],ps:=[(I,0)],D:=⟨68715282440⟩,rs:=[⟨0,1⟩],Dn:=⟨68170022920⟩}),
 ([],5,.block 2,{lv:=[],ps:=[],abn:=true,D:=⟨2361183241366103130128⟩,rs:=[⟨0,1⟩],Dn:=⟨2361183241228664176656⟩}),
 ([],5,.loop 2,{lv:=[⟨none,4,0⟩],ps:=[(I,0)],D:=⟨2361183241366103130128⟩,rs:=[⟨0,1⟩],Dn:=⟨2356567042814516396048⟩}),
 ([],5,.region 11,{lv:=[⟨none,70,0⟩],ps:=[(.bool,0)],D:=⟨2361183232638729584640⟩,rs:=[⟨0,1⟩],Dn:=⟨2356567034224581804032⟩}),
 ([],5,.block 4,{lv:=[],ps:=[],abn:=true,D:=⟨38683265044426698767990816⟩,rs:=[⟨0,1⟩],Dn:=⟨38678542677943829122777120⟩}),
 ([],5,.loop 4,{lv:=[⟨none,5,0⟩],ps:=[(I,0)],D:=⟨38683265044426698767990816⟩,rs:=[⟨0,1⟩],Dn:=⟨38376311223040171829100576⟩})] []
theorem qvx:KT qjw qvt [qgA] 40:=λx=>by kernel_rfl
theorem qvF:OT qjw:=entK (qn qr8 qx) hJ qvx
def qdX(a0:yy7):Option Bool :=
 bif decide ((a0.length:Int) > 8)then
  some false
 else
  (qA (λ(s2:Int) =>
    bif decide (s2<(a0.length:Int))then
     ((idx a0 s2).bind λx3 =>
      bif decide ((x3.1.length:Int) > 30)then
       some true
      else
       (idx a0 s2).bind λx4 =>
       some (decide ((x4.2.1.length:Int) > 6))).bind λ(p5:Bool) =>
     bif p5 then
      some (.inr (.inr false))
     else
      (qA (λ(s7:Int) =>
        (idx a0 s2).bind λx8 =>
        bif decide (s7<(x8.2.1.length:Int))then
         (idx a0 s2).bind λx9 =>
         (idx x9.2.1 s7).bind λx10 =>
         bif decide ((x10.length:Int) > 30)then
          some (.inr (.inr (.inr (.inr false))))
         else
          some (.inl (w64 (s7+1)))
        else
         some (.inr (.inl ()))) 0).bind (Sum.elim (λ(p11:Unit) =>
      some (.inl (w64 (s2+1)))) some)
    else
     some (.inr (.inl ()))) 0).bind (Sum.elim (λ(p12:Unit) =>
  some true) some)
def qeq:Entry:=⟨6,[.ty yt6],[(.bool,0)],λx=>qdX x⟩
def qmY:TH:=qcd [([],6,.block 0,{lv:=[],ps:=[],abn:=true,D:=⟨1125899906842392⟩}),
 ([],6,.loop 0,{lv:=[⟨none,3,0⟩],ps:=[(I,0)],D:=⟨1125899906842392⟩}),
 ([],6,.region 6,{lv:=[⟨none,29,0⟩],ps:=[(.bool,0)],D:=⟨1073725440⟩}),
 ([],6,.block 2,{lv:=[],ps:=[],abn:=true,D:=⟨1125898833100816⟩}),
 ([],6,.loop 2,{lv:=[⟨none,4,0⟩],ps:=[(I,0)],D:=⟨1125898833100816⟩})] []
theorem qm6:KT qeq qmY [] 40:=λx=>by kernel_rfl
theorem qnf:OT qeq:=entK qx hJ qm6
def qcC(a0:yy4):Option yy4 :=
 (app [] a0).bind λx1 =>
 some x1
def qcN:Entry:=⟨34,[.ty (.sl .str)],[((.sl .str),1)],λx=>qcC x⟩
def qmX:TH:=qcd [] []
theorem qm5:KT qcN qmX [] 40:=λx=>by kernel_rfl
theorem qhd:OT qcN:=entK qx hJ qm5
def qc6(a0:(List Int)):Option (List Int) :=
 (app [] a0).bind λx1 =>
 some x1
def qff:Entry:=⟨80,[.ty (.sl I)],[((.sl I),1)],λx=>qc6 x⟩
def qox:TH:=qcd [] []
theorem qoF:KT qff qox [] 40:=λx=>by kernel_rfl
theorem qo2:OT qff:=entK qx hJ qoF
def qaF(a0:yy5):Option yy5 :=
 (qc6 a0.1).bind λx1 =>
 (qc6 a0.2.1).bind λx2 =>
 some (x1,x2,())
def qes:Entry:=⟨35,[.ty yt3],[(yt3,1)],λx=>qaF x⟩
def qm0:TH:=qcd [] []
theorem qm8:KT qes qm0 [qff] 40:=λx=>by kernel_rfl
theorem qnh:OT qes:=entK (qn qo2 qx) hJ qm8
def qiI(a0:(yy4×yy2×(List yy5)×Unit)):Option (yy4×yy2×(List yy5)×Unit) :=
 (qcC a0.1).bind λx1 =>
 (qA (λ(s4:yy12) =>
   bif decide (s4.1<(a0.2.1.length:Int))then
    (idx a0.2.1 s4.1).bind λx5 =>
    (idx a0.2.1 s4.1).bind λx6 =>
    (qaF (x6.2.1,x6.2.2.1,())).bind λx7 =>
    (idx a0.2.1 s4.1).bind λx8 =>
    (qaF (x8.2.2.2.1,x8.2.2.2.2.1,())).bind λx9 =>
    (app s4.2.2.1 ([(x5.1,x7.1,x7.2.1,x9.1,x9.2.1,())])).bind λx10 =>
    some (.inl (w64 (s4.1+1),s4.2.1,x10,s4.2.2.2))
   else
    some (.inr (s4.2.1,s4.2.2.1,s4.2.2.2))) (0,x1,[],[])).bind λ(p11:(yy4×yy2×(List yy5))) =>
 (qA (λ(s13:yy12) =>
   bif decide (s13.1<(a0.2.2.1.length:Int))then
    (idx a0.2.2.1 s13.1).bind λx14 =>
    (qaF x14).bind λx15 =>
    (app s13.2.2.2 ([x15])).bind λx16 =>
    some (.inl (w64 (s13.1+1),s13.2.1,s13.2.2.1,x16))
   else
    some (.inr (s13.2.1,s13.2.2.1,s13.2.2.2))) (0,p11.1,p11.2.1,p11.2.2)).bind λ(p17:(yy4×yy2×(List yy5))) =>
 some (p17.1,p17.2.1,p17.2.2,())
def qhw:Entry:=⟨8,[.ty yt8],[(yt8,0)],λx=>qiI x⟩
def qtE:TH:=qcd [([],8,.block 0,{lv:=[⟨some 0,3,0⟩,⟨some 0,3,1⟩,⟨some 0,3,2⟩],ps:=[((.sl .str),1),(yt1,2),((.sl yt3),1)],D:=⟨8796093021200⟩,wr:=[⟨0,3⟩],rs:=[⟨0,1⟩],Dn:=⟨8796093019152⟩}),
 ([],8,.loop 0,{lv:=[⟨none,4,0⟩,⟨some 0,3,0⟩,⟨some 0,3,1⟩,⟨some 0,3,2⟩],ps:=[(I,0),((.sl .str),1),(yt1,2),((.sl yt3),1)],D:=⟨8796093021200⟩,wr:=[⟨0,3⟩],rs:=[⟨0,1⟩,⟨0,3⟩],Dn:=⟨4393717330960⟩}),
 ([],8,.block 2,{lv:=[⟨some 0,3,0⟩,⟨some 0,3,1⟩,⟨some 0,3,2⟩],ps:=[((.sl .str),1),(yt1,2),((.sl yt3),2001)],D:=⟨2305834213120671776⟩,wr:=[⟨0,3⟩],rs:=[⟨0,1⟩],Dn:=⟨2305816620934627360⟩}),
 ([],8,.loop 2,{lv:=[⟨none,5,0⟩,⟨some 0,3,0⟩,⟨some 0,3,1⟩,⟨some 0,3,2⟩],ps:=[(I,0),((.sl .str),1),(yt1,2),((.sl yt3),2001)],D:=⟨2305834213120671776⟩,wr:=[⟨0,3⟩],rs:=[⟨0,1⟩,⟨0,3⟩],Dn:=⟨1147265616793567264⟩})] []
theorem qtI:KT qhw qtE [qcN,qes] 40:=λx=>by kernel_rfl
theorem qt1:OT qhw:=entK (qn qhd (qn qnh qx)) hJ qtI
def qbj(a0:(yy4×yy2×(List yy5)×Unit)):Option (List UInt8) :=
 (qA (λ(s3:(yy4×Int)) =>
   bif decide (s3.2<(a0.2.1.length:Int))then
    (idx a0.2.1 s3.2).bind λx4 =>
    (app x4.1 ([58])).bind λx5 =>
    (q9 (x4.2.1,x4.2.2.1,())).bind λx6 =>
    (app x5 x6).bind λx7 =>
    (app x7 ([62])).bind λx8 =>
    (q9 (x4.2.2.2.1,x4.2.2.2.2.1,())).bind λx9 =>
    (app x8 x9).bind λx10 =>
    (app s3.1 ([x10])).bind λx11 =>
    some (.inl (x11,w64 (s3.2+1)))
   else
    some (.inr s3.1)) ([],0)).bind λ(p12:yy4) =>
 (qA (λ(s15:(yy4×Int)) =>
   bif decide (s15.2<(a0.2.2.1.length:Int))then
    (idx a0.2.2.1 s15.2).bind λx16 =>
    (q9 x16).bind λx17 =>
    (app s15.1 ([x17])).bind λx18 =>
    some (.inl (x18,w64 (s15.2+1)))
   else
    some (.inr s15.1)) ([],0)).bind λ(p19:yy4) =>
 (strings_Join a0.1 ([44])).bind λx20 =>
 (app x20 ([47])).bind λx21 =>
 (strings_Join p12 ([59])).bind λx22 =>
 (app x21 x22).bind λx23 =>
 (app x23 ([47])).bind λx24 =>
 (strings_Join p19 ([44])).bind λx25 =>
 (app x24 x25).bind λx26 =>
 some x26
def qbV:Entry:=⟨7,[.ty yt8],[(.str,0)],λx=>qbj x⟩
def qhl:TH:=qcd [([],7,.block 0,{lv:=[⟨none,3,0⟩],ps:=[((.sl .str),1)],D:=⟨4294963528⟩,wr:=[⟨0,6⟩]}),
 ([],7,.loop 0,{lv:=[⟨none,3,0⟩,⟨none,12,0⟩],ps:=[((.sl .str),1),(I,0)],D:=⟨4294963528⟩,wr:=[⟨0,6⟩],rs:=[⟨0,6⟩],Dn:=⟨4260229384⟩}),
 ([],7,.block 2,{lv:=[⟨none,4,0⟩],ps:=[((.sl .str),1)],D:=⟨35150012350800⟩,wr:=[⟨0,6⟩,⟨0,8⟩]}),
 ([],7,.loop 2,{lv:=[⟨none,4,0⟩,⟨none,35,0⟩],ps:=[((.sl .str),1),(I,0)],D:=⟨35150012350800⟩,wr:=[⟨0,6⟩,⟨0,8⟩],rs:=[⟨0,8⟩],Dn:=⟨35150012350544⟩})] []
theorem qhm:KT qbV qhl [qbE,qcE] 40:=λx=>by kernel_rfl
theorem qhn:OT qbV:=entK (qn qjO (qn qjl qx)) hJ qhm
def qdn(a0:yy7):Option yy7 :=
 (qA (λ(s3:(yy7×Int)) =>
   bif decide (s3.2<(a0.length:Int))then
    (idx a0 s3.2).bind λx4 =>
    (idx a0 s3.2).bind λx5 =>
    (idx a0 s3.2).bind λx6 =>
    (qcC x6.2.1).bind λx7 =>
    (app s3.1 ([(x4.1,x7,x5.2.2.1,())])).bind λx8 =>
    some (.inl (x8,w64 (s3.2+1)))
   else
    some (.inr s3.1)) ([],0)).bind λ(p9:yy7) =>
 some p9
def qdF:Entry:=⟨10,[.ty yt6],[(yt6,2)],λx=>qdn x⟩
def qlQ:TH:=qcd [([],10,.block 0,{lv:=[⟨none,3,0⟩],ps:=[(yt6,2)],D:=⟨2147483640⟩}),
 ([],10,.loop 0,{lv:=[⟨none,3,0⟩,⟨none,4,0⟩],ps:=[(yt6,2),(I,0)],D:=⟨2147483640⟩})] []
theorem qlT:KT qdF qlQ [qcN] 40:=λx=>by kernel_rfl
theorem ql2:OT qdF:=entK (qn qhd qx) hJ qlT
def qbc(a0:yy7):Option (List UInt8) :=
 (qA (λ(s3:(yy4×Int)) =>
   bif decide (s3.2<(a0.length:Int))then
    (idx a0 s3.2).bind λx4 =>
    (strconv_Itoa x4.2.2.1).bind λx5 =>
    (app ([x4.1,x5]) x4.2.1).bind λx6 =>
    (strings_Join x6 ([32])).bind λx7 =>
    (app s3.1 ([x7])).bind λx8 =>
    some (.inl (x8,w64 (s3.2+1)))
   else
    some (.inr s3.1)) ([],0)).bind λ(p9:yy4) =>
 (strings_Join p9 ([59])).bind λx10 =>
 some x10
def qcu:Entry:=⟨9,[.ty yt6],[(.str,0)],λx=>qbc x⟩
def qiU:TH:=qcd [([],9,.block 0,{lv:=[⟨none,3,0⟩],ps:=[((.sl .str),1)],D:=⟨268435048⟩,wr:=[⟨0,5⟩]}),
 ([],9,.loop 0,{lv:=[⟨none,3,0⟩,⟨none,9,0⟩],ps:=[((.sl .str),1),(I,0)],D:=⟨268435048⟩,wr:=[⟨0,5⟩],rs:=[⟨0,5⟩],Dn:=⟨267869768⟩})] []
theorem qiZ:KT qcu qiU [qcD,qcE] 40:=λx=>by kernel_rfl
theorem qi5:OT qcu:=entK (qn qjk (qn qjl qx)) hJ qiZ
def qc3(a0:(List UInt8))(a1:(List UInt8)):Option yy4 :=
 bif decide (a0=[])then
  some []
 else
  (strings_Split a0 a1).bind λx1 =>
  some x1
def qfT:Entry:=⟨38,[.ty .str,.ty .str],[((.sl .str),2000)],λx=>qc3 x.1 x.2⟩
def qpR:TH:=qcd [] []
theorem qpU:KT qfT qpR [qbn] 40:=λx=>by kernel_rfl
theorem qpX:OT qfT:=entK (qn qft qx) hJ qpU
def qaV(a0:yy4)(a1:(List UInt8)):Option Int :=
 (qA (λ(s2:Int) =>
   bif decide (s2<(a0.length:Int))then
    (idx a0 s2).bind λx3 =>
    bif decide (a1=x3)then
     some (.inr (.inr s2))
    else
     some (.inl (w64 (s2+1)))
   else
    some (.inr (.inl ()))) 0).bind (Sum.elim (λ(p4:Unit) =>
 some (-1)) some)
def qaP:Entry:=⟨83,[.ty (.sl .str),.ty .str],[(I,0)],λx=>qaV x.1 x.2⟩
def qew:TH:=qcd [([],83,.block 0,{lv:=[],ps:=[],abn:=true,D:=⟨524064⟩}),
 ([],83,.loop 0,{lv:=[⟨none,8,0⟩],ps:=[(I,0)],D:=⟨524064⟩})] []
theorem qex:KT qaP qew [] 40:=λx=>by kernel_rfl
theorem qez:OT qaP:=entK qx hJ qex
def qD(a0:yy4)(a1:(List UInt8)):Option Bool :=
 (qaV a0 a1).bind λx1 =>
 some (decide (x1>=0))
def q3:Entry:=⟨39,[.ty (.sl .str),.ty .str],[(.bool,0)],λx=>qD x.1 x.2⟩
def qdx:TH:=qcd [] []
theorem qdy:KT q3 qdx [qaP] 40:=λx=>by kernel_rfl
theorem qbf:OT q3:=entK (qn qez qx) hJ qdy
def qaa(a0:(List UInt8))(a1:Int):Option (Int×Bool) :=
 (strconv_Atoi a0).bind λx1 =>
 (bif x1.2 then
   bif decide (x1.1>=0)then
    (strconv_Itoa x1.1).bind λx2 =>
    bif decide (x2=a0)then
     some (x1.1,decide ((a0.length:Int)<=a1))
    else
     some (x1.1,false)
   else
    some (x1.1,false)
  else
   some (x1.1,false)).bind λ(p3:(Int×Bool)) =>
 some (p3.1,p3.2)
def qdd:Entry:=⟨44,[.ty .str,.ty I],[(I,0),(.bool,0)],λx=>qaa x.1 x.2⟩
def qoC:TH:=qcd [([],44,.region 2,{lv:=[⟨none,4,0⟩,⟨none,5,0⟩],ps:=[(I,0),(.bool,0)],D:=⟨4294959152⟩})] []
theorem qoK:KT qdd qoC [qdU,qcD] 40:=λx=>by kernel_rfl
theorem qhW:OT qdd:=entK (qn qpY (qn qjk qx)) hJ qoK
def qai(a0:(List UInt8)):Option (yy5×Bool) :=
 (strings_Index a0 ([45])).bind λx1 =>
 (bif decide (x1<0)then
   some (a0.length:Int)
  else
   some x1).bind λ(p2:Int) =>
 (slc a0 0 p2).bind λx3 =>
 (bif decide (x3=[])then
   some ([],true)
  else
   (strings_CutPrefix x3 ([43])).bind λx4 =>
   (qA (λ(s6:yy10) =>
     (strings_Index s6.2.2 ([43])).bind λx7 =>
     bif decide (x7<0)then
      some (.inr (s6.1,s6.2.1,s6.2.2))
     else
      (slc s6.2.2 0 (w64 (x7+0))).bind λx8 =>
      (qaa x8 (2:Int)).bind λx9 =>
      ((app s6.2.1 ([x9.1])).bind λx10 =>
       bif s6.1 then
        some (x9.2,x10)
       else
        some (false,x10)).bind λ(p11:(Bool×(List Int))) =>
      (slc s6.2.2 (w64 (x7+1)) (s6.2.2.length:Int)).bind λx12 =>
      some (.inl (p11.1,p11.2,x12))) (x4.2,[],x4.1)).bind λ(p13:yy10) =>
   (qaa p13.2.2 (2:Int)).bind λx14 =>
   ((app p13.2.1 ([x14.1])).bind λx15 =>
    bif p13.1 then
     some (x14.2,x15)
    else
     some (false,x15)).bind λ(p16:(Bool×(List Int))) =>
   some (p16.2,p16.1)).bind λ(p17:((List Int)×Bool)) =>
 (slc a0 p2 (a0.length:Int)).bind λx18 =>
 (bif decide (x18=[])then
   some ([],true)
  else
   (strings_CutPrefix x18 ([45])).bind λx19 =>
   (qA (λ(s21:yy10) =>
     (strings_Index s21.2.2 ([45])).bind λx22 =>
     bif decide (x22<0)then
      some (.inr (s21.1,s21.2.1,s21.2.2))
     else
      (slc s21.2.2 0 (w64 (x22+0))).bind λx23 =>
      (qaa x23 (2:Int)).bind λx24 =>
      ((app s21.2.1 ([x24.1])).bind λx25 =>
       bif s21.1 then
        some (x24.2,x25)
       else
        some (false,x25)).bind λ(p26:(Bool×(List Int))) =>
      (slc s21.2.2 (w64 (x22+1)) (s21.2.2.length:Int)).bind λx27 =>
      some (.inl (p26.1,p26.2,x27))) (x19.2,[],x19.1)).bind λ(p28:yy10) =>
   (qaa p28.2.2 (2:Int)).bind λx29 =>
   ((app p28.2.1 ([x29.1])).bind λx30 =>
    bif p28.1 then
     some (x29.2,x30)
    else
     some (false,x30)).bind λ(p31:(Bool×(List Int))) =>
   some (p31.2,p31.1)).bind λ(p32:((List Int)×Bool)) =>
 (bif p17.2 then
   some (p32.2,p17.1,p32.1)
  else
   some (false,p17.1,p32.1)).bind λ(p33:(Bool×(List Int)×(List Int))) =>
 some ((p33.2.1,p33.2.2,()),p33.1)
def qbX:Entry:=⟨41,[.ty .str],[(yt3,1),(.bool,0)],λx=>qai x⟩
def qkG:TH:=qcd [([],41,.cond 12,{lv:=[⟨none,4,0⟩],ps:=[(I,0)],D:=⟨24592⟩}),
 ([19],86,.inl 0,{lv:=[⟨none,4,0⟩,⟨none,5,0⟩],ps:=[((.sl I),1),(.bool,0)],D:=⟨412325245424⟩,wr:=[⟨0,7⟩,⟨0,8⟩,⟨0,22⟩],rs:=[⟨0,7⟩,⟨0,8⟩,⟨0,22⟩],Dn:=⟨412321050736⟩}),
 ([23,19],139,.block 2,{lv:=[⟨some 0,7,0⟩,⟨some 0,8,0⟩,⟨some 0,22,0⟩],ps:=[(.bool,0),((.sl I),1),(.str,0)],D:=⟨562949416550784⟩,wr:=[⟨0,7⟩,⟨0,8⟩,⟨0,22⟩]}),
 ([23,19],139,.loop 2,{lv:=[⟨some 0,7,0⟩,⟨some 0,8,0⟩,⟨some 0,22,0⟩],ps:=[(.bool,0),((.sl I),1),(.str,0)],D:=⟨562949416550784⟩,wr:=[⟨0,7⟩,⟨0,8⟩,⟨0,22⟩],rs:=[⟨0,23⟩],Dn:=⟨562399660736896⟩}),
 ([41,23,19],86,.region 8,{lv:=[⟨some 0,7,0⟩,⟨some 0,8,0⟩],ps:=[(.bool,0),((.sl I),1)],D:=⟨136902082560⟩,wr:=[⟨0,7⟩,⟨0,8⟩]}),
 ([51,23,19],86,.region 8,{lv:=[⟨some 0,7,0⟩,⟨some 0,8,0⟩],ps:=[(.bool,0),((.sl I),1)],D:=⟨136902082560⟩,wr:=[⟨0,7⟩,⟨0,8⟩]}),
 ([26],86,.inl 0,{lv:=[⟨none,4,0⟩,⟨none,5,0⟩],ps:=[((.sl I),1),(.bool,0)],D:=⟨412325245424⟩,wr:=[⟨0,7⟩,⟨0,8⟩,⟨0,22⟩],rs:=[⟨0,7⟩,⟨0,8⟩,⟨0,22⟩],Dn:=⟨412321050736⟩}),
 ([23,26],139,.block 2,{lv:=[⟨some 0,7,0⟩,⟨some 0,8,0⟩,⟨some 0,22,0⟩],ps:=[(.bool,0),((.sl I),1),(.str,0)],D:=⟨562949416550784⟩,wr:=[⟨0,7⟩,⟨0,8⟩,⟨0,22⟩]}),
 ([23,26],139,.loop 2,{lv:=[⟨some 0,7,0⟩,⟨some 0,8,0⟩,⟨some 0,22,0⟩],ps:=[(.bool,0),((.sl I),1),(.str,0)],D:=⟨562949416550784⟩,wr:=[⟨0,7⟩,⟨0,8⟩,⟨0,22⟩],rs:=[⟨0,23⟩],Dn:=⟨562399660736896⟩}),
 ([41,23,26],86,.region 8,{lv:=[⟨some 0,7,0⟩,⟨some 0,8,0⟩],ps:=[(.bool,0),((.sl I),1)],D:=⟨136902082560⟩,wr:=[⟨0,7⟩,⟨0,8⟩]}),
 ([51,23,26],86,.region 8,{lv:=[⟨some 0,7,0⟩,⟨some 0,8,0⟩],ps:=[(.bool,0),((.sl I),1)],D:=⟨136902082560⟩,wr:=[⟨0,7⟩,⟨0,8⟩]}),
 ([],41,.region 6,{lv:=[⟨none,3,0⟩,⟨some 0,2,0⟩,⟨some 0,2,1⟩],ps:=[(.bool,0),((.sl I),1),((.sl I),1)],D:=⟨68182605992⟩,wr:=[⟨0,2⟩]})] [([],41,19),([],41,26)]
theorem qkN:KT qbX qkG [qdd,qbG,qb9] 40:=λx=>by kernel_rfl
theorem qfM:OT qbX:=entK (qn qhW (qn qjR (qn qhX qx))) hJ qkN
def qbd(a0:(List UInt8)):Option (((List UInt8)×(List Int)×(List Int)×(List Int)×(List Int)×Unit)×Bool) :=
 (strings_Cut a0 ([58])).bind λx1 =>
 (strings_Cut x1.2.1 ([62])).bind λx2 =>
 (qai x2.1).bind λx3 =>
 (qai x2.2.1).bind λx4 =>
 (bif !(decide (x1.1=[]))then
   bif x1.2.2 then
    bif x2.2.2 then
     bif x3.2 then
      some (x4.2,x1.1,x3.1.1,x3.1.2.1,x4.1.1,x4.1.2.1)
     else
      some (false,x1.1,x3.1.1,x3.1.2.1,x4.1.1,x4.1.2.1)
    else
     some (false,x1.1,x3.1.1,x3.1.2.1,x4.1.1,x4.1.2.1)
   else
    some (false,x1.1,x3.1.1,x3.1.2.1,x4.1.1,x4.1.2.1)
  else
   some (false,x1.1,x3.1.1,x3.1.2.1,x4.1.1,x4.1.2.1)).bind λ(p5:(Bool×(List UInt8)×(List Int)×(List Int)×(List Int)×(List Int))) =>
 some ((p5.2.1,p5.2.2.1,p5.2.2.2.1,p5.2.2.2.2.1,p5.2.2.2.2.2,()),p5.1)
def qcv:Entry:=⟨40,[.ty .str],[((.pair .str (.pair (.sl I) (.pair (.sl I) yt3))),0),(.bool,0)],λx=>qbd x⟩
def qiV:TH:=qcd [([],40,.region 5,{lv:=[⟨none,3,0⟩,⟨some 0,2,0⟩,⟨some 0,2,1⟩,⟨some 0,2,2⟩,⟨some 0,2,3⟩,⟨some 0,2,4⟩],ps:=[(.bool,0),(.str,0),((.sl I),0),((.sl I),0),((.sl I),0),((.sl I),0)],D:=⟨18014329790005256⟩,wr:=[⟨0,2⟩]})] []
theorem qi0:KT qcv qiV [qbX,qeN] 40:=λx=>by kernel_rfl
theorem qi6:OT qcv:=entK (qn qfM (qn qsb qx)) hJ qi0
def qu(a0:Bool)(a1:Int):Option Int :=
 bif a0 then
  some 0
 else
  some a1
def qH:Entry:=⟨65,[.ty .bool,.ty I],[(I,0)],λx=>qu x.1 x.2⟩
def qfk:TH:=qcd [] []
theorem qfm:KT qH qfk [] 40:=λx=>by kernel_rfl
theorem qaI:OT qH:=entK qx hJ qfm
def qy(a0:(List Int)):Option Int :=
 (qA (λ(s2:Int) =>
   bif decide (s2<(a0.length:Int))then
    (idx a0 s2).bind λx3 =>
    bif !(decide (x3=0))then
     some (.inr (.inr x3))
    else
     some (.inl (w64 (s2+1)))
   else
    some (.inr (.inl ()))) 0).bind (Sum.elim (λ(p4:Unit) =>
 some 0) some)
def qT:Entry:=⟨66,[.ty (.sl I)],[(I,0)],λx=>qy x⟩
def qfV:TH:=qcd [([],66,.block 0,{lv:=[],ps:=[],abn:=true,D:=⟨32656⟩}),
 ([],66,.loop 0,{lv:=[⟨none,7,0⟩],ps:=[(I,0)],D:=⟨32656⟩})] []
theorem qfW:KT qT qfV [] 40:=λx=>by kernel_rfl
theorem qbe:OT qT:=entK qx hJ qfW
def qE(a0:Int)(a1:Int)(a2:Int):Option Bool :=
 (bif decide (a1<=a0)then
   some (decide (a0<=a2))
  else
   some false).bind λ(p1:Bool) =>
 some p1
def qI:Entry:=⟨99,[.ty I,.ty I,.ty I],[(.bool,0)],λx=>qE x.1 x.2.1 x.2.2⟩
def qfl:TH:=qcd [([],99,.region 1,{lv:=[⟨none,6,0⟩],ps:=[(.bool,0)],D:=⟨32704⟩})] []
theorem qfn:KT qI qfl [] 40:=λx=>by kernel_rfl
theorem qaJ:OT qI:=entK qx hJ qfn
def qaG(a0:(List UInt8)):Option Bool :=
 (qA (λ(s2:Int) =>
   bif decide (s2<(a0.length:Int))then
    (idx a0 s2).bind λx3 =>
    ((qE (w64 ((x3.toNat:Int))) (97:Int) (122:Int)).bind λx4 =>
     bif x4 then
      some true
     else
      (qE (w64 ((x3.toNat:Int))) (65:Int) (90:Int)).bind λx5 =>
      some x5).bind λ(p6:Bool) =>
    (bif !p6 then
      bif decide (s2=0)then
       some true
      else
       bif !(decide (w64 ((x3.toNat:Int))=45))then
        (qE (w64 ((x3.toNat:Int))) (48:Int) (57:Int)).bind λx7 =>
        some (!x7)
       else
        some false
     else
      some false).bind λ(p8:Bool) =>
    bif p8 then
     some (.inr (.inr false))
    else
     some (.inl (w64 (s2+1)))
   else
    some (.inr (.inl ()))) 0).bind (Sum.elim (λ(p9:Unit) =>
 (qE (a0.length:Int) (1:Int) (12:Int)).bind λx10 =>
 some x10) some)
def qdc:Entry:=⟨119,[.ty .str],[(.bool,0)],λx=>qaG x⟩
def qoB:TH:=qcd [([],119,.block 0,{lv:=[],ps:=[],abn:=true,D:=⟨137438953272⟩}),
 ([],119,.loop 0,{lv:=[⟨none,8,0⟩],ps:=[(I,0)],D:=⟨137438953272⟩}),
 ([],119,.region 5,{lv:=[⟨none,5,0⟩],ps:=[(.bool,0)],D:=⟨2064416⟩}),
 ([],119,.region 6,{lv:=[⟨none,35,0⟩],ps:=[(.bool,0)],D:=⟨68717379584⟩})] []
theorem qoJ:KT qdc qoB [qI] 40:=λx=>by kernel_rfl
theorem qhV:OT qdc:=entK (qn qaJ qx) hJ qoJ
def qcf(a0:(List Int))(a1:Int):Option Int :=
 (qA (λ(s2:Int) =>
   bif decide (s2<(a0.length:Int))then
    (idx a0 s2).bind λx3 =>
    bif decide (a1=x3)then
     some (.inr (.inr s2))
    else
     some (.inl (w64 (s2+1)))
   else
    some (.inr (.inl ()))) 0).bind (Sum.elim (λ(p4:Unit) =>
 some (-1)) some)
def qbF:Entry:=⟨175,[.ty (.sl I),.ty I],[(I,0)],λx=>qcf x.1 x.2⟩
def qgF:TH:=qcd [([],175,.block 0,{lv:=[],ps:=[],abn:=true,D:=⟨524064⟩}),
 ([],175,.loop 0,{lv:=[⟨none,8,0⟩],ps:=[(I,0)],D:=⟨524064⟩})] []
theorem qgG:KT qbF qgF [] 40:=λx=>by kernel_rfl
theorem qgS:OT qbF:=entK qx hJ qgG
def qam(a0:(List Int))(a1:Int):Option Bool :=
 (qcf a0 a1).bind λx1 =>
 some (decide (x1>=0))
def qaW:Entry:=⟨137,[.ty (.sl I),.ty I],[(.bool,0)],λx=>qam x.1 x.2⟩
def qfz:TH:=qcd [] []
theorem qfA:KT qaW qfz [qbF] 40:=λx=>by kernel_rfl
theorem qfB:OT qaW:=entK (qn qgS qx) hJ qfA
def qbu(a0:(List Int))(a1:Int):Option Int :=
 ((qA (λ(s2:(Int×Int)) =>
    bif decide (s2.1<(a0.length:Int))then
     (idx a0 s2.1).bind λx3 =>
     (qE x3 (0:Int) (w64 (a1-1))).bind λx4 =>
     (qu x4 (6:Int)).bind λx5 =>
     (qu (decide (x3 > s2.2)) (9:Int)).bind λx6 =>
     (qy ([x5,x6])).bind λx7 =>
     bif !(decide (x7=0))then
      some (.inr (.inr (s2.1,x7,x3)))
     else
      some (.inl (w64 (s2.1+1),x3))
    else
     some (.inr (.inl s2.2))) (0,(-1))).bind (Sum.elim (λ(p8:Int) =>
  some (0,0,p8)) some)).bind λ(p9:(Int×Int×Int)) =>
 some p9.2.1
def qcX:Entry:=⟨138,[.ty (.sl I),.ty I],[(I,0)],λx=>qbu x.1 x.2⟩
def qjC:TH:=qcd [([11],176,.inl 0,{lv:=[⟨none,4,0⟩,⟨none,5,0⟩,⟨some 0,5,0⟩],ps:=[(I,0),(I,0),(I,0)],D:=⟨33554416⟩,wr:=[⟨0,5⟩],rs:=[⟨0,3⟩,⟨0,5⟩],Dn:=⟨33488880⟩}),
 ([11],176,.block 0,{lv:=[⟨some 0,5,0⟩],ps:=[(I,0)],abn:=true,D:=⟨33552832⟩,wr:=[⟨0,5⟩]}),
 ([11],176,.loop 0,{lv:=[⟨none,11,0⟩,⟨some 0,5,0⟩],ps:=[(I,0),(I,0)],D:=⟨33552832⟩,wr:=[⟨0,5⟩],rs:=[⟨0,3⟩,⟨0,5⟩],Dn:=⟨33487296⟩})] []
theorem qjH:KT qcX qjC [qT,qH,qI] 40:=λx=>by kernel_rfl
theorem qjP:OT qcX:=entK (qn qbe (qn qaI (qn qaJ qx))) hJ qjH
def qaH(a0:yy5)(a1:Int):Option Int :=
 ((qA (λ(s2:Int) =>
    bif decide (s2<(a0.1.length:Int))then
     (idx a0.1 s2).bind λx3 =>
     (qam a0.2.1 x3).bind λx4 =>
     bif x4 then
      some (.inr (.inr s2))
     else
      some (.inl (w64 (s2+1)))
    else
     some (.inr (.inl ()))) 0).bind (Sum.elim (λ(p5:Unit) =>
  some (-1)) some)).bind λ(p6:Int) =>
 (qbu a0.1 a1).bind λx7 =>
 (qbu a0.2.1 a1).bind λx8 =>
 (qu (!(decide (p6>=0))) (13:Int)).bind λx9 =>
 (qy ([x7,x8,x9])).bind λx10 =>
 some x10
def qeu:Entry:=⟨92,[.ty yt3,.ty I],[(I,0)],λx=>qaH x.1 x.2⟩
def qm4:TH:=qcd [([7,9],161,.inl 0,{lv:=[⟨none,4,0⟩],ps:=[(I,0)],D:=⟨524272⟩,rs:=[⟨0,2⟩],Dn:=⟨522224⟩}),
 ([7,9],161,.block 0,{lv:=[],ps:=[],abn:=true,D:=⟨524064⟩}),
 ([7,9],161,.loop 0,{lv:=[⟨none,8,0⟩],ps:=[(I,0)],D:=⟨524064⟩,rs:=[⟨0,2⟩],Dn:=⟨522016⟩})] []
theorem qnc:KT qeu qm4 [qT,qcX,qH,qaW] 40:=λx=>by kernel_rfl
theorem qnj:OT qeu:=entK (qn qbe (qn qjP (qn qaI (qn qfB qx)))) hJ qnc
def qbN(a0:(yy4×yy2×(List yy5)×Unit)):Option (Int×Int) :=
 (bif decide ((a0.1.length:Int)<=8)then
   bif decide ((a0.2.1.length:Int)<=10)then
    some (decide ((a0.2.2.1.length:Int)<=4))
   else
    some false
  else
   some false).bind λ(p1:Bool) =>
 (qu (decide ((a0.1.length:Int) > 0)) (10:Int)).bind λx2 =>
 (qu p1 (8:Int)).bind λx3 =>
 (qy ([x2,x3])).bind λx4 =>
 bif !(decide (x4=0))then
  some (0,x4)
 else
  ((qA (λ(s6:(Int×yy4)) =>
     bif decide (s6.1<(a0.1.length:Int))then
      (idx a0.1 s6.1).bind λx7 =>
      (qaG x7).bind λx8 =>
      (qu x8 (4:Int)).bind λx9 =>
      (qu (!(qgN .str s6.2 x7)) (5:Int)).bind λx10 =>
      (qy ([x9,x10])).bind λx11 =>
      bif !(decide (x11=0))then
       some (.inr (.inr (s6.1,x11,qlt .str s6.2 x7)))
      else
       some (.inl (w64 (s6.1+1),qlt .str s6.2 x7))
     else
      some (.inr (.inl s6.2))) (0,[])).bind (Sum.elim (λ(p12:yy4) =>
   some (0,0,p12)) some)).bind λ(p13:(Int×Int×yy4)) =>
  bif !(decide (p13.2.1=0))then
   some (p13.1,p13.2.1)
  else
   ((qA (λ(s15:(Int×yy4)) =>
      bif decide (s15.1<(a0.2.1.length:Int))then
       (idx a0.2.1 s15.1).bind λx16 =>
       (qaG x16.1).bind λx17 =>
       (qu x17 (4:Int)).bind λx18 =>
       (qu (!(qgN .str s15.2 x16.1)) (5:Int)).bind λx19 =>
       (qy ([x18,x19])).bind λx20 =>
       (qaH (x16.2.1,x16.2.2.1,()) (a0.1.length:Int)).bind λx21 =>
       (qaH (x16.2.2.2.1,x16.2.2.2.2.1,()) (a0.1.length:Int)).bind λx22 =>
       (qy ([x20,x21,x22])).bind λx23 =>
       bif !(decide (x23=0))then
        some (.inr (.inr (s15.1,x23,qlt .str s15.2 x16.1)))
       else
        some (.inl (w64 (s15.1+1),qlt .str s15.2 x16.1))
      else
       some (.inr (.inl s15.2))) (0,[])).bind (Sum.elim (λ(p24:yy4) =>
    some (0,0,p24)) some)).bind λ(p25:(Int×Int×yy4)) =>
   bif !(decide (p25.2.1=0))then
    some (p25.1,p25.2.1)
   else
    ((qA (λ(s27:Int) =>
       bif decide (s27<(a0.2.2.1.length:Int))then
        (idx a0.2.2.1 s27).bind λx28 =>
        (qaH x28 (a0.1.length:Int)).bind λx29 =>
        bif !(decide (x29=0))then
         some (.inr (.inr (s27,x29)))
        else
         some (.inl (w64 (s27+1)))
       else
        some (.inr (.inl ()))) 0).bind (Sum.elim (λ(p30:Unit) =>
     some (0,0)) some)).bind λ(p31:(Int×Int)) =>
    some (p31.1,p31.2)
def qb7:Entry:=⟨42,[.ty yt8],[(I,0),(I,0)],λx=>qbN x⟩
def qhG:TH:=qcd [([],42,.region 2,{lv:=[⟨none,5,0⟩],ps:=[(.bool,0)],D:=⟨536838176⟩,rs:=[⟨0,1⟩],Dn:=⟨519798816⟩}),
 ([44],88,.inl 0,{lv:=[⟨none,4,0⟩,⟨none,5,0⟩,⟨some 0,16423,0⟩],ps:=[(I,0),(I,0),((.mset .str),0)],D:=⟨33554416⟩,wr:=[⟨0,16423⟩],rs:=[⟨0,7⟩],Dn:=⟨33488880⟩}),
 ([44],88,.block 0,{lv:=[⟨some 0,16423,0⟩],ps:=[((.mset .str),0)],abn:=true,D:=⟨33552832⟩,wr:=[⟨0,16423⟩]}),
 ([44],88,.loop 0,{lv:=[⟨none,11,0⟩,⟨some 0,16423,0⟩],ps:=[(I,0),((.mset .str),0)],D:=⟨33552832⟩,wr:=[⟨0,16423⟩],rs:=[⟨0,7⟩],Dn:=⟨33487296⟩}),
 ([56],90,.inl 0,{lv:=[⟨none,4,0⟩,⟨none,5,0⟩,⟨some 0,16435,0⟩],ps:=[(I,0),(I,0),((.mset .str),0)],D:=⟨33554416⟩,wr:=[⟨0,16435⟩,⟨1,7⟩],rs:=[⟨0,4⟩,⟨0,7⟩,⟨1,7⟩],Dn:=⟨33488752⟩}),
 ([56],90,.block 0,{lv:=[⟨some 0,16435,0⟩],ps:=[((.mset .str),0)],abn:=true,D:=⟨33552832⟩,wr:=[⟨0,16435⟩,⟨1,7⟩]}),
 ([56],90,.loop 0,{lv:=[⟨none,11,0⟩,⟨some 0,16435,0⟩],ps:=[(I,0),((.mset .str),0)],D:=⟨33552832⟩,wr:=[⟨0,16435⟩,⟨1,7⟩],rs:=[⟨0,4⟩,⟨0,7⟩,⟨1,7⟩],Dn:=⟨33487168⟩}),
 ([66],93,.inl 0,{lv:=[⟨none,4,0⟩,⟨none,5,0⟩],ps:=[(I,0),(I,0)],D:=⟨33554416⟩,wr:=[⟨1,7⟩],rs:=[⟨0,4⟩,⟨1,7⟩],Dn:=⟨33488752⟩}),
 ([66],93,.block 0,{lv:=[],ps:=[],abn:=true,D:=⟨33552832⟩,wr:=[⟨1,7⟩]}),
 ([66],93,.loop 0,{lv:=[⟨none,11,0⟩],ps:=[(I,0)],D:=⟨33552832⟩,wr:=[⟨1,7⟩],rs:=[⟨0,4⟩,⟨1,7⟩],Dn:=⟨33487168⟩})] []
theorem qhK:KT qb7 qhG [qT,qdc,qeu,qH] 40:=λx=>by kernel_rfl
theorem qhT:OT qb7:=entK (qn qbe (qn qhV (qn qnj (qn qaI qx)))) hJ qhK
def qaj(a0:(List UInt8)):Option ((yy4×yy2×(List yy5)×Unit)×Int) :=
 bif decide ((a0.length:Int) > 60000)then
  some (([],[],[],()),8)
 else
  (strings_Split a0 ([47])).bind λx1 =>
  bif !(decide ((x1.length:Int)=3))then
   some (([],[],[],()),7)
  else
   (idx x1 0).bind λx2 =>
   (qc3 x2 ([44])).bind λx3 =>
   (qD x3 []).bind λx4 =>
   (idx x1 1).bind λx5 =>
   (qc3 x5 ([59])).bind λx6 =>
   (qA (λ(s8:(Bool×Int×yy4×yy2×(List yy5))) =>
     bif decide (s8.2.1<(x6.length:Int))then
      (idx x6 s8.2.1).bind λx9 =>
      (qbd x9).bind λx10 =>
      ((app s8.2.2.2.1 ([x10.1])).bind λx11 =>
       bif s8.1 then
        some (x10.2,s8.2.2.1,x11,s8.2.2.2.2)
       else
        some (false,s8.2.2.1,x11,s8.2.2.2.2)).bind λ(p12:yy11) =>
      some (.inl (p12.1,w64 (s8.2.1+1),p12.2.1,p12.2.2.1,p12.2.2.2))
     else
      some (.inr (s8.1,s8.2.2.1,s8.2.2.2.1,s8.2.2.2.2))) (!x4,0,x3,[],[])).bind λ(p13:yy11) =>
   (idx x1 2).bind λx14 =>
   (qc3 x14 ([44])).bind λx15 =>
   (qA (λ(s18:(Bool×Int×yy4×yy2×(List yy5))) =>
     bif decide (s18.2.1<(x15.length:Int))then
      (idx x15 s18.2.1).bind λx19 =>
      (qai x19).bind λx20 =>
      ((app s18.2.2.2.2 ([x20.1])).bind λx21 =>
       bif s18.1 then
        bif x20.2 then
         some (!(decide (x19=[])),s18.2.2.1,s18.2.2.2.1,x21)
        else
         some (false,s18.2.2.1,s18.2.2.2.1,x21)
       else
        some (false,s18.2.2.1,s18.2.2.2.1,x21)).bind λ(p22:yy11) =>
      some (.inl (p22.1,w64 (s18.2.1+1),p22.2.1,p22.2.2.1,p22.2.2.2))
     else
      some (.inr (s18.1,s18.2.2.1,s18.2.2.2.1,s18.2.2.2.2))) (p13.1,0,p13.2.1,p13.2.2.1,p13.2.2.2)).bind λ(p23:yy11) =>
   bif !p23.1 then
    some (([],[],[],()),7)
   else
    (qbN (p23.2.1,p23.2.2.1,p23.2.2.2,())).bind λx24 =>
    bif !(decide (x24.2=0))then
     some (([],[],[],()),x24.2)
    else
     some ((p23.2.1,p23.2.2.1,p23.2.2.2,()),0)
def qb8:Entry:=⟨11,[.ty .str],[(yt8,2000),(I,0)],λx=>qaj x⟩
def qhH:TH:=qcd [([],11,.block 0,{lv:=[⟨none,6,0⟩,⟨some 0,5,0⟩,⟨some 0,5,1⟩,⟨some 0,5,2⟩],ps:=[(.bool,0),((.sl .str),2000),(yt1,1),((.sl yt3),1)],D:=⟨2305840810190448448⟩,wr:=[⟨0,5⟩,⟨0,9⟩]}),
 ([],11,.loop 0,{lv:=[⟨none,6,0⟩,⟨none,41,0⟩,⟨some 0,5,0⟩,⟨some 0,5,1⟩,⟨some 0,5,2⟩],ps:=[(.bool,0),(I,0),((.sl .str),2000),(yt1,1),((.sl yt3),1)],D:=⟨2305840810190448448⟩,wr:=[⟨0,5⟩,⟨0,9⟩],rs:=[⟨0,5⟩,⟨0,9⟩],Dn:=⟨1728254157980181824⟩}),
 ([],11,.region 12,{lv:=[⟨none,6,0⟩,⟨some 0,5,0⟩,⟨some 0,5,1⟩,⟨some 0,5,2⟩],ps:=[(.bool,0),((.sl .str),2000),(yt1,1),((.sl yt3),1)],D:=⟨1151795604700004416⟩,wr:=[⟨0,5⟩],rs:=[⟨0,5⟩],Dn:=⟨574208952489738304⟩}),
 ([],11,.block 2,{lv:=[⟨none,6,0⟩,⟨some 0,5,0⟩,⟨some 0,5,1⟩,⟨some 0,5,2⟩],ps:=[(.bool,0),((.sl .str),2000),(yt1,1),((.sl yt3),1)],D:=⟨1237939965498403980060947024⟩,wr:=[⟨0,5⟩,⟨0,9⟩,⟨0,13⟩]}),
 ([],11,.loop 2,{lv:=[⟨none,6,0⟩,⟨none,66,0⟩,⟨some 0,5,0⟩,⟨some 0,5,1⟩,⟨some 0,5,2⟩],ps:=[(.bool,0),(I,0),((.sl .str),2000),(yt1,1),((.sl yt3),1)],D:=⟨1237939965498403980060947024⟩,wr:=[⟨0,5⟩,⟨0,9⟩,⟨0,13⟩],rs:=[⟨0,5⟩,⟨0,13⟩],Dn:=⟨928417176745195954174448208⟩}),
 ([],11,.region 18,{lv:=[⟨none,6,0⟩,⟨some 0,5,0⟩,⟨some 0,5,1⟩,⟨some 0,5,2⟩],ps:=[(.bool,0),((.sl .str),2000),(yt1,1),((.sl yt3),1)],D:=⟨618932240710827180287852608⟩,wr:=[⟨0,5⟩],rs:=[⟨0,5⟩],Dn:=⟨309409451957619154401361984⟩})] []
theorem qhL:KT qb8 qhH [qb7,qcv,qbX,qfT,q3,qbn] 40:=λx=>by kernel_rfl
theorem qhU:OT qb8:=entK (qn qhT (qn qi6 (qn qfM (qn qpX (qn qbf (qn qft qx)))))) hJ qhL
def qbt(a0:yy7):Option (Int×Int) :=
 (qu (decide ((a0.length:Int) > 0)) (10:Int)).bind λx1 =>
 (qu (decide ((a0.length:Int)<=6)) (8:Int)).bind λx2 =>
 (qy ([x1,x2])).bind λx3 =>
 bif !(decide (x3=0))then
  some (0,x3)
 else
  ((qA (λ(s5:(Int×yy4)) =>
     bif decide (s5.1<(a0.length:Int))then
      (idx a0 s5.1).bind λx6 =>
      (qaG x6.1).bind λx7 =>
      (qu x7 (4:Int)).bind λx8 =>
      (qu (!(qgN .str s5.2 x6.1)) (5:Int)).bind λx9 =>
      (qy ([x8,x9])).bind λx10 =>
      (qu (decide ((x6.2.1.length:Int)<=4)) (8:Int)).bind λx11 =>
      (qy ([x10,x11])).bind λx12 =>
      (qA (λ(s14:(Int×Int×yy4)) =>
        bif decide (s14.2.1<(x6.2.1.length:Int))then
         (idx x6.2.1 s14.2.1).bind λx15 =>
         (qaG x15).bind λx16 =>
         (qu x16 (4:Int)).bind λx17 =>
         (qu (!(qgN .str s14.2.2 x15)) (23:Int)).bind λx18 =>
         (qy ([x17,x18])).bind λx19 =>
         (qy ([s14.1,x19])).bind λx20 =>
         some (.inl (x20,w64 (s14.2.1+1),qlt .str s14.2.2 x15))
        else
         some (.inr s14.1)) (x12,0,[])).bind λ(p21:Int) =>
      (qE x6.2.2.1 (0:Int) (20:Int)).bind λx22 =>
      (qu x22 (2:Int)).bind λx23 =>
      (qy ([p21,x23])).bind λx24 =>
      bif !(decide (x24=0))then
       some (.inr (.inr (s5.1,x24,qlt .str s5.2 x6.1)))
      else
       some (.inl (w64 (s5.1+1),qlt .str s5.2 x6.1))
     else
      some (.inr (.inl s5.2))) (0,[])).bind (Sum.elim (λ(p25:yy4) =>
   some (0,0,p25)) some)).bind λ(p26:(Int×Int×yy4)) =>
  some (p26.1,p26.2.1)
def qcV:Entry:=⟨45,[.ty yt6],[(I,0),(I,0)],λx=>qbt x⟩
def qjA:TH:=qcd [([22],97,.inl 0,{lv:=[⟨none,4,0⟩,⟨none,5,0⟩,⟨some 0,16403,0⟩],ps:=[(I,0),(I,0),((.mset .str),0)],D:=⟨33554416⟩,wr:=[⟨0,16403⟩,⟨1,7⟩],rs:=[⟨0,5⟩,⟨1,7⟩],Dn:=⟨33488752⟩}),
 ([22],97,.block 0,{lv:=[⟨some 0,16403,0⟩],ps:=[((.mset .str),0)],abn:=true,D:=⟨33552832⟩,wr:=[⟨0,16403⟩,⟨1,7⟩]}),
 ([22],97,.loop 0,{lv:=[⟨none,11,0⟩,⟨some 0,16403,0⟩],ps:=[(I,0),((.mset .str),0)],D:=⟨33552832⟩,wr:=[⟨0,16403⟩,⟨1,7⟩],rs:=[⟨0,5⟩,⟨1,7⟩],Dn:=⟨33487168⟩}),
 ([19,22],98,.block 0,{lv:=[⟨none,7,0⟩],ps:=[(I,0)],D:=⟨68685922944⟩,wr:=[⟨2,16394⟩]}),
 ([19,22],98,.loop 0,{lv:=[⟨none,7,0⟩,⟨none,25,0⟩,⟨some 2,16394,0⟩],ps:=[(I,0),(I,0),((.mset .str),0)],D:=⟨68685922944⟩,wr:=[⟨2,16394⟩],rs:=[⟨2,16394⟩],Dn:=⟨67612181120⟩})] []
theorem qjF:KT qcV qjA [qT,qdc,qH,qI] 40:=λx=>by kernel_rfl
theorem qjM:OT qcV:=entK (qn qbe (qn qhV (qn qaI (qn qaJ qx)))) hJ qjF
def q8(a0:(List UInt8)):Option (yy7×Int) :=
 bif decide ((a0.length:Int) > 60000)then
  some ([],8)
 else
  (qA (λ(s2:(yy7×(List UInt8))) =>
    (strings_Index s2.2 ([59])).bind λx3 =>
    bif decide (x3<0)then
     some (.inr (.inl (s2.1,s2.2)))
    else
     (slc s2.2 0 (w64 (x3+0))).bind λx4 =>
     (strings_Split x4 ([32])).bind λx5 =>
     (bif decide ((x5.length:Int)<2)then
       some true
      else
       (qD x5 []).bind λx6 =>
       some x6).bind λ(p7:Bool) =>
     bif p7 then
      some (.inr (.inr ([],7)))
     else
      (idx x5 1).bind λx8 =>
      (qaa x8 (3:Int)).bind λx9 =>
      bif !x9.2 then
       some (.inr (.inr ([],7)))
      else
       (idx x5 0).bind λx10 =>
       (slc x5 2 (x5.length:Int)).bind λx11 =>
       (app s2.1 ([(x10,x11,x9.1,())])).bind λx12 =>
       (slc s2.2 (w64 (x3+1)) (s2.2.length:Int)).bind λx13 =>
       some (.inl (x12,x13))) ([],a0)).bind (Sum.elim (λ(p14:(yy7×(List UInt8))) =>
  (strings_Split p14.2 ([32])).bind λx15 =>
  (bif decide ((x15.length:Int)<2)then
    some true
   else
    (qD x15 []).bind λx16 =>
    some x16).bind λ(p17:Bool) =>
  bif p17 then
   some ([],7)
  else
   (idx x15 1).bind λx18 =>
   (qaa x18 (3:Int)).bind λx19 =>
   bif !x19.2 then
    some ([],7)
   else
    (idx x15 0).bind λx20 =>
    (slc x15 2 (x15.length:Int)).bind λx21 =>
    (app p14.1 ([(x20,x21,x19.1,())])).bind λx22 =>
    (qbt x22).bind λx23 =>
    bif !(decide (x23.2=0))then
     some ([],x23.2)
    else
     some (x22,0)) some)
def qcW:Entry:=⟨12,[.ty .str],[(yt6,2000),(I,0)],λx=>q8 x⟩
def qjB:TH:=qcd [([16],139,.block 2,{lv:=[⟨some 0,4,0⟩,⟨some 0,15,0⟩],ps:=[(yt6,1001),(.str,0)],abn:=true,D:=⟨562949416550784⟩,wr:=[⟨0,4⟩,⟨0,15⟩]}),
 ([16],139,.loop 2,{lv:=[⟨some 0,4,0⟩,⟨some 0,15,0⟩],ps:=[(yt6,1001),(.str,0)],D:=⟨562949416550784⟩,wr:=[⟨0,4⟩,⟨0,15⟩],rs:=[⟨0,16⟩],Dn:=⟨562399660736896⟩}),
 ([41,16],12,.region 7,{lv:=[⟨none,25,0⟩],ps:=[(.bool,0)],D:=⟨66584576⟩}),
 ([51,16],12,.region 7,{lv:=[⟨none,25,0⟩],ps:=[(.bool,0)],D:=⟨66584576⟩})] []
theorem qjG:KT qcW qjB [qcV,qdd,q3,qb9,qbn] 40:=λx=>by kernel_rfl
theorem qjN:OT qcW:=entK (qn qjM (qn qhW (qn qbf (qn qhX (qn qft qx))))) hJ qjG
def qaM(a0:(List UInt8))(a1:Int):Option yy4 :=
 (qA (λ(s2:(yy4×Int×Int)) =>
   bif decide (s2.2.2<(a0.length:Int))then
    (idx a0 s2.2.2).bind λx3 =>
    (bif decide ((x3.toNat:Int)=a1)then
      (slc a0 s2.2.1 s2.2.2).bind λx4 =>
      (app s2.1 ([x4])).bind λx5 =>
      some (x5,w64 (s2.2.2+1))
     else
      some (s2.1,s2.2.1)).bind λ(p6:(yy4×Int)) =>
    some (.inl (p6.1,p6.2,w64 (s2.2.2+1)))
   else
    some (.inr (s2.1,s2.2.1))) ([],0,0)).bind λ(p7:(yy4×Int)) =>
 (slc a0 p7.2 (a0.length:Int)).bind λx8 =>
 (app p7.1 ([x8])).bind λx9 =>
 some x9
def qf5:Entry:=⟨47,[.ty .str,.ty (.int .u8)],[((.sl .str),1)],λx=>qaM x.1 x.2⟩
def qx3:TH:=qcd [([],47,.block 0,{lv:=[⟨none,5,0⟩,⟨none,6,0⟩],ps:=[((.sl .str),1),(I,0)],D:=⟨268435424⟩}),
 ([],47,.loop 0,{lv:=[⟨none,5,0⟩,⟨none,6,0⟩,⟨none,7,0⟩],ps:=[((.sl .str),1),(I,0),(I,0)],D:=⟨268435424⟩}),
 ([],47,.cond 18,{lv:=[⟨none,5,0⟩,⟨none,6,0⟩],ps:=[((.sl .str),1),(I,0)],D:=⟨267911264⟩})] []
theorem qx7:KT qf5 qx3 [] 40:=λx=>by kernel_rfl
theorem ql1:OT qf5:=entK qx hJ qx7
def qbK(a0:(List UInt8))(a1:Int):Option yy4 :=
 bif decide (a0=[])then
  some []
 else
  (qaM a0 a1).bind λx1 =>
  some x1
def qgB:Entry:=⟨100,[.ty .str,.ty (.int .u8)],[((.sl .str),1)],λx=>qbK x.1 x.2⟩
def qrR:TH:=qcd [] []
theorem qrX:KT qgB qrR [qf5] 40:=λx=>by kernel_rfl
theorem qr9:OT qgB:=entK (qn ql1 qx) hJ qrX
def qa5(a0:yy4)(a1:(List UInt8)):Option Bool :=
 (qA (λ(s2:Int) =>
   bif decide (s2<(a0.length:Int))then
    (idx a0 s2).bind λx3 =>
    bif decide (x3=a1)then
     some (.inr (.inr true))
    else
     some (.inl (w64 (s2+1)))
   else
    some (.inr (.inl ()))) 0).bind (Sum.elim (λ(p4:Unit) =>
 some false) some)
def qbT:Entry:=⟨48,[.ty (.sl .str),.ty .str],[(.bool,0)],λx=>qa5 x.1 x.2⟩
def qpQ:TH:=qcd [([],48,.block 0,{lv:=[],ps:=[],abn:=true,D:=⟨262112⟩}),
 ([],48,.loop 0,{lv:=[⟨none,5,0⟩],ps:=[(I,0)],D:=⟨262112⟩})] []
theorem qpT:KT qbT qpQ [] 40:=λx=>by kernel_rfl
theorem qdZ:OT qbT:=entK qx hJ qpT
def qbB(a0:(List UInt8))(a1:Int):Option (Int×Bool) :=
 (bif decide ((a0.length:Int) > 0)then
   (idx a0 0).bind λx1 =>
   some (decide ((x1.toNat:Int)=45))
  else
   some false).bind λ(p2:Bool) =>
 (bif p2 then
   some 1
  else
   some 0).bind λ(p3:Int) =>
 (bif decide ((a0.length:Int)=p3)then
   some true
  else
   bif decide (w64 ((a0.length:Int)-p3) > a1)then
    some true
   else
    (idx a0 p3).bind λx4 =>
    bif decide ((x4.toNat:Int)=48)then
     some (decide ((a0.length:Int) > 1))
    else
     some false).bind λ(p5:Bool) =>
 bif p5 then
  some (0,false)
 else
  (qA (λ(s7:(Int×Int)) =>
    bif decide (s7.2<(a0.length:Int))then
     ((idx a0 s7.2).bind λx8 =>
      bif decide ((x8.toNat:Int)<48)then
       some true
      else
       (idx a0 s7.2).bind λx9 =>
       some (decide ((x9.toNat:Int) > 57))).bind λ(p10:Bool) =>
     bif p10 then
      some (.inr (.inr (0,false)))
     else
      (idx a0 s7.2).bind λx11 =>
      let v12:Int:=w64 ((w64 (10*s7.1))+(w64 (IntKind.wrap .u8 ((x11.toNat:Int)-48))))
      some (.inl (v12,w64 (s7.2+1)))
    else
     some (.inr (.inl s7.1))) (0,p3)).bind (Sum.elim (λ(p13:Int) =>
  (bif decide (p3=1)then
    some (w64 (0-p13))
   else
    some p13).bind λ(p14:Int) =>
  some (p14,true)) some)
def qeK:Entry:=⟨49,[.ty .str,.ty I],[(I,0),(.bool,0)],λx=>qbB x.1 x.2⟩
def qrO:TH:=qcd [([],49,.region 2,{lv:=[⟨none,16,0⟩],ps:=[(.bool,0)],D:=⟨130560⟩}),
 ([],49,.cond 16,{lv:=[⟨none,6,0⟩],ps:=[(I,0)],D:=⟨64⟩}),
 ([],49,.region 4,{lv:=[⟨none,39,0⟩],ps:=[(.bool,0)],D:=⟨1099511496704⟩}),
 ([],49,.block 0,{lv:=[⟨none,7,0⟩],ps:=[(I,0)],abn:=true,D:=⟨36893485948395848064⟩}),
 ([],49,.loop 0,{lv:=[⟨none,7,0⟩,⟨none,8,0⟩],ps:=[(I,0),(I,0)],D:=⟨36893485948395848064⟩}),
 ([],49,.region 10,{lv:=[⟨none,56,0⟩],ps:=[(.bool,0)],D:=⟨143974450587500544⟩}),
 ([],49,.cond 66,{lv:=[⟨none,7,0⟩],ps:=[(I,0)],D:=⟨442721857769029238912⟩})] []
theorem qrU:KT qeK qrO [] 40:=λx=>by kernel_rfl
theorem qkU:OT qeK:=entK qx hJ qrU
def qbs(a0:(List UInt8)):Option (yy5×Bool) :=
 (qA (λ(s2:(Bool×Int×(List Int)×(List Int))) =>
   bif decide (s2.2.1<(a0.length:Int))then
    ((idx a0 s2.2.1).bind λx3 =>
     bif !(decide ((x3.toNat:Int)=43))then
      (idx a0 s2.2.1).bind λx4 =>
      bif !(decide ((x4.toNat:Int)=45))then
       some true
      else
       (idx a0 s2.2.1).bind λx5 =>
       bif decide ((x5.toNat:Int)=43)then
        some s2.1
       else
        some false
     else
      (idx a0 s2.2.1).bind λx6 =>
      bif decide ((x6.toNat:Int)=43)then
       some s2.1
      else
       some false).bind λ(p7:Bool) =>
    bif p7 then
     some (.inr (.inr (([],[],()),false)))
    else
     (idx a0 s2.2.1).bind λx8 =>
     (qA (λ(s10:Int) =>
       (bif decide (s10<(a0.length:Int))then
         (idx a0 s10).bind λx11 =>
         bif !(decide ((x11.toNat:Int)=43))then
          (idx a0 s10).bind λx12 =>
          some (!(decide ((x12.toNat:Int)=45)))
         else
          some false
        else
         some false).bind λ(p13:Bool) =>
       bif p13 then
        some (.inl (w64 (s10+1)))
       else
        some (.inr s10)) (w64 (s2.2.1+1))).bind λ(p14:Int) =>
     (slc a0 (w64 (s2.2.1+1)) p14).bind λx15 =>
     (qbB x15 (2:Int)).bind λx16 =>
     (bif !x16.2 then
       some true
      else
       some (decide (x16.1<0))).bind λ(p17:Bool) =>
     bif p17 then
      some (.inr (.inr (([],[],()),false)))
     else
      (bif decide ((x8.toNat:Int)=45)then
        (app s2.2.2.2 ([x16.1])).bind λx18 =>
        some (s2.2.2.1,x18)
       else
        (app s2.2.2.1 ([x16.1])).bind λx19 =>
        some (x19,s2.2.2.2)).bind λ(p20:((List Int)×(List Int))) =>
      some (.inl (decide ((x8.toNat:Int)=45),p14,p20.1,p20.2))
   else
    some (.inr (.inl (s2.2.2.1,s2.2.2.2)))) (false,0,[],[])).bind (Sum.elim (λ(p21:((List Int)×(List Int))) =>
 some ((p21.1,p21.2,()),true)) some)
def qhy:Entry:=⟨101,[.ty .str],[(yt3,2000),(.bool,0)],λx=>qbs x⟩
def qtG:TH:=qcd [([],101,.block 0,{lv:=[⟨some 0,4,0⟩,⟨some 0,4,1⟩],ps:=[((.sl I),1),((.sl I),1)],abn:=true,D:=⟨309485009821345068724781024⟩,wr:=[⟨0,4⟩]}),
 ([],101,.loop 0,{lv:=[⟨none,5,0⟩,⟨none,6,0⟩,⟨some 0,4,0⟩,⟨some 0,4,1⟩],ps:=[(.bool,0),(I,0),((.sl I),1),((.sl I),1)],D:=⟨309485009821345068724781024⟩,wr:=[⟨0,4⟩],rs:=[⟨0,4⟩],Dn:=⟨228449200975301956857757664⟩}),
 ([],101,.region 5,{lv:=[⟨none,32,0⟩],ps:=[(.bool,0)],D:=⟨8589918208⟩}),
 ([],101,.block 2,{lv:=[⟨none,7,0⟩],ps:=[(I,0)],D:=⟨288229276640084096⟩}),
 ([],101,.loop 2,{lv:=[⟨none,7,0⟩],ps:=[(I,0)],D:=⟨288229276640084096⟩}),
 ([],101,.region 9,{lv:=[⟨none,55,0⟩],ps:=[(.bool,0)],D:=⟨72056494526300160⟩}),
 ([],101,.region 12,{lv:=[⟨none,72,0⟩],ps:=[(.bool,0)],D:=⟨9297159013149614014464⟩}),
 ([],101,.cond 74,{lv:=[⟨some 0,4,0⟩,⟨some 0,4,1⟩],ps:=[((.sl I),1),((.sl I),1)],D:=⟨154704725978809577200680960⟩,wr:=[⟨0,4⟩],rs:=[⟨0,4⟩],Dn:=⟨73668917132766465333657600⟩})] []
theorem qtK:KT qhy qtG [qeK] 40:=λx=>by kernel_rfl
theorem qt3:OT qhy:=entK (qn qkU qx) hJ qtK
def qeS(a0:(List UInt8)):Option ((yy4×yy2×(List yy5)×Unit)×Bool) :=
 (qaM a0 (47:Int)).bind λx1 =>
 bif !(decide ((x1.length:Int)=3))then
  some (([],[],[],()),false)
 else
  (idx x1 0).bind λx2 =>
  (qbK x2 (44:Int)).bind λx3 =>
  (qa5 x3 []).bind λx4 =>
  bif x4 then
   some ((x3,[],[],()),false)
  else
   (idx x1 1).bind λx5 =>
   (qbK x5 (59:Int)).bind λx6 =>
   (qA (λ(s9:yy12) =>
     bif decide (s9.1<(x6.length:Int))then
      (idx x6 s9.1).bind λx10 =>
      (qaM x10 (58:Int)).bind λx11 =>
      (bif !(decide ((x11.length:Int)=2))then
        some true
       else
        (idx x11 0).bind λx12 =>
        some (decide (x12=[]))).bind λ(p13:Bool) =>
      bif p13 then
       some (.inr (.inr ((s9.2.1,s9.2.2.1,s9.2.2.2,()),false)))
      else
       (idx x11 1).bind λx14 =>
       (qaM x14 (62:Int)).bind λx15 =>
       bif !(decide ((x15.length:Int)=2))then
        some (.inr (.inr ((s9.2.1,s9.2.2.1,s9.2.2.2,()),false)))
       else
        (idx x15 0).bind λx16 =>
        (qbs x16).bind λx17 =>
        (idx x15 1).bind λx18 =>
        (qbs x18).bind λx19 =>
        (bif !x17.2 then
          some true
         else
          some (!x19.2)).bind λ(p20:Bool) =>
        bif p20 then
         some (.inr (.inr ((s9.2.1,s9.2.2.1,s9.2.2.2,()),false)))
        else
         (idx x11 0).bind λx21 =>
         (app s9.2.2.1 ([(x21,x17.1.1,x17.1.2.1,x19.1.1,x19.1.2.1,())])).bind λx22 =>
         some (.inl (w64 (s9.1+1),s9.2.1,x22,s9.2.2.2))
     else
      some (.inr (.inl (s9.2.1,s9.2.2.1,s9.2.2.2)))) (0,x3,[],[])).bind (Sum.elim (λ(p23:(yy4×yy2×(List yy5))) =>
   (idx x1 2).bind λx24 =>
   (qbK x24 (44:Int)).bind λx25 =>
   (qA (λ(s28:yy12) =>
     bif decide (s28.1<(x25.length:Int))then
      (idx x25 s28.1).bind λx29 =>
      (qbs x29).bind λx30 =>
      (bif !x30.2 then
        some true
       else
        (idx x25 s28.1).bind λx31 =>
        some (decide (x31=[]))).bind λ(p32:Bool) =>
      bif p32 then
       some (.inr (.inr ((s28.2.1,s28.2.2.1,s28.2.2.2,()),false)))
      else
       (app s28.2.2.2 ([x30.1])).bind λx33 =>
       some (.inl (w64 (s28.1+1),s28.2.1,s28.2.2.1,x33))
     else
      some (.inr (.inl (s28.2.1,s28.2.2.1,s28.2.2.2)))) (0,p23.1,p23.2.1,p23.2.2)).bind (Sum.elim (λ(p34:(yy4×yy2×(List yy5))) =>
   some ((p34.1,p34.2.1,p34.2.2,()),true)) some)) some)
def qfh:Entry:=⟨46,[.ty .str],[(yt8,0),(.bool,0)],λx=>qeS x⟩
def qoz:TH:=qcd [([],46,.block 0,{lv:=[⟨some 0,4,0⟩,⟨some 0,4,1⟩,⟨some 0,4,2⟩],ps:=[((.sl .str),1),(yt1,1),((.sl yt3),1)],abn:=true,D:=⟨316912650057057350236736929664⟩,wr:=[⟨0,4⟩,⟨0,10⟩,⟨0,12⟩]}),
 ([],46,.loop 0,{lv:=[⟨none,7,0⟩,⟨some 0,4,0⟩,⟨some 0,4,1⟩,⟨some 0,4,2⟩],ps:=[(I,0),((.sl .str),1),(yt1,1),((.sl yt3),1)],D:=⟨316912650057057350236736929664⟩,wr:=[⟨0,4⟩,⟨0,10⟩,⟨0,12⟩],rs:=[⟨0,4⟩,⟨0,10⟩,⟨0,12⟩],Dn:=⟨158301582523618002515286633344⟩}),
 ([],46,.region 13,{lv:=[⟨none,56,0⟩],ps:=[(.bool,0)],D:=⟨143833713099145216⟩}),
 ([],46,.region 20,{lv:=[⟨none,85,0⟩],ps:=[(.bool,0)],D:=⟨76162326635721638006489088⟩}),
 ([],46,.block 2,{lv:=[⟨some 0,4,0⟩,⟨some 0,4,1⟩,⟨some 0,4,2⟩],ps:=[((.sl .str),1),(yt1,1),((.sl yt3),1)],abn:=true,D:=⟨5444517865664413014501076112921478797088⟩,wr:=[⟨0,4⟩,⟨0,10⟩,⟨0,12⟩,⟨0,16⟩]}),
 ([],46,.loop 2,{lv:=[⟨none,15,0⟩,⟨some 0,4,0⟩,⟨some 0,4,1⟩,⟨some 0,4,2⟩],ps:=[(I,0),((.sl .str),1),(yt1,1),((.sl yt3),1)],D:=⟨5444517865664413014501076112921478797088⟩,wr:=[⟨0,4⟩,⟨0,10⟩,⟨0,12⟩,⟨0,16⟩],rs:=[⟨0,4⟩,⟨0,16⟩],Dn:=⟨2637188338566670690928235601609390987040⟩}),
 ([],46,.region 28,{lv:=[⟨none,124,0⟩],ps:=[(.bool,0)],D:=⟨42452219115380750690865337987703504896⟩})] []
theorem qoH:KT qfh qoz [qf5,qbT,qgB,qhy] 40:=λx=>by kernel_rfl
theorem qo4:OT qfh:=entK (qn ql1 (qn qdZ (qn qr9 (qn qt3 qx)))) hJ qoH
def qcT(a0:(List UInt8)):Option Bool :=
 (bif decide ((a0.length:Int)<1)then
   some true
  else
   some (decide ((a0.length:Int) > 12))).bind λ(p1:Bool) =>
 bif p1 then
  some false
 else
  (qA (λ(s3:Int) =>
    bif decide (s3<(a0.length:Int))then
     (idx a0 s3).bind λx4 =>
     (bif decide ((x4.toNat:Int)>=97)then
       bif decide ((x4.toNat:Int)<=122)then
        some true
       else
        bif decide ((x4.toNat:Int)>=65)then
         some (decide ((x4.toNat:Int)<=90))
        else
         some false
      else
       bif decide ((x4.toNat:Int)>=65)then
        some (decide ((x4.toNat:Int)<=90))
       else
        some false).bind λ(p5:Bool) =>
     (bif !p5 then
       bif decide (s3=0)then
        some true
       else
        bif !(decide ((x4.toNat:Int)=45))then
         bif decide ((x4.toNat:Int)<48)then
          some true
         else
          some (decide ((x4.toNat:Int) > 57))
        else
         some false
      else
       some false).bind λ(p6:Bool) =>
     bif p6 then
      some (.inr (.inr false))
     else
      some (.inl (w64 (s3+1)))
    else
     some (.inr (.inl ()))) 0).bind (Sum.elim (λ(p7:Unit) =>
  some true) some)
def qeJ:Entry:=⟨103,[.ty .str],[(.bool,0)],λx=>qcT x⟩
def qrN:TH:=qcd [([],103,.region 1,{lv:=[⟨none,13,0⟩],ps:=[(.bool,0)],D:=⟨16320⟩}),
 ([],103,.block 0,{lv:=[],ps:=[],abn:=true,D:=⟨36028797018947640⟩}),
 ([],103,.loop 0,{lv:=[⟨none,3,0⟩],ps:=[(I,0)],D:=⟨36028797018947640⟩}),
 ([],103,.region 7,{lv:=[⟨none,5,0⟩],ps:=[(.bool,0)],D:=⟨137430564896⟩}),
 ([],103,.region 8,{lv:=[⟨none,54,0⟩],ps:=[(.bool,0)],D:=⟨36028659580010496⟩})] []
theorem qrT:KT qeJ qrN [] 40:=λx=>by kernel_rfl
theorem qkT:OT qeJ:=entK qx hJ qrT
def qfc(a0:Int)(a1:Int)(a2:Int):Option Bool :=
 (bif decide (a1<=a0)then
   some (decide (a0<=a2))
  else
   some false).bind λ(p1:Bool) =>
 some p1
def qeL:Entry:=⟨105,[.ty I,.ty I,.ty I],[(.bool,0)],λx=>qfc x.1 x.2.1 x.2.2⟩
def qrP:TH:=qcd [([],105,.region 1,{lv:=[⟨none,6,0⟩],ps:=[(.bool,0)],D:=⟨32704⟩})] []
theorem qrV:KT qeL qrP [] 40:=λx=>by kernel_rfl
theorem qkV:OT qeL:=entK qx hJ qrV
def qbR(a0:(List Int))(a1:Int):Option Int :=
 (qA (λ(s2:Int) =>
   bif decide (s2<(a0.length:Int))then
    (idx a0 s2).bind λx3 =>
    (qfc x3 (0:Int) (w64 (a1-1))).bind λx4 =>
    bif !x4 then
     some (.inr (.inr 6))
    else
     (bif decide (s2 > 0)then
       (idx a0 s2).bind λx5 =>
       (idx a0 (w64 (s2-1))).bind λx6 =>
       some (decide (x5<=x6))
      else
       some false).bind λ(p7:Bool) =>
     bif p7 then
      some (.inr (.inr 9))
     else
      some (.inl (w64 (s2+1)))
   else
    some (.inr (.inl ()))) 0).bind (Sum.elim (λ(p8:Unit) =>
 some 0) some)
def qdb:Entry:=⟨143,[.ty (.sl I),.ty I],[(I,0)],λx=>qbR x.1 x.2⟩
def qkF:TH:=qcd [([],143,.block 0,{lv:=[],ps:=[],abn:=true,D:=⟨17179869152⟩}),
 ([],143,.loop 0,{lv:=[⟨none,5,0⟩],ps:=[(I,0)],D:=⟨17179869152⟩}),
 ([],143,.region 6,{lv:=[⟨none,33,0⟩],ps:=[(.bool,0)],D:=⟨17178820608⟩})] []
theorem qkM:KT qdb qkF [qeL] 40:=λx=>by kernel_rfl
theorem qkZ:OT qdb:=entK (qn qkV qx) hJ qkM
def qnt(a0:(List Int))(a1:Int):Option Bool :=
 (qA (λ(s2:Int) =>
   bif decide (s2<(a0.length:Int))then
    (idx a0 s2).bind λx3 =>
    bif decide (x3=a1)then
     some (.inr (.inr true))
    else
     some (.inl (w64 (s2+1)))
   else
    some (.inr (.inl ()))) 0).bind (Sum.elim (λ(p4:Unit) =>
 some false) some)
def qlC:Entry:=⟨144,[.ty (.sl I),.ty I],[(.bool,0)],λx=>qnt x.1 x.2⟩
def qx4:TH:=qcd [([],144,.block 0,{lv:=[],ps:=[],abn:=true,D:=⟨262112⟩}),
 ([],144,.loop 0,{lv:=[⟨none,5,0⟩],ps:=[(I,0)],D:=⟨262112⟩})] []
theorem qx8:KT qlC qx4 [] 40:=λx=>by kernel_rfl
theorem qym:OT qlC:=entK qx hJ qx8
def qcn(a0:yy5)(a1:Int):Option Int :=
 (qbR a0.1 a1).bind λx1 =>
 bif !(decide (x1=0))then
  some x1
 else
  (qbR a0.2.1 a1).bind λx2 =>
  bif !(decide (x2=0))then
   some x2
  else
   (qA (λ(s4:Int) =>
     bif decide (s4<(a0.1.length:Int))then
      (idx a0.1 s4).bind λx5 =>
      (qnt a0.2.1 x5).bind λx6 =>
      bif x6 then
       some (.inr (.inr 13))
      else
       some (.inl (w64 (s4+1)))
     else
      some (.inr (.inl ()))) 0).bind (Sum.elim (λ(p7:Unit) =>
   some 0) some)
def qfg:Entry:=⟨104,[.ty yt3,.ty I],[(I,0)],λx=>qcn x.1 x.2⟩
def qoy:TH:=qcd [([],104,.block 0,{lv:=[],ps:=[],abn:=true,D:=⟨137434759296⟩,rs:=[⟨0,2⟩],Dn:=⟨137426370688⟩}),
 ([],104,.loop 0,{lv:=[⟨none,7,0⟩],ps:=[(I,0)],D:=⟨137434759296⟩,rs:=[⟨0,2⟩],Dn:=⟨134742016128⟩})] []
theorem qoG:KT qfg qoy [qlC,qdb] 40:=λx=>by kernel_rfl
theorem qo3:OT qfg:=entK (qn qym (qn qkZ qx)) hJ qoG
def qb1(a0:(yy4×yy2×(List yy5)×Unit)):Option (Int×Int) :=
 bif decide ((a0.1.length:Int)=0)then
  some (0,10)
 else
  (bif decide ((a0.1.length:Int) > 8)then
    some true
   else
    bif decide ((a0.2.1.length:Int) > 10)then
     some true
    else
     some (decide ((a0.2.2.1.length:Int) > 4))).bind λ(p1:Bool) =>
  bif p1 then
   some (0,8)
  else
   (qA (λ(s3:Int) =>
     bif decide (s3<(a0.1.length:Int))then
      (idx a0.1 s3).bind λx4 =>
      (qcT x4).bind λx5 =>
      bif !x5 then
       some (.inr (.inr (s3,4)))
      else
       (slc a0.1 0 s3).bind λx6 =>
       (idx a0.1 s3).bind λx7 =>
       (qa5 x6 x7).bind λx8 =>
       bif x8 then
        some (.inr (.inr (s3,5)))
       else
        some (.inl (w64 (s3+1)))
     else
      some (.inr (.inl ()))) 0).bind (Sum.elim (λ(p9:Unit) =>
   (qA (λ(s11:Int) =>
     bif decide (s11<(a0.2.1.length:Int))then
      (idx a0.2.1 s11).bind λx12 =>
      (qcT x12.1).bind λx13 =>
      bif !x13 then
       some (.inr (.inr (s11,4)))
      else
       (qA (λ(s15:Int) =>
         bif decide (s15<s11)then
          (idx a0.2.1 s15).bind λx16 =>
          bif decide (x16.1=x12.1)then
           some (.inr (.inr (.inr (.inr (s11,5)))))
          else
           some (.inl (w64 (s15+1)))
         else
          some (.inr (.inl ()))) 0).bind (Sum.elim (λ(p17:Unit) =>
       (qcn (x12.2.1,x12.2.2.1,()) (a0.1.length:Int)).bind λx18 =>
       bif !(decide (x18=0))then
        some (.inr (.inr (s11,x18)))
       else
        (qcn (x12.2.2.2.1,x12.2.2.2.2.1,()) (a0.1.length:Int)).bind λx19 =>
        bif !(decide (x19=0))then
         some (.inr (.inr (s11,x19)))
        else
         some (.inl (w64 (s11+1)))) some)
     else
      some (.inr (.inl ()))) 0).bind (Sum.elim (λ(p20:Unit) =>
   (qA (λ(s22:Int) =>
     bif decide (s22<(a0.2.2.1.length:Int))then
      (idx a0.2.2.1 s22).bind λx23 =>
      (qcn x23 (a0.1.length:Int)).bind λx24 =>
      bif !(decide (x24=0))then
       some (.inr (.inr (s22,x24)))
      else
       some (.inl (w64 (s22+1)))
     else
      some (.inr (.inl ()))) 0).bind (Sum.elim (λ(p25:Unit) =>
   some (0,0)) some)) some)) some)
def qcs:Entry:=⟨54,[.ty yt8],[(I,0),(I,0)],λx=>qb1 x⟩
def qiR:TH:=qcd [([],54,.region 3,{lv:=[⟨none,31,0⟩],ps:=[(.bool,0)],D:=⟨4294901760⟩,rs:=[⟨0,1⟩],Dn:=⟨4158521344⟩}),
 ([],54,.block 0,{lv:=[],ps:=[],abn:=true,D:=⟨288230371856744464⟩,rs:=[⟨0,1⟩],Dn:=⟨288230363266809872⟩}),
 ([],54,.loop 0,{lv:=[⟨none,4,0⟩],ps:=[(I,0)],D:=⟨288230371856744464⟩,rs:=[⟨0,1⟩],Dn:=⟨285837276208955408⟩}),
 ([],54,.block 2,{lv:=[],ps:=[],abn:=true,D:=⟨1298074214633706618902247930594272⟩,wr:=[⟨0,6⟩],rs:=[⟨0,1⟩],Dn:=⟨1298074214633706042441495627170784⟩}),
 ([],54,.loop 2,{lv:=[⟨none,5,0⟩],ps:=[(I,0)],D:=⟨1298074214633706618902247930594272⟩,wr:=[⟨0,6⟩],rs:=[⟨0,1⟩,⟨0,6⟩],Dn:=⟨1291729771931150983423772785116064⟩}),
 ([],54,.block 4,{lv:=[],ps:=[],abn:=true,D:=⟨1237902260353517317737414784⟩}),
 ([],54,.loop 4,{lv:=[⟨none,7,0⟩],ps:=[(I,0)],D:=⟨1237902260353517317737414784⟩,rs:=[⟨0,1⟩,⟨0,6⟩],Dn:=⟨1159322082078566421381513344⟩}),
 ([],54,.block 6,{lv:=[],ps:=[],abn:=true,D:=⟨1361128169609539220146591297102990543872⟩,rs:=[⟨0,1⟩],Dn:=⟨1361125573461109952732777031854825933824⟩}),
 ([],54,.loop 6,{lv:=[⟨none,10,0⟩],ps:=[(I,0)],D:=⟨1361128169609539220146591297102990543872⟩,rs:=[⟨0,1⟩],Dn:=⟨1355642507978497174757048827731169512448⟩})] []
theorem qiW:KT qcs qiR [qbT,qeJ,qfg] 40:=λx=>by kernel_rfl
theorem qi2:OT qcs:=entK (qn qdZ (qn qkT (qn qo3 qx))) hJ qiW
def qbQ(a0:(yy4×yy2×(List yy5)×Unit)):Option Int :=
 (qb1 a0).bind λx1 =>
 some x1.2
def qbW:Entry:=⟨19,[.ty yt8],[(I,0)],λx=>qbQ x⟩
def qkD:TH:=qcd [] []
theorem qkK:KT qbW qkD [qcs] 40:=λx=>by kernel_rfl
theorem qfL:OT qbW:=entK (qn qi2 qx) hJ qkK
def qaN(a0:(List UInt8)):Option ((yy4×yy2×(List yy5)×Unit)×Int) :=
 bif decide ((a0.length:Int) > 60000)then
  some (([],[],[],()),8)
 else
  (qeS a0).bind λx1 =>
  bif !x1.2 then
   some (([],[],[],()),7)
  else
   (qbQ x1.1).bind λx2 =>
   bif !(decide (x2=0))then
    some (([],[],[],()),x2)
   else
    some (x1.1,0)
def qct:Entry:=⟨13,[.ty .str],[(yt8,0),(I,0)],λx=>qaN x⟩
def qiS:TH:=qcd [] []
theorem qiX:KT qct qiS [qbW,qfh] 40:=λx=>by kernel_rfl
theorem qi3:OT qct:=entK (qn qfL (qn qo4 qx)) hJ qiX
def qcR(a0:yy7):Option (Int×Int) :=
 bif decide ((a0.length:Int)=0)then
  some (0,10)
 else
  bif decide ((a0.length:Int) > 6)then
   some (0,8)
  else
   (qA (λ(s2:Int) =>
     bif decide (s2<(a0.length:Int))then
      (idx a0 s2).bind λx3 =>
      (qcT x3.1).bind λx4 =>
      bif !x4 then
       some (.inr (.inr (s2,4)))
      else
       (qA (λ(s6:Int) =>
         bif decide (s6<s2)then
          (idx a0 s6).bind λx7 =>
          (idx a0 s2).bind λx8 =>
          bif decide (x7.1=x8.1)then
           some (.inr (.inr (.inr (.inr (s2,5)))))
          else
           some (.inl (w64 (s6+1)))
         else
          some (.inr (.inl ()))) 0).bind (Sum.elim (λ(p9:Unit) =>
       (idx a0 s2).bind λx10 =>
       bif decide ((x10.2.1.length:Int) > 4)then
        some (.inr (.inr (s2,8)))
       else
        (qA (λ(s12:Int) =>
          (idx a0 s2).bind λx13 =>
          bif decide (s12<(x13.2.1.length:Int))then
           (idx a0 s2).bind λx14 =>
           (idx x14.2.1 s12).bind λx15 =>
           (qcT x15).bind λx16 =>
           bif !x16 then
            some (.inr (.inr (.inr (.inr (s2,4)))))
           else
            (idx a0 s2).bind λx17 =>
            (slc x17.2.1 0 s12).bind λx18 =>
            (idx a0 s2).bind λx19 =>
            (idx x19.2.1 s12).bind λx20 =>
            (qa5 x18 x20).bind λx21 =>
            bif x21 then
             some (.inr (.inr (.inr (.inr (s2,23)))))
            else
             some (.inl (w64 (s12+1)))
          else
           some (.inr (.inl ()))) 0).bind (Sum.elim (λ(p22:Unit) =>
        (idx a0 s2).bind λx23 =>
        (qfc x23.2.2.1 (0:Int) (20:Int)).bind λx24 =>
        bif !x24 then
         some (.inr (.inr (s2,2)))
        else
         some (.inl (w64 (s2+1)))) some)) some)
     else
      some (.inr (.inl ()))) 0).bind (Sum.elim (λ(p25:Unit) =>
   some (0,0)) some)
def qc8:Entry:=⟨55,[.ty yt6],[(I,0),(I,0)],λx=>qcR x⟩
def qkB:TH:=qcd [([],55,.block 0,{lv:=[],ps:=[],abn:=true,D:=⟨316912650057057350374175793264⟩}),
 ([],55,.loop 0,{lv:=[⟨none,4,0⟩],ps:=[(I,0)],D:=⟨316912650057057350374175793264⟩}),
 ([],55,.block 2,{lv:=[],ps:=[],abn:=true,D:=⟨17592051826720⟩}),
 ([],55,.loop 2,{lv:=[⟨none,5,0⟩],ps:=[(I,0)],D:=⟨17592051826720⟩}),
 ([],55,.block 4,{lv:=[],ps:=[],abn:=true,D:=⟨1237940039280876675271753792⟩}),
 ([],55,.loop 4,{lv:=[⟨none,6,0⟩],ps:=[(I,0)],D:=⟨1237940039280876675271753792⟩})] []
theorem qkI:KT qc8 qkB [qbT,qeJ,qeL] 40:=λx=>by kernel_rfl
theorem qkW:OT qc8:=entK (qn qdZ (qn qkT (qn qkV qx))) hJ qkI
def qbU(a0:yy7):Option Int :=
 (qcR a0).bind λx1 =>
 some x1.2
def qcO:Entry:=⟨21,[.ty yt6],[(I,0)],λx=>qbU x⟩
def qm1:TH:=qcd [] []
theorem qm9:KT qcO qm1 [qc8] 40:=λx=>by kernel_rfl
theorem qhe:OT qcO:=entK (qn qkW qx) hJ qm9
def qa2(a0:(List UInt8)):Option (yy7×Int) :=
 bif decide ((a0.length:Int) > 60000)then
  some ([],8)
 else
  (qaM a0 (59:Int)).bind λx1 =>
  (qA (λ(s4:(yy7×Int)) =>
    bif decide (s4.2<(x1.length:Int))then
     (idx x1 s4.2).bind λx5 =>
     (qaM x5 (32:Int)).bind λx6 =>
     (bif decide ((x6.length:Int)<2)then
       some true
      else
       (qa5 x6 []).bind λx7 =>
       some x7).bind λ(p8:Bool) =>
     bif p8 then
      some (.inr (.inr ([],7)))
     else
      (idx x6 1).bind λx9 =>
      (qbB x9 (3:Int)).bind λx10 =>
      (bif !x10.2 then
        some true
       else
        some (decide (x10.1<0))).bind λ(p11:Bool) =>
      bif p11 then
       some (.inr (.inr ([],7)))
      else
       (idx x6 0).bind λx12 =>
       (slc x6 2 (x6.length:Int)).bind λx13 =>
       (app s4.1 ([(x12,x13,x10.1,())])).bind λx14 =>
       some (.inl (x14,w64 (s4.2+1)))
    else
     some (.inr (.inl s4.1))) ([],0)).bind (Sum.elim (λ(p15:yy7) =>
  (qbU p15).bind λx16 =>
  bif !(decide (x16=0))then
   some ([],x16)
  else
   some (p15,0)) some)
def qda:Entry:=⟨14,[.ty .str],[(yt6,1),(I,0)],λx=>qa2 x⟩
def qkE:TH:=qcd [([],14,.block 0,{lv:=[⟨none,4,0⟩],ps:=[(yt6,1)],abn:=true,D:=⟨144115188075791312⟩}),
 ([],14,.loop 0,{lv:=[⟨none,4,0⟩,⟨none,6,0⟩],ps:=[(yt6,1),(I,0)],D:=⟨144115188075791312⟩}),
 ([],14,.region 9,{lv:=[⟨none,33,0⟩],ps:=[(.bool,0)],D:=⟨17045651456⟩}),
 ([],14,.region 12,{lv:=[⟨none,46,0⟩],ps:=[(.bool,0)],D:=⟨138538465099776⟩})] []
theorem qkL:KT qda qkE [qf5,qbT,qeK,qcO] 40:=λx=>by kernel_rfl
theorem qkY:OT qda:=entK (qn ql1 (qn qdZ (qn qkU (qn qhe qx)))) hJ qkL
def qhu(a0:Int):Option Int :=
 some (max a0 (w64 (0-a0)))
def qjv:Entry:=⟨102,[.ty I],[(I,0)],λx=>qhu x⟩
def qvs:TH:=qcd [] []
theorem qvw:KT qjv qvs [] 40:=λx=>by kernel_rfl
theorem qvE:OT qjv:=entK qx hJ qvw
def qb4(a0:Int):Option (List UInt8) :=
 bif decide (a0=0)then
  some ([48])
 else
  (bif decide (a0<0)then
    some ([45])
   else
    some []).bind λ(p1:(List UInt8)) =>
  (qA (λ(s3:(Int×(List UInt8))) =>
    bif !(decide (s3.1=0))then
     (qhu (s3.1.tmod 10)).bind λx4 =>
     (app (([IntKind.wrap .u8 (w64 (48+x4))]).map λn=>UInt8.ofNat n.toNat) s3.2).bind λx5 =>
     some (.inl (w64 (s3.1.tdiv 10),x5))
    else
     some (.inr s3.2)) (a0,[])).bind λ(p6:(List UInt8)) =>
  (app p1 p6).bind λx7 =>
  some x7
def qdT:Entry:=⟨51,[.ty I],[(.str,0)],λx=>qb4 x⟩
def qpP:TH:=qcd [([],51,.cond 9,{lv:=[⟨none,4,0⟩],ps:=[(.str,0)],D:=⟨16⟩}),
 ([],51,.block 0,{lv:=[⟨none,3,0⟩],ps:=[(.str,0)],D:=⟨16776233⟩}),
 ([],51,.loop 0,{lv:=[⟨none,0,0⟩,⟨none,3,0⟩],ps:=[(I,0),(.str,0)],D:=⟨16776233⟩})] []
theorem qpS:KT qdT qpP [qjv] 40:=λx=>by kernel_rfl
theorem qjj:OT qdT:=entK (qn qvE qx) hJ qpS
def qa1(a0:yy5):Option (List UInt8) :=
 (qA (λ(s2:yy9) =>
   bif decide (s2.2<(a0.1.length:Int))then
    (app s2.1 ([43])).bind λx3 =>
    (idx a0.1 s2.2).bind λx4 =>
    (qb4 x4).bind λx5 =>
    (app x3 x5).bind λx6 =>
    some (.inl (x6,w64 (s2.2+1)))
   else
    some (.inr s2.1)) ([],0)).bind λ(p7:(List UInt8)) =>
 (qA (λ(s9:yy9) =>
   bif decide (s9.2<(a0.2.1.length:Int))then
    (app s9.1 ([45])).bind λx10 =>
    (idx a0.2.1 s9.2).bind λx11 =>
    (qb4 x11).bind λx12 =>
    (app x10 x12).bind λx13 =>
    some (.inl (x13,w64 (s9.2+1)))
   else
    some (.inr s9.1)) (p7,0)).bind λ(p14:(List UInt8)) =>
 some p14
def qc9:Entry:=⟨50,[.ty yt3],[(.str,0)],λx=>qa1 x⟩
def qkC:TH:=qcd [([],50,.block 0,{lv:=[⟨none,3,0⟩],ps:=[(.str,0)],D:=⟨4194264⟩,rs:=[⟨0,1⟩],Dn:=⟨4194136⟩}),
 ([],50,.loop 0,{lv:=[⟨none,3,0⟩,⟨none,4,0⟩],ps:=[(.str,0),(I,0)],D:=⟨4194264⟩,rs:=[⟨0,1⟩],Dn:=⟨4161368⟩}),
 ([],50,.block 2,{lv:=[⟨none,3,0⟩],ps:=[(.str,0)],D:=⟨274873712680⟩,rs:=[⟨0,1⟩],Dn:=⟨274865324072⟩}),
 ([],50,.loop 2,{lv:=[⟨none,3,0⟩,⟨none,5,0⟩],ps:=[(.str,0),(I,0)],D:=⟨274873712680⟩,rs:=[⟨0,1⟩],Dn:=⟨272717840424⟩})] []
theorem qkJ:KT qc9 qkC [qdT] 40:=λx=>by kernel_rfl
theorem qkX:OT qc9:=entK (qn qjj qx) hJ qkJ
def qbJ(a0:(yy4×yy2×(List yy5)×Unit)):Option (List UInt8) :=
 (qA (λ(s2:yy9) =>
   bif decide (s2.2<(a0.1.length:Int))then
    (bif decide (s2.2 > 0)then
      (app s2.1 ([44])).bind λx3 =>
      some x3
     else
      some s2.1).bind λ(p4:(List UInt8)) =>
    (idx a0.1 s2.2).bind λx5 =>
    (app p4 x5).bind λx6 =>
    some (.inl (x6,w64 (s2.2+1)))
   else
    some (.inr s2.1)) ([],0)).bind λ(p7:(List UInt8)) =>
 (app p7 ([47])).bind λx8 =>
 (qA (λ(s10:yy9) =>
   bif decide (s10.2<(a0.2.1.length:Int))then
    (bif decide (s10.2 > 0)then
      (app s10.1 ([59])).bind λx11 =>
      some x11
     else
      some s10.1).bind λ(p12:(List UInt8)) =>
    (idx a0.2.1 s10.2).bind λx13 =>
    (app p12 x13.1).bind λx14 =>
    (app x14 ([58])).bind λx15 =>
    (idx a0.2.1 s10.2).bind λx16 =>
    (qa1 (x16.2.1,x16.2.2.1,())).bind λx17 =>
    (app x15 x17).bind λx18 =>
    (app x18 ([62])).bind λx19 =>
    (idx a0.2.1 s10.2).bind λx20 =>
    (qa1 (x20.2.2.2.1,x20.2.2.2.2.1,())).bind λx21 =>
    (app x19 x21).bind λx22 =>
    some (.inl (x22,w64 (s10.2+1)))
   else
    some (.inr s10.1)) (x8,0)).bind λ(p23:(List UInt8)) =>
 (app p23 ([47])).bind λx24 =>
 (qA (λ(s26:yy9) =>
   bif decide (s26.2<(a0.2.2.1.length:Int))then
    (bif decide (s26.2 > 0)then
      (app s26.1 ([44])).bind λx27 =>
      some x27
     else
      some s26.1).bind λ(p28:(List UInt8)) =>
    (idx a0.2.2.1 s26.2).bind λx29 =>
    (qa1 x29).bind λx30 =>
    (app p28 x30).bind λx31 =>
    some (.inl (x31,w64 (s26.2+1)))
   else
    some (.inr s26.1)) (x24,0)).bind λ(p32:(List UInt8)) =>
 some p32
def qb6:Entry:=⟨15,[.ty yt8],[(.str,0)],λx=>qbJ x⟩
def qhF:TH:=qcd [([],15,.block 0,{lv:=[⟨none,3,0⟩],ps:=[(.str,0)],D:=⟨33554328⟩,rs:=[⟨0,1⟩],Dn:=⟨33554072⟩}),
 ([],15,.loop 0,{lv:=[⟨none,3,0⟩,⟨none,4,0⟩],ps:=[(.str,0),(I,0)],D:=⟨33554328⟩,rs:=[⟨0,1⟩],Dn:=⟨33029784⟩}),
 ([],15,.cond 15,{lv:=[⟨none,3,0⟩],ps:=[(.str,0)],D:=⟨196616⟩}),
 ([],15,.block 2,{lv:=[⟨none,3,0⟩],ps:=[(.str,0)],D:=⟨18446744073575333928⟩,rs:=[⟨0,1⟩],Dn:=⟨18446744073306898472⟩}),
 ([],15,.loop 2,{lv:=[⟨none,3,0⟩,⟨none,5,0⟩],ps:=[(.str,0),(I,0)],D:=⟨18446744073575333928⟩,rs:=[⟨0,1⟩],Dn:=⟨18374545192024801320⟩}),
 ([],15,.cond 35,{lv:=[⟨none,3,0⟩],ps:=[(.str,0)],D:=⟨206158430216⟩}),
 ([],15,.block 4,{lv:=[⟨none,3,0⟩],ps:=[(.str,0)],D:=⟨38685552440691838752391240⟩,rs:=[⟨0,1⟩],Dn:=⟨38685404866739249075978312⟩}),
 ([],15,.loop 4,{lv:=[⟨none,3,0⟩,⟨none,6,0⟩],ps:=[(.str,0),(I,0)],D:=⟨38685552440691838752391240⟩,rs:=[⟨0,1⟩],Dn:=⟨38383173411835591782301768⟩}),
 ([],15,.cond 74,{lv:=[⟨none,3,0⟩],ps:=[(.str,0)],D:=⟨113336795588871485128712⟩})] []
theorem qhJ:KT qb6 qhF [qc9] 40:=λx=>by kernel_rfl
theorem qhS:OT qb6:=entK (qn qkX qx) hJ qhJ
def qcm(a0:yy7):Option (List UInt8) :=
 (qA (λ(s2:yy9) =>
   bif decide (s2.2<(a0.length:Int))then
    (bif decide (s2.2 > 0)then
      (app s2.1 ([59])).bind λx3 =>
      some x3
     else
      some s2.1).bind λ(p4:(List UInt8)) =>
    (idx a0 s2.2).bind λx5 =>
    (app p4 x5.1).bind λx6 =>
    (app x6 ([32])).bind λx7 =>
    (idx a0 s2.2).bind λx8 =>
    (qb4 x8.2.2.1).bind λx9 =>
    (app x7 x9).bind λx10 =>
    (qA (λ(s12:yy9) =>
      (idx a0 s2.2).bind λx13 =>
      bif decide (s12.2<(x13.2.1.length:Int))then
       (app s12.1 ([32])).bind λx14 =>
       (idx a0 s2.2).bind λx15 =>
       (idx x15.2.1 s12.2).bind λx16 =>
       (app x14 x16).bind λx17 =>
       some (.inl (x17,w64 (s12.2+1)))
      else
       some (.inr s12.1)) (x10,0)).bind λ(p18:(List UInt8)) =>
    some (.inl (p18,w64 (s2.2+1)))
   else
    some (.inr s2.1)) ([],0)).bind λ(p19:(List UInt8)) =>
 some p19
def qcU:Entry:=⟨16,[.ty yt6],[(.str,0)],λx=>qcm x⟩
def qjz:TH:=qcd [([],16,.block 0,{lv:=[⟨none,3,0⟩],ps:=[(.str,0)],D:=⟨4503599627370488⟩}),
 ([],16,.loop 0,{lv:=[⟨none,3,0⟩,⟨none,4,0⟩],ps:=[(.str,0),(I,0)],D:=⟨4503599627370488⟩}),
 ([],16,.cond 13,{lv:=[⟨none,3,0⟩],ps:=[(.str,0)],D:=⟨49160⟩}),
 ([],16,.block 2,{lv:=[⟨none,3,0⟩],ps:=[(.str,0)],D:=⟨4503597479886888⟩}),
 ([],16,.loop 2,{lv:=[⟨none,3,0⟩,⟨none,5,0⟩],ps:=[(.str,0),(I,0)],D:=⟨4503597479886888⟩})] []
theorem qjE:KT qcU qjz [qdT] 40:=λx=>by kernel_rfl
theorem qjL:OT qcU:=entK (qn qjj qx) hJ qjE
def qf2(a0:yy4)(a1:yy4):Option Bool :=
 bif !(decide ((a0.length:Int)=(a1.length:Int)))then
  some false
 else
  (qA (λ(s2:Int) =>
    bif decide (s2<(a0.length:Int))then
     (idx a0 s2).bind λx3 =>
     (idx a1 s2).bind λx4 =>
     bif !(decide (x3=x4))then
      some (.inr (.inr false))
     else
      some (.inl (w64 (s2+1)))
    else
     some (.inr (.inl ()))) 0).bind (Sum.elim (λ(p5:Unit) =>
  some true) some)
def qfG:Entry:=⟨52,[.ty (.sl .str),.ty (.sl .str)],[(.bool,0)],λx=>qf2 x.1 x.2⟩
def qtD:TH:=qcd [([],52,.block 0,{lv:=[],ps:=[],abn:=true,D:=⟨67106848⟩}),
 ([],52,.loop 0,{lv:=[⟨none,5,0⟩],ps:=[(I,0)],D:=⟨67106848⟩})] []
theorem qtH:KT qfG qtD [] 40:=λx=>by kernel_rfl
theorem qmI:OT qfG:=entK qx hJ qtH
def qht(a0:(List Int))(a1:(List Int)):Option Bool :=
 bif !(decide ((a0.length:Int)=(a1.length:Int)))then
  some false
 else
  (qA (λ(s2:Int) =>
    bif decide (s2<(a0.length:Int))then
     (idx a0 s2).bind λx3 =>
     (idx a1 s2).bind λx4 =>
     bif !(decide (x3=x4))then
      some (.inr (.inr false))
     else
      some (.inl (w64 (s2+1)))
    else
     some (.inr (.inl ()))) 0).bind (Sum.elim (λ(p5:Unit) =>
  some true) some)
def qju:Entry:=⟨30,[.ty (.sl I),.ty (.sl I)],[(.bool,0)],λx=>qht x.1 x.2⟩
def qvr:TH:=qcd [([],30,.block 0,{lv:=[],ps:=[],abn:=true,D:=⟨67106848⟩}),
 ([],30,.loop 0,{lv:=[⟨none,5,0⟩],ps:=[(I,0)],D:=⟨67106848⟩})] []
theorem qvv:KT qju qvr [] 40:=λx=>by kernel_rfl
theorem qvD:OT qju:=entK qx hJ qvv
def qaS(a0:yy5)(a1:yy5):Option Bool :=
 ((qht a0.1 a1.1).bind λx1 =>
  bif x1 then
   (qht a0.2.1 a1.2.1).bind λx2 =>
   some x2
  else
   some false).bind λ(p3:Bool) =>
 some p3
def qet:Entry:=⟨53,[.ty yt3,.ty yt3],[(.bool,0)],λx=>qaS x.1 x.2⟩
def qm2:TH:=qcd [([],53,.region 1,{lv:=[⟨none,4,0⟩],ps:=[(.bool,0)],D:=⟨131056⟩,rs:=[⟨0,2⟩,⟨0,3⟩],Dn:=⟨120656⟩})] []
theorem qna:KT qet qm2 [qju] 40:=λx=>by kernel_rfl
theorem qni:OT qet:=entK (qn qvD qx) hJ qna
def qgj(a0:(yy4×yy2×(List yy5)×Unit))(a1:(yy4×yy2×(List yy5)×Unit)):Option Bool :=
 ((qf2 a0.1 a1.1).bind λx1 =>
  bif !x1 then
   some true
  else
   bif !(decide ((a0.2.1.length:Int)=(a1.2.1.length:Int)))then
    some true
   else
    some (!(decide ((a0.2.2.1.length:Int)=(a1.2.2.1.length:Int))))).bind λ(p2:Bool) =>
 bif p2 then
  some false
 else
  (qA (λ(s4:Int) =>
    bif decide (s4<(a0.2.1.length:Int))then
     ((idx a0.2.1 s4).bind λx5 =>
      (idx a1.2.1 s4).bind λx6 =>
      bif !(decide (x5.1=x6.1))then
       some true
      else
       (idx a0.2.1 s4).bind λx7 =>
       (idx a1.2.1 s4).bind λx8 =>
       (qaS (x7.2.1,x7.2.2.1,()) (x8.2.1,x8.2.2.1,())).bind λx9 =>
       bif !x9 then
        some true
       else
        (idx a0.2.1 s4).bind λx10 =>
        (idx a1.2.1 s4).bind λx11 =>
        (qaS (x10.2.2.2.1,x10.2.2.2.2.1,()) (x11.2.2.2.1,x11.2.2.2.2.1,())).bind λx12 =>
        some (!x12)).bind λ(p13:Bool) =>
     bif p13 then
      some (.inr (.inr false))
     else
      some (.inl (w64 (s4+1)))
    else
     some (.inr (.inl ()))) 0).bind (Sum.elim (λ(p14:Unit) =>
  (qA (λ(s16:Int) =>
    bif decide (s16<(a0.2.2.1.length:Int))then
     (idx a0.2.2.1 s16).bind λx17 =>
     (idx a1.2.2.1 s16).bind λx18 =>
     (qaS x17 x18).bind λx19 =>
     bif !x19 then
      some (.inr (.inr false))
     else
      some (.inl (w64 (s16+1)))
    else
     some (.inr (.inl ()))) 0).bind (Sum.elim (λ(p20:Unit) =>
  some true) some)) some)
def qhx:Entry:=⟨17,[.ty yt8,.ty yt8],[(.bool,0)],λx=>qgj x.1 x.2⟩
def qtF:TH:=qcd [([],17,.region 1,{lv:=[⟨none,30,0⟩],ps:=[(.bool,0)],D:=⟨2147483520⟩,rs:=[⟨0,2⟩,⟨0,3⟩],Dn:=⟨2071837952⟩}),
 ([],17,.block 0,{lv:=[],ps:=[],abn:=true,D:=⟨9671406556917031250165792⟩,rs:=[⟨0,2⟩],Dn:=⟨9671406556917026955198496⟩}),
 ([],17,.loop 0,{lv:=[⟨none,5,0⟩],ps:=[(I,0)],D:=⟨9671406556917031250165792⟩,rs:=[⟨0,2⟩,⟨0,3⟩],Dn:=⟨9652221650328526178484256⟩}),
 ([],17,.region 6,{lv:=[⟨none,82,0⟩],ps:=[(.bool,0)],D:=⟨9671406556916758519742464⟩,rs:=[⟨0,2⟩,⟨0,3⟩],Dn:=⟨9652221650328257743028224⟩}),
 ([],17,.block 2,{lv:=[],ps:=[],abn:=true,D:=⟨5070592729506360688953415172160⟩,rs:=[⟨0,2⟩],Dn:=⟨5070573386693246854886619873344⟩}),
 ([],17,.loop 2,{lv:=[⟨none,6,0⟩],ps:=[(I,0)],D:=⟨5070592729506360688953415172160⟩,rs:=[⟨0,2⟩,⟨0,3⟩],Dn:=⟨5029721365396829305814948773952⟩})] []
theorem qtJ:KT qhx qtF [qfG,qet] 40:=λx=>by kernel_rfl
theorem qt2:OT qhx:=entK (qn qmI (qn qni qx)) hJ qtJ
def qbr(a0:yy7)(a1:yy7):Option Bool :=
 bif !(decide ((a0.length:Int)=(a1.length:Int)))then
  some false
 else
  (qA (λ(s2:Int) =>
    bif decide (s2<(a0.length:Int))then
     ((idx a0 s2).bind λx3 =>
      (idx a1 s2).bind λx4 =>
      bif !(decide (x3.1=x4.1))then
       some true
      else
       (idx a0 s2).bind λx5 =>
       (idx a1 s2).bind λx6 =>
       bif !(decide (x5.2.2.1=x6.2.2.1))then
        some true
       else
        (idx a0 s2).bind λx7 =>
        (idx a1 s2).bind λx8 =>
        (qf2 x7.2.1 x8.2.1).bind λx9 =>
        some (!x9)).bind λ(p10:Bool) =>
     bif p10 then
      some (.inr (.inr false))
     else
      some (.inl (w64 (s2+1)))
    else
     some (.inr (.inl ()))) 0).bind (Sum.elim (λ(p11:Unit) =>
  some true) some)
def qdG:Entry:=⟨18,[.ty yt6,.ty yt6],[(.bool,0)],λx=>qbr x.1 x.2⟩
def qlR:TH:=qcd [([],18,.block 0,{lv:=[],ps:=[],abn:=true,D:=⟨36028797018961952⟩}),
 ([],18,.loop 0,{lv:=[⟨none,5,0⟩],ps:=[(I,0)],D:=⟨36028797018961952⟩}),
 ([],18,.region 6,{lv:=[⟨none,54,0⟩],ps:=[(.bool,0)],D:=⟨36028797018832896⟩})] []
theorem qlU:KT qdG qlR [qfG] 40:=λx=>by kernel_rfl
theorem ql3:OT qdG:=entK (qn qmI qx) hJ qlU
def qdY(a0:(List yy5)):Option Bool :=
 (qA (λ(s2:Int) =>
   bif decide (s2<(a0.length:Int))then
    (idx a0 s2).bind λx3 =>
    (idx a0 s2).bind λx4 =>
    bif decide (w64 ((x3.1.length:Int)+(x4.2.1.length:Int))=0)then
     some (.inr (.inr false))
    else
     some (.inl (w64 (s2+1)))
   else
    some (.inr (.inl ()))) 0).bind (Sum.elim (λ(p5:Unit) =>
 some true) some)
def qer:Entry:=⟨20,[.ty (.sl yt3)],[(.bool,0)],λx=>qdY x⟩
def qmZ:TH:=qcd [([],20,.block 0,{lv:=[],ps:=[],abn:=true,D:=⟨16777208⟩}),
 ([],20,.loop 0,{lv:=[⟨none,3,0⟩],ps:=[(I,0)],D:=⟨16777208⟩})] []
theorem qm7:KT qer qmZ [] 40:=λx=>by kernel_rfl
theorem qng:OT qer:=entK qx hJ qm7
def qcZ(a0:(yy4×yy2×(List yy5)×Unit))(a1:yy7)(a2:(List UInt8)):Option Bool :=
 (qjJ).bind λx1 =>
 bif !x1 then
  some false
 else
  ((qkO a0).bind λx2 =>
   bif !x2 then
    some true
   else
    (qdX a1).bind λx3 =>
    bif !x3 then
     some true
    else
     bif decide ((a2.length:Int) > 300)then
      bif decide ((a2.length:Int)<=60000)then
       some true
      else
       some (decide ((a2.length:Int) > 60010))
     else
      some (decide ((a2.length:Int) > 60010))).bind λ(p4:Bool) =>
  bif p4 then
   some true
  else
   (qiI a0).bind λx5 =>
   (qbj x5).bind λx6 =>
   (qdn a1).bind λx7 =>
   (qbc x7).bind λx8 =>
   (qaj a2).bind λx9 =>
   (q8 a2).bind λx10 =>
   (qaN a2).bind λx11 =>
   (qa2 a2).bind λx12 =>
   ((qbJ a0).bind λx13 =>
    bif !(decide (x6=x13))then
     some true
    else
     (qcm a1).bind λx14 =>
     bif !(decide (x8=x14))then
      some true
     else
      bif !(decide (x9.2=x11.2))then
       some true
      else
       (qgj x9.1 x11.1).bind λx15 =>
       bif !x15 then
        some true
       else
        bif !(decide (x10.2=x12.2))then
         some true
        else
         (qbr x10.1 x12.1).bind λx16 =>
         some (!x16)).bind λ(p17:Bool) =>
   bif p17 then
    some false
   else
    ((qbQ a0).bind λx18 =>
     bif decide (x18=0)then
      (qdY a0.2.2.1).bind λx19 =>
      some x19
     else
      some false).bind λ(p20:Bool) =>
    (bif p20 then
      (qaj x6).bind λx21 =>
      (bif !(decide (x21.2=0))then
        some true
       else
        (qgj x21.1 a0).bind λx22 =>
        some (!x22)).bind λ(p23:Bool) =>
      bif p23 then
       some (.inr false)
      else
       some (.inl ())
     else
      some (.inl ())).bind (Sum.elim (λ(p24:Unit) =>
    (qbU a1).bind λx25 =>
    bif !(decide (x25=0))then
     some true
    else
     (q8 x8).bind λx26 =>
     (bif decide (x26.2=0)then
       (qbr x26.1 a1).bind λx27 =>
       some x27
      else
       some false).bind λ(p28:Bool) =>
     some p28) some)
def qa8:Entry:=⟨3,[.ty yt8,.ty yt6,.ty .str],[(.bool,0)],λx=>qcZ x.1 x.2.1 x.2.2⟩
def qhE:TH:=qcd [([],3,.region 3,{lv:=[⟨none,45,0⟩],ps:=[(.bool,0)],D:=⟨70368735789056⟩}),
 ([],3,.region 10,{lv:=[⟨none,103,0⟩],ps:=[(.bool,0)],D:=⟨20282409598929303941077606107136⟩}),
 ([],3,.region 12,{lv:=[⟨none,111,0⟩],ps:=[(.bool,0)],D:=⟨5172014448931175958106549077934080⟩,rs:=[⟨0,3⟩],Dn:=⟨4847495895272749231323393057357824⟩}),
 ([],3,.cond 111,{lv:=[],ps:=[],abn:=true,D:=⟨42530103568258773105293295432642199552⟩,wr:=[⟨0,17⟩],rs:=[⟨0,17⟩],Dn:=⟨42530103568258773105293295432642068480⟩}),
 ([],3,.region 14,{lv:=[⟨none,124,0⟩],ps:=[(.bool,0)],D:=⟨42369142365644193448808850046435983360⟩}),
 ([],3,.region 19,{lv:=[⟨none,6,0⟩],ps:=[(.bool,0)],D:=⟨1382907539166693915515154404602706011881536⟩})] []
theorem qhI:KT qa8 qhE [qeM,qjw,qeq,qer,qhw,qdF,qcU,qb6,qcO,qbW,qda,qct,qhx,qdG,qcu,qbV,qcW,qb8] 40:=λx=>by kernel_rfl
theorem qhR:OT qa8:=entK (qn qr7 (qn qvF (qn qnf (qn qng (qn qt1 (qn ql2 (qn qjL (qn qhS (qn qhe (qn qfL (qn qkY (qn qi3 (qn qt2 (qn ql3 (qn qi5 (qn qhn (qn qjN (qn qhU qx)))))))))))))))))) hJ qhI
end
end
theorem wit(n lo hi:Int):qE n lo hi=some (decide (lo<=n/\n<=hi)):=by
 unfold qE;by_cases h:lo<=n<;>by_cases h':n<=hi<;>simp [h,h']
theorem Wit(n lo hi:Int):qfc n lo hi=some (decide (lo<=n/\n<=hi)):=by
 unfold qfc;by_cases h:lo<=n<;>by_cases h':n<=hi<;>simp [h,h']
theorem wq{n:Int}(h1 : -9223372036854775808<=n)(h2:n<=9223372036854775807):w64 n=n:=qmv h1 h2
theorem unl(b:Bool)(e:Int):qu b e=some (if b then 0 else e):=by cases b<;>rfl
theorem qyZ(l:List Int)(h:l.length<=1000000000):qy l=some (qjc l):=by
 unfold qy;exact qzK l h
abbrev Rg:=Int×Int×Unit
def wOk(w:Rg):Prop:=(-1000000<=w.1/\w.1<=1000000)/\(1<=w.2.1/\w.2.1<=8)
instance (w:Rg):Decidable (wOk w):=by unfold wOk;infer_instance
abbrev Nm:=List UInt8
abbrev Gt:=List UInt8×List (List UInt8)×Int×Unit
theorem qE8(l:List Nm)(m:Nm):qgN .str l m=decide (m∈l):=by
 have:=qCk (τ:=.str) rfl (l:=l) (k:=m);by_cases h:m∈l
 ·rw [decide_eq_true h];exact this.2 h
 ·rw [decide_eq_false h];cases hm:qgN .str l m with
  |false=>rfl
  |true=>exact absurd (this.1 hm) h
theorem qGa(l:List Nm)(k:Nm):qlt .str l k=if k∈l then l else l++[k]:=by
 unfold qlt;rw [qE8];by_cases h:k∈l
 ·rw [decide_eq_true h,if_pos h];rfl
 ·rw [decide_eq_false h,if_neg h];rfl
theorem qnI(l:List Nm)(m k:Nm):m∈qlt .str l k↔m∈l\/m=k:=by
 rw [qGa];split
 ·rename_i h;exact ⟨λh=>.inl h,λh'=>h'.elim id λe=>e▸h⟩
 ·simp
theorem qnA{ρ:Type}(n:Nat)(K:Int->Option (Int⊕(Unit⊕ρ)))(q:Nat->Prop)[∀i,Decidable (q i)](r:ρ)(c:Prop)[Decidable c](hc:c↔∃j,j<n/\q j)
  (h:∀i,i<n->K (i:Int)=some (if q i then .inr (.inr r)else .inl ((i:Int)+1))) :
  qA (λs=>bif decide (s<(n:Int))then K s else some (.inr (.inl ()))) 0=some (if c then .inr r else .inl ()):=by
 refine Ok.eq (qc0 n (λi (s:Int)=>s=(i:Int)/\∀j,j<i->¬ q j) _ ⟨rfl,by omega⟩ ?_);rintro i s hi ⟨rfl,hI⟩;by_cases hlt:i<n
 ·have h0:decide ((i:Int)<(n:Int))=true:=by simp<;>omega
  simp only [h0,cond_true];rw [h i hlt];by_cases hq:q i
  ·rw [if_pos hq,qag,if_pos (hc.2 ⟨i,hlt,hq⟩)]
  ·rw [if_neg hq,qaZ];refine ⟨hlt,by simp,λj hj=>?_⟩;by_cases e:j=i
   ·subst e;exact hq
   ·exact hI j (by omega)
 ·have h0:decide ((i:Int)<(n:Int))=false:=by simp<;>omega
  simp only [h0,cond_false];rw [qag,if_neg (λh=>by
   obtain ⟨j,h1,h2⟩:=hc.1 h;exact hI j (by omega) h2)]
theorem qeQ{α:Type}{l:List α}{i:Nat}{a:α}:a∈l.take i↔∃j,j<i/\l[j]?=some a:=by
 rw [List.mem_iff_getElem?];constructor
 ·rintro ⟨j,h⟩;rw [List.getElem?_take]at h;split at h
  ·exact ⟨j,by assumption,h⟩
  ·cases h
 ·rintro ⟨j,h1,h2⟩;exact ⟨j,by rw [List.getElem?_take,if_pos h1];exact h2⟩
theorem qob{α:Type}{g:Nat->α->Int}:∀(l m:List α) (k:Nat),qaE g k (l++m)=if (qaE g k l).2=0 then qaE g (k+l.length) m else qaE g k l
 |[],m,k=>by simp [qaE]
 |a::l,m,k=>by
  simp only [List.cons_append,qaE];by_cases h:g k a=0
  ·simp only [h,if_true];rw [qob l m (k+1),List.length_cons,show k+1+l.length=k+(l.length+1) by omega]
  ·simp [h]
theorem qrz{α:Type}{g:Nat->α->Int}:∀{l:List α} {k:Nat},(qaE g k l).2=0->qaE g k l=(0,0)
 |[],k,_=>rfl
 |a::l,k,h=>by
  simp only [qaE]at h ⊢;by_cases h0:g k a=0
  ·simp only [h0,if_true]at h ⊢;exact qrz h
  ·simp [h0]at h
theorem qlD{α:Type}{g:Nat->α->Int}{l:List α}{i:Nat}{a:α}(h:l[i]?=some a):(qaE g 0 (l.take (i+1))).2=if (qaE g 0 (l.take i)).2=0 then g i a else (qaE g 0 (l.take i)).2:=by
 have hlt:=qY h;rw [qbw a hlt,getD_at h,qob];split
 ·rw [List.length_take,Nat.min_eq_left (by omega),Nat.zero_add];simp only [qaE];by_cases h0:g i a=0<;>simp [h0]
 ·rfl
theorem qs8{α:Type}{g:Nat->α->Int}{l:List α}{i:Nat}{a:α}(h:l[i]?=some a)(h0:(qaE g 0 (l.take i)).2=0)(ha:g i a≠0):qaE g 0 l=((i:Int),g i a):=by
 have hlt:=qY h;have hl:l=l.take i++a::l.drop (i+1):=by
  have h2:l[i]=a:=by
   have:=List.getElem?_eq_getElem hlt;rw [this]at h;exact Option.some.inj h
  rw [<- h2,<- List.drop_eq_getElem_cons hlt];simp
 rw [hl,qob,if_pos h0,List.length_take,Nat.min_eq_left (by omega),Nat.zero_add];simp [qaE,ha]
def qAa(c:UInt8):Bool:=decide (97<=(c.toNat:Int)/\(c.toNat:Int)<=122)||decide (65<=(c.toNat:Int)/\(c.toNat:Int)<=90)
def qu0(i:Nat)(c:UInt8):Bool:=!qAa c&&(decide ((i:Int)=0)||(!decide ((c.toNat:Int)=45)&&!decide (48<=(c.toNat:Int)/\(c.toNat:Int)<=57)))
def isN(s:Nm):Bool:=decide (1<=(s.length:Int)/\(s.length:Int)<=12)&&(qaX (λi c=>if qu0 i c=true then some false else none) 0 s).isNone
theorem qFx(c:UInt8):(c.toNat:Int)<256:=by
 have:=UInt8.toNat_lt c;omega
theorem qky(s:Nm)(hl:s.length<=1000000000):qaG s=some (isN s):=by
 unfold qaG;rw [qap s _ (λi c=>if qu0 i c=true then some false else none) (λi c hi=>by
  have:=qY hi;have hu:=qFx c;rw [qQ hi];simp only [qa];rw [wq (by omega) (by omega)];simp only [wit,qa];have c1:(bif decide (97<=(c.toNat:Int)/\(c.toNat:Int)<=122)then some true else some (decide (65<=(c.toNat:Int)/\(c.toNat:Int)<=90)))=some (qAa c):=by
   unfold qAa;cases decide (97<=(c.toNat:Int)/\(c.toNat:Int)<=122)<;>rfl
  rw [c1];simp only [qa];have c2:(bif !qAa c then bif decide ((i:Int)=0)then some true else bif !(decide ((c.toNat:Int)=45))then some (!decide (48<=(c.toNat:Int)/\(c.toNat:Int)<=57))else some false else some false)=some (qu0 i c):=by
   unfold qu0;cases qAa c<;>cases decide ((i:Int)=0)<;>cases decide ((c.toNat:Int)=45)<;>rfl
  rw [c2];simp only [qa];cases qu0 i c
  ·simp only [cond_false,qf,if_false,stp];rw [wq (by omega) (by omega)]
  ·rfl),qZ]
 unfold isN;have hs:∀r,qaX (λi c=>if qu0 i c=true then some false else none) 0 s=some r->r=false:=by
  intro r hr;obtain ⟨i,a,_,h2,_⟩:=qaT hr;split at h2
  ·exact (Option.some.inj h2).symm
  ·cases h2
 cases hf:qaX (λi c=>if qu0 i c=true then some false else none) 0 s with
 |none=>simp [wit]
 |some r=>rw [hs r hf];simp
theorem qnZ(s:Nm):qcT s=some (isN s):=by
 unfold qcT;by_cases h1:(s.length:Int)<1
 ·have:¬ (1<=(s.length:Int)/\(s.length:Int)<=12):=by omega
  simp only [isN,decide_eq_false this,Bool.false_and];simp only [h1,decide_true,cond_true,qa]
 ·by_cases h2:(s.length:Int) > 12
  ·have:¬ (1<=(s.length:Int)/\(s.length:Int)<=12):=by omega
   simp only [isN,decide_eq_false this,Bool.false_and];simp only [h1,h2,decide_true,decide_false,cond_true,cond_false,qa]
  ·have hr:(1<=(s.length:Int)/\(s.length:Int)<=12):=by omega
   simp only [isN,decide_eq_true hr,Bool.true_and];simp only [h1,h2,decide_true,decide_false,cond_true,cond_false,qa];rw [qap s _ (λi c=>if qu0 i c=true then some false else none) (λi c hi=>by
    have:=qY hi;have hu:=qFx c;rw [qQ hi];simp only [qa];have c1:(bif decide ((c.toNat:Int)>=97)then bif decide ((c.toNat:Int)<=122)then some true else bif decide ((c.toNat:Int)>=65)then some (decide ((c.toNat:Int)<=90))else some false
      else bif decide ((c.toNat:Int)>=65)then some (decide ((c.toNat:Int)<=90))else some false)=some (qAa c):=by
     unfold qAa;by_cases a1:(c.toNat:Int)>=97<;>by_cases a2:(c.toNat:Int)<=122<;>by_cases a3:(c.toNat:Int)>=65<;>by_cases a4:(c.toNat:Int)<=90<;>simp [a1,a2,a3,a4]
    rw [c1];simp only [qa];have c2:(bif !qAa c then bif decide ((i:Int)=0)then some true else bif !(decide ((c.toNat:Int)=45))then bif decide ((c.toNat:Int)<48)then some true else some (decide ((c.toNat:Int) > 57))else some false else some false)=some (qu0 i c):=by
     unfold qu0;have e:(bif decide ((c.toNat:Int)<48)then some true else some (decide ((c.toNat:Int) > 57)))=some (!decide (48<=(c.toNat:Int)/\(c.toNat:Int)<=57)):=by
      by_cases a1:(c.toNat:Int)<48
      ·have:¬ (48<=(c.toNat:Int)/\(c.toNat:Int)<=57):=by omega
       rw [decide_eq_true a1,decide_eq_false this];rfl
      ·rw [decide_eq_false a1];by_cases a2:(c.toNat:Int) > 57
       ·have:¬ (48<=(c.toNat:Int)/\(c.toNat:Int)<=57):=by omega
        rw [decide_eq_true a2,decide_eq_false this];rfl
       ·have:(48<=(c.toNat:Int)/\(c.toNat:Int)<=57):=by omega
        rw [decide_eq_false a2,decide_eq_true this];rfl
     rw [e];cases qAa c<;>cases decide ((i:Int)=0)<;>cases decide ((c.toNat:Int)=45)<;>rfl
    rw [c2];simp only [qa];cases qu0 i c
    ·simp only [cond_false,qf,if_false,stp];rw [wq (by omega) (by omega)]
    ·rfl),qZ]
   have hs:∀r,qaX (λi c=>if qu0 i c=true then some false else none) 0 s=some r->r=false:=by
    intro r hr;obtain ⟨i,a,_,h2,_⟩:=qaT hr;split at h2
    ·exact (Option.some.inj h2).symm
    ·cases h2
   cases hf:qaX (λi c=>if qu0 i c=true then some false else none) 0 s with
   |none=>simp
   |some r=>rw [hs r hf];simp
def qgZ(l:List Nm)(i:Nat)(r:Nm):Int:=if isN r=true then (if r∈l.take i then 23 else 0)else 4
def qk7(l:List Nm):Int:=(qaE (qgZ l) 0 l).2
def qks(gs:List Gt)(i:Nat)(g:Gt):Int :=
 if isN g.1=true then (if g.1∈(gs.take i).map (·.1)then 5 else if (g.2.1.length:Int)<=4 then (if qk7 g.2.1=0 then (if 0<=g.2.2.1/\g.2.2.1<=20 then 0 else 2)else qk7 g.2.1)else 8)else 4
def qeF(gs:List Gt):Int×Int:=if (gs.length:Int) > 0 then (if (gs.length:Int)<=6 then qaE (qks gs) 0 gs else (0,8))else (0,10)
structure GB (gs:List Gt):Prop where
 len:gs.length<=1000
 nm:∀g∈gs,g.1.length<=1000
 rl:∀g∈gs,g.2.1.length<=1000
 rn:∀g∈gs,∀r∈g.2.1,r.length<=1000
structure GS (gs:List Gt):Prop where
 len:gs.length<=8
 nm:∀g∈gs,g.1.length<=30
 rl:∀g∈gs,g.2.1.length<=6
 rn:∀g∈gs,∀r∈g.2.1,r.length<=30
theorem GS.gb{gs:List Gt}(h:GS gs):GB gs :=
 ⟨by have:=h.len;omega,λg hg=>by have:=h.nm g hg;omega,λg hg=>by have:=h.rl g hg;omega,λg hg r hr=>by have:=h.rn g hg r hr;omega⟩
theorem qCI(l:List Nm)(e0:Int)(hl:l.length<=1000)(hr:∀r∈l,r.length<=1000):(qA (λ(s14:(Int×Int×(List (List UInt8)))) =>
        bif decide (s14.2.1<(l.length:Int))then
         (idx l s14.2.1).bind λx15 =>
         (qaG x15).bind λx16 =>
         (qy ([if x16=true then 0 else 4,if (!(qgN .str s14.2.2 x15))=true then 0 else 23])).bind λx19 =>
         (qy ([s14.1,x19])).bind λx20 =>
         some (.inl (x20,w64 (s14.2.1+1),qlt .str s14.2.2 x15))
        else
         some (.inr s14.1)) (e0,0,[]))=some (if e0=0 then qk7 l else e0):=by
 refine Ok.eq (qc0 l.length (λi (st:Int×Int×List Nm)=>st.1=(if e0=0 then (qaE (qgZ l) 0 (l.take i)).2 else e0)/\st.2.1=(i:Int)/\∀r,r∈st.2.2↔r∈l.take i) _ ⟨by by_cases h:e0=0<;>simp [h,qaE],rfl,by simp⟩ ?_);rintro i ⟨e,i0,kn⟩ hi ⟨e1,e2,e3⟩;simp only at e1 e2 e3;subst e2;by_cases hlt:i<l.length
 ·have h0:decide ((i:Int)<(l.length:Int))=true:=by simp<;>omega
  obtain ⟨r,hx⟩:∃r,l[i]?=some r:=⟨_,List.getElem?_eq_getElem hlt⟩
  simp only [h0,cond_true];rw [qQ hx];simp only [qa];rw [qky r (by have:=hr r (List.mem_of_getElem? hx);omega),qE8];simp only [qa];rw [qyZ _ (by simp)];simp only [qa];rw [qyZ _ (by simp)];simp only [qa];rw [qaZ];refine ⟨hlt,?_,?_,λr'=>?_⟩
  ·simp only
   rw [qlD hx,e1];have hm:(decide (r∈kn)=true)↔r∈l.take i:=by rw [decide_eq_true_iff];exact e3 r
   unfold qgZ;by_cases a1:e0=0
   ·simp only [a1,if_true,qjc];by_cases a2:(qaE (λi r=>if isN r=true then if r∈List.take i l then 23 else 0 else 4) 0 (List.take i l)).2=0
    ·simp only [a2,if_true];by_cases a3:isN r=true
     ·by_cases a4:r∈l.take i
      ·have:r∈kn:=(e3 r).2 a4;simp [a3,a4,this]
      ·have:r∉kn:=λh=>a4 ((e3 r).1 h);simp [a3,a4,this]
     ·simp [a3]
    ·simp [a2]
   ·simp [a1,qjc]
  ·simp only;rw [wq (by omega) (by omega)];simp
  ·simp only
   rw [qnI,e3,qbw r hlt,getD_at hx];simp
 ·have:i=l.length:=by omega
  subst this;have h0:decide ((l.length:Int)<(l.length:Int))=false:=by simp
  simp only [h0,cond_false];rw [qag,e1,List.take_length];rfl
theorem qrw{gs:List Gt}(hb:GB gs):qbt gs=some (qeF gs):=by
 unfold qbt qeF;simp only [unl,qa];rw [qyZ _ (by simp)];simp only [qa,qjc];by_cases h1:(gs.length:Int) > 0
 ·by_cases h2:(gs.length:Int)<=6
  ·simp only [h1,h2,decide_true,if_true,Bool.not_true,cond_false];refine Ok.eq ?_;rw [qAv,qAw];refine (qc0 gs.length (λi (st:Int×List Nm)=>st.1=(i:Int)/\(∀r,r∈st.2↔r∈(gs.take i).map (·.1))/\(qaE (qks gs) 0 (gs.take i)).2=0)
    (λr:List Nm⊕(Int×Int×List Nm)=>match r with
     |.inl _=>(qaE (qks gs) 0 gs)=(0,0)
     |.inr q=>(q.1,q.2.1)=qaE (qks gs) 0 gs) ⟨rfl,by simp,rfl⟩ ?_).mono ?_
   ·rintro i ⟨i0,kn⟩ hi ⟨e1,e2,e3⟩;simp only at e1 e2;subst e1;by_cases hlt:i<gs.length
    ·have h0:decide ((i:Int)<(gs.length:Int))=true:=by simp<;>omega
     obtain ⟨g,hx⟩:∃g,gs[i]?=some g:=⟨_,List.getElem?_eq_getElem hlt⟩
     have hg:=List.mem_of_getElem? hx;simp only [h0,cond_true];rw [qQ hx];simp only [qa];rw [qky g.1 (by have:=hb.nm g hg;omega),qE8];simp only [qa];rw [qyZ _ (by simp)];simp only [qa];rw [qyZ _ (by simp)];simp only [qa];rw [qCI g.2.1 _ (by have:=hb.rl g hg;omega) (λr hr=>by have:=hb.rn g hg r hr;omega)];simp only [qa,wit];rw [qyZ _ (by simp)];simp only [qa];have hE:∀a b c d:Int,qjc [a,b]=(if a=0 then b else a):=by intro a b _ _;simp only [qjc];by_cases h:a=0<;>by_cases h':b=0<;>simp [h,h']
     have c1:qjc [if qjc [qjc [if isN g.1=true then 0 else 4,if (!decide (g.1∈kn))=true then 0 else 5],if decide ((g.2.1.length:Int)<=4)=true then 0 else 8]=0 then qk7 g.2.1 else qjc [qjc [if isN g.1=true then 0 else 4,if (!decide (g.1∈kn))=true then 0 else 5],if decide ((g.2.1.length:Int)<=4)=true then 0 else 8],if decide (0<=g.2.2.1/\g.2.2.1<=20)=true then 0 else 2]=qks gs i g:=by
      simp only [hE _ _ 0 0];unfold qks;by_cases a1:isN g.1=true
      ·by_cases a2:g.1∈(gs.take i).map (·.1)
       ·have a2':g.1∈kn:=(e2 _).2 a2;rw [if_pos a1,if_pos a2];simp [a1,a2']
       ·have a2':g.1∉kn:=λh=>a2 ((e2 _).1 h);rw [if_pos a1,if_neg a2];by_cases a3:(g.2.1.length:Int)<=4
        ·by_cases a4:qk7 g.2.1=0
         ·simp [a1,a2',a3,a4]
         ·simp [a1,a2',a3,a4]
        ·simp [a1,a2',a3]
      ·rw [if_neg a1];simp [a1]
     rw [c1];by_cases h4:qks gs i g=0
     ·simp only [h4,decide_true,Bool.not_true,cond_false];rw [qaZ];refine ⟨hlt,?_,λr=>?_,?_⟩
      ·simp only;rw [wq (by omega) (by omega)];simp
      ·simp only
       rw [qnI,e2,qbw g hlt,getD_at hx];simp
      ·rw [qlD hx,if_pos e3];exact h4
     ·simp only [h4,decide_false,Bool.not_false,cond_true];rw [qag];simp only
      rw [qs8 hx e3 h4]
    ·have:i=gs.length:=by omega
     subst this;have h0:decide ((gs.length:Int)<(gs.length:Int))=false:=by simp
     simp only [h0,cond_false];rw [qag];simp only
     rw [List.take_length]at e3;exact qrz e3
   ·intro r hr;cases r with
    |inl p=>simp only [qfZ];exact hr.symm
    |inr q=>simp only [qfZ];exact hr
  ·simp only [h1,h2,decide_true,decide_false,if_true,qf,if_false,show ((8:Int)=0)=False by simp,Bool.not_false,cond_true]
 ·simp only [h1,decide_false,qf,if_false,show ((10:Int)=0)=False by simp,Bool.not_false,cond_true]
theorem qik(l:List Nm)(t:Nm)(hl:l.length<=1000000000):qa5 l t=some (decide (t∈l)):=by
 unfold qa5;rw [qnA l.length _ (λj=>l[j]?=some t) true (t∈l) (by
  rw [List.mem_iff_getElem?];exact ⟨λ⟨j,h⟩=>⟨j,qY h,h⟩,λ⟨j,_,h⟩=>⟨j,h⟩⟩) (λi hi=>by
  have hx:l[i]?=some l[i]:=List.getElem?_eq_getElem hi;rw [qQ hx];simp only [qa,hx,qb];by_cases h:l[i]=t
  ·simp [h]
  ·simp only [h,decide_false,cond_false,if_false];rw [wq (by omega) (by omega)])]
 by_cases h:t∈l<;>simp [h]
theorem qrh{gs:List Gt}(hb:GB gs):qcR gs=some (qeF gs):=by
 unfold qcR qeF;by_cases h1:(gs.length:Int) > 0
 ·have h1':¬ (gs.length:Int)=0:=by omega
  by_cases h2:(gs.length:Int)<=6
  ·have h2':¬ (gs.length:Int) > 6:=by omega
   rw [if_pos h1,if_pos h2,decide_eq_false h1',decide_eq_false h2'];simp only [cond_false];rw [qap gs _ (λi a=>if qks gs i a=0 then none else some ((i:Int),qks gs i a)) (λi a hi=>by
    have hlt:=qY hi;have hg:=List.mem_of_getElem? hi;have hrl:=hb.rl a hg;simp only [qQ hi,qa,qnZ];unfold qks;by_cases a1:isN a.1=true
    ·simp only [a1,Bool.not_true,cond_false,if_true];rw [qnA i _ (λj=>∃b,gs[j]?=some b/\b.1=a.1) (.inr (.inr ((i:Int),(5:Int)))) (a.1∈(gs.take i).map (·.1)) (by
      rw [List.mem_map];constructor
      ·rintro ⟨b,hb1,hb2⟩;obtain ⟨j,hj,hj2⟩:=qeQ.1 hb1;exact ⟨j,hj,b,hj2,hb2⟩
      ·rintro ⟨j,hj,b,hj2,hb2⟩;exact ⟨b,qeQ.2 ⟨j,hj,hj2⟩,hb2⟩) (λj hj=>by
      have hx:gs[j]?=some gs[j]:=List.getElem?_eq_getElem (by omega);rw [qQ hx];simp only [qa,hx,qb,exists_eq_left'];by_cases h:gs[j].1=a.1
      ·simp [h]
      ·simp only [h,decide_false,cond_false,if_false];rw [wq (by omega) (by omega)])]
     by_cases a2:a.1∈(gs.take i).map (·.1)
     ·simp only [a2,if_true,qa,Sum.elim_inr,stp]<;>rfl
     ·simp only [a2,if_false,qa,Sum.elim_inl];by_cases a3:(a.2.1.length:Int)<=4
      ·have a3':¬ (a.2.1.length:Int) > 4:=by omega
       rw [decide_eq_false a3',if_pos a3];simp only [cond_false];rw [qap a.2.1 _ (λk r=>if qgZ a.2.1 k r=0 then none else some (.inr (.inr ((i:Int),qgZ a.2.1 k r)))) (λk r hk=>by
        have hlk:=qY hk;simp only [qQ hk,qa];unfold qgZ;by_cases b1:isN r=true
        ·simp only [b1,Bool.not_true,cond_false,if_true];rw [qq4 ⟨by omega,by omega,by omega⟩];simp only [Int.toNat_natCast,qa,Int.toNat_zero,List.drop_zero];rw [qik _ _ (by rw [List.length_take];omega)];simp only [qa];by_cases b2:r∈a.2.1.take k
         ·simp [b2,stp]
         ·simp only [b2,decide_false,cond_false,if_false,if_true,stp];rw [wq (by omega) (by omega)]
        ·simp [b1,stp]),qZ]
       have key:(match qaX (λk r=>if qgZ a.2.1 k r=0 then none else some (.inr (.inr ((i:Int),qgZ a.2.1 k r)):Int⊕(Unit⊕(Int×Int)))) 0 a.2.1 with
         |some r=>some r
         |none=>(none:Option (Int⊕(Unit⊕(Int×Int)))))=if qk7 a.2.1=0 then none else some (.inr (.inr ((i:Int),qk7 a.2.1))):=by
        have gen:∀(l:List Nm) (k:Nat),qaX (λk r=>if qgZ a.2.1 k r=0 then none else some (.inr (.inr ((i:Int),qgZ a.2.1 k r)):Int⊕(Unit⊕(Int×Int)))) k l=if (qaE (qgZ a.2.1) k l).2=0 then none else some (.inr (.inr ((i:Int),(qaE (qgZ a.2.1) k l).2))):=by
         intro l;induction l with
         |nil=>intro k;simp [qaX,qaE]
         |cons b l ih =>
          intro k;simp only [qaX,qaE];by_cases h:qgZ a.2.1 k b=0
          ·simp only [h,if_true];exact ih (k+1)
          ·simp [h]
        rw [gen];unfold qk7;by_cases h:(qaE (qgZ a.2.1) 0 a.2.1).2=0<;>simp [h]
       by_cases a4:qk7 a.2.1=0
       ·rw [if_pos a4]at key;rw [if_pos a4];cases hf:qaX (λk r=>if qgZ a.2.1 k r=0 then none else some (.inr (.inr ((i:Int),qgZ a.2.1 k r)):Int⊕(Unit⊕(Int×Int)))) 0 a.2.1 with
        |some r=>rw [hf]at key;cases key
        |none =>
         simp only [Wit,qa];by_cases a5:0<=a.2.2.1/\a.2.2.1<=20
         ·simp only [a5,and_self,decide_true,Bool.not_true,cond_false,if_true,stp];rw [wq (by omega) (by omega)]
         ·simp [a5,stp]
       ·rw [if_neg a4]at key;rw [if_neg a4];cases hf:qaX (λk r=>if qgZ a.2.1 k r=0 then none else some (.inr (.inr ((i:Int),qgZ a.2.1 k r)):Int⊕(Unit⊕(Int×Int)))) 0 a.2.1 with
        |some r=>rw [hf]at key;simp only at key;simp only [key];rw [if_neg a4]<;>rfl
        |none=>rw [hf]at key;cases key
      ·have a3':(a.2.1.length:Int) > 4:=by omega
       rw [decide_eq_true a3',if_neg a3];rfl
    ·simp [a1,stp]),qZ]
   rw [<- qe0 (qks gs) gs 0];cases qaX (λi a=>if qks gs i a=0 then none else some ((i:Int),qks gs i a)) 0 gs<;>rfl
  ·have h2':(gs.length:Int) > 6:=by omega
   rw [if_pos h1,if_neg h2,decide_eq_false h1',decide_eq_true h2'];rfl
 ·have h1':(gs.length:Int)=0:=by omega
  rw [if_neg h1,decide_eq_true h1'];rfl
theorem qnY{gs:List Gt}(hb:GB gs):qbU gs=some (qeF gs).2:=by
 unfold qbU;rw [qrh hb];rfl
def okG(g:Gt):Prop:=g.1.length<=30/\g.2.1.length<=6/\∀r∈g.2.1,r.length<=30
theorem qvg(gs:List Gt):∃b,qdX gs=some b/\(b=true->GS gs):=by
 unfold qdX;by_cases h8:(gs.length:Int) > 8
 ·exact ⟨false,by simp [h8],λh=>by cases h⟩
 ·simp only [h8,decide_false,cond_false];have key:Ok (qA (λ(s2:Int) =>
    bif decide (s2<(gs.length:Int))then
     ((idx gs s2).bind λx3 =>
      bif decide ((x3.1.length:Int) > 30)then
       some true
      else
       (idx gs s2).bind λx4 =>
       some (decide ((x4.2.1.length:Int) > 6))).bind λ(p5:Bool) =>
     bif p5 then
      some (.inr (.inr false))
     else
      (qA (λ(s7:Int) =>
        (idx gs s2).bind λx8 =>
        bif decide (s7<(x8.2.1.length:Int))then
         (idx gs s2).bind λx9 =>
         (idx x9.2.1 s7).bind λx10 =>
         bif decide ((x10.length:Int) > 30)then
          some (.inr (.inr (.inr (.inr false))))
         else
          some (.inl (w64 (s7+1)))
        else
         some (.inr (.inl ()))) 0).bind (Sum.elim (λ(p11:Unit) =>
      some (.inl (w64 (s2+1)))) some)
    else
     some (.inr (.inl ()))) 0) (λr:Unit⊕Bool=>match r with
    |.inl _=>GS gs
    |.inr b=>b=false):=by
   refine qc0 gs.length (λi (s:Int)=>s=(i:Int)/\∀j t,j<i->gs[j]?=some t->okG t) _ ⟨rfl,by omega⟩ ?_;rintro i s hi ⟨rfl,hI⟩;by_cases hlt:i<gs.length
   ·have h0:decide ((i:Int)<(gs.length:Int))=true:=by simp<;>omega
    obtain ⟨t,hx⟩:∃t,gs[i]?=some t:=⟨_,List.getElem?_eq_getElem hlt⟩
    simp only [h0,cond_true,qQ hx,qa];by_cases a1:(t.1.length:Int) > 30
    ·simp only [a1,decide_true,cond_true,qa];rw [qag]
    ·by_cases a2:(t.2.1.length:Int) > 6
     ·simp only [a1,a2,decide_true,decide_false,cond_false,cond_true,qa];rw [qag]
     ·simp only [a1,a2,decide_false,cond_false,qa];rw [qCH];refine (qc0 t.2.1.length (λk (s:Int)=>s=(k:Int)/\∀j r,j<k->t.2.1[j]?=some r->r.length<=30) (λr:Unit⊕(Int⊕(Unit⊕Bool))=>match r with
       |.inl _=>okG t
       |.inr b=>b=.inr (.inr false)) ⟨rfl,by omega⟩ ?_).mono ?_
      ·rintro k s hk ⟨rfl,hK⟩;by_cases hlt2:k<t.2.1.length
       ·have h0:decide ((k:Int)<(t.2.1.length:Int))=true:=by simp<;>omega
        obtain ⟨r,hr⟩:∃r,t.2.1[k]?=some r:=⟨_,List.getElem?_eq_getElem hlt2⟩
        simp only [h0,cond_true,qQ hr,qa];by_cases a3:(r.length:Int) > 30
        ·simp only [a3,decide_true,cond_true];rw [qag]
        ·simp only [a3,decide_false,cond_false];rw [wq (by omega) (by omega),qaZ];refine ⟨hlt2,by simp,λj q hj hq=>?_⟩;by_cases e:j=k
         ·subst e;rw [hr]at hq;cases hq;omega
         ·exact hK j q (by omega) hq
       ·have:k=t.2.1.length:=by omega
        subst this;have h0:decide ((t.2.1.length:Int)<(t.2.1.length:Int))=false:=by simp
        simp only [h0,cond_false];rw [qag];refine ⟨by omega,by omega,λr hr=>?_⟩;obtain ⟨j,hj⟩:=List.mem_iff_getElem?.1 hr;exact hK j r (qY hj) hj
      ·intro r hr;cases r with
       |inl _ =>
        simp only at hr ⊢;rw [wq (by omega) (by omega),qaZ];refine ⟨hlt,by simp,λj q hj hq=>?_⟩;by_cases e:j=i
        ·subst e;rw [hx]at hq;cases hq;exact hr
        ·exact hI j q (by omega) hq
       |inr b =>
        simp only at hr ⊢;subst hr;simp only
   ·have:i=gs.length:=by omega
    subst this;have h0:decide ((gs.length:Int)<(gs.length:Int))=false:=by simp
    simp only [h0,cond_false];rw [qag];have hall:∀t∈gs,okG t:=λt ht=>by
     obtain ⟨j,hj⟩:=List.mem_iff_getElem?.1 ht;exact hI j t (qY hj) hj
    exact ⟨by omega,λt ht=>(hall t ht).1,λt ht=>(hall t ht).2.1,λt ht=>(hall t ht).2.2⟩
  obtain ⟨r,h1,h2⟩:=key;rw [h1];cases r with
  |inl _=>exact ⟨true,rfl,λ_=>h2⟩
  |inr b=>exact ⟨b,rfl,λh=>by rw [h2]at h;cases h⟩
theorem qsO{gs:List Gt}(hb:GB gs):qdn gs=some gs:=by
 unfold qdn qcC;have h8:=hb.len;rw [qrC gs (λt:Gt=>t) (λi t out hi ho=>by
  have hlt:=qY hi;have:=hb.rl t (List.mem_of_getElem? hi);have h0:decide ((i:Int)<(gs.length:Int))=true:=by simp<;>omega
  simp only [h0,cond_true,qQ hi,qa];rw [quX (by omega)];simp only [qa];rw [qaf (by omega)];simp only [qa];rw [wq (by omega) (by omega)]) (λout ho=>by simp)]
 simp
theorem qtl{gs:List Gt}(h:(qeF gs).2=0):0<gs.length/\gs.length<=6:=by
 unfold qeF at h;split at h
 ·split at h
  ·omega
  ·simp at h
 ·simp at h
end Go.Proofs.YtkmcmngpifalcaaGreatDoor
end
section
namespace Go.Dec
open Go Go.Lib
def isD(c:UInt8):Prop:=48<=c.toNat/\c.toNat<=57
instance:DecidablePred isD:=λc=>inferInstanceAs (Decidable (_/\_))
def qmi(n:Nat)(c:UInt8):Nat:=10*n+(c.toNat-48)
def val(l:List UInt8):Nat:=l.foldl qmi 0
theorem qnU(l:List UInt8)(c:UInt8):val (l++[c])=10*val l+(c.toNat-48):=by simp [val,qmi]
theorem qhY{d:Nat}(h:d<10):(UInt8.ofNat (48+d)).toNat=48+d:=by
 rw [UInt8.toNat_ofNat'];omega
theorem qee{u:Nat}(h:u<10):decDigits u=[UInt8.ofNat (48+u)]:=by rw [decDigits,dif_pos h]
theorem qrx{u:Nat}(h:¬ u<10):decDigits u=decDigits (u / 10)++[UInt8.ofNat (48+u % 10)]:=by rw [decDigits,dif_neg h]
theorem qed:∀u:Nat,(∀c∈decDigits u,isD c)/\decDigits u≠[]/\val (decDigits u)=u/\(0<u->(decDigits u).head?≠some 48):=by
 intro u;induction u using Nat.strongRecOn with
 |_ u ih =>
  by_cases h:u<10
  ·rw [qee h];refine ⟨?_,by simp,?_,?_⟩
   ·intro c hc;rw [List.mem_singleton]at hc;subst hc;unfold isD;rw [qhY h];omega
   ·simp only [val,List.foldl,qmi];rw [qhY h];omega
   ·intro h0 e;simp only [List.head?_cons,qb]at e;have e2:=congrArg UInt8.toNat e;rw [qhY h]at e2;have:(48:UInt8).toNat=48:=rfl;omega
  ·obtain ⟨h1,h2,h3,h4⟩:=ih (u / 10) (by omega);have hm:u % 10<10:=Nat.mod_lt _ (by omega);rw [qrx h];refine ⟨λc hc=>?_,by simp,?_,λ_=>?_⟩
   ·rcases qj.1 hc with hc|hc
    ·exact h1 c hc
    ·rw [List.mem_singleton]at hc;subst hc;unfold isD;rw [qhY hm];omega
   ·rw [qnU,h3,qhY hm];omega
   ·cases hd:decDigits (u / 10)with
    |nil=>exact absurd hd h2
    |cons a t =>
     rw [hd]at h4;simpa using h4 (by omega)
theorem qjt:∀(k u:Nat),u<10 ^ k->1<=k->(decDigits u).length<=k
 |0,u,h,h1=>by omega
 |k+1,u,h,_=>by
  by_cases h9:u<10
  ·rw [qee h9];simp
  ·rw [qrx h9,List.length_append,List.length_singleton];have hk:1<=k:=by
    rcases Nat.eq_zero_or_pos k with rfl|h0
    ·simp at h;omega
    ·exact h0
   have:=qjt k (u / 10) (by rw [Nat.pow_succ]at h;omega) hk;omega
theorem qu5:∀(n:Nat) (ds:List UInt8),ds.length<=n->ds≠[]->(∀c∈ds,isD c)->(ds.head?≠some 48\/ds.length=1)->decDigits (val ds)=ds
 |0,ds,hl,h0,_,_=>absurd (List.eq_nil_of_length_eq_zero (by omega)) h0
 |n+1,ds,hl,h0,hd,hh=>by
  obtain ⟨es,c,rfl⟩:∃es c,ds=es++[c]:=⟨ds.dropLast,ds.getLast h0,(List.dropLast_concat_getLast h0).symm⟩
  have hc:=hd c (by simp);unfold isD at hc;have hcc:UInt8.ofNat (48+(c.toNat-48))=c:=by
   rw [show 48+(c.toNat-48)=c.toNat by omega];simp
  rw [qnU];by_cases he:es=[]
  ·subst he;simp only [val,List.foldl,Nat.mul_zero,Nat.zero_add,List.nil_append];rw [qee (by omega),hcc]
  ·have hlen:1<=es.length:=List.length_pos_iff.2 he;rw [List.length_append,List.length_singleton]at hl hh;have hh2:es.head?≠some 48:=by
    rcases hh with hh|hh
    ·cases es with
     |nil=>exact absurd rfl he
     |cons a t=>simpa using hh
    ·omega
   have ih:=qu5 n es (by omega) he (λx hx=>hd x (by simp [hx])) (.inl hh2);have hv:0<val es:=by
    rcases Nat.eq_zero_or_pos (val es)with h|h
    ·rw [h]at ih;rw [<- ih,qee (by omega)]at hh2;exact absurd rfl hh2
    ·exact h
   rw [qrx (by omega),show (10*val es+(c.toNat-48)) / 10=val es by omega,show (10*val es+(c.toNat-48)) % 10=c.toNat-48 by omega,ih,hcc]
theorem qxx:∀(n:Nat) (ds:List UInt8),ds.length<=n->(∀c∈ds,isD c)->val ds<10 ^ n
 |0,ds,hl,_=>by
  have:ds=[]:=List.eq_nil_of_length_eq_zero (by omega);subst this;simp [val]
 |n+1,ds,hl,hd=>by
  by_cases h0:ds=[]
  ·subst h0;simp only [val,List.foldl];exact Nat.pow_pos (by omega)
  ·obtain ⟨es,c,rfl⟩:∃es c,ds=es++[c]:=⟨ds.dropLast,ds.getLast h0,(List.dropLast_concat_getLast h0).symm⟩
   have hc:=hd c (by simp);unfold isD at hc;rw [List.length_append,List.length_singleton]at hl;have:=qxx n es (by omega) (λx hx=>hd x (by simp [hx]));rw [qnU,Nat.pow_succ];omega
theorem qzI:∀(l:List UInt8) (a:Nat),a<=l.foldl qmi a
 |[],a=>Nat.le_refl _
 |c::l,a=>Nat.le_trans (by unfold qmi;omega) (qzI l (qmi a c))
theorem qmM:∀(l:List UInt8) (a:Nat),(∀c∈l,isD c)->l.foldl qmi a<10 ^ 18->parseUint10 a l=.ok (l.foldl qmi a)
 |[],a,_,_=>rfl
 |c::l,a,hd,h=>by
  have hc:=hd c (by simp);have h1:=qzI l (qmi a c);simp only [List.foldl_cons]at h ⊢;have h2:qmi a c<10 ^ 18:=by omega
  unfold isD at hc;unfold parseUint10;rw [if_pos hc];have e:a*10+(c.toNat-48)=qmi a c:=by unfold qmi;omega
  have h3:a*10<=qmi a c:=by omega
  rw [if_neg (by omega),e,if_neg (by omega)];exact qmM l _ (λx hx=>hd x (by simp [hx])) h
def num(d:Nat)(w:List UInt8):Option Int:=match atoiAll w with
 |.ok v=>if itoa v=w/\(trimPrefix w [45]).length<=d then some v else none
 |_=>none
theorem qmr(r:List UInt8):trimPrefix (45::r) [45]=r:=by
 unfold trimPrefix hasPrefix;simp
theorem qms{w:List UInt8}(h:w.head?≠some 45):trimPrefix w [45]=w:=by
 unfold trimPrefix hasPrefix;cases w with
 |nil=>simp
 |cons c l =>
  have:¬ (45:UInt8)=c:=λe=>h (by simp [e]);simp [this]
def qdp(w:List UInt8):List UInt8:=if w.head?=some 45 then w.drop 1 else w
def qEF(d:Nat)(w:List UInt8):Prop:=qdp w=[]\/d<(qdp w).length\/((qdp w).head?=some 48/\1<w.length)\/¬ ∀c∈qdp w,isD c
instance (d:Nat) (w:List UInt8):Decidable (qEF d w):=inferInstanceAs (Decidable (_\/_))
def qAs(d:Nat)(w:List UInt8):Option Int:=if qEF d w then none else some (if w.head?=some 45 then -((val (qdp w):Nat):Int)else ((val (qdp w):Nat):Int))
theorem qt0{d:Nat}{v:Int}(h:(trimPrefix (itoa v) [45]).length<=d):qAs d (itoa v)=some v:=by
 by_cases hv:v<0
 ·have e:itoa v=45::decDigits v.natAbs:=by unfold itoa;rw [if_pos hv]
  obtain ⟨h1,h2,h3,h4⟩:=qed v.natAbs;have hr:qdp (45::decDigits v.natAbs)=decDigits v.natAbs:=by simp [qdp]
  rw [e,qmr]at h;rw [e];unfold qAs;rw [if_neg,hr,h3]
  ·simp only [List.head?_cons,if_true];congr 1;omega
  ·unfold qEF;rw [hr];rintro (h5|h5|⟨h5,_⟩|h5)
   ·exact h2 h5
   ·omega
   ·exact h4 (by omega) h5
   ·exact h5 h1
 ·have e:itoa v=decDigits v.toNat:=by unfold itoa;rw [if_neg hv]
  obtain ⟨h1,h2,h3,h4⟩:=qed v.toNat;have hh:(decDigits v.toNat).head?≠some 45:=by
   intro hc;cases hd:decDigits v.toNat with
   |nil=>rw [hd]at hc;cases hc
   |cons a t =>
    rw [hd]at hc;simp only [List.head?_cons,qb]at hc;have:=h1 a (by rw [hd];simp);unfold isD at this;rw [hc]at this;exact absurd this.1 (by decide)
  have hr:qdp (decDigits v.toNat)=decDigits v.toNat:=by unfold qdp;rw [if_neg hh]
  rw [e,qms hh]at h;rw [e];unfold qAs;rw [if_neg,hr,h3,if_neg hh]
  ·congr 1;omega
  ·unfold qEF;rw [hr];rintro (h5|h5|⟨h5,h6⟩|h5)
   ·exact h2 h5
   ·omega
   ·rcases Nat.eq_zero_or_pos v.toNat with h0|h0
    ·rw [h0,qee (by omega)]at h6;simp at h6
    ·exact h4 h0 h5
   ·exact h5 h1
theorem qw1{d:Nat}(hd:d<=18){w:List UInt8}{v:Int}(h:qAs d w=some v):num d w=some v:=by
 unfold qAs at h;split at h
 ·cases h
 ·rename_i hb;simp only [qb]at h;unfold qEF at hb;simp only [not_or,not_and,Classical.not_not]at hb;obtain ⟨b1,b2,b3,b4⟩:=hb;have hlt:val (qdp w)<10 ^ 18:=qxx 18 _ (by omega) b4;have hp:parseMag (qdp w)=.ok (val (qdp w)):=by
   unfold parseMag;rw [if_neg b1];exact qmM _ 0 b4 hlt
  by_cases hm:w.head?=some 45
  ·rw [if_pos hm]at h;cases w with
   |nil=>cases hm
   |cons c r =>
    simp only [List.head?_cons,qb]at hm;subst hm;have hr:qdp (45::r)=r:=by simp [qdp]
    rw [hr]at b1 b2 b3 b4 hlt hp h;have h48:r.head?≠some 48:=λe=>by
     have:=b3 e;have h0:0<r.length:=List.length_pos_iff.2 b1;simp only [List.length_cons]at this;omega
    have hdv:=qu5 r.length r (Nat.le_refl _) b1 b4 (.inl h48);have hpos:0<val r:=by
     rcases Nat.eq_zero_or_pos (val r)with h0|h0
     ·rw [h0,qee (by omega)]at hdv;rw [<- hdv]at h48;exact absurd rfl h48
     ·exact h0
    have ha:atoiAll (45::r)=.ok v:=by
     unfold atoiAll;have e45:(45:UInt8).toNat=45:=rfl;simp only [e45,or_true,if_true,hp,not_true,false_and,if_false,true_and];rw [if_neg (by omega),h]
    have hi:itoa v=45::r:=by
     rw [<- h];unfold itoa;rw [if_pos (by omega),show (-((val r:Nat):Int)).natAbs=val r by omega,hdv]
    unfold num;rw [ha];simp only
    rw [if_pos ⟨hi,by rw [qmr];omega⟩]
  ·rw [if_neg hm]at h;have hr:qdp w=w:=by unfold qdp;rw [if_neg hm]
   rw [hr]at b1 b2 b3 b4 hlt hp h;have hdv:=qu5 w.length w (Nat.le_refl _) b1 b4 (by
    by_cases h48:w.head?=some 48
    ·right
     have:=b3 h48;have h0:0<w.length:=List.length_pos_iff.2 b1;omega
    ·exact .inl h48)
   have ha:atoiAll w=.ok v:=by
    cases w with
    |nil=>exact absurd rfl b1
    |cons c r =>
     have hc:=b4 c (by simp);unfold isD at hc;unfold atoiAll;have e1:¬ (c.toNat=43\/c.toNat=45):=by omega
     have e2:¬ c.toNat=45:=by omega
     simp only [if_neg e1];rw [hp];simp only [e2,not_false_eq_true,true_and,false_and,if_false];rw [if_neg (by omega),h]
   have hi:itoa v=w:=by
    rw [<- h];unfold itoa;rw [if_neg (by omega),Int.toNat_natCast,hdv]
   unfold num;rw [ha];simp only
   rw [if_pos ⟨hi,by rw [qms hm];omega⟩]
theorem qw2{d:Nat}{w:List UInt8}{v:Int}(h:num d w=some v):atoiAll w=.ok v/\itoa v=w/\(trimPrefix w [45]).length<=d:=by
 unfold num at h;split at h
 ·rename_i u hu;split at h
  ·rename_i hc;cases h;exact ⟨hu,hc.1,hc.2⟩
  ·cases h
 ·cases h
theorem qFa{d:Nat}(hd:d<=18)(w:List UInt8):qAs d w=num d w:=by
 cases h:num d w with
 |some v =>
  obtain ⟨h1,h2,h3⟩:=qw2 h;rw [<- h2]at h3 ⊢;exact qt0 h3
 |none =>
  cases h2:qAs d w with
  |none=>rfl
  |some v=>rw [qw1 hd h2]at h;cases h
theorem qw0{d:Nat}(hd:d<=18)(h1:1<=d){v:Int}(h:v.natAbs<10 ^ d):num d (itoa v)=some v:=by
 refine qw1 hd (qt0 ?_);by_cases hv:v<0
 ·have e:itoa v=45::decDigits v.natAbs:=by unfold itoa;rw [if_pos hv]
  rw [e,qmr];exact qjt d _ h h1
 ·have e:itoa v=decDigits v.toNat:=by unfold itoa;rw [if_neg hv]
  have hl:=qjt d v.toNat (by omega) h1;rw [e];unfold trimPrefix;split
  ·rw [List.length_drop];omega
  ·exact hl
theorem qx1(v:Int):∀c∈itoa v,c=45\/isD c:=by
 intro c hc;unfold itoa at hc;split at hc
 ·rcases qk.1 hc with h|h
  ·exact .inl h
  ·exact .inr ((qed _).1 c h)
 ·exact .inr ((qed _).1 c hc)
theorem qz0{v:Int}{c:UInt8}(h1:c≠45)(h2:¬ isD c):c∉itoa v:=λh=>(qx1 v c h).elim h1 h2
theorem qD2(v:Int):itoa v≠[]:=by
 unfold itoa;split
 ·simp
 ·exact (qed _).2.1
theorem qkA{v:Int}(h : -9223372036854775808<=v/\v<=9223372036854775807):(itoa v).length<=21:=by
 unfold itoa;split
 ·have:=qjt 20 v.natAbs (by omega) (by omega);simp only [List.length_cons]<;>omega
 ·have:=qjt 20 v.toNat (by omega) (by omega);omega
def parts(c:UInt8):List UInt8->List (List UInt8)
 |[]=>[[]]
 |b::l=>if b=c then []::parts c l else match parts c l with
  |[]=>[[b]]
  |p::ps=>(b::p)::ps
theorem qnM(c:UInt8):∀l,parts c l≠[]
 |[]=>by simp [parts]
 |b::l=>by
  unfold parts;split
  ·simp
  ·split<;>simp
theorem qaU{c:UInt8}:∀{l:List UInt8},c∉l->parts c l=[l]
 |[],_=>rfl
 |b::l,h=>by
  simp only [qk,not_or]at h;unfold parts;rw [if_neg (λe=>h.1 e.symm),qaU h.2]
theorem qbb{c:UInt8}:∀{p r:List UInt8},c∉p->parts c (p++c::r)=p::parts c r
 |[],r,_=>by simp [parts]
 |b::p,r,h=>by
  simp only [qk,not_or]at h;rw [List.cons_append,parts,if_neg (λe=>h.1 e.symm),qbb h.2]
theorem qdm(c:UInt8):∀l:List UInt8,(parts c l).length<=l.length+1
 |[]=>by simp [parts]
 |b::l=>by
  have:=qdm c l;unfold parts;split
  ·simp<;>omega
  ·split
   ·simp
   ·rename_i p ps h;rw [h]at this;simp at this ⊢;omega
theorem qbo(c:UInt8):∀s:List UInt8,(index s [c] = -1/\c∉s)\/∃p r,s=p++c::r/\c∉p/\index s [c]=(p.length:Int)
 |[]=>.inl ⟨rfl,by simp⟩
 |b::l=>by
  have e:index (b::l) [c]=if [c].isPrefixOf (b::l)then 0 else if index l [c] == -1 then -1 else index l [c]+1:=rfl;by_cases h:c=b
  ·subst h;exact .inr ⟨[],l,rfl,List.not_mem_nil,by rw [e];simp⟩
  ·have hp:([c].isPrefixOf (b::l))=false:=by simp [List.isPrefixOf,h]
   rw [e,hp];simp only [qf,if_false];rcases qbo c l with ⟨h1,h2⟩|⟨p,r,rfl,h2,h3⟩
   ·exact .inl ⟨by rw [h1];rfl,by simp only [qk,not_or];exact ⟨h,h2⟩⟩
   ·refine .inr ⟨b::p,r,rfl,by simp only [qk,not_or];exact ⟨h,h2⟩,?_⟩;rw [h3];have:(((p.length:Int) == -1))=false:=by rw [beq_eq_false_iff_ne];omega
    simp [this]
theorem qdJ(x y:List UInt8)(r:List (List UInt8))(sep:List UInt8):join (x::y::r) sep=x++sep++join (y::r) sep:=by
 rw [join_cons,join_cons];simp [joinTail]
theorem qz3(y sep:List UInt8):∀xs:List (List UInt8),xs≠[]->join (xs++[y]) sep=join xs sep++sep++y
 |[],h=>absurd rfl h
 |x::xs,_=>by
  rw [List.cons_append,join_cons,join_cons];simp [joinTail]
theorem qe6{c:UInt8}:∀{ws:List (List UInt8)},ws≠[]->(∀w∈ws,c∉w)->parts c (join ws [c])=ws
 |[],h,_=>absurd rfl h
 |[w],_,h=>by rw [join_one];exact qaU (h w (by simp))
 |w::v::r,_,h=>by
  rw [qdJ];have e:w++[c]++join (v::r) [c]=w++c::join (v::r) [c]:=by simp
  rw [e,qbb (h w (by simp)),qe6 (by simp) (λx hx=>h x (by simp [hx]))]
theorem qkH(sep:List UInt8){B:Nat}:∀ws:List (List UInt8),(∀w∈ws,w.length<=B)->(join ws sep).length<=ws.length*(B+sep.length)
 |[],_=>by simp [join_nil]
 |[w],h=>by
  rw [join_one];have:=h w (by simp);simp only [List.length_singleton]<;>omega
 |w::v::r,h=>by
  rw [qdJ];have h1:=h w (by simp);have h2:=qkH sep (v::r) (λx hx=>h x (by simp [hx]));simp only [List.length_append,List.length_cons]at h2 ⊢;rw [show (r.length+1+1)*(B+sep.length)=(r.length+1)*(B+sep.length)+(B+sep.length) by rw [Nat.add_mul (r.length+1) 1,Nat.one_mul]];omega
def qbg{α β:Type}(f:α->Option β):List α->Option (List β)
 |[]=>some []
 |a::l=>(f a).bind λb=>(qbg f l).map (b::·)
theorem qoT{α β:Type}{f:α->Option β}{g:β->α}:∀{l:List β},(∀b∈l,f (g b)=some b)->qbg f (l.map g)=some l
 |[],_=>rfl
 |b::l,h=>by
  simp only [qh,qbg];rw [h b (by simp),qoT (λx hx=>h x (by simp [hx]))];rfl
theorem qiA{α β:Type}{f:α->Option β}:∀{l:List α} {r:List β},qbg f l=some r->r.length=l.length
 |[],r,h=>by cases h;rfl
 |a::l,r,h=>by
  simp only [qbg]at h;obtain ⟨b,_,h⟩:=qd.1 h;obtain ⟨r',hr,rfl⟩:=qc.1 h;simp [qiA hr]
theorem qmQ(c:UInt8):∀(k:Nat) (s:List UInt8),(parts c s).length<=k+1->splitK [c] 0 k s=parts c s
 |0,s,h=>by
  unfold splitK;rcases qbo c s with ⟨_,h1⟩|⟨p,q,rfl,h1,_⟩
  ·rw [qaU h1]
  ·rw [qbb h1]at h;have:=qnM c q;cases hq:parts c q with
   |nil=>exact absurd hq this
   |cons a l=>rw [hq]at h;simp at h
 |k+1,s,h=>by
  unfold splitK;rcases qbo c s with ⟨e,h1⟩|⟨p,q,rfl,h1,e⟩
  ·rw [e,qaU h1];rfl
  ·rw [qbb h1]at h ⊢;have hn:((p.length:Int) == -1)=false:=by rw [beq_eq_false_iff_ne];omega
   have hd:(p++c::q).drop (p.length+1)=q:=by
    rw [show p++c::q=(p++[c])++q by simp,List.drop_left' (by simp)]
   rw [e,hn];simp only [qf,if_false,Int.toNat_natCast,Nat.add_zero,List.length_singleton,hd];rw [qmQ c k q (by simp at h;omega)];simp
theorem qo9(c:UInt8):∀s:List UInt8,(parts c s).length=s.count c+1
 |[]=>rfl
 |b::l=>by
  have ih:=qo9 c l;unfold parts;by_cases h:b=c
  ·subst h;rw [if_pos rfl,List.length_cons,ih,List.count_cons_self]
  ·rw [if_neg h,List.count_cons_of_ne h];cases hp:parts c l with
   |nil=>exact absurd hp (qnM c l)
   |cons p ps=>rw [hp]at ih;simpa using ih
theorem qv7(c:UInt8)(s:ByteArray):(splitB ⟨#[c]⟩ 0 (countB s ⟨#[c]⟩) s).map (λx=>x.data.toList)=parts c s.data.toList:=by
 rw [splitB_data];have e:countB s ⟨#[c]⟩=s.data.toList.count c:=count_one c s.data.toList;rw [e];exact qmQ c _ _ (by rw [qo9];exact Nat.le_refl _)
end Go.Dec
end
section
namespace Go.Proofs.YtkmcmngpifalcaaGreatDoor
open Go Go.Ab Go.Tx Go.Dec
def qtq(n:Int):Prop:=-9223372036854775808<=n/\n<=9223372036854775807
theorem wid{n:Int}(h1 : -9223372036854775808<=n)(h2:n<=9223372036854775807):w64 n=n:=qmv h1 h2
theorem qy7{n:Int}(h:qtq n):strconv_Itoa n=some (Lib.itoa n):=by
 exact if_pos h
theorem qDL{n:Int}(h : -9223372036854775807<=n/\n<=9223372036854775807):qhu n=some (n.natAbs:Int):=by
 unfold qhu;rw [wid (by omega) (by omega)];congr 1
 omega
def qEG(a:Nat):List UInt8:=if a=0 then []else Lib.decDigits a
theorem qzx{a:Nat}(h:a≠0):qEG a=qEG (a / 10)++[UInt8.ofNat (48+a % 10)]:=by
 unfold qEG;rw [if_neg h];by_cases h9:a<10
 ·rw [qee h9,if_pos (by omega)];simp only [List.nil_append];rw [Nat.mod_eq_of_lt h9]
 ·rw [qrx h9,if_neg (by omega)]
theorem qp7{n:Int}(h:qtq n):qb4 n=some (Lib.itoa n):=by
 unfold qb4;by_cases h0:n=0
 ·subst h0;simp only [decide_true,cond_true];unfold Lib.itoa;rw [if_neg (by omega),show (0:Int).toNat=0 from rfl,qee (by omega)];rfl
 have hz:decide (n=0)=false:=by simp [h0]
 simp only [hz,cond_false];have hl20:(Lib.decDigits n.natAbs).length<=20:=qjt 20 _ (by unfold qtq at h;omega) (by omega);have k1:qA (λ(s3:(Int×(List UInt8))) =>
    bif !(decide (s3.1=0))then
     (qhu (s3.1.tmod 10)).bind λx4 =>
     (app (([IntKind.wrap .u8 (w64 (48+x4))]).map λn=>UInt8.ofNat n.toNat) s3.2).bind λx5 =>
     some (.inl (w64 (s3.1.tdiv 10),x5))
    else
     some (.inr s3.2)) (n,[])=some (Lib.decDigits n.natAbs):=by
  refine Ok.eq (qoS (λst=>st.1.natAbs) (λ(st:Int×List UInt8)=>qtq st.1/\Lib.decDigits n.natAbs=qEG st.1.natAbs++st.2) _ ⟨h,by simp [qEG,h0]⟩ ?_);rintro ⟨m,s⟩ ⟨hm,e⟩;simp only at hm e;by_cases hm0:m=0
  ·subst hm0;simp only [decide_true,Bool.not_true,cond_false];rw [qag,e];simp [qEG]
  ·have hc:(!(decide (m=0)))=true:=by simp [hm0]
   have hml:m.tmod 10=Int.tmod m 10:=rfl;have hd1:(m.tmod 10).natAbs=m.natAbs % 10:=by rw [Int.natAbs_tmod];rfl
   have hd2:(m.tdiv 10).natAbs=m.natAbs / 10:=by rw [Int.natAbs_tdiv];rfl
   have hlt:m.natAbs % 10<10:=Nat.mod_lt _ (by omega);have hs:s.length<=20:=by
    have:=congrArg List.length e;rw [List.length_append]at this;omega
   unfold qtq at hm;simp only [hc,cond_true];rw [qDL (by omega),hd1];simp only [qa];rw [wid (by omega) (by omega)];have hw:IntKind.wrap .u8 (48+((m.natAbs % 10:Nat):Int))=((48+m.natAbs % 10:Nat):Int):=by
    unfold IntKind.wrap;simp only [IntKind.bits,IntKind.signed,Bool.false_and,qf,if_false];omega
   rw [hw];simp only [qh,List.map_nil,Int.toNat_natCast];rw [qzg (by simp;omega)];simp only [qa];rw [wid (by omega) (by omega),qaZ];refine ⟨⟨by unfold qtq;omega,?_⟩,?_⟩
   ·simp only
    rw [e,qzx (by omega),hd2];simp
   ·simp only
    rw [hd2];omega
 by_cases hn:n<0
 ·simp only [hn,decide_true,cond_true,qa];rw [k1];simp only [qa];rw [qzg (by simp;omega)];unfold Lib.itoa;rw [if_pos hn];rfl
 ·simp only [hn,decide_false,cond_false,qa];rw [k1];simp only [qa];rw [qzg (by simp;omega)];unfold Lib.itoa;rw [if_neg hn,show n.natAbs=n.toNat by omega];rfl
theorem qlg{α:Type}{l:List α}{a:Nat}(h:a<=l.length):slc l (a:Int) (l.length:Int)=some (l.drop a):=by
 rw [qq4 (by omega)];simp
theorem qDC{α:Type}{l:List α}{a:Nat}(h:a<=l.length):slc l 0 (a:Int)=some (l.take a):=by
 rw [qq4 (by omega)];simp
theorem qp6(c:UInt8){s:List UInt8}(hs:s.length<=100000):qaM s ((c.toNat:Nat):Int)=some (parts c s):=by
 unfold qaM;have key:∀(o:Option (List (List UInt8)×Int)) (k:List (List UInt8)×Int->Option (List (List UInt8))),Ok o (λp=>k p=some (parts c s))->o.bind k=some (parts c s):=by
  rintro o k ⟨p,rfl,h⟩;exact h
 have hpl:=qdm c s;refine key _ _ (qc0 s.length (λi (st:List (List UInt8)×Int×Int)=>st.2.2=(i:Int)/\∃f:Nat,st.2.1=(f:Int)/\f<=i/\parts c s=st.1++parts c (s.drop f)/\c∉(s.drop f).take (i-f)/\st.1.length<=f) _ ⟨rfl,0,rfl,by omega,by simp,by simp,by simp⟩ ?_);rintro i ⟨out,f0,i0⟩ hi ⟨e1,f,e2,hf,e3,e4,e5⟩;simp only at e1 e2 e3 e5;subst e1;subst e2;by_cases hlt:i<s.length
 ·have h0:decide ((i:Int)<(s.length:Int))=true:=by simp<;>omega
  obtain ⟨b,hb⟩:∃b,s[i]?=some b:=⟨_,List.getElem?_eq_getElem hlt⟩
  simp only [h0,cond_true,qQ hb,qa];have hsp:s.drop f=(s.drop f).take (i-f)++b::s.drop (i+1):=by
   have h1:s.drop f=(s.drop f).take (i-f)++(s.drop f).drop (i-f):=(List.take_append_drop _ _).symm;rw [List.drop_drop,show f+(i-f)=i by omega,List.drop_eq_getElem_cons hlt]at h1;rw [(qm.1 hb).2]at h1;exact h1
  by_cases hc:b=c
  ·subst hc;simp only [decide_true,cond_true];rw [qq4 (by omega)];simp only [qa,Int.toNat_natCast];rw [qaf (by omega)];simp only [qa];rw [wid (by omega) (by omega),qaZ];have e6:(s.take i).drop f=(s.drop f).take (i-f):=by rw [List.drop_take]
   refine ⟨hlt,by simp,i+1,by simp,by omega,?_,by simp,by simp;omega⟩;simp only
   rw [e3,hsp,qbb e4,e6];simp
  ·have hn:decide (((b.toNat:Nat):Int)=((c.toNat:Nat):Int))=false:=by
    simp only [decide_eq_false_iff_not];intro h;exact hc (UInt8.toNat_inj.1 (by omega))
   simp only [hn,cond_false,qa];rw [wid (by omega) (by omega),qaZ];refine ⟨hlt,by simp,f,rfl,by omega,e3,?_,e5⟩;have e7:(s.drop f).take (i+1-f)=(s.drop f).take (i-f)++[b]:=by
    rw [show i+1-f=(i-f)+1 by omega,List.take_add_one];have:(s.drop f)[i-f]?=some b:=by rw [List.getElem?_drop,show f+(i-f)=i by omega];exact hb
    rw [this];rfl
   rw [e7,qj,List.mem_singleton];rintro (h|h)
   ·exact e4 h
   ·exact hc h.symm
 ·have:i=s.length:=by omega
  subst this;have h0:decide ((s.length:Int)<(s.length:Int))=false:=by simp
  simp only [h0,cond_false];rw [qag];simp only
  rw [qlg hf];simp only [qa];rw [qaf (by omega)];have e8:(s.drop f).take (s.length-f)=s.drop f:=List.take_of_length_le (by simp);rw [e8]at e4;rw [qaU e4]at e3;rw [e3];rfl
theorem qu6{w:List UInt8}{a:Nat}(ha:a<=w.length)(hl:(w.drop a).length<=18)(hw:w.length<=100000) :
  qA (λ(s7:(Int×Int)) =>
    bif decide (s7.2<(w.length:Int))then
     ((idx w s7.2).bind λx8 =>
      bif decide ((x8.toNat:Int)<48)then
       some true
      else
       (idx w s7.2).bind λx9 =>
       some (decide ((x9.toNat:Int) > 57))).bind λ(p10:Bool) =>
     bif p10 then
      some (.inr (.inr (0,false)))
     else
      (idx w s7.2).bind λx11 =>
      let v12:Int:=w64 ((w64 (10*s7.1))+(w64 (IntKind.wrap .u8 ((x11.toNat:Int)-48))))
      some (.inl (v12,w64 (s7.2+1)))
    else
     some (.inr (.inl s7.1))) (0,(a:Int))=some (if ∀c∈w.drop a,isD c then (.inl ((val (w.drop a):Nat):Int):Int⊕(Int×Bool))else .inr ((0:Int),false)):=by
 rw [List.length_drop]at hl;refine Ok.eq (qc0 (w.length-a) (λj (st:Int×Int)=>st=(((val ((w.drop a).take j):Nat):Int),((a+j:Nat):Int))/\∀c∈(w.drop a).take j,isD c) _ ⟨by simp [val],by simp⟩ ?_);rintro j st hj ⟨rfl,hd⟩;by_cases hlt:a+j<w.length
 ·have h0:decide (((a+j:Nat):Int)<(w.length:Int))=true:=by simp<;>omega
  obtain ⟨b,hb⟩:∃b,w[a+j]?=some b:=⟨_,List.getElem?_eq_getElem hlt⟩
  have hb2:(w.drop a)[j]?=some b:=by rw [List.getElem?_drop];exact hb
  have ht:(w.drop a).take (j+1)=(w.drop a).take j++[b]:=by rw [List.take_add_one,hb2];rfl
  simp only [h0,cond_true,qQ hb,qa];have hq:(bif decide ((b.toNat:Int)<48)then some true else some (decide ((b.toNat:Int) > 57)))=some (!decide (isD b)):=by
   unfold isD;by_cases c1:b.toNat<48
   ·have c1':(b.toNat:Int)<48:=by omega
    have c2:¬ 48<=b.toNat:=by omega
    simp [c1',c2]
   ·have c1':¬ (b.toNat:Int)<48:=by omega
    have c2:48<=b.toNat:=by omega
    by_cases c3:b.toNat<=57
    ·have c3':¬ (b.toNat:Int) > 57:=by omega
     simp [c1',c2,c3,c3']
    ·have c3':(b.toNat:Int) > 57:=by omega
     simp [c1',c2,c3,c3']
  rw [hq];simp only [qa];by_cases c:isD b
  ·have hv:=qxx 17 ((w.drop a).take j) (by rw [List.length_take,List.length_drop];omega) hd;have c':=c;unfold isD at c';simp only [c,decide_true,Bool.not_true,cond_false];have hu:IntKind.wrap .u8 ((b.toNat:Int)-48)=((b.toNat-48:Nat):Int):=by
    unfold IntKind.wrap;simp only [IntKind.bits,IntKind.signed,Bool.false_and,qf,if_false];omega
   rw [hu,wid (n:=((b.toNat-48:Nat):Int)) (by omega) (by omega),wid (n:=10*_) (by omega) (by omega),wid (by omega) (by omega),wid (by omega) (by omega),qaZ];refine ⟨by omega,?_,?_⟩
   ·rw [ht,qnU];congr 1<;>omega
   ·intro x hx;rw [ht,qj,List.mem_singleton]at hx;rcases hx with hx|rfl
    ·exact hd x hx
    ·exact c
  ·simp only [c,decide_false,Bool.not_false,cond_true];rw [qag,if_neg];exact λh=>c (h b (List.mem_of_getElem? hb2))
 ·have hj2:j=w.length-a:=by omega
  have h0:decide (((a+j:Nat):Int)<(w.length:Int))=false:=by simp<;>omega
  have ht:(w.drop a).take j=w.drop a:=List.take_of_length_le (by rw [List.length_drop];omega);rw [ht]at hd ⊢;simp only [h0,cond_false];rw [qag,if_pos hd]
theorem qy8{d:Nat}(hd:d<=18){w:List UInt8}(hw:w.length<=100000):qbB w (d:Int)=some (match num d w with|some n=>(n,true)|none=>(0,false)):=by
 rw [<- qFa hd w];unfold qbB;cases w with
 |nil =>
  have:qAs d []=none:=by
   unfold qAs;rw [if_pos (.inl rfl)]
  rw [this];rfl
 |cons c r =>
  have h0:decide ((((c::r).length:Nat):Int) > 0)=true:=by simp
  have hi0:idx (c::r) 0=some c:=by simp [idx]
  simp only [h0,cond_true,hi0,qa]
  have key:∀(a:Nat),(a=if (c::r).head?=some 45 then 1 else 0) ->
    ((bif decide ((((c::r).length:Nat):Int)=(a:Int))then
     some true
    else
     bif decide (w64 ((((c::r).length:Nat):Int)-(a:Int)) > (d:Int))then
      some true
     else
      (idx (c::r) (a:Int)).bind λx4 =>
      bif decide ((x4.toNat:Int)=48)then
       some (decide ((((c::r).length:Nat):Int) > 1))
      else
       some false).bind λ(p5:Bool) =>
   bif p5 then
    some (0,false)
   else
    (qA (λ(s7:(Int×Int)) =>
      bif decide (s7.2<(((c::r).length:Nat):Int))then
       ((idx (c::r) s7.2).bind λx8 =>
        bif decide ((x8.toNat:Int)<48)then
         some true
        else
         (idx (c::r) s7.2).bind λx9 =>
         some (decide ((x9.toNat:Int) > 57))).bind λ(p10:Bool) =>
       bif p10 then
        some (.inr (.inr (0,false)))
       else
        (idx (c::r) s7.2).bind λx11 =>
        let v12:Int:=w64 ((w64 (10*s7.1))+(w64 (IntKind.wrap .u8 ((x11.toNat:Int)-48))))
        some (.inl (v12,w64 (s7.2+1)))
      else
       some (.inr (.inl s7.1))) (0,(a:Int))).bind (Sum.elim (λ(p13:Int) =>
    (bif decide ((a:Int)=1)then
      some (w64 (0-p13))
     else
      some p13).bind λ(p14:Int) =>
    some (p14,true)) some))=some (match qAs d (c::r)with|some n=>(n,true)|none=>(0,false)):=by
   intro a ha;have hrest:qdp (c::r)=(c::r).drop a:=by
    unfold qdp;rw [ha];split<;>rfl
   have ha1:a<=1:=by rw [ha];split<;>omega
   have hlc:(c::r).length=r.length+1:=rfl;have hdl:((c::r).drop a).length=(c::r).length-a:=List.length_drop;generalize hW:c::r=W at *;unfold qAs qEF;simp only [hrest];by_cases b1:W.length=a
   ·have b1':decide ((W.length:Int)=(a:Int))=true:=by simp<;>omega
    have:W.drop a=[]:=List.eq_nil_of_length_eq_zero (by omega);simp [b1',this]
   have b1':decide ((W.length:Int)=(a:Int))=false:=by simp<;>omega
   have hne:W.drop a≠[]:=λe=>by rw [e]at hdl;simp at hdl;omega
   simp only [b1',cond_false];have hw64:w64 ((W.length:Int)-(a:Int))=(W.length:Int)-(a:Int):=wid (by omega) (by omega);simp only [hw64];by_cases b2:d<(W.drop a).length
   ·have b2':decide ((W.length:Int)-(a:Int) > (d:Int))=true:=by simp<;>omega
    rw [if_pos (.inr (.inl b2))];simp only [b2',cond_true,qa]
   have b2':decide ((W.length:Int)-(a:Int) > (d:Int))=false:=by simp<;>omega
   simp only [b2',cond_false];obtain ⟨x,hx⟩:∃x,W[a]?=some x:=⟨_,List.getElem?_eq_getElem (by omega)⟩
   have hhead:(W.drop a).head?=some x:=by rw [List.head?_drop];exact hx
   rw [qQ hx,hhead];simp only [qa];have b3:(bif decide ((x.toNat:Int)=48)then some (decide ((W.length:Int) > 1))else some false)=some (decide (some x=some (48:UInt8)/\1<W.length)):=by
    by_cases c1:x=48
    ·subst c1;have:decide ((((48:UInt8).toNat:Nat):Int)=48)=true:=rfl;simp only [this,cond_true,true_and];congr 1
     exact decide_eq_decide.2 (by omega)
    ·have c1':decide ((x.toNat:Int)=48)=false:=by
      simp only [decide_eq_false_iff_not];intro h;exact c1 (UInt8.toNat_inj.1 (by have:(48:UInt8).toNat=48:=rfl;omega))
     simp [c1',c1]
   rw [b3];simp only [qa];by_cases b4:some x=some (48:UInt8)/\1<W.length
   ·simp only [b4,decide_true,cond_true,and_self,true_or,or_true,if_true]
   ·rw [decide_eq_false b4];simp only [cond_false];rw [qu6 (by omega) (by omega) hw];by_cases b5:∀c∈W.drop a,isD c
    ·rw [if_pos b5,if_neg]
     ·have hv:=qxx 18 (W.drop a) (by omega) b5;simp only [qa,Sum.elim_inl];by_cases b6:W.head?=some 45
      ·have:a=1:=by rw [ha,if_pos b6]
       subst this;rw [if_pos b6];simp only [show decide (((1:Nat):Int)=1)=true from rfl,cond_true,qa];rw [wid (by omega) (by omega)];simp
      ·have:a=0:=by rw [ha,if_neg b6]
       subst this;rw [if_neg b6];simp only [show decide (((0:Nat):Int)=1)=false from rfl,cond_false,qa]
     ·rintro (h|h|h|h)
      ·exact hne h
      ·exact b2 h
      ·exact b4 h
      ·exact h b5
    ·rw [if_neg b5,if_pos (.inr (.inr (.inr b5)))];rfl
  by_cases hm:c=45
  ·subst hm;have:=key 1 (by simp);simp only [show decide ((((45:UInt8).toNat:Nat):Int)=45)=true from rfl,cond_true,qa];exact this
  ·have hc:decide (((c.toNat:Nat):Int)=45)=false:=by
    simp only [decide_eq_false_iff_not];intro h;exact hm (UInt8.toNat_inj.1 (by have:(45:UInt8).toNat=45:=rfl;omega))
   have:=key 0 (by simp [hm]);simp only [hc,cond_false,qa];exact this
theorem qz4{α:Type}(f:α->List UInt8)(c:UInt8){l:List α}{i:Nat}{a:α}(ha:l[i]?=some a)(h0:i≠0):Lib.join ((l.take (i+1)).map f) [c]=Lib.join ((l.take i).map f) [c]++[c]++f a:=by
 have hlt:=(qm.1 ha).1;rw [qbw a hlt,getD_at ha,List.map_append,qh,List.map_nil,qz3];intro e;have:=congrArg List.length e;rw [List.length_map,List.length_take,List.length_nil]at this;omega
theorem qx6{α:Type}(f:α->List UInt8)(c:UInt8){l:List α}{a:α}(ha:l[0]?=some a):Lib.join ((l.take (0+1)).map f) [c]=f a:=by
 have hlt:=(qm.1 ha).1;rw [qbw a hlt,getD_at ha];simp [Lib.join_one]
theorem qkq{α:Type}{N:Nat}(f:α->List UInt8)(c:UInt8)(l:List α)(pre:List UInt8)(hb:∀i,(pre++Lib.join ((l.take i).map f) [c]).length<=N)
  {B:List UInt8×Int->Option ((List UInt8×Int)⊕List UInt8)}
  (h1:∀(i:Nat) a (t:List UInt8),l[i]?=some a->t.length<=N->B (t,(i:Int))=some (.inl ((if 0<i then t++[c]else t)++f a,(i:Int)+1)))
  (h2:∀t,B (t,(l.length:Int))=some (.inr t)):qA B (pre,0)=some (pre++Lib.join (l.map f) [c]):=by
 refine Ok.eq (qc0 l.length (λi (s:List UInt8×Int)=>s=(pre++Lib.join ((l.take i).map f) [c],(i:Int))) _ (by simp [Lib.join_nil]) ?_);rintro i s hi rfl;by_cases hlt:i<l.length
 ·have ha:l[i]?=some l[i]:=by simp [hlt]
  rw [h1 i _ _ ha (hb i),qaZ];refine ⟨hlt,?_⟩;by_cases c0:i=0
  ·subst c0;simp only [Nat.lt_irrefl,if_false];rw [qx6 f c ha];simp [Lib.join_nil]
  ·rw [if_pos (by omega),qz4 f c ha c0];simp
 ·have:i=l.length:=by omega
  subst this;rw [h2,qag,List.take_length]
theorem qad(c:UInt8):∀{s w:List UInt8},w∈parts c s->w.length<=s.length
 |[],w,h=>by simp [parts]at h;simp [h]
 |b::l,w,h=>by
  unfold parts at h;split at h
  ·rcases qk.1 h with rfl|h
   ·simp
   ·have:=qad c h;simp<;>omega
  ·split at h
   ·rename_i hp;exact absurd hp (qnM c l)
   ·rename_i p ps hp;rcases qk.1 h with rfl|h
    ·have:=qad c (s:=l) (w:=p) (by rw [hp];simp);simp<;>omega
    ·have:=qad c (s:=l) (w:=w) (by rw [hp];simp [h]);simp<;>omega
theorem qyK{β γ:Type}(c:UInt8)(f:List UInt8->Option β)(bad:γ){s:List UInt8}{B:List β×List UInt8->Option ((List β×List UInt8)⊕((List β×List UInt8)⊕γ))}
  (h1:∀out r,out.length+r.length<=s.length->c∉r->B (out,r)=some (.inr (.inl (out,r))))
  (h2:∀out p q,out.length+p.length+1+q.length<=s.length->c∉p->B (out,p++c::q)=some (match f p with|none=>.inr (.inr bad)|some b=>.inl (out++[b],q))) :
  Ok (qA B ([],s)) λx=>match x with
   |.inl p=>c∉p.2/\p.1.length+p.2.length<=s.length/\qbg f (parts c s)=(f p.2).map λb=>p.1++[b]
   |.inr q=>q=bad/\qbg f (parts c s)=none:=by
 refine qoS (λst=>st.2.length) (λ(st:List β×List UInt8)=>qbg f (parts c s)=(qbg f (parts c st.2)).map (st.1++·)/\st.1.length+st.2.length<=s.length) _ ⟨by simp,by simp⟩ ?_;rintro ⟨out,r⟩ ⟨e,hl⟩;simp only at e hl;rcases qbo c r with ⟨_,h3⟩|⟨p,q,rfl,h3,_⟩
 ·rw [h1 out r hl h3,qag];refine ⟨h3,hl,?_⟩;rw [e,qaU h3];simp only [qbg];cases f r<;>rfl
 ·have hq:(p++c::q).length=p.length+1+q.length:=by simp<;>omega
  rw [hq]at hl;rw [h2 out p q (by omega) h3];rw [qbb h3]at e;simp only [qbg]at e;cases hf:f p with
  |none =>
   rw [hf]at e;rw [qag];exact ⟨rfl,e⟩
  |some b =>
   rw [hf]at e;rw [qaZ];refine ⟨⟨?_,by simp;omega⟩,by simp only;rw [hq];omega⟩;simp only [e,qa];cases qbg f (parts c q)<;>simp
theorem qFd{α β:Type}{o:Option (α⊕β)}{k:α->Option β}{r:β}(h:Ok o λx=>match x with|.inl p=>k p=some r|.inr q=>q=r):o.bind (Sum.elim k some)=some r:=by
 obtain ⟨x,rfl,h⟩:=h;cases x with
 |inl p=>exact h
 |inr q=>exact congrArg some h
theorem qsx{c:UInt8}{s p q:List UInt8}(hs:s.length<=100000)(h3:p.length+1+q.length<=s.length)(hi:c∉p):strings_Index (p++c::q) [c]=some (p.length:Int) /\
  slc (p++c::q) 0 (w64 ((p.length:Int)+0))=some p/\slc (p++c::q) (w64 ((p.length:Int)+1)) ((p++c::q).length:Int)=some q:=by
 have hl:(p++c::q).length=p.length+1+q.length:=by simp<;>omega
 refine ⟨?_,?_,?_⟩
 ·unfold strings_Index;rw [if_pos (by omega)];rcases qbo c (p++c::q)with ⟨_,h⟩|⟨p',q',e,h1,h2⟩
  ·exact absurd (by simp) h
  ·have h4:=qbb (r:=q) hi;rw [e,qbb h1]at h4;rw [h2,(List.cons.inj h4).1]
 ·rw [wid (by omega) (by omega),show ((p.length:Int)+0)=((p.length:Nat):Int) by omega,qDC (by rw [hl];omega)];simp
 ·rw [wid (by omega) (by omega),show ((p.length:Int)+1)=((p.length+1:Nat):Int) by omega,qlg (by rw [hl];omega)];rw [show p++c::q=(p++[c])++q by simp,List.drop_left' (by simp)]
theorem index_none{c:UInt8}{r:List UInt8}(hr:r.length<=100000)(h:c∉r):strings_Index r [c]=some (-1):=by
 unfold strings_Index;rw [if_pos (by omega)];rcases qbo c r with ⟨h1,_⟩|⟨p,q,rfl,_,_⟩
 ·rw [h1]
 ·exact absurd (by simp) h
theorem qr6{c:UInt8}(sep:List UInt8):∀{l:List (List UInt8)},c∈Lib.join l sep->c∈sep\/∃w∈l,c∈w
 |[],h=>by rw [Lib.join_nil]at h;cases h
 |[w],h=>by rw [Lib.join_one]at h;exact .inr ⟨w,by simp,h⟩
 |w::v::r,h=>by
  rw [qdJ]at h;rcases qj.1 h with h|h
  ·rcases qj.1 h with h|h
   ·exact .inr ⟨w,by simp,h⟩
   ·exact .inl h
  ·rcases qr6 sep h with h|⟨x,h1,h2⟩
   ·exact .inl h
   ·exact .inr ⟨x,by simp [qk.1 h1],h2⟩
theorem qmw(l:List Nm)(x:Nm)(hl:l.length<=1000000000):qD l x=some (decide (x∈l)):=by
 unfold qD qaV;obtain ⟨r,h1,h2⟩:=qDV l (λy=>decide (x=y)) hl;rw [h1];simp only [qa,h2];by_cases h:x∈l
 ·rw [decide_eq_true h,List.any_eq_true.2 ⟨x,h,by simp⟩]
 ·rw [decide_eq_false h];congr 1
  rw [List.any_eq_false];intro y hy;simp only [decide_eq_true_eq];rintro rfl;exact h hy
def qfj(g:Gt):List Nm:=g.1::Lib.itoa g.2.2.1::g.2.1
def qlJ(g:Gt):Nm:=Lib.join (qfj g) [32]
def qhC(gs:List Gt):Nm:=Lib.join (gs.map qlJ) [59]
theorem qom{gs:List Gt}(hb:GS gs)(hs:∀g∈gs,qtq g.2.2.1):∀g∈gs,(qlJ g).length<=248:=by
 intro g hg;have h1:=qkH [32] (B:=30) (qfj g) (λw hw=>by
  unfold qfj at hw;rcases qk.1 hw with rfl|hw
  ·exact hb.nm g hg
  ·rcases qk.1 hw with rfl|hw
   ·have:=qkA (hs g hg);omega
   ·exact hb.rn g hg w hw)
 have h2:(qfj g).length<=8:=by
  have:=hb.rl g hg;unfold qfj;simp<;>omega
 have h3:(qfj g).length*(30+[(32:UInt8)].length)<=8*31:=Nat.mul_le_mul h2 (by simp);unfold qlJ;omega
theorem qqs{gs:List Gt}(hb:GS gs)(hs:∀g∈gs,qtq g.2.2.1):(qhC gs).length<=2000:=by
 have h1:=qkH [59] (B:=248) (gs.map qlJ) (λw hw=>by
  obtain ⟨g,hg,rfl⟩:=List.mem_map.1 hw;exact qom hb hs g hg)
 have h2:=hb.len;have h3:(gs.map qlJ).length*(248+[(59:UInt8)].length)<=8*249:=Nat.mul_le_mul (by rw [List.length_map];exact h2) (by simp);unfold qhC;omega
theorem qi9{gs:List Gt}(hb:GS gs)(hs:∀g∈gs,qtq g.2.2.1):qbc gs=some (qhC gs):=by
 unfold qbc;have hlen:=hb.len;rw [qrC gs qlJ]
 ·simp only [qa];have:=qqs hb hs;unfold strings_Join;rw [if_pos ⟨by rw [List.length_map];omega,by unfold qhC at this;omega⟩];rfl
 ·intro i g out hg ho;have hlt:=qY hg;have hm:=List.mem_of_getElem? hg;have h0:decide ((i:Int)<(gs.length:Int))=true:=by simp<;>omega
  have hr:=hb.rl g hm;have hl:=qom hb hs g hm;simp only [h0,cond_true,qQ hg,qa];rw [qy7 (hs g hm)];simp only [qa];rw [qd9 (by simp;omega)];simp only [qa];have hw : [g.1,Lib.itoa g.2.2.1]++g.2.1=qfj g:=rfl;rw [hw];have h2:(qfj g).length<=8:=by unfold qfj;simp<;>omega
  unfold strings_Join;rw [if_pos ⟨by omega,by unfold qlJ at hl;omega⟩];simp only [qa];rw [qaf (by omega)];simp only [qa];rw [wid (by omega) (by omega)];rfl
 ·intro out ho;have h0:decide ((gs.length:Int)<(gs.length:Int))=false:=by simp
  simp only [h0,cond_false]
def qe5(d:Nat)(w:Nm):Option Int:=match Lib.atoiAll w with
 |.ok v=>if 0<=v/\Lib.itoa v=w/\w.length<=d then some v else none
 |_=>none
theorem qo1{d:Nat}{e:Int}(he:e=(d:Int)){w:Nm}(hw:w.length<=100000):∃v,qaa w e=some (v,(qe5 d w).isSome)/\∀n,qe5 d w=some n->v=n:=by
 subst he;unfold qaa strconv_Atoi;rw [if_pos (by omega)];unfold qDM qe5;cases ha:Lib.atoiAll w with
 |ok v =>
  have hb:=Lib.atoiAll_bounds ha;simp only [qa,cond_true];refine ⟨v,?_,?_⟩
  ·by_cases c0:0<=v
   ·have c1:decide (v>=0)=true:=by simp<;>omega
    simp only [c1,cond_true];rw [qy7 ⟨by omega,by omega⟩];simp only [qa];by_cases c:Lib.itoa v=w
    ·simp only [c,decide_true,cond_true,true_and];by_cases e:w.length<=d
     ·have:(w.length:Int)<=(d:Int):=by omega
      simp [e,this,c0]
     ·have:¬ (w.length:Int)<=(d:Int):=by omega
      simp [e,this]
    ·simp [c]
   ·have c1:decide (v>=0)=false:=by simp<;>omega
    simp only [c1,cond_false,qa];simp [c0]
  ·intro n hn;split at hn
   ·cases hn;rfl
   ·cases hn
 |range=>exact ⟨_,rfl,λn hn=>by cases hn⟩
 |_=>exact ⟨0,rfl,λn hn=>by cases hn⟩
theorem qrl(c:UInt8){w:Nm}(hw:w.length<=100000):strings_Split w [c]=some (parts c w):=by
 unfold strings_Split;rw [if_pos ⟨by omega,by simp⟩];congr 1
 exact qv7 c ⟨w.toArray⟩
def pg(w:Nm):Option Gt:=match parts 32 w with
 |n::k::l=>if []∈n::k::l then none else (qe5 3 k).map λv=>(n,l,v,())
 |_=>none
theorem qAF{α:Type}{w:Nm}(hw:w.length<=100000)(A:Option α)(K:Nm->List Nm->Int->Option α) :
  ((strings_Split w [32]).bind λx5 =>
     (bif decide ((x5.length:Int)<2)then
       some true
      else
       (qD x5 []).bind λx6 =>
       some x6).bind λ(p7:Bool) =>
     bif p7 then
      A
     else
      (idx x5 1).bind λx8 =>
      (qaa x8 (3:Int)).bind λx9 =>
      bif !x9.2 then
       A
      else
       (idx x5 0).bind λx10 =>
       (slc x5 2 (x5.length:Int)).bind λx11=>K x10 x11 x9.1)=match pg w with
   |none=>A
   |some g=>K g.1 g.2.1 g.2.2.1:=by
 rw [qrl 32 hw];simp only [qa];have hpl:=qdm 32 w;have hsh:∀x∈parts 32 w,x.length<=w.length:=λx hx=>qad 32 hx;unfold pg;cases hp:parts 32 w with
 |nil=>rfl
 |cons n l =>
  cases l with
  |nil=>rfl
  |cons k l =>
   rw [hp]at hpl hsh;have h0:decide (((n::k::l).length:Int)<2)=false:=by simp<;>omega
   simp only [h0,cond_false];rw [qmw _ _ (by omega)];simp only [qa];by_cases hc : []∈n::k::l
   ·rw [decide_eq_true hc,if_pos hc];rfl
   ·rw [decide_eq_false hc,if_neg hc];simp only [cond_false];have hk:=hsh k (by simp);obtain ⟨v,h1,h2⟩:=qo1 (d:=3) (e:=3) rfl (w:=k) (by omega);have e1:idx (n::k::l) 1=some k:=rfl;have e0:idx (n::k::l) 0=some n:=rfl;rw [e1];simp only [qa];rw [h1];simp only [qa];cases hn:qe5 3 k with
    |none=>rfl
    |some u =>
     simp only [Option.isSome_some,Bool.not_true,cond_false,qi];rw [e0];simp only [qa];have e2:slc (n::k::l) 2 ((n::k::l).length:Int)=some l:=by
      have:=qlg (l:=n::k::l) (a:=2) (by simp);exact this
     rw [e2];simp only [qa];rw [h2 u hn]
def qyx(s:Nm):List Gt×Int:=match qbg pg (parts 59 s)with
 |none=>([],7)
 |some gs=>if (qeF gs).2=0 then (gs,0)else ([],(qeF gs).2)
theorem qkg{s:Nm}(hs:s.length<=60000)(hb:∀gs,qbg pg (parts 59 s)=some gs->GB gs):q8 s=some (qyx s):=by
 unfold q8;have h0:decide ((s.length:Int) > 60000)=false:=by simp<;>omega
 simp only [h0,cond_false];refine qFd ((qyK 59 pg (([],7):List Gt×Int) ?_ ?_).mono ?_)
 ·intro out r hl hr;simp only
  rw [index_none (by omega) hr];rfl
 ·intro out p q hl hp;obtain ⟨h1,h2,h3⟩:=qsx (by omega) (by omega) hp (c:=59) (q:=q) (s:=s);have h0:decide (((p.length:Nat):Int)<0)=false:=by simp
  simp only
  rw [h1];simp only [qa,h0,cond_false];rw [h2];simp only [qa];refine (qAF (α:=(List Gt×Nm)⊕((List Gt×Nm)⊕(List Gt×Int))) (w:=p) (by omega) (some (.inr (.inr ([],7)))) (λa b v=>(app out ([(a,b,v,())])).bind λx12 =>
       (slc (p++59::q) (w64 ((p.length:Int)+1)) ((p++59::q).length:Int)).bind λx13 =>
       some (.inl (x12,x13)))).trans ?_
  cases hn:pg p with
  |none=>rfl
  |some z =>
   simp only
   rw [qaf (by omega)];simp only [qa];rw [h3];rfl
 ·rintro x hx;cases x with
  |inr q=>obtain ⟨rfl,h⟩:=hx;simp only;unfold qyx;rw [h]
  |inl p =>
   obtain ⟨h1,h2,h3⟩:=hx;simp only
   refine (qAF (w:=p.2) (by omega) (some ([],7)) (λa b v=>(app p.1 ([(a,b,v,())])).bind λx22 =>
    (qbt x22).bind λx23 =>
    bif !(decide (x23.2=0))then
     some ([],x23.2)
    else
     some (x22,0))).trans ?_
   unfold qyx;rw [h3];cases hn:pg p.2 with
   |none=>rfl
   |some z =>
    rw [hn]at h3;have hgb:=hb (p.1++[z]) h3;simp only [qi];rw [qaf (by omega)];simp only [qa];have e:p.1++[(z.1,z.2.1,z.2.2.1,())]=p.1++[z]:=rfl;rw [e,qrw hgb];simp only [qa];by_cases c:(qeF (p.1++[z])).2=0
    ·simp [c]
    ·simp [c]
theorem qnD{s:Nm}(h:isN s=true):∀c∈s,c≠32/\c≠59:=by
 intro c hc;unfold isN at h;simp only [qe,Option.isNone_iff_eq_none]at h;have hf:=h.2;obtain ⟨i,hi⟩:=List.mem_iff_getElem?.1 hc;have:=(qay (l:=s)).1 hf i c hi;split at this
 ·cases this
 ·rename_i hb;unfold qu0 qAa at hb;constructor<;>rintro rfl<;>exact hb (by cases i<;>simp<;>decide)
theorem qwR{s:Nm}(h:isN s=true):s≠[]:=by
 rintro rfl;simp [isN]at h
theorem qAo{v:Int}(h0:0<=v)(h1:v<=20):qe5 3 (Lib.itoa v)=some v:=by
 have h2:=qw0 (d:=3) (by omega) (by omega) (v:=v) (by omega);obtain ⟨h3,_,_⟩:=qw2 h2;have e:Lib.itoa v=Lib.decDigits v.toNat:=by unfold Lib.itoa;rw [if_neg (by omega)]
 have h4:=qjt 3 v.toNat (by omega) (by omega);unfold qe5;rw [h3];show (if 0<=v/\Lib.itoa v=Lib.itoa v/\(Lib.itoa v).length<=3 then some v else none)=some v;rw [if_pos ⟨h0,rfl,by rw [e];exact h4⟩]
theorem qxB{g:Gt}(hn:isN g.1=true)(hr:∀r∈g.2.1,isN r=true)(hs:0<=g.2.2.1):∀w∈qfj g,(32:UInt8)∉w/\(59:UInt8)∉w/\w≠[]:=by
 intro w hw;unfold qfj at hw;rcases qk.1 hw with rfl|hw
 ·exact ⟨λh=>(qnD hn _ h).1 rfl,λh=>(qnD hn _ h).2 rfl,qwR hn⟩
 ·rcases qk.1 hw with rfl|hw
  ·exact ⟨qz0 (by decide) (by decide),qz0 (by decide) (by decide),qD2 _⟩
  ·have:=hr w hw;exact ⟨λh=>(qnD this _ h).1 rfl,λh=>(qnD this _ h).2 rfl,qwR this⟩
theorem qFi{g:Gt}(hn:isN g.1=true)(hr:∀r∈g.2.1,isN r=true)(h0:0<=g.2.2.1)(h1:g.2.2.1<=20):pg (qlJ g)=some g:=by
 have hw:=qxB hn hr h0;unfold pg qlJ;rw [qe6 (by simp [qfj]) (λw h=>(hw w h).1)];have hne : []∉qfj g:=λh=>(hw [] h).2.2 rfl;unfold qfj at hne ⊢;simp only
 rw [if_neg hne,qAo h0 h1];rfl
theorem qBV{g:Gt}(hn:isN g.1=true)(hr:∀r∈g.2.1,isN r=true)(h0:0<=g.2.2.1):(59:UInt8)∉qlJ g:=by
 intro h;rcases qr6 [32] h with h|⟨w,h1,h2⟩
 ·simp at h
 ·exact (qxB hn hr h0 w h1).2.1 h2
def qFc(g:Gt):Prop:=isN g.1=true/\(∀r∈g.2.1,isN r=true)/\0<=g.2.2.1/\g.2.2.1<=20
theorem qry{α:Type}{f:Nat->α->Int}:∀{l:List α} {k:Nat},(qaE f k l).2=0->∀(i:Nat) a,l[i]?=some a->f (k+i) a=0
 |[],k,_,i,a,h=>by simp at h
 |b::l,k,h,i,a,ha=>by
  simp only [qaE]at h;by_cases h0:f k b=0
  ·rw [if_pos h0]at h;cases i with
   |zero=>simp at ha;subst ha;simpa using h0
   |succ i=>rw [show k+(i+1)=(k+1)+i by omega];exact qry h i a (by simpa using ha)
  ·rw [if_neg h0]at h;exact absurd h h0
theorem qqr{gs:List Gt}(h:(qeF gs).2=0):∀g∈gs,qFc g:=by
 intro g hg;obtain ⟨h1,h2⟩:=qtl h;unfold qeF at h;rw [if_pos (by omega),if_pos (by omega)]at h;obtain ⟨i,hi⟩:=List.mem_iff_getElem?.1 hg;have hz:=qry h i g hi;unfold qks at hz;by_cases c1:isN g.1=true
 ·rw [if_pos c1]at hz;split at hz
  ·omega
  ·split at hz
   ·split at hz
    ·rename_i hr;split at hz
     ·rename_i hs;refine ⟨c1,λr hr'=>?_,hs.1,hs.2⟩;obtain ⟨j,hj⟩:=List.mem_iff_getElem?.1 hr';have:=qry hr j r hj;unfold qgZ at this;split at this
      ·assumption
      ·omega
     ·omega
    ·rename_i hr;exact absurd hz hr
   ·omega
 ·rw [if_neg c1]at hz;omega
theorem qCE{gs:List Gt}(h:(qeF gs).2=0):qbg pg (parts 59 (qhC gs))=some gs:=by
 have h0:gs≠[]:=by
  have:=(qtl h).1;intro e;subst e;simp at this
 have hk:=qqr h;unfold qhC;rw [qe6 (by simpa using h0)]
 ·have e:gs.map (λg=>g)=gs:=by simp
  refine qoT λg hg=>?_;obtain ⟨a,b,c,d⟩:=hk g hg;exact qFi a b c d
 ·intro w hw;obtain ⟨g,hg,rfl⟩:=List.mem_map.1 hw;obtain ⟨a,b,c,_⟩:=hk g hg;exact qBV a b c
theorem quQ{gs:List Gt}(hb:GS gs)(h:(qeF gs).2=0):qbc gs=some (qhC gs)/\q8 (qhC gs)=some (gs,0):=by
 have hs:∀g∈gs,qtq g.2.2.1:=λg hg=>by
  have:=qqr h g hg;exact ⟨by have:=this.2.2.1;omega,by have:=this.2.2.2;omega⟩
 refine ⟨qi9 hb hs,?_⟩;have hl:=qqs hb hs;have hr:=qCE h;rw [qkg (by omega) (λgs' h'=>by rw [hr]at h';cases h';exact hb.gb)];unfold qyx;rw [hr];simp only
 rw [if_pos h]
theorem qp8(l:List Nm)(h:l.length<=1000000000):qf2 l l=some true:=by
 unfold qf2;simp only [decide_true,Bool.not_true,cond_false];rw [qap l _ (λ_ _=>(none:Option Bool)) (λi a hi=>by
  have:=qY hi;rw [qQ hi];simp only [qa,decide_true,Bool.not_true,cond_false,stp];rw [wid (by omega) (by omega)])]
 have:qaX (λ_ _=>(none:Option Bool)) 0 l=none:=qay.2 (λ_ _ _=>rfl);rw [this];rfl
theorem qja{gs:List Gt}(hb:GB gs):qbr gs gs=some true:=by
 have hlen:=hb.len;unfold qbr;simp only [decide_true,Bool.not_true,cond_false];rw [qap gs _ (λ_ _=>(none:Option Bool)) (λi a hi=>by
  have:=qY hi;have hr:=hb.rl a (List.mem_of_getElem? hi);rw [qQ hi];simp only [qa,decide_true,Bool.not_true,cond_false];rw [qp8 _ (by omega)];simp only [qa,Bool.not_true,cond_false,stp];rw [wid (by omega) (by omega)])]
 have:qaX (λ_ _=>(none:Option Bool)) 0 gs=none:=qay.2 (λ_ _ _=>rfl);rw [this];rfl
end Go.Proofs.YtkmcmngpifalcaaGreatDoor
end
section
namespace Go.Proofs.YtkmcmngpifalcaaGreatDoor
open Go Go.Ab Go.Tx
theorem qnX(l:List Int)(h:l.length<=1000):qc6 l=some l:=by
 unfold qc6;rw [quX (by omega)];rfl
theorem qEK(l:List Int)(t:Int)(hl:l.length<=1000000000):qnt l t=some (decide (t∈l)):=by
 unfold qnt;have key:=qap l (λs2=>(idx l s2).bind λx3 =>
    bif decide (x3=t)then
     some (.inr (.inr true))
    else
     some (.inl (w64 (s2+1)))) (λ_ a=>if a=t then some true else none) (λi a hi=>by
  have:=qY hi;rw [qQ hi];simp only [qa];by_cases h:a=t
  ·simp [h,stp]
  ·simp only [h,decide_false,cond_false,if_false,stp];rw [wq (by omega) (by omega)])
 rw [key,qZ];cases hf:qaX (λ(_:Nat) a=>if a=t then some true else none) 0 l with
 |none =>
  rw [qay]at hf;have:t∉l:=λh=>by
   obtain ⟨i,hi⟩:=List.mem_iff_getElem?.1 h;have:=hf i t hi;simp at this
  simp [this]
 |some r =>
  obtain ⟨i,a,h1,h2,_⟩:=qaT hf;split at h2
  ·rename_i h;subst h;simp only [qb]at h2;subst h2;simp [List.mem_of_getElem? h1]
  ·cases h2
end Go.Proofs.YtkmcmngpifalcaaGreatDoor
end
