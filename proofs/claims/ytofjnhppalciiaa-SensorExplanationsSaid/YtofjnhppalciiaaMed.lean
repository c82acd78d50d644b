/-
  ONE LAW OF A CHAPTER: its program side is run by an interpreter that is proved sound; what it computes is shown to be what the law says. No conditions. Part 4 of 8.
-/
import Derived.Test.YtofjnhppalciiaaMec
import Ieee.Arith
import Derived.Laws.ComplexArith
import Derived.Laws.Strings
set_option linter.unusedSimpArgs false
set_option linter.unusedVariables false
set_option linter.unnecessarySimpa false
section
namespace Go.Tx
open Go Go.Ab
section
inductive Ty where
 |int (k:IntKind)
 |bool
 |str
 |flt
 |cx
 |err
 |mset (t:Ty)
 |nsl (t:Ty)
 |sl (t:Ty)
 |unit
 |pair (a b:Ty)
 deriving DecidableEq
@[reducible] def Ty.den:Ty->Type
 |.int _=>Int
 |.bool=>Bool
 |.str=>List UInt8
 |.flt=>Int
 |.cx=>Int×Int
 |.err=>Bool
 |.mset t=>List t.den
 |.nsl t=>List t.den
 |.sl t=>List t.den
 |.unit=>Unit
 |.pair a b=>a.den×b.den
def Ty.depth:Ty->Nat
 |.sl t=>t.depth+1
 |.nsl t=>t.depth+1
 |.pair a b=>max a.depth b.depth
 |_=>0
def Ty.one:Ty->Bool
 |.unit|.pair .. | .mset _=>false
 |_=>true
def Ty.qbk:Ty->Nat
 |.unit=>0
 |.pair _ b=>b.qbk+1
 |_=>1
def Ty.isSet:Ty->Bool
 |.mset _=>true
 |.pair a b=>a.isSet||b.isSet
 |_=>false
def Ty.qnu:Ty->Bool
 |.unit=>true
 |.pair a b=>a.one&&b.qnu
 |_=>false
def Ty.qbY:Ty->Bool
 |.unit=>true
 |.mset _=>false
 |.pair a b=>a.one&&b.qnu
 |_=>true
def Ty.ok:Ty->Bool
 |.sl t=>t.qbY&&t.ok
 |.nsl t=>t.qbY&&t.ok
 |.pair a b=>a.one&&a.ok&&b.qnu&&b.ok
 |_=>true
def qa1(o:Nat):Bool:=!(decide (o=0)||(decide (o=1000)||decide (o=2000)))
def nx(o:Nat):Nat:=if qa1 o then o-1 else o
def dl(o:Nat):Nat:=if o=1000 then 1000 else 0
def lo(o:Nat):Nat:=if 1000<=o/\o<2000 then o-1000 else o
def sure(o d:Nat):Bool:=if o<1000 then decide (d<=o)else if o<2000 then true else decide (d<=o-2000)
def nf(o d:Nat):Nat:=if o<1000 then min o d else o
def fits:Nat->Nat->Nat->Bool
 |0,_,_=>true
 |d+1,o',o=>decide (o=2000)||((qa1 o'==qa1 o)&&!decide (o'=2000)&&(!decide (o=1000)||decide (o'=1000))&&fits d (nx o') (nx o))
inductive TV where
 |any (rs:List Root)
 |t (τ:Ty) (own:Nat) (x:τ.den)
 |clp (τ:Ty) (x:List τ.den)
 |room (a s:Nat)
 |empty (o:Nat)
 |val (v:Value)
 |agg (l:List TV)
 |tuple (l:List TV)
 |fn (g:FuncId) (first cap:List TV)
 |ptr (r:Root) (off:Nat)
 |cptr (sh:Bool) (l:List TV)
 |iface (t:TypeId) (v:TV)
 |mref (r:Root)
 |bsl (r:Root) (off n:Nat)
 |yld (r:Root)
 |lp (state:LoopState) (pend:Option Code) (f:FuncId) (env:List TV) (params:List Tmp) (assign body:Code)
instance:Inhabited TV:=⟨.any []⟩
structure Env where
 n:Nat
 t:Tr TV
noncomputable def Env.get(e:Env)(i:Nat):TV:=Env.rec (motive:=λ_=>TV) (λn t=>Bool.rec (motive:=λ_=>TV) (.any []) (t.get (.any []) i) (Nat.ble (Nat.succ i) n)) e
noncomputable def Env.set(e:Env)(i:Nat)(v:TV):Env:=Env.rec (motive:=λ_=>Env) (λn t=>⟨n,t.set (.any []) i v⟩) e
noncomputable def Env.qs2(f:Nat->TV->TV)(e:Env):Env:=Env.rec (motive:=λ_=>Env) (λn t=>⟨n,t.qs2 (.any []) n f 1 0⟩) e
noncomputable def Env.all(p:Nat->TV->Bool)(e:Env):Bool:=e.t.allI p 1 0
noncomputable def Env.mask(p:TV->Bool)(e:Env):Mask:=⟨e.t.qxr p 1 0⟩
noncomputable def qq3:List TV->Nat->Tr TV->Tr TV
 |[],_,t=>t
 |v::l,i,t=>qq3 l (i+1) (t.set (.any []) i v)
noncomputable def Env.qgK(args:List TV)(n:Nat):Env:=⟨args.length+(n-args.length),qq3 args 0 .nil⟩
noncomputable def Env.toL(e:Env):List TV:=(List.range e.n).map λi=>e.t.get (.any []) i
noncomputable def qds(D:Mask)(rs:Nat->List Root)(e:Env):Env:=e.qs2 λi v=>Bool.rec (motive:=λ_=>TV) v (.any (rs i)) (D.has i)
def TV.cells:TV->List TV
 |.agg l=>l
 |v=>[v]
def TV.one:TV->Bool
 |.any _|.agg _|.tuple _|.room .. | .lp ..=>false
 |.t τ _ _=>τ.one
 |.val u=>match u with
  |.agg _=>false
  |.tuple _=>false
  |_=>true
 |_=>true
def TV.oks(x:TV):Bool:=x.cells.all TV.one
mutual
def TV.q8:TV->TV
 |.any rs=>.any rs
 |.t τ o x=>.t τ (dl o) x
 |.clp τ x=>.clp τ x
 |.room a s=>match a with
  |0=>.empty 0
  |_+1=>.room 2 s
 |.empty o=>.empty (dl o)
 |.val v=>.val v
 |.agg l=>.agg (dullL l)
 |.tuple l=>.tuple (dullL l)
 |.fn g a b=>.fn g (dullL a) (dullL b)
 |.ptr r o=>.ptr r o
 |.mref r=>.mref r
 |.bsl r o n=>.bsl r o n
 |.yld r=>.yld r
 |.lp s pe f env ps a b=>.lp s pe f env ps a b
 |.cptr s l=>.cptr s (dullL l)
 |.iface t v=>.iface t v.q8
def dullL:List TV->List TV
 |[]=>[]
 |v::l=>v.q8::dullL l
end
mutual
def TV.share:TV->TV
 |.any rs=>.any rs
 |.t τ _ x=>.t τ 1000 x
 |.clp τ x=>.t (.sl τ) 1000 x
 |.room a s=>match a with
  |0=>.empty 1000
  |_+1=>.room 2 s
 |.empty _=>.empty 1000
 |.val v=>.val v
 |.agg l=>.agg (shareL l)
 |.tuple l=>.tuple (shareL l)
 |.fn g a b=>.fn g (shareL a) (shareL b)
 |.ptr r o=>.ptr r o
 |.mref r=>.mref r
 |.bsl r o n=>.bsl r o n
 |.yld r=>.yld r
 |.lp s pe f env ps a b=>.lp s pe f env ps a b
 |.cptr _ l=>.cptr true (shareL l)
 |.iface t v=>.iface t v.share
def shareL:List TV->List TV
 |[]=>[]
 |v::l=>v.share::shareL l
end
mutual
def TV.qa8:TV->TV
 |.any rs=>.any rs
 |.t τ o x=>.t τ (lo o) x
 |.clp τ x=>.clp τ x
 |.room a s=>.room a s
 |.empty o=>.empty (lo o)
 |.val v=>.val v
 |.agg l=>.agg (loosenL l)
 |.tuple l=>.tuple (loosenL l)
 |.fn g a b=>.fn g (loosenL a) (loosenL b)
 |.ptr r o=>.ptr r o
 |.mref r=>.mref r
 |.bsl r o n=>.bsl r o n
 |.yld r=>.yld r
 |.lp s pe f env ps a b=>.lp s pe f env ps a b
 |.cptr _ l=>.cptr false (loosenL l)
 |.iface t v=>.iface t v.qa8
def loosenL:List TV->List TV
 |[]=>[]
 |v::l=>v.qa8::loosenL l
end
mutual
def TV.qp:TV->List Root
 |.any rs=>rs
 |.ptr r _=>[r]
 |.mref r=>[r]
 |.bsl r _ _=>[r]
 |.yld r=>[r]
 |.lp _ _ _ env _ _ _=>ptrsTL env
 |.cptr _ cs=>ptrsTL cs
 |.fn _ a b=>ptrsTL a++ptrsTL b
 |.iface _ v=>v.qp
 |.agg l=>ptrsTL l
 |.tuple l=>ptrsTL l
 |_=>[]
def ptrsTL:List TV->List Root
 |[]=>[]
 |v::l=>v.qp++ptrsTL l
end
mutual
def TV.owns:TV->Bool
 |.any _=>true
 |.t τ o _=>(qa1 o||decide (o=2000))&&decide (0<τ.depth)
 |.room ..=>true
 |.empty o=>qa1 o||decide (o=2000)
 |.fn _ a b=>ownsTL a||ownsTL b
 |.cptr _ l=>ownsTL l
 |.iface _ v=>v.owns
 |.agg l=>ownsTL l
 |.tuple l=>ownsTL l
 |_=>false
def ownsTL:List TV->Bool
 |[]=>false
 |v::l=>v.owns||ownsTL l
end
mutual
def TV.known:TV->Bool
 |.any _=>false
 |.lp _ _ _ env _ _ _=>knownL env
 |.fn _ a b=>knownL a&&knownL b
 |.cptr _ l=>knownL l
 |.iface _ _=>false
 |.agg l=>knownL l
 |.tuple l=>knownL l
 |_=>true
def knownL:List TV->Bool
 |[]=>true
 |v::l=>v.known&&knownL l
end
mutual
def TV.firm:TV->Bool
 |.any _=>false
 |.room ..=>false
 |.t τ o _=>sure o τ.depth
 |.clp _ _=>false
 |.fn _ a b=>firmL a&&firmL b
 |.cptr s l=>s&&firmL l
 |.iface _ v=>v.firm
 |.agg l=>firmL l
 |.tuple l=>firmL l
 |_=>true
def firmL:List TV->Bool
 |[]=>true
 |v::l=>v.firm&&firmL l
end
mutual
def TV.tight:TV->Bool
 |.any _=>false
 |.room ..=>false
 |.t τ o _=>sure o τ.depth
 |.empty o=>sure o 1
 |.clp _ _=>false
 |.fn _ a b=>tightL a&&tightL b
 |.cptr s l=>s&&tightL l
 |.iface _ v=>v.tight
 |.agg l=>tightL l
 |.tuple l=>tightL l
 |_=>true
def tightL:List TV->Bool
 |[]=>true
 |v::l=>v.tight&&tightL l
end
def TV.isAny:TV->Bool
 |.any _=>true
 |_=>false
def TV.qdP(x:TV):TV:=if x.firm then x else .any x.qp
def qqH(k:IntKind):List TV->Option (List Int)
 |[]=>some []
 |.t (.int k') _ x::l=>if k'=k then (qqH k l).map λm=>x::m else none
 |_::_=>none
section
variable (bx:Root->Option (List TV))
mutual
def peekTV:TV->Option TV
 |.ptr r off=>match bx r with
  |some c=>if off<=c.length/\r.slot<16384 then some (.cptr true (shareL (c.drop off)))else none
  |none=>none
 |.fn g a b=>match peekTL a,peekTL b with
  |some x,some y=>some (.fn g x y)
  |_,_=>none
 |.iface t v=>(peekTV v).map (.iface t)
 |.agg l=>(peekTL l).map .agg
 |.tuple l=>(peekTL l).map .tuple
 |.cptr _ cs=>some (.cptr true (shareL cs))
 |.t τ _ x=>bif τ.isSet then none else some (.t τ 1000 x)
 |.mref _=>none
 |.bsl r off n=>match bx r with
  |some c=>if off+n<=c.length/\r.slot<16384 then (qqH .i64 ((c.drop off).take n)).map λl=>.t (.sl (.int .i64)) 1000 l else none
  |none=>none
 |.clp τ x=>some (.t (.sl τ) 1000 x)
 |.room ..=>none
 |.empty _=>some (.empty 1000)
 |.val v=>some (.val v)
 |.any _=>none
 |.yld _=>none
 |.lp ..=>none
def peekTL:List TV->Option (List TV)
 |[]=>some []
 |v::l=>match peekTV v,peekTL l with
  |some x,some xs=>some (x::xs)
  |_,_=>none
end
end
def qqs:Ty->Nat->Bool
 |.sl t,o=>qa1 o&&qqs t (nx o)
 |.nsl _,_=>false
 |.pair a b,o=>qqs a o&&qqs b o
 |.mset _,_=>false
 |_,_=>true
mutual
def TV.qcA:TV->Bool
 |.t τ o _=>qqs τ o
 |.empty o=>qa1 o
 |.val _=>true
 |.fn _ a b=>mineTL a&&mineTL b
 |.iface _ v=>v.qcA
 |.agg l=>mineTL l
 |.tuple l=>mineTL l
 |_=>false
def mineTL:List TV->Bool
 |[]=>true
 |v::l=>v.qcA&&mineTL l
end
mutual
def ofTy:(τ:Ty)->Nat->τ.den->TV
 |.unit,_,_=>.agg []
 |.pair a b,o,x=>.agg (ofTy a o x.1::ofTyC b o x.2)
 |.int k,o,x=>.t (.int k) o x
 |.bool,o,x=>.t .bool o x
 |.str,o,x=>.t .str o x
 |.flt,o,x=>.t .flt o x
 |.cx,o,x=>.t .cx o x
 |.err,o,x=>.t .err o x
 |.mset t,o,x=>.t (.mset t) o x
 |.sl t,o,x=>.t (.sl t) o x
 |.nsl t,o,x=>.t (.nsl t) o x
def ofTyC:(τ:Ty)->Nat->τ.den->List TV
 |.pair a b,o,x=>ofTy a o x.1::ofTyC b o x.2
 |_,_,_=>[]
end
def nel{α:Type}:List α->Option (List α)
 |[]=>none
 |a::l=>some (a::l)
def qBY{t t':Ty}(h:t'=t)(x:Option (List t'.den)):Option (List t.den):=h▸x
def cast'{τ τ':Ty}(h:τ'=τ)(x:τ'.den):τ.den:=h▸x
def qee:(τ:Ty)->Nat->TV->Option τ.den
 |.unit,_,.agg []=>some ()
 |.pair a b,o,.agg (v::l)=>(qee a o v).bind λx=>(qee b o (.agg l)).bind λy=>some (x,y)
 |.sl _,o,.empty o'=>if fits 1 o' o=true then some []else none
 |.sl t,o,.t (.nsl t') o' x=>if h:t'=t then (if fits (t.depth+1) o' o=true then qBY h (nel x)else none)else none
 |.nsl _,_,.val (.slice none 0 0)=>some []
 |.nsl t,o,.t (.sl t') o' x=>if h:t'=t then (if fits (t.depth+1) o' o=true then qBY h (nel x)else none)else none
 |τ,o,.t τ' o' x=>if h:τ'=τ then (if fits τ.depth o' o=true then some (cast' h x)else none)else none
 |_,_,_=>none
@[reducible] def denL:List Ty->Type
 |[]=>Unit
 |[τ]=>τ.den
 |τ::τ'::l=>τ.den×denL (τ'::l)
def asL:(ps:List (Ty×Nat))->List TV->Option (denL (ps.map (·.1)))
 |[],[]=>some ()
 |[(τ,o)],[v]=>qee τ o v
 |(τ,o)::q::ps,v::l=>(qee τ o v).bind λx=>(asL (q::ps) l).bind λy=>some (x,y)
 |_,_=>none
def ofL:(ps:List (Ty×Nat))->denL (ps.map (·.1))->List TV
 |[],_=>[]
 |[(τ,o)],x=>[ofTy τ o x]
 |(τ,o)::q::ps,x=>ofTy τ o x.1::ofL (q::ps) x.2
def idx{α:Type}(l:List α)(n:Int):Option α:=if 0<=n then l[n.toNat]? else none
def app{α:Type}(l l2:List α):Option (List α):=if l.length+l2.length<=4294967296 then some (l++l2)else none
def slc{α:Type}(l:List α)(lo hi:Int):Option (List α):=if 0<=lo/\lo<=hi/\hi<=l.length then some ((l.take hi.toNat).drop lo.toNat)else none
def mkS{α:Type}(z:α)(n:Int):Option (List α):=if 0<=n/\n<=4294967296 then some (List.replicate n.toNat z)else none
def qia{σ ρ:Type}(f:σ->Option (σ⊕ρ)):Nat->σ->Option ρ
 |0,_=>none
 |n+1,s=>match f s with
  |some (.inl s')=>qia f n s'
  |some (.inr r)=>some r
  |none=>none
open Classical in
noncomputable def qaD{σ ρ:Type}(f:σ->Option (σ⊕ρ))(s:σ):Option ρ :=
 if h:∃n r,qia f n s=some r then some (Classical.choose (Classical.choose_spec h))else none
abbrev qD:=List (Nat×Option (List TV))
structure TSt where
 E:Env
 L:List qD
 B:qD
 Wt:Mask
 Wb:List Root
def qU:qD->Nat->Option (Option (List TV))
 |[],_=>none
 |(k,c)::l,s=>if k=s then some c else qU l s
def qtv:qD->Nat->Option (List TV)->qD
 |[],_,_=>[]
 |(k,c)::l,s,c'=>if k=s then (k,c')::l else (k,c)::qtv l s c'
def isRec:List TV->Bool
 |.lp ..::_=>true
 |_=>false
def qmW(b:qD):Bool:=b.all λp=>match p.2 with
 |some c=>!isRec c
 |none=>true
def TSt.cont(st:TSt)(r:Root):Option (List TV) :=
 match if r.lvl=st.L.length then qU st.B r.slot else match st.L[r.lvl]? with|some b=>qU b r.slot|none=>none with
 |some (some c)=>some c
 |_=>none
def TSt.box(st:TSt)(r:Root):Option (List TV) :=
 match st.cont r with
 |some c=>if isRec c then none else some c
 |none=>none
def TSt.qo(st:TSt)(r:Root)(c:List TV):TSt :=
 if r.lvl=st.L.length then {st with B:=qtv st.B r.slot (some c),Wb:=r::st.Wb}
 else {st with L:=st.L.modify r.lvl λb=>qtv b r.slot (some c),Wb:=r::st.Wb}
noncomputable def TSt.put(st:TSt)(d:Option Tmp)(v:TV):TSt :=
 match d with
 |some t=>{st with E:=st.E.set t v,Wt:=Mask.ins t st.Wt}
 |none=>st
def qlp(precise:Bool):Value->TV
 |.int k n=>.t (.int k) 0 n
 |.bool b=>.t .bool 0 b
 |.string s=>.t .str 0 s.data.toList
 |.float .f64 0=>.t .flt 0 0
 |.complex .f64 0 0=>.t .cx 0 (0,0)
 |.slice none 0 0=>if precise then .val (.slice none 0 0)else .empty 1
 |v=>.val v
def qmg(precise:Bool):Value->TV
 |.agg cs=>.agg (cs.toList.map (qlp precise))
 |v=>qlp precise v
structure Place where
 lvl:Option Nat
 slot:Nat
 cell:Nat
structure Join where
 lv:List Place
 ps:List (Ty×Nat)
 abn:Bool:=false
 D:Mask
 wr:List Root:=[]
 rs:List Root:=[]
 rb:List Root:=[]
 Dn:Mask:=.empty
 kp:List (Tmp×Root×Nat):=[]
noncomputable def Join.qx3(j:Join)(t:Nat):List Root:=Bool.rec (motive:=λ_=>List Root) j.rs [] (j.Dn.has t)
inductive Kind where
 |loop (id:Nat)|block (id:Nat)|cond (t:Tmp)|region (id:Nat)|inl (d:Tmp)
 deriving DecidableEq
abbrev IoT:=FuncId->List TV->List TV->(R:Type)->(List TV->Option R)->Option R
structure TH where
 io:IoT:=λ_ _ _ _ _=>none
 lib:FuncId->Bool:=λ_=>false
 join:List Tmp->FuncId->Kind->Option Join
 inl:List Tmp->FuncId->Tmp->Bool
abbrev qpa:=FuncId->List TV->(R:Type)->(TV->Option R)->Option R
section
variable (P:Program) (H:Hints) (f:FuncId)
def qbH:Nat->TypeId->Option (List Ty)
 |0,_=>none
 |d+1,t=>match P.underlying t with
  |some (.int k)=>some [.int k]
  |some .bool=>some [.bool]
  |some .string=>some [.str]
  |some (.float .f64)=>some [.flt]
  |some (.complex .f64)=>some [.cx]
  |some (.slice e)=>match qbH d e,P.underlying e with
   |some cs,some (.struct _)=>some [.sl (cs.foldr .pair .unit)]
   |some cs,some (.array ..)=>some [.sl (cs.foldr .pair .unit)]
   |some [τ],_=>some [.sl τ]
   |_,_=>none
  |some (.struct fields)=>(fields.toList.mapM λfd=>qbH d fd.type).map List.flatten
  |some (.array n e)=>(qbH d e).map λcs=>(List.replicate n cs).flatten
  |_=>none
def qAK(t:TypeId):Option Ty :=
 match qbH P 10 t with
 |some cs=>if qK P t then some (cs.foldr .pair .unit)else cs.head?
 |none=>none
def qaW(t:TypeId)(cs:List TV):Option TV :=
 match P.underlying t with
 |none=>none
 |some _=>if qK P t then (if P.cellsOf t<=cs.length then some (.agg (cs.take (P.cellsOf t)))else none)else cs.head?
def qsm(t:TypeId):Option TV:=((P.info? t).bind (·.zero)).map (qmg (H.precise f))
def qkQ(cs:List TV)(off:Nat)(vs:List TV):List TV:=cs.take off++vs++cs.drop (off+vs.length)
def qq2(place:Nat->Option (Nat×Nat))(cs:List TV):List (Nat×TV)->Option (List TV)
 |[]=>some cs
 |(i,v)::rest =>
  match place i with
  |none=>none
  |some (off,size)=>if v.cells.length≠size\/off+v.cells.length > cs.length\/v.oks=false then none else qq2 place (qkQ cs off v.cells) rest
def qyt(t:TypeId)(parts:List (Nat×TV)):Option TV :=
 match qsm P H f t,P.underlying t with
 |some z,some (.struct fields) =>
  match fields.toList.mapM (λf=>(P.info? f.type).map λi=>(f.offset,i.size))with
  |some places=>(qq2 (places.toArray[·]?) z.cells parts).map .agg
  |none=>none
 |some z,some (.array _ elem) =>
  match P.info? elem with
  |some ie=>(qq2 (λi=>some (i*ie.size,ie.size)) z.cells parts).map .agg
  |none=>none
 |_,_=>none
def qk8(agg:Bool)(s:Nat):Nat->List TV->List TV
 |0,_=>[]
 |n+1,cs=>(if agg then .agg (cs.take s)else cs.headD (.any []))::qk8 agg s n (cs.drop s)
mutual
def TV.lev:TV->Option Nat
 |.t τ o _=>if τ.depth=0 then none else some (nf o τ.depth)
 |.empty o=>if qa1 o then none else some o
 |.agg l=>levL l
 |_=>none
def levL:List TV->Option Nat
 |[]=>none
 |v::l=>match v.lev with
  |some n=>some n
  |none=>levL l
end
mutual
def TV.hasEmpty:TV->Bool
 |.empty _=>true
 |.agg l=>hasEmptyL l
 |_=>false
def hasEmptyL:List TV->Bool
 |[]=>false
 |v::l=>v.hasEmpty||hasEmptyL l
end
def qvp(l:List TV):Nat:=(levL l).getD (if hasEmptyL l then 1 else 0)
def qwo(τ:Ty)(o:Nat):List TV->Option (List τ.den)
 |[]=>some []
 |v::l=>(qee τ o v).bind λx=>(qwo τ o l).bind λy=>some (x::y)
def qi1(t:TypeId)(len:Nat)(parts:List (Nat×TV)):Option TV :=
 match P.underlying t with
 |some (.slice elem) =>
  match P.info? elem,qsm P H f elem,qAK P elem with
  |some ie,some z,some τ =>
   if ie.size=0\/(qK P elem=false/\ie.size≠1)\/z.cells.length≠ie.size\/len*ie.size > 16777216\/τ.ok=false\/τ.qbY=false then none else
   match qq2 (λi=>some (i*ie.size,ie.size)) ((List.replicate len z.cells).flatten) parts with
   |some cs=>if cs.all TV.one&&(ptrsTL cs).isEmpty&&qa1 (qvp (qk8 (qK P elem) ie.size len cs)+1)then
     (qwo τ (qvp (qk8 (qK P elem) ie.size len cs)) (qk8 (qK P elem) ie.size len cs)).map λl=>.t (.sl τ) (qvp (qk8 (qK P elem) ie.size len cs)+1) l else none
   |none=>none
  |_,_,_=>none
 |_=>none
def qyv(t:TypeId)(x:TV)(fd:Nat):Option TV :=
 match P.underlying t,x with
 |some (.struct fields),.agg cs =>
  match fields[fd]? with
  |some d=>qaW P d.type (cs.drop d.offset)
  |none=>none
 |_,_=>none
def qkV(t:TypeId)(x:TV)(fd:Nat):Option TV :=
 match P.underlying t with
 |some (.struct fields) =>
  match fields[fd]? with
  |some d=>if P.cellsOf d.type=0 then none else
   match x with
   |.ptr r off=>some (.ptr r (off+d.offset))
   |.cptr s cs=>if d.offset<=cs.length then some (.cptr s (cs.drop d.offset))else none
   |_=>none
  |none=>none
 |_=>none
def qBA(R:Type)(i:Int)(k:Nat->Option R):Nat->Nat->Option R
 |0,_=>none
 |n+1,j=>bif decide (i=(j:Int))then k j else qBA R i k n (j+1)
def qyx(elem:TypeId)(len:Nat)(cs:List TV)(i:Int)(R:Type)(k:TV->Option R):Option R :=
 if P.cellsOf elem=0 then none else
 qBA R i (λj=>match qaW P elem (cs.drop (j*P.cellsOf elem))with
  |some v=>k v
  |none=>none) len 0
def qkW(t:TypeId)(x:TV)(i:Int)(R:Type)(k:TV->Option R):Option R :=
 match P.underlying t,x with
 |some (.array len elem),.ptr r off=>if P.cellsOf elem=0 then none else qBA R i (λj=>k (.ptr r (off+j*P.cellsOf elem))) len 0
 |some (.array len elem),.cptr s cs=>if P.cellsOf elem=0 then none else qBA R i (λj=>if j*P.cellsOf elem<=cs.length then k (.cptr s (cs.drop (j*P.cellsOf elem)))else none) len 0
 |some (.slice elem),.t (.sl τ) o l=>if P.cellsOf elem=τ.qbk/\τ.qbk≠0/\τ.ok=true/\τ.qbY=true then (idx l i).bind λe=>k (.cptr (decide (o=1000)) (ofTy τ (dl (nx o)) e).cells)else none
 |some (.slice elem),.clp τ l=>if P.cellsOf elem=τ.qbk/\τ.qbk≠0/\τ.ok=true/\τ.qbY=true then (idx l i).bind λe=>k (.cptr false (ofTy τ 0 e).cells)else none
 |_,_=>none
def qCu{α:Type}(R:Type)(mk:α->TV)(l:List α):Nat->Nat->List TV->(List TV->Option R)->Option R
 |0,_,acc,k=>k acc
 |n+1,i,acc,k=>(idx l (i:Int)).bind λe=>qCu R mk l n (i+1) (acc++[mk e]) k
def qqm(t:TypeId)(x:TV)(R:Type)(k:TV->Option R):Option R :=
 match P.underlying t,x with
 |some (.array n _),.t (.sl (.int kk)) o l=>if n=0 then none else qCu R (λe:Int=>.t (.int kk) 0 e) l n 0 [] λcs=>k (.cptr (decide (o=1000)) cs)
 |_,_=>none
def flo(n:Int):Option Int:=if n.natAbs<9007199254740992 then some n else none
def qC8(k:IntKind)(a b:Int):Option Int:=if 0<=b then some (k.wrap (a*2 ^ (min b.toNat k.bits)))else none
def qC9(k:IntKind)(a b:Int):Option Int:=if 0<=b then some (a.fdiv (2 ^ (min b.toNat k.bits)))else none
def qCA(k:IntKind)(a b:Int):Int:=k.wrap (BitVec.ofInt k.bits a &&& BitVec.ofInt k.bits b).toNat
def orI(k:IntKind)(a b:Int):Int:=k.wrap (BitVec.ofInt k.bits a ||| BitVec.ofInt k.bits b).toNat
def qCH(k:IntKind)(a b:Int):Int:=k.wrap (BitVec.ofInt k.bits a ^^^ BitVec.ofInt k.bits b).toNat
def qpg(k:IntKind)(a b:Int):Int:=k.wrap (BitVec.ofInt k.bits a &&& ~~~ BitVec.ofInt k.bits b).toNat
def qv1:TV->Option Int
 |.t (.int _) _ n=>some n
 |_=>none
def qyC(t:TypeId)(x:TV)(lo hi mx:Option TV)(R:Type)(k:TV->Option R):Option R :=
 let lo':Option Int:=match lo with|none=>some 0|some v=>qv1 v
 match P.underlying t,x with
 |some (.slice elem),.t (.sl τ) o l =>
  if qa1 o=true\/o=2000\/P.cellsOf elem=0\/P.cellsOf elem≠τ.qbk\/τ.ok=false\/τ.qbY=false then none else
  match lo',(match hi with|none=>some (l.length:Int)|some v=>qv1 v)with
  |some a,some b =>
   match mx with
   |none=>(slc l a b).bind λl'=>k (.t (.sl τ) o l')
   |some m=>match qv1 m with
    |some c=>if hi.isSome then (slc l a b).bind λl'=>bif decide (c=b)then k (.clp τ l')else none else none
    |none=>none
  |_,_=>none
 |some (.slice elem),.empty o =>
  if qa1 o=true\/o=2000\/P.cellsOf elem=0 then none else
  match lo',(match hi with|none=>some 0|some v=>qv1 v),mx with
  |some a,some b,none=>bif decide (a=0)&&decide (b=0)then k (.empty o)else none
  |_,_,_=>none
 |some .string,.t .str _ s =>
  match lo',(match hi with|none=>some (s.length:Int)|some v=>qv1 v),mx with
  |some a,some b,none=>(slc s a b).bind λl'=>k (.t .str 0 l')
  |_,_,_=>none
 |_,_=>none
def qtK(t:TypeId)(x:TV)(lo hi mx:Option TV)(R:Type)(k:TV->Option R):Option R :=
 match P.underlying t,x with
 |some (.slice elem),.val (.slice none 0 0) =>
  if P.cellsOf elem=0 then none else
  match (match lo with|none=>some 0|some v=>qv1 v),(match hi with|none=>some 0|some v=>qv1 v),mx with
  |some a,some b,none=>bif decide (a=0)&&decide (b=0)then k (.val (.slice none 0 0))else none
  |_,_,_=>none
 |some (.slice elem),.room a s =>
  if P.cellsOf elem=0\/2<=a then none else
  match lo,hi,mx with
  |none,some (.t (.int _) _ b),none=>bif decide (b=0)then k (.room 0 s)else none
  |_,_,_=>none
 |some (.array n elem),.ptr r off=>if P.cellsOf elem=1 then (match lo,hi,mx with
  |none,none,none=>k (.bsl r off n)
  |_,_,_=>none)else none
 |_,_=>none
def TV.bare:TV->Bool
 |.val (.slice none 0 0)=>true
 |.room ..=>true
 |.ptr ..=>true
 |_=>false
def qkX(t:TypeId)(len cap:TV)(R:Type)(k:TV->Option R):Option R :=
 match P.underlying t with
 |some (.slice elem) =>
  match qsm P H f elem,qAK P elem,qv1 len,qv1 cap with
  |some z,some τ,some n,some c =>
   if P.cellsOf elem≠0/\z.cells.length=P.cellsOf elem/\z.oks=true/\P.bytesOf elem<=8192/\τ.ok=true/\τ.qbY=true/\qa1 (qvp [z]+1)=true then
    match qee τ (qvp [z]) z with
    |some x=>(mkS x n).bind λl=>bif decide (c=n)then k (.t (.sl τ) (qvp [z]+1) l)else none
    |none=>none
   else none
  |_,_,_,_=>none
 |_=>none
def tail?(yt:TypeDesc):TV->Option (Σ τ:Ty,Nat×List τ.den)
 |.t (.sl τ) o l=>match yt with
  |.slice _=>some ⟨τ,(nx o,l)⟩
  |_=>none
 |.clp τ l=>match yt with
  |.slice _=>some ⟨τ,(0,l)⟩
  |_=>none
 |.t .str _ s=>match yt with
  |.string=>some ⟨.int .u8,(0,s.map λc=>(c.toNat:Int))⟩
  |_=>none
 |_=>none
def qtF(argTypes:Array TypeId)(x y:TV)(R:Type)(k:TV->Option R):Option R :=
 match (argTypes[0]?).bind P.underlying,(argTypes[1]?).bind P.underlying with
 |some (.slice elem),some yt =>
  match y with
  |.empty _=>(match yt,x with
   |.slice _,.t (.sl τ) o l=>if qa1 o=true/\τ.qbk=P.cellsOf elem/\P.cellsOf elem≠0/\((P.info? elem).bind (·.zero)).map (λz=>z.cells.size)=some (P.cellsOf elem)/\P.bytesOf elem<=8192/\τ.ok=true/\τ.qbY=true then (app l []).bind λl'=>k (.t (.sl τ) o l')else none
   |.slice _,.empty o=>if qa1 o=true/\P.cellsOf elem≠0/\((P.info? elem).bind (·.zero)).map (λz=>z.cells.size)=some (P.cellsOf elem)/\P.bytesOf elem<=8192 then k (.empty o)else none
   |_,_=>none)
  |y=>match tail? yt y with
  |none=>none
  |some ⟨τ,(o2,l2)⟩ =>
   if τ.qbk=P.cellsOf elem/\P.cellsOf elem≠0/\((P.info? elem).bind (·.zero)).map (λz=>z.cells.size)=some (P.cellsOf elem)/\P.bytesOf elem<=8192/\τ.ok=true/\τ.qbY=true then
    match x with
    |.t (.sl τ') o l=>if h:τ'=τ then (if qa1 o=true then (app (cast' (congrArg Ty.sl h) l:(Ty.sl τ).den) l2).bind λl'=>k (.t (.sl τ) (if fits τ.depth o2 (nx o)=true then o else 2001) l')else none)else none
    |.empty o=>if qa1 o=true/\qa1 (o2+1)=true then (app [] l2).bind λl'=>k (.t (.sl τ) (o2+1) l')else none
    |.clp τ' l=>if h:τ'=τ then (app (cast' (congrArg Ty.sl h) l:(Ty.sl τ).den) l2).bind λl'=>k (.t (.sl τ) 2000 l')else none
    |_=>none
   else none
 |_,_=>none
def qql(argTypes:Array TypeId)(x y:TV)(R:Type)(k:TV->Option R):Option R :=
 match (argTypes[0]?).bind P.underlying,(argTypes[1]?).bind P.underlying with
 |some (.slice elem),some yt =>
  if P.cellsOf elem≠0/\((P.info? elem).bind (·.zero)).map (λz=>z.cells.size)=some (P.cellsOf elem)/\P.bytesOf elem<=8192 then
   match x,yt,y with
   |.val (.slice none 0 0),.int _,.t (.int .i64) _ n=>bif decide (0<n)&&decide (n<=4294967296)then k (.room 1 (P.cellsOf elem))else none
   |x,yt,y=>match tail? yt y with
    |none=>none
    |some ⟨τ,(o2,l2)⟩ =>
     if τ.qbk=P.cellsOf elem/\τ.ok=true/\τ.qbY=true/\qa1 (o2+1)=true then
      match x,y with
      |.val (.slice none 0 0),_=>bif List.isEmpty l2 then k (.val (.slice none 0 0))else (app [] l2).bind λl'=>k (.t (.sl τ) (o2+1) l')
      |.room 0 s,.t ..=>if s=P.cellsOf elem then (match yt with
       |.slice _=>bif List.isEmpty l2 then k (.room 0 s)else (app [] l2).bind λl'=>k (.t (.sl τ) (o2+1) l')
       |_=>none)else none
      |_,_=>none
     else none
  else none
 |_,_=>none
def qvQ:TV->Bool
 |.t (.int _) _ _|.t .bool _ _|.t .str _ _=>true
 |_=>false
def teq:Nat->TypeId->TV->TV->Option Bool
 |0,_,_,_=>none
 |d+1,t,x,y=>match P.underlying t,x,y with
  |some (.int _),.t (.int k) _ a,.t (.int k') _ b=>if k=k' then some (decide (a=b))else none
  |some .bool,.t .bool _ a,.t .bool _ b=>some (a==b)
  |some .string,.t .str _ a,.t .str _ b=>some (decide (a=b))
  |some (.struct fields),.agg xs,.agg ys=>if P.stoodInHeld t then none else
   fields.toList.foldr (fun fd acc => if fd.name = "_" then none else
    match qaW P fd.type (xs.drop fd.offset),qaW P fd.type (ys.drop fd.offset),acc with
    |some u,some v,some b=>(teq d fd.type u v).map λa=>bif a then b else false
    |_,_,_=>none) (some true)
  |_,_,_=>none
def qxC:TypeDesc->TV->TV->Bool
 |.pointer _,.ptr ..,.val (.pointer none)=>true
 |.pointer _,.cptr ..,.val (.pointer none)=>true
 |.func ..,.fn ..,.val .nilFunc=>true
 |_,_,_=>false
def qAt:TypeDesc->TV->TV->Bool
 |.slice _,.val (.slice none 0 0),.val (.slice none 0 0)=>true
 |.pointer _,.val (.pointer none),.val (.pointer none)=>true
 |.func ..,.val .nilFunc,.val .nilFunc=>true
 |_,_,_=>false
def qsc(op:BinOp)(t:TypeId)(x y:TV)(R:Type)(k:TV->Option R):Option R :=
 match x,y with
 |.t (.int k1) _ a,.t (.int k2) _ b =>
  match op with
  |.shl=>(qC8 k1 a b).bind λn=>k (.t (.int k1) 0 n)
  |.shr=>(qC9 k1 a b).bind λn=>k (.t (.int k1) 0 n)
  |_=>if k1=k2 then (match op with
   |.and=>k (.t (.int k1) 0 (qCA k1 a b))
   |.or=>k (.t (.int k1) 0 (orI k1 a b))
   |.xor=>k (.t (.int k1) 0 (qCH k1 a b))
   |.andNot=>k (.t (.int k1) 0 (qpg k1 a b))
   |.add=>k (.t (.int k1) 0 (k1.wrap (a+b)))
   |.sub=>k (.t (.int k1) 0 (k1.wrap (a-b)))
   |.mul=>k (.t (.int k1) 0 (k1.wrap (a*b)))
   |.quo=>bif decide (b=0)then none else k (.t (.int k1) 0 (k1.wrap (a.tdiv b)))
   |.rem=>bif decide (b=0)then none else k (.t (.int k1) 0 (a.tmod b))
   |.eql=>k (.t .bool 0 (decide (a=b)))
   |.neq=>k (.t .bool 0 (!decide (a=b)))
   |.lss=>k (.t .bool 0 (decide (a<b)))
   |.leq=>k (.t .bool 0 (decide (a<=b)))
   |.gtr=>k (.t .bool 0 (decide (a > b)))
   |.geq=>k (.t .bool 0 (decide (a>=b)))
   |_=>none)else none
 |.t .cx _ a,.t .cx _ b =>
  match P.underlying t,op with
  |some (.complex .f64),.add=>(flo (a.1+b.1)).bind λre=>(flo (a.2+b.2)).bind λim=>k (.t .cx 0 (re,im))
  |some (.complex .f64),.mul=>(flo (a.1*b.1)).bind λac=>(flo (a.2*b.2)).bind λbd=>(flo (ac-bd)).bind λre=>(flo (a.1*b.2)).bind λad=>(flo (a.2*b.1)).bind λbc=>(flo (ad+bc)).bind λim=>k (.t .cx 0 (re,im))
  |_,_=>none
 |.t .str _ a,.t .str _ b =>
  match op with
  |.eql=>k (.t .bool 0 (decide (a=b)))
  |.neq=>k (.t .bool 0 (!decide (a=b)))
  |.lss=>k (.t .bool 0 (Op.bytesLess a b))
  |.add=>(app a b).bind λl=>k (.t .str 0 l)
  |_=>none
 |.t .bool _ a,.t .bool _ b =>
  match P.underlying t,op with
  |some .bool,.eql=>k (.t .bool 0 (a==b))
  |some .bool,.neq=>k (.t .bool 0 (!(a==b)))
  |_,_=>none
 |.agg l,.agg l'=>if P.eqGuardType P.depth t||!(l.all qvQ&&l'.all qvQ)then none else (match teq P 9 t (.agg l) (.agg l')with
  |some b=>(match op with
   |.eql=>k (.t .bool 0 b)
   |.neq=>k (.t .bool 0 (!b))
   |_=>none)
  |none=>none)
 |.t (.sl τ) _ l,.val (.slice none 0 0) =>
  match P.underlying t with
  |some (.slice _)=>bif List.isEmpty l then none else (match op with
   |.eql=>k (.t .bool 0 false)
   |.neq=>k (.t .bool 0 true)
   |_=>none)
  |_=>none
 |.t (.nsl τ) _ l,.val (.slice none 0 0) =>
  match P.underlying t with
  |some (.slice _)=>(match op with
   |.eql=>k (.t .bool 0 (List.isEmpty l))
   |.neq=>k (.t .bool 0 (!List.isEmpty l))
   |_=>none)
  |_=>none
 |x,y=>match P.underlying t with
  |some d =>
   if qxC d x y then (match op with
   |.eql=>k (.t .bool 0 false)
   |.neq=>k (.t .bool 0 true)
   |_=>none)
   else if qAt d x y then (match op with
   |.eql=>k (.t .bool 0 true)
   |.neq=>k (.t .bool 0 false)
   |_=>none)
   else none
  |none=>none
def tun(op:UnOp)(x:TV):Option TV :=
 match op,x with
 |.not,.t .bool _ b=>some (.t .bool 0 (!b))
 |.neg,.t (.int k) _ n=>some (.t (.int k) 0 (k.wrap (0-n)))
 |_,_=>none
def qBy(src dst:TypeId)(x:TV)(R:Type)(k:TV->Option R):Option R :=
 match P.underlying src,P.underlying dst,x with
 |some _,some (.int kk),.t (.int _) _ n=>k (.t (.int kk) 0 (kk.wrap n))
 |some _,some (.float .f64),.t (.int _) _ n=>(flo n).bind λn=>k (.t .flt 0 n)
 |some _,some (.int .i64),.t .flt _ n=>(flo n).bind λn=>k (.t (.int .i64) 0 n)
 |some _,some .string,.t .str _ s=>k (.t .str 0 s)
 |some (.slice e),some .string,.t (.sl (.int .u8)) _ l=>match P.underlying e with
  |some (.int .u8)=>k (.t .str 0 (l.map λn=>UInt8.ofNat n.toNat))
  |_=>none
 |_,_,_=>none
def qse(k:IntKind):List TV->Option (List Int)
 |[]=>some []
 |.t (.int k') _ n::l=>if k=k' then (qse k l).map (n::·)else none
 |_=>none
def qqn(b:Builtin)(argTypes:Array TypeId)(xs:List TV)(R:Type)(k:TV->Option R):Option R :=
 match b,xs with
 |.len,[.t (.sl _) _ l]=>match (argTypes[0]?).bind P.underlying with
  |some (.slice _)=>k (.t (.int .i64) 0 (l.length:Int))
  |_=>none
 |.len,[.clp _ l]=>match (argTypes[0]?).bind P.underlying with
  |some (.slice _)=>k (.t (.int .i64) 0 (l.length:Int))
  |_=>none
 |.len,[.empty _]=>match (argTypes[0]?).bind P.underlying with
  |some (.slice _)=>k (.t (.int .i64) 0 0)
  |_=>none
 |.len,[.t .str _ s]=>match (argTypes[0]?).bind P.underlying with
  |some .string=>k (.t (.int .i64) 0 (s.length:Int))
  |_=>none
 |.cap,[.val (.slice none 0 0)]=>match (argTypes[0]?).bind P.underlying with
  |some (.slice _)=>k (.t (.int .i64) 0 0)
  |_=>none
 |.len,[.val (.slice none 0 0)]=>match (argTypes[0]?).bind P.underlying with
  |some (.slice _)=>k (.t (.int .i64) 0 0)
  |_=>none
 |.append,[x,y]=>if x.bare then qql P argTypes x y R k else qtF P argTypes x y R k
 |.complex,[.t .flt _ a,.t .flt _ b]=>k (.t .cx 0 (a,b))
 |.real,[.t .cx _ a]=>k (.t .flt 0 a.1)
 |.imag,[.t .cx _ a]=>k (.t .flt 0 a.2)
 |.max,.t (.int kk) _ n::xs=>match qse kk xs with
  |some l=>k (.t (.int kk) 0 (l.foldl max n))
  |none=>none
 |.min,.t (.int kk) _ n::xs=>match qse kk xs with
  |some l=>k (.t (.int kk) 0 (l.foldl min n))
  |none=>none
 |_,_=>none
def qcK(tk:Bool)(o:Op)(xs:List TV)(bx:Option (List TV))(R:Type)(k:TV->Option (List TV)->Option R):Option R :=
 let v (x:Option TV):Option R:=match x with
  |some x=>k x none
  |none=>none
 match o,xs with
 |.move _,[x]|.assign _,[x]=>k x none
 |.pick ..,[.t .bool _ c,a,b]=>bif c then k a none else k b none
 |.build t parts,xs=>v (qyt P H f t (parts.toList.map (·.1) |>.zip xs))
 |.buildSlice t len parts,xs=>v (qi1 P H f t len (parts.toList.map (·.1) |>.zip xs))
 |.load t _,[.cptr _ cs]=>v ((qaW P t cs).map TV.q8)
 |.load t _,[.ptr _ off]=>match bx with
  |some cs=>if tk then (match qaW P t (cs.drop off)with
    |some x=>k x (some (qkQ cs off (dullL ((cs.drop off).take (if qK P t then P.cellsOf t else 1)))))
    |none=>none)
   else v ((qaW P t (cs.drop off)).map TV.q8)
  |none=>none
 |.store t _ _,[.ptr _ off,x]=>match bx with
  |some cs=>if P.cellsOf t≠0/\x.cells.length=P.cellsOf t/\off+x.cells.length<=cs.length/\x.oks=true then k (.any []) (some (qkQ cs off x.cells))else none
  |none=>none
 |.nilCheck _,[.ptr r off]=>k (.ptr r off) none
 |.nilCheck _,[.cptr s cs]=>k (.cptr s cs) none
 |.nilCheck _,[.fn g a b]=>k (.fn g a b) none
 |.binOp op t _ (.const _) _,[.t .err _ b,.val .nilIface]=>match P.underlying t,op with
  |some (.interface _),.eql=>k (.t .bool 0 b) none
  |some (.interface _),.neq=>k (.t .bool 0 (!b)) none
  |_,_=>none
 |.binOp op t _ _ _,[x,y]=>qsc P op t x y R λx=>k x none
 |.unOp op _ _,[x]=>v (tun op x)
 |.convert src dst _,[x]=>qBy P src dst x R λx=>k x none
 |.makeFunc (.func g) first _,xs=>k (.fn g (xs.take first.size) (xs.drop first.size)) none
 |.makeSlice t _ _,[l,c]=>qkX P H f t l c R λx=>k x none
 |.slice t _ lo hi mx,x::rest =>
  let r1:=if lo.isSome then rest.tail else rest
  let r2:=if hi.isSome then r1.tail else r1
  if x.bare then qtK P t x (if lo.isSome then rest.head? else none) (if hi.isSome then r1.head? else none) (if mx.isSome then r2.head? else none) R λx=>k x none else
  qyC P t x (if lo.isSome then rest.head? else none) (if hi.isSome then r1.head? else none) (if mx.isSome then r2.head? else none) R λx=>k x none
 |.fieldAddr t _ fd,[x]=>v (qkV P t x fd)
 |.field t _ fd,[x]=>v (qyv P t x fd)
 |.sliceToArrayPointer t _,[x]=>qqm P t x R λx=>k x none
 |.indexAddr t _ _,[x,.t (.int _) _ i]=>qkW P t x i R λx=>k x none
 |.index t _ _,[x,.t (.int _) _ i]=>(match P.underlying t,x with
  |some (.array len elem),.agg cs=>qyx P elem len cs i R λx=>k x none
  |some .string,.t .str _ s=>(idx s i).bind λb=>k (.t (.int .u8) 0 (b.toNat:Int)) none
  |_,_=>none)
 |.extract _ i,[.tuple l]=>v l[i]?
 |.call {callee:=.builtin b,argTypes,..},xs=>qqn P b argTypes xs R λx=>k x none
 |_,_=>none
noncomputable def rdT(o:Oper)(E:Env):Operand->TV
 |.tmp t=>if qae H f o then E.get t else (E.get t).q8
 |.const v=>qmg (H.precise f||qrI o.op) v
 |.func g=>.fn g [] []
 |.global _=>.any []
noncomputable def qbI(E:Env)(ts:List Tmp):Env:=ts.foldl (λE t=>E.set t (E.get t).q8) E
def qkM:Op->List TV->Option Root
 |.load ..,.ptr r _::_=>some r
 |.store ..,.ptr r _::_=>some r
 |_,_=>none
def qb8:Op->List TV->Nat×Nat
 |.load t _,.ptr _ off::_=>(off,if qK P t then P.cellsOf t else 1)
 |.store ..,[.ptr _ off,x]=>(off,x.cells.length)
 |_,_=>(0,0)
def quU:Op->List TV->List Root
 |.store ..,[_,x]=>x.qp
 |_,_=>[]
def qdv:TV->Bool
 |.fn g _ _=>H.qip g
 |_=>false
def qfO:TV->List TV->Bool
 |.fn _ first cap,args=>(ptrsTL (first++args++cap)).isEmpty
 |_,_=>false
end
def qmO:Ty->Bool
 |.int _|.bool|.str=>true
 |_=>false
def qpL:Ty->Bool
 |.unit=>true
 |.pair a b=>qmO a&&qpL b
 |_=>false
def qha:Ty->Bool
 |.pair a b=>qmO a&&qpL b
 |τ=>qmO τ
def qo3:(τ:Ty)->τ.den->Value
 |.int k,n=>.int k n
 |.bool,b=>.bool b
 |.str,s=>.string ⟨s.toArray⟩
 |_,_=>.tuple #[]
def qwa:(τ:Ty)->τ.den->List Value
 |.pair a b,x=>qo3 a x.1::qwa b x.2
 |_,_=>[]
def qcx(τ:Ty)(x:τ.den):Value :=
 match τ,x with
 |.pair a b,x=>.agg (qo3 a x.1::qwa b x.2).toArray
 |τ,x=>qo3 τ x
def eqS:(τ:Ty)->τ.den->τ.den->Bool
 |.int _,a,b=>decide (a=b)
 |.bool,a,b=>a==b
 |.str,a,b=>decide (a=b)
 |_,_,_=>false
def eqR:(τ:Ty)->τ.den->τ.den->Bool
 |.unit,_,_=>true
 |.pair a b,x,y=>bif eqS a x.1 y.1 then eqR b x.2 y.2 else false
 |_,_,_=>false
def eqK(τ:Ty)(x y:τ.den):Bool :=
 match τ,x,y with
 |.pair a b,x,y=>bif eqS a x.1 y.1 then eqR b x.2 y.2 else false
 |τ,x,y=>eqS τ x y
def qle(τ:Ty)(l:List τ.den)(k:τ.den):Bool:=l.any λx=>eqK τ k x
def qA7(τ:Ty)(l:List τ.den)(k:τ.den):List τ.den:=bif qle τ l k then l else l++[k]
section
variable (P:Program) (H:Hints) (f:FuncId)
def qiX(t:TypeId)(τ:Ty):Bool :=
 match P.underlying t,τ with
 |some (.int k),.int k'=>decide (k=k')
 |some .bool,.bool=>true
 |some .string,.str=>true
 |_,_=>false
def qjp:List Field->Nat->Ty->Bool
 |[],_,.unit=>true
 | fd :: fs, i, .pair a b => decide (fd.name ≠ "_") && decide (fd.offset = i) && qiX P fd.type a && qjp fs (i + 1) b
 |_,_,_=>false
def qeE(t:TypeId)(τ:Ty):Bool :=
 qiX P t τ||match P.underlying t,τ with
 |some (.struct fields),.pair a b=>!P.stoodInHeld t&&qjp P fields.toList 0 (.pair a b)
 |_,_=>false
def qjz:Op->List TV->Bool
 |.makeMap ..,_|.lookup ..,_|.mapUpdate ..,_|.insert ..,_=>true
 |.call {callee:=.builtin .len,..},[.mref _]=>true
 |_,_=>false
def qmy:List TV->Bool
 |[]=>true
 |[.t (.int _) _ _]=>true
 |_=>false
def qlV(o:Oper)(xs:List TV)(st:TSt)(R:Type)(k:TV->TSt->Fp->Option R):Option R :=
 match o.op with
 |.makeMap t _=>match o.dst,P.underlying t with
  |some d,some (.map kt vt)=>match qAK P kt with
   |some τ=>if (qU st.B (q6 d)).isNone/\qha τ=true/\qmy xs=true then
     k (.mref ⟨st.L.length,q6 d⟩) {st with B:=(q6 d,some [.t (.mset τ) 0 []])::st.B,Wb:=⟨st.L.length,q6 d⟩::st.Wb} (.fresh ⟨st.L.length,q6 d⟩)else none
   |none=>none
  |_,_=>none
 |.lookup t _ _ ok=>match xs with
  |[.mref r,x]=>match st.box r,P.underlying t with
   |some [.t (.mset τ) _ l],some (.map kt vt)=>if qeE P kt τ=true then (match qsm P H f vt,qee τ 0 x with
     |some (.t .bool _ false),some y=>k (if ok then .tuple [.t .bool 0 (qle τ l y),.t .bool 0 (qle τ l y)]else .t .bool 0 (qle τ l y)) st .looks
     |_,_=>none)else none
   |_,_=>none
  |_=>none
 |.mapUpdate t _ _ _|.insert t _ _ _=>match xs with
  |[.mref r,x,.t .bool _ true]=>match st.box r,P.underlying t with
   |some [.t (.mset τ) _ l],some (.map kt vt)=>if qeE P kt τ=true then (match qee τ 0 x with
     |some y=>k (.any []) (st.qo r [.t (.mset τ) 0 (qA7 τ l y)]) (.mapw r)
     |none=>none)else none
   |_,_=>none
  |_=>none
 |.call {callee:=.builtin .len,argTypes,..}=>match xs with
  |[.mref r]=>match st.box r,(argTypes[0]?).bind P.underlying with
   |some [.t (.mset τ) _ l],some (.map _ _)=>if argTypes.toList.any H.mapT then k (.t (.int .i64) 0 (l.length:Int)) st .looks else none
   |_,_=>none
  |_=>none
 |_=>none
end
mutual
def TV.adopt(q:Root):TV->TV
 |.mref _=>.mref q
 |.cptr s l=>.cptr s (adoptTL q l)
 |.fn g a b=>.fn g (adoptTL q a) (adoptTL q b)
 |.agg l=>.agg (adoptTL q l)
 |.tuple l=>.tuple (adoptTL q l)
 |v=>v
def adoptTL(q:Root):List TV->List TV
 |[]=>[]
 |v::l=>v.adopt q::adoptTL q l
end
mutual
def TV.onlyMaps:TV->Bool
 |.any _|.ptr .. | .bsl .. | .iface .. | .yld _|.lp ..=>false
 |.cptr _ l=>onlyMapsTL l
 |.fn _ a b=>onlyMapsTL a&&onlyMapsTL b
 |.agg l=>onlyMapsTL l
 |.tuple l=>onlyMapsTL l
 |_=>true
def onlyMapsTL:List TV->Bool
 |[]=>true
 |v::l=>v.onlyMaps&&onlyMapsTL l
end
def qrk(H:Hints):TV->Bool
 |.fn g _ _=>(H.seq g).isSome
 |_=>false
def qmx(H:Hints):TV->Bool
 |.fn g _ _=>H.born g
 |_=>false
noncomputable def TSt.get(st:TSt)(p:Place):TV :=
 match p.lvl with
 |none=>st.E.get p.slot
 |some l=>match st.box ⟨l,p.slot⟩with
  |some cs=>cs.getD p.cell (.any [])
  |none=>.any []
def subset(l m:List Root):Bool:=l.all λr=>m.contains r
def Place.qB8(lv:List Place)(l:Option Nat)(s c:Nat):Bool:=lv.any λp=>decide (p.lvl=l)&&decide (p.slot=s)&&decide (p.cell=c)
def qxb:TV->Root->Nat->Bool
 |.ptr r o,r',o'=>decide (r=r')&&decide (o=o')
 |_,_,_=>false
noncomputable def TSt.keeps(st:TSt)(j:Join):Bool:=j.kp.all λp=>qxb (st.E.get p.1) p.2.1 p.2.2
noncomputable def qrL:TSt->List (Tmp×Root×Nat)->TSt
 |st,[]=>st
 |st,p::l=>qrL {st with E:=st.E.set p.1 (.ptr p.2.1 p.2.2)} l
noncomputable def TSt.qkr(st:TSt)(j:Join):Bool :=
 (st.E.all λt v=>Bool.rec (motive:=λ_=>Bool) true (Place.qB8 j.lv none t 0||subset v.qp (j.qx3 t)) (j.D.has t)) &&
 (j.wr.all λr=>match st.cont r with
  |some cs=>!isRec cs&&(List.range cs.length).all λi=>Place.qB8 j.lv (some r.lvl) r.slot i||subset (cs.getD i (.any [])).qp j.rb
  |none=>true)&&st.keeps j
def TSt.wrote(st:TSt)(j:Join):Bool:=st.Wt.sub j.D&&(st.Wb.all λr=>j.wr.contains r||decide (st.L.length<r.lvl))
def qBS(rs:List Root)(b:qD)(s:Nat):qD :=
 match qU b s with
 |none=>(s,none)::b
 |some none=>b
 |some (some cs)=>qtv b s (some (cs.map λ_=>.any rs))
def TSt.forget(st:TSt)(rs:List Root)(r:Root):TSt :=
 if r.lvl=st.L.length then {st with B:=qBS rs st.B r.slot}else {st with L:=st.L.modify r.lvl λb=>qBS rs b r.slot}
noncomputable def TSt.qbW(st:TSt)(p:Place)(v:TV):TSt :=
 match p.lvl with
 |none=>{st with E:=st.E.set p.slot v}
 |some l=>match st.box ⟨l,p.slot⟩with
  |some cs=>{st.qo ⟨l,p.slot⟩ (cs.set p.cell v)with Wb:=st.Wb}
  |none=>st
noncomputable def qcJ(st:TSt):List Place->List TV->TSt
 |p::ps,v::vs=>qcJ (st.qbW p v) ps vs
 |_,_=>st
noncomputable def TSt.qdF(st:TSt)(j:Join)(vs:List TV):TSt :=
 qcJ {j.wr.foldl (λst r=>st.forget j.rb r) {st with E:=qds j.D j.qx3 st.E}with Wt:=j.D++st.Wt,Wb:=j.wr++st.Wb} j.lv vs
noncomputable def TSt.qbQ(st:TSt)(j:Join)(vs:List TV):TSt:=qrL (st.qdF j vs) j.kp
def TSt.fresh(st:TSt):TSt:={st with Wt:=.empty,Wb:=[]}
def TSt.merge(st st0:TSt):TSt:={st with Wt:=st.Wt++st0.Wt,Wb:=st.Wb++st0.Wb}
def TSt.qCE(st st0:TSt)(j:Join):Bool:=j.wr.all λr=>match st0.cont r with
 |some cs=>(match st.cont r with
  |some cs2=>decide (cs2.length=cs.length)
  |none=>false)
 |none=>true
noncomputable def TSt.outs(st st0:TSt)(j:Join):Option (denL (j.ps.map (·.1))) :=
 if st.qkr j&&st.wrote j&&st.qCE st0 j then asL j.ps (j.lv.map st.get)else none
noncomputable def qvm(j:Option Join)(st:TSt)(run:TSt->(R:Type)->(Ex->TSt->Option R)->Option R)(R:Type)(k:Ex->TSt->Option R):Option R :=
 match j with
 |none=>run st R k
 |some j =>
  if j.abn then
   (run st.fresh (denL (j.ps.map (·.1))⊕R) λe st2=>match e with
    |.normal=>(st2.outs st j).map .inl
    |e=>(k e (st2.merge st)).map .inr).bind (Sum.elim (λx=>k .normal (st.qbQ j (ofL j.ps x))) some)
  else
   (run st.fresh (denL (j.ps.map (·.1))) λe st2=>match e with
    |.normal=>st2.outs st j
    |_=>none).bind λx=>k .normal (st.qbQ j (ofL j.ps x))
def qaC(D:List Tmp):qD->qD
 |[]=>[]
 |(k,c)::l=>if D.contains k then qaC D l else (k,c)::qaC D l
noncomputable def qeB(D:List Tmp)(E:Env):Env:=qds (Mask.ofList D) (λ_=>[]) E
def qjU:qD->List Root
 |[]=>[]
 |(_,some c)::l=>ptrsTL c++qjU l
 |(_,none)::l=>qjU l
def qvd:qD->Bool
 |[]=>true
 |(_,c)::l=>c.isSome&&qvd l
def qnV(D:List Tmp)(n:Nat):qD->List Root
 |[]=>[]
 |(k,_)::l=>if D.contains k then ⟨n,k⟩::qnV D n l else qnV D n l
def inE(st:TSt)(D:List Tmp):List Tmp:=D.filter λt=>decide (t<st.E.n)
noncomputable def TSt.clear(D:List Tmp)(st:TSt):Option TSt :=
 let E:=qeB (inE st D) st.E
 let B:=qaC D st.B
 if decide (B.length=st.B.length)||((E.all λ_ v=>qcY st.L.length D v.qp)&&qcY st.L.length D (qjU B)&&qvd B)then some {st with E,B,Wt:=Mask.ofList (inE st D)++st.Wt,Wb:=qnV D st.L.length st.B++st.Wb}else none
structure TOrc where
 call:List Tmp->FuncId->List TV->List qD->(R:Type)->(TV->List qD->List Root->Option R)->Option R
 code:List Tmp->FuncId->Nat->Code->TSt->(R:Type)->(Ex->TSt->Option R)->Option R
 born:List Tmp->FuncId->List TV->(R:Type)->(TV->TV->Option R)->Option R
def qer:List qD->Option (List qD×qD)
 |[]=>none
 |[b]=>some ([],b)
 |b::c::l=>(qer (c::l)).map λ(x,y)=>(b::x,y)
section
variable (P:Program) (H:Hints) (J:TH) (T:qpa) (O:TOrc) (ctx:List Tmp) (f:FuncId)
noncomputable def qi8:Env->List Tmp->List TV->Env
 |E,t::ts,v::vs=>qi8 (E.set t v) ts vs
 |E,_,_=>E
def TSt.qoY(st:TSt)(r:Root)(v:TV):TSt:={st.qo r [v]with Wb:=st.Wb}
noncomputable def qx1(d:Tmp)(r:Root)(args:List TV)(st:TSt)(R:Type)(k:TV->TSt->Option R):Option R :=
 match st.cont r with
 |some [.lp .ready none g env ps asz bo] =>
  if args.length≠ps.length then none else
  O.code (d::ctx) g 0 asz {E:=qi8 (Env.qgK env env.length) ps (dullL args),L:=st.L++[st.B],B:=[],Wt:=.empty,Wb:=[]} R λe s2=>match e with
   |.normal=>(match s2.cont r with
    |some [.lp .ready none g2 env2 ps2 as2 bo2] =>
     O.code (d::ctx) g 0 bo (s2.qoY r (.lp .busy none g2 env2 ps2 as2 bo2)) R λex s3=>(match s3.cont r with
      |some [.lp _ _ g3 env3 ps3 as3 bo3] =>
       (match qer (s3.qoY r (.lp (if ex.code.isNone then .ready else .done) ex.code g3 env3 ps3 as3 bo3)).L with
       |some (L,B)=>if L.length=st.L.length then k (.t .bool 0 ex.code.isNone) {st with L,B,Wb:=(if ex.code.isNone then []else [r])++(s3.Wb++st.Wb)}else none
       |none=>none)
      |_=>none)
    |_=>none)
   |_=>none
 |_=>none
noncomputable def qoa(d:Tmp)(fv:TV)(args:List TV)(st:TSt)(R:Type)(k:TV->TSt->Option R):Option R :=
 match fv with
 |.fn g first cap =>
  if knownL (first++args++cap)then
   (if (ptrsTL (first++args++cap)).isEmpty then
    (if J.inl ctx f d then O.call (d::ctx) g (shareL (first++args++cap)) [] R λr M _=>match M with
     |[]=>k (if tightL (first++args++cap)then r else r.qa8) st
     |_=>none
    else T g (shareL (first++args++cap)) R λr=>k (if tightL (first++args++cap)then r else r.qa8) st)
   else if H.qip g then (match peekTL st.box (first++args++cap)with
    |some xs=>if (ptrsTL xs).isEmpty then T g xs R λr=>if r.qcA then k r st else none else none
    |none=>none)
   else O.call (d::ctx) g (dullL (first++args++cap)) (st.L++[st.B]) R λr M wb=>match qer M with
    |some (L,B)=>if L.length=st.L.length then k r {st with L,B,Wb:=wb++st.Wb}else none
    |none=>none)
  else none
 |.yld r=>qx1 O ctx d r args st R k
 |_=>none
noncomputable def qwx(d:Option Tmp)(fv:TV)(args:List TV)(st:TSt)(R:Type)(k:TV->TSt->Fp->Option R):Option R :=
 match fv,d with
 |.fn g first cap,some d =>
  if knownL (first++args++cap)&&(ptrsTL (first++args++cap)).isEmpty&&tightL (first++args++cap)&&(qU st.B (q6 d)).isNone then
   O.born (d::ctx) g (shareL (first++args++cap)) R λr c=>k (r.adopt ⟨st.L.length,q6 d⟩) {st with B:=(q6 d,some [c])::st.B,Wb:=⟨st.L.length,q6 d⟩::st.Wb} (.fresh ⟨st.L.length,q6 d⟩)
  else none
 |_,_=>none
noncomputable def qC7(d:Option Tmp)(fv:TV)(args:List TV)(st:TSt)(R:Type)(k:TV->TSt->Fp->Option R):Option R :=
 match fv,d with
 |.fn g first cap,some d=>match first++args++cap with
  |[.t .str _ s,.t .str _ sep]=>match H.seq g with
   |some clos=>if (qU st.B d).isNone then k (.fn clos [] [.cptr true [.t .str 0 sep],.ptr ⟨st.L.length,d⟩ 0,.cptr true [.t (.int .i64) 0 0]]) {st with B:=(d,some [.t .str 0 s])::st.B,Wb:=⟨st.L.length,d⟩::st.Wb} (.fresh ⟨st.L.length,d⟩)else none
   |none=>none
  |_=>none
 |_,_=>none
def qjO:TV->List TV->Option Root
 |.fn _ first cap,args=>if knownL (first++args++cap)then (match ptrsTL (first++args++cap)with
  |q::rest=>if rest.all (λr=>decide (r=q))&&onlyMapsTL (first++args++cap)then some q else none
  |[]=>none)else none
 |_,_=>none
def qw2(n:Nat)(q:Root)(c:List TV):List qD:=(List.range n).map λl=>if l=q.lvl then [(q.slot,some c)]else []
def quj(M:List qD)(r:Root):Option (Option (List TV)):=match M[r.lvl]? with
 |some b=>qU b r.slot
 |none=>none
noncomputable def qxt(d:Tmp)(g:FuncId)(args:List TV)(q:Root)(st:TSt)(R:Type)(k:TV->TSt->Option R):Option R :=
 match st.box q with
 |some [.t (.mset τ) o l]=>O.call (d::ctx) g (dullL args) (qw2 (st.L.length+1) q [.t (.mset τ) o l]) R λr M _ =>
   if r.known&&r.qp.isEmpty&&!r.owns then (match quj M q with
    |some (some [.t (.mset τ') o' l'])=>k r (st.qo q [.t (.mset τ') o' l'])
    |_=>none)else none
 |_=>none
def qpF(fv:TV)(args:List TV):Bool:=qmx H fv||(qrk H fv||(qjO fv args).isSome)
noncomputable def qzW(d:Option Tmp)(fv:TV)(args:List TV)(st:TSt)(R:Type)(k:TV->TSt->Fp->Option R):Option R :=
 if qmx H fv then qwx O ctx d fv args st R k else if qrk H fv then qC7 H d fv args st R k else match fv,qjO fv args with
  |.fn g first cap,some q=>qxt O ctx (d.getD 0) g (first++args++cap) q st R λv s=>k v s (.mapw q)
  |_,_=>none
noncomputable def qlo(o:Oper)(xs:List TV)(st:TSt)(R:Type)(k:TV->TSt->Fp->Option R):Option R :=
 match o.op with
 |.alloc t=>match o.dst,qsm P H f t with
  |some d,some z=>if (qU st.B d).isNone then k (.ptr ⟨st.L.length,d⟩ 0) {st with B:=(d,some z.cells)::st.B,Wb:=⟨st.L.length,d⟩::st.Wb} (.fresh ⟨st.L.length,d⟩)else none
  |_,_=>none
 |.box t _=>match o.dst,xs with
  |some d,[x]=>if (qU st.B d).isNone/\x.cells.length=P.cellsOf t/\x.oks=true then k (.ptr ⟨st.L.length,d⟩ 0) {st with B:=(d,some x.cells)::st.B,Wb:=⟨st.L.length,d⟩::st.Wb} (.fresh ⟨st.L.length,d⟩)else none
  |_,_=>none
 |.call {callee:=.value _,..}=>match xs with
  |fv::args=>if qpF H fv args then qzW H O ctx o.dst fv args st R k else qoa H J T O ctx f (o.dst.getD 0) fv args st R λv s=>k v s (if qfO fv args then .none else if qdv H fv then .looks else .all)
  |[]=>none
 |op=>if qjz op xs then qlV P H f o xs st R k else match qkM op xs with
  |none=>qcK P H f (qae H f o) op xs none R λv c=>match c with
   |none=>k v st .none
   |some _=>none
  |some r=>if 16384<=r.slot then none else qcK P H f (qae H f o) op xs (st.box r) R λv c=>match c with
   |none=>k v st (.root r (qb8 P op xs).1 (qb8 P op xs).2 false)
   |some c=>if (quU op xs).all (λp=>decide (p.lvl<=r.lvl))&&decide ((qb8 P op xs).1+(qb8 P op xs).2<=c.length)then k v (st.qo r c) (.root r (qb8 P op xs).1 (qb8 P op xs).2 true)else none
noncomputable def qiZ(o:Oper)(st:TSt)(R:Type)(k:TSt->Fp->Option R):Option R :=
 if qae H f o&&!qeJ (tmpsOf o)then none else
 qlo P H J T O ctx f o (o.op.operands.toList.map (rdT H f o st.E)) (if qae H f o then {st with E:=qbI st.E (tmpsOf o),Wt:=Mask.ofList ((tmpsOf o).filter (λt=>(st.E.get t).owns))++st.Wt}else st) R λv s fp=>k (s.put o.dst v) fp
noncomputable def qsK(ops:Array Oper)(o:Oper)(st:TSt)(R:Type)(yes no:TSt->Option R):Option R :=
 match o.guard with
 |none=>yes st
 |some (j,want)=>match (ops[j]?).bind (·.dst)with
  |some t=>match st.E.get t with
   |.t .bool _ b=>bif b then (let st1:TSt:={st with E:=st.E.set t (.t .bool 0 true)};if want then yes st1 else no st1)
     else (let st1:TSt:={st with E:=st.E.set t (.t .bool 0 false)};if want then no st1 else yes st1)
   |.val (.tuple vs)=>if vs.size=0 then no st else none
   |_=>none
  |none=>none
noncomputable def qvb(ops:Array Oper):List Nat->TSt->(R:Type)->(TSt->Option R)->Option R
 |[],st,_,k=>k st
 |i::rest,st,R,k =>
  match ops[i]? with
  |none=>none
  |some o=>qsK ops o st R (λst=>qiZ P H J T O ctx f o st R λst' _=>qvb ops rest st' R k) (λst=>qvb ops rest (st.put o.dst (.val undef)) R k)
noncomputable def qkZ(o:Oper)(E:Env):List Tmp:=if qae H f o then (tmpsOf o).filter λt=>(E.get t).owns else []
noncomputable def qqY(ops:Array Oper):List Nat->TSt->List (Nat×Foot)->(R:Type)->(TSt->List (Nat×Foot)->Option R)->Option R
 |[],st,fps,_,k=>k st fps
 |i::rest,st,fps,R,k =>
  match ops[i]? with
  |none=>none
  |some o=>qsK ops o st R
    (λst=>qiZ P H J T O ctx f o st R λst' fp=>qqY ops rest st' ((i,⟨fp,qkZ H f o st.E,qby H f ops o⟩)::fps) R k)
    (λst=>qqY ops rest (st.put o.dst (.val undef)) ((i,⟨.none,[],qby H f ops o⟩)::fps) R k)
noncomputable def qra(E:Env):Operand->Option Int
 |.tmp t=>qv1 (E.get t)
 |.const v=>match v with
  |.int _ n=>some n
  |_=>none
 |_=>none
noncomputable def qgj(ops:Array Oper)(E:Env):Nat->Nat->Tmp->Option (Rt×List (Int×Nat×Nat)×Bool)
 |0,_,_=>none
 |n+1,k,d=>if H.link f d=false then some (.tmp d,[],false)else
  match qnT ops k d with
  |none=>none
  |some c=>match (ops[c]?).map Oper.op with
   |some (.move (.tmp a))=>qgj ops E n c a
   |some (.indexAddr t (.tmp a) i) =>
    match qgj ops E n c a,qra E i,P.underlying t with
    |some (r,p,false),some j,some (.slice elem)=>some (r,(j,0,P.cellsOf elem)::p,true)
    |_,_,_=>none
   |some (.fieldAddr t (.tmp a) fd) =>
    match qgj ops E n c a,qlN P t fd with
    |some (r,(j,o,s)::p,true),some o'=>some (r,(j,o+o',s)::p,true)
    |_,_=>none
   |some (.load t (.tmp a)) =>
    if qK P t then none else
    if H.link f a then (match qgj ops E n c a with
     |some (r,p,true)=>some (r,p,false)
     |_=>none)
    else match E.get a with
     |.ptr r off=>some (.box r off,[],false)
     |_=>none
   |_=>none
def qnk(e:TV)(cs:List TV):TV :=
 match e with
 |.agg _=>.agg cs
 |_=>cs.headD (.any [])
def qAL(ys:List TV):List (Int×Nat×Nat)->TV->(R:Type)->(TV->Option R)->Option R
 |(i,o,s)::p,.t (.sl τ) lv l,R,k =>
  if qa1 lv=true/\τ.qbk=s/\s≠0/\τ.ok=true/\τ.qbY=true then
   (idx l i).bind λe=>match p with
    |[]=>if o+ys.length<=s then (match qee τ (nx lv) (qnk (ofTy τ (nx lv) e) (qkQ (ofTy τ (nx lv) e).cells o ys))with
      |some e'=>k (.t (.sl τ) lv (l.set i.toNat e'))
      |none=>none)else none
    |_::_=>match (ofTy τ (nx lv) e).cells[o]? with
     |some z=>qAL ys p z R λz'=>match qee τ (nx lv) (qnk (ofTy τ (nx lv) e) ((ofTy τ (nx lv) e).cells.set o z'))with
      |some e'=>k (.t (.sl τ) lv (l.set i.toNat e'))
      |none=>none
     |none=>none
  else none
 |_,_,_,_=>none
def qw1(b:qD):qD:=b.map λp=>(p.1,p.2.map (List.map TV.qdP))
noncomputable def qBs(E:Env):Mask:=E.mask λx=>!(x.firm||x.isAny)
def qtx:qD->List Root
 |[]=>[]
 |(_,none)::b=>qtx b
 |(k,some c)::b=>if c.all TV.firm then qtx b else ⟨0,k⟩::qtx b
noncomputable def TSt.qb1(st:TSt)(T:List Tmp):TSt :=
 {st with E:=(qbI st.E T).qs2 (λ_ v=>v.qdP),B:=qw1 st.B,Wt:=Mask.ofList (T.filter (λt=>(st.E.get t).owns))++(qBs (qbI st.E T)++st.Wt),Wb:=qtx st.B++st.Wb}
structure Hole where
 r:Tmp
 τ:Ty
 lv:Nat
 l:List τ.den
 j:Int
noncomputable def qy4(hole:Option Hole)(r0:Tmp)(p:List (Int×Nat×Nat))(x:TV)(st:TSt)(R:Type)(k:TSt->Option R):Option R :=
 match hole,p with
 |some h,[(i,0,1)]=>if h.r=r0 then (match x with
   |.t (.sl τ) o y=>(match qee h.τ (nx h.lv) (.t (.sl τ) o y)with
    |some e=>bif decide (i=h.j)then (if (TV.t (.sl h.τ) h.lv (h.l.set h.j.toNat e)).firm then k (st.put (some r0) (.t (.sl h.τ) h.lv (h.l.set h.j.toNat e)))else none)else none
    |none=>none)
   |_=>none)else none
 |_,_=>none
noncomputable def lsT(ops:Array Oper)(s:Nat)(o:Oper)(st:TSt)(hole:Option Hole)(R:Type)(k:TSt->Option R):Option R :=
 match o.op with
 |.store t (.tmp d) xo =>
  let x:=rdT H f o st.E xo
  if st.L.isEmpty&&qmW st.B&&st.B.all (λp=>decide (p.1<16384))&&o.dst.isNone&&o.guard.isNone&&qeJ (tmpsOf o)&&decide (P.cellsOf t≠0)&&decide (x.cells.length=P.cellsOf t)&&x.oks&&x.qp.isEmpty then
   match qgj P H f ops st.E ops.size s d with
   |some (.tmp r,p,true)=>if (tmpsOf o).contains r then none else
    if hole.isSome then qy4 hole r p x (st.qb1 (tmpsOf o)) R k else
    qAL x.cells p.reverse (st.E.get r) R λy=>if y.firm then k ((st.qb1 (tmpsOf o)).put (some r) y)else none
   |some (.box q off,p,true)=>match st.box q with
    |some cs=>match cs[off]? with
     |some z=>qAL x.cells p.reverse z R λy=>if y.firm then k ((st.qb1 (tmpsOf o)).qo q ((cs.map TV.qdP).set off y))else none
     |none=>none
    |none=>none
   |_=>none
  else none
 |_=>none
noncomputable def apT(ops:Array Oper)(s:Nat)(o:Oper)(st:TSt)(R:Type)(k:TSt->Hole->Option R):Option R :=
 match o.op with
 |.call {args,..}=>match (args[0]?:Option Operand)with
  |some (.tmp d)=>match qgj P H f ops st.E ops.size s d with
   |some (.tmp r,[(j,0,1)],false)=>if r=d\/st.E.n<=d then none else
    (match st.E.get r with
    |.t (.sl (.sl τ)) lv l=>if qa1 lv&&qa1 (nx lv)then (idx l j).bind λe =>
      k {st with E:=(st.E.set r (.any [])).set d (.t (.sl τ) (nx lv) e),Wt:=Mask.ins r (Mask.ins d st.Wt)} ⟨r,.sl τ,lv,l,j⟩else none
    |_=>none)
   |_=>none
  |_=>none
 |_=>none
def qpK(o:Oper):Option Hole->Option Hole
 |some h=>if o.dst=some h.r\/(tmpsOf o).contains h.r=true then none else some h
 |none=>none
def qBa:TV->Bool
 |.cptr ..=>true
 |_=>false
noncomputable def qs1(o:Oper)(E:Env):Bool :=
 !qlb H f o||((match o.dst with
  |some d=>decide (d<E.n)
  |none=>true)&&(match o.op with
  |.load _ (.tmp a)=>!H.link f a||qBa (E.get a)
  |_=>true))
noncomputable def qg4(ops:Array Oper):List Nat->TSt->Option Hole->List (Nat×Foot)->(R:Type)->(TSt->List (Nat×Foot)->Option R)->Option R
 |[],st,_,fps,_,k=>k st fps
 |i::rest,st,hole,fps,R,k =>
  match ops[i]? with
  |none=>none
  |some o=>if qfC H f o then lsT P H f ops i o st hole R λst'=>qg4 ops rest st' none ((i,⟨.all,[],looksAt ops o⟩)::fps) R k
   else if qlr H f o then (if qlb H f o then none else apT P H f ops i o st R λst hole=>qsK ops o st R
    (λst=>qiZ P H J T O ctx f o st R λst' fp=>qg4 ops rest st' (qpK o (some hole)) ((i,⟨fp,qkZ H f o st.E,qby H f ops o⟩)::fps) R k)
    (λst=>qg4 ops rest (st.put o.dst (.val undef)) (qpK o (some hole)) ((i,⟨.none,[],qby H f ops o⟩)::fps) R k))
   else if qs1 H f o st.E then qsK ops o st R
    (λst=>qiZ P H J T O ctx f o st R λst' fp=>qg4 ops rest st' (qpK o hole) ((i,⟨fp,qkZ H f o st.E,qby H f ops o⟩)::fps) R k)
    (λst=>qg4 ops rest (st.put o.dst (.val undef)) (qpK o hole) ((i,⟨.none,[],qby H f ops o⟩)::fps) R k)
   else none
def qDc:Operand->Tmp
 |.tmp t=>t
 |_=>0
def qwk(ops:List Oper):List Mask :=
 ops.foldl (λacc o=>acc++[(qaK o).foldl (λm j=>Mask.ins j (m++acc.getD j .empty)) .empty]) []
def qjW(U:List (Nat×Nat))(ops:Array Oper):Bool :=
 let asz:=qwk ops.toList
 (List.range ops.size).all λi =>
  match ops[i]? with
  |none=>false
  |some y=>(qaK y).all (λj=>decide (j<i))&&(List.range i).all λj =>
   (asz.getD i .empty).has j||match ops[j]? with
    |none=>false
    |some x=>qck ops x y&&(qfU H f ops x y||U.contains (j,i))
def qk5(draw:Bool)(asz:List Mask)(i c:Nat):Bool:=if draw then (asz.getD c .empty).has i else decide (i<c)
def qpP(draw:Bool)(asz:List Mask)(ops:Array Oper)(lone:Bool)(c:Nat)(oc:Oper):Bool :=
 (!qlb H f oc||(oc.guard.isNone&&(match oc.dst with
   |some d=>!(tmpsOf oc).contains d
   |none=>true)&&(List.range ops.size).all λi=>i==c||qk5 draw asz i c||match ops[i]? with
    |some oi=>qkI H f oc oi
    |none=>false)) &&
 (!qfC H f oc||(oc.guard.isNone&&(List.range ops.size).all λi=>i==c||qk5 draw asz i c||qk5 draw asz c i)) &&
 (!(qlb H f oc&&qhL H f oc)||lone) &&
 (!qlr H f oc||(List.range ops.size).any λs=>qk5 draw asz c s&&match ops[s]? with
  |some os=>qfC H f os
  |none=>false) &&
 (!qlr H f oc||(List.range ops.size).all λi=>i==c||qk5 draw asz i c||qk5 draw asz c i||match ops[i]? with
  |some oi=>qjr H f ops c oc oi
  |none=>false)
def qs0(draw:Bool)(ops:Array Oper):Bool :=
 let asz:=qwk ops.toList
 let lone:=decide ((ops.toList.filter (qfC H f)).length<=1)
 (List.range ops.size).all λc=>match ops[c]? with
  |some oc=>qpP H f draw asz ops lone c oc
  |none=>false
noncomputable def qBK:List Tmp->TSt->Option TSt
 |[],st=>some st
 |D,st=>st.clear D
noncomputable def qBz(F:List Int->Option (List Int))(t:Tmp)(d:Option Tmp)(st:TSt)(R:Type)(k:TSt->Option R):Option R :=
 if st.L.isEmpty&&qmW st.B then
  match st.E.get t with
  |.t (.sl (.int .i64)) o xs=>if qa1 o=true then (F xs).bind λys=>k (((st.qb1 []).put (some t) (.t (.sl (.int .i64)) o ys)).put d (.any []))else none
  |_=>none
 else none
noncomputable def qCD(E:Env):Operand->Bool
 |.tmp t=>match E.get t with
  |.t (.int _) _ _=>true
  |_=>false
 |.const v=>match v with
  |.int _ _=>true
  |_=>false
 |_=>false
def qAu(r:Root):TV->Bool
 |.ptr r' _=>decide (r'=r)
 |_=>false
noncomputable def qBW(ops:Array Oper)(E:Env)(r:Root):Bool:=ops.toList.any λo=>(tmpsOf o).any λt=>qDi ops t&&qAu r (E.get t)
noncomputable def quu(ops:Array Oper)(st:TSt)(o:Oper):Bool:=match o.op with
 |.binOp _ _ x y _=>qCD st.E x&&qCD st.E y
 |.load _ (.tmp a)=>match st.E.get a with
  |.ptr r off=>decide (r.slot<16384)&&qBW ops st.E r&&(match st.box r with
   |some cs=>decide (off<cs.length)
   |none=>false)
  |_=>false
 |_=>true
noncomputable def qp2(ops:Array Oper)(st:TSt):Bool:=ops.toList.all (quu ops st)
noncomputable def tx(bid:Nat):Code->TSt->(R:Type)->(Ex->TSt->Option R)->Option R
 |.skip,st,_,k=>k .normal st
 |.region id ops draw,st,R,k=>qvm (J.join ctx f (.region id)) st (λst R k =>
   match qBK (H.pre f id) st with
   |none=>none
   |some st =>
   match qgL H ops draw with
   |some (F,t,e,d)=>if e<st.E.n then qBz F t d (st.put (some e) (.any [])) R λst=>k .normal st else none
   |none =>
   if qsO H f ops then
    (if (H.perm f id).isEmpty then
    (if qs0 H f draw ops&&(!draw||qjW H f (H.pairs f id) ops)then
     qg4 P H J T O ctx f ops (List.range ops.size) st none [] R λst fps=>if !draw||qhf (H.pairs f id) fps then k .normal st else none
    else none)
    else (if draw&&qp4 P H f ops (H.perm f id)then
     qg4 P H J T O ctx f (qfv ops (H.perm f id)) (List.range (qfv ops (H.perm f id)).size) st none [] R λst _=>if qp2 (qfv ops (H.perm f id)) st then k .normal st else none
    else none))
   else if draw then
    (if qjW H f (H.pairs f id) ops then
     match H.pairs f id with
     |[]=>qvb P H J T O ctx f ops (List.range ops.size) st R λst=>k .normal st
     |U=>qqY P H J T O ctx f ops (List.range ops.size) st [] R λst fps=>if qhf U fps then k .normal st else none
    else none)
   else qvb P H J T O ctx f ops (List.range ops.size) st R λst=>k .normal st) R k
 |.seq a b,st,R,k=>tx bid a st R λe st=>match e with
  |.normal=>tx bid b st R k
  |e=>k e st
 |.cond c a b,st,R,k=>qvm (J.join ctx f (.cond (qDc c))) st (λst R k=>match rdT H f default st.E c with
   |.t .bool _ t=>bif t then tx bid a st R k else tx bid b st R k
   |_=>none) R k
 |.block id c,st,R,k=>qvm (J.join ctx f (.block id)) st (λst R k=>tx id c st R λe st=>match e with
   |.exit i=>if i=id then k .normal st else k (.exit i) st
   |e=>k e st) R k
 |.loop c,st,R,k=>match J.join ctx f (.loop bid)with
  |some j =>
   if st.qkr j then
    (asL j.ps (j.lv.map st.get)).bind λx0 =>
     qaD (λx=>match (st.fresh.qbQ j (ofL j.ps x)).clear (H.clear f bid)with
      |some st1=>tx bid c st1 (denL (j.ps.map (·.1))⊕R) λe st2=>match e with
       |.normal=>(st2.outs st j).map .inl
       |e=>(k e (st2.merge st)).map .inr
      |none=>none) x0
   else none
  |none=>match st.clear (H.clear f bid)with
   |some st=>tx bid c st R λe st=>match e with
    |.normal=>O.code ctx f bid (.loop c) st R k
    |e=>k e st
   |none=>none
 |.rangeFunc g ps asz bo,st,R,k =>
  match rdT H f default st.E g,ps.toList with
  |.fn h first cap,t::ts =>
   if (qU st.B t).isNone&&decide (t<16384)then
    qoa H J T O ctx f t (.fn h first cap) [.yld ⟨st.L.length,t⟩] {st with B:=(t,some [.lp .ready none f (dullL st.E.toL) (t::ts) asz bo])::st.B,Wb:=⟨st.L.length,t⟩::st.Wb} R λ_ s =>
     if qcY st.L.length [t] (qjU (qaC [t] s.B))&&qvd (qaC [t] s.B)then
      (match qU s.B t with
      |some (some [.lp .ready none _ _ _ _ _])=>k .normal {s with B:=qaC [t] s.B,Wb:=st.Wb++s.Wb.filter (λq=>!decide (q=⟨st.L.length,t⟩))}
      |some (some [.lp .done (some .ret) _ _ _ _ _])=>k .ret {s with B:=qaC [t] s.B,Wb:=st.Wb++s.Wb.filter (λq=>!decide (q=⟨st.L.length,t⟩))}
      |some (some [.lp .done (some (.exit id)) _ _ _ _ _])=>k (.exit id) {s with B:=qaC [t] s.B,Wb:=st.Wb++s.Wb.filter (λq=>!decide (q=⟨st.L.length,t⟩))}
      |_=>none)
     else none
   else none
  |_,_=>none
 |.exit id,st,_,k=>k (.exit id) st
 |.ret,st,_,k=>k .ret st
 |_,_,_,_=>none
noncomputable def qiW(st:TSt):ResultVar->Option TV
 |.tmp t=>some (st.E.get t)
 |.cell a t=>match st.E.get a with
  |.ptr r off=>match st.box r with
   |some cs=>if r.slot<16384 then qaW P t (cs.drop off)else none
   |none=>none
  |_=>none
def qe5:List (Option TV)->Option (List TV)
 |[]=>some []
 |some v::l=>(qe5 l).map (v::·)
 |none::_=>none
noncomputable def qfQ(st:TSt):ResultVar->Option (Bool×Nat×Nat)
 |.tmp t=>some (false,t,0)
 |.cell a _=>match st.E.get a with
  |.ptr r _=>some (true,r.lvl,r.slot)
  |_=>none
def qkg:List (Option (Bool×Nat×Nat))->Option (List (Bool×Nat×Nat))
 |[]=>some []
 |some v::l=>(qkg l).map (v::·)
 |none::_=>none
def qcU:List TV->TV
 |[r]=>r
 |rs=>.tuple rs
noncomputable def runT(args:List TV)(M:List qD)(R:Type)(k:TV->List qD->List Root->Option R):Option R :=
 if J.lib f then none else
 match P.funcs[f]? with
 |some fn=>match fn.body with
  |some c=>qvm (J.join ctx f (.inl 0)) {E:=Env.qgK args fn.ntmps,L:=M,B:=[],Wt:=.empty,Wb:=[]}
    (λst R k=>tx P H J T O ctx f 0 c st R λe st=>match e with
     |.normal=>k .normal st
     |.ret=>k .normal st
     |_=>none) R λ_ st =>
   match qe5 (fn.results.toList.map (qiW P st)),qkg (fn.results.toList.map (qfQ st))with
   |some rs,some ks=>if knownL rs&&((ptrsTL rs).all λr=>decide (r.lvl<M.length))&&qow M.length ks then k (qcU rs) st.L st.Wb
    else if knownL rs&&M.isEmpty&&qow M.length ks&&!((ptrsTL rs).all λr=>decide (r.lvl<M.length))then (match peekTL st.box rs with
     |some xs=>if knownL xs&&(ptrsTL xs).isEmpty then k (qcU xs) st.L st.Wb else none
     |none=>none)
    else none
   |_,_=>none
  |none=>none
 |none=>none
noncomputable def qwv(args:List TV)(R:Type)(k:TV->TV->Option R):Option R :=
 if J.lib f then none else
 match P.funcs[f]? with
 |some fn=>match fn.body with
  |some c=>tx P H J T O ctx f 0 c {E:=Env.qgK args fn.ntmps,L:=[],B:=[],Wt:=.empty,Wb:=[]} R λe st =>
   match e with
   |.exit _=>none
   |_=>match qe5 (fn.results.toList.map (qiW P st))with
    |some rs=>match peekTL st.box rs with
     |some xs=>match ptrsTL xs with
      |[r]=>if r.lvl=0 then (match st.box r with
       |some [.t (.mset τ) o l]=>if knownL xs&&onlyMapsTL xs then k (qcU xs) (.t (.mset τ) o l)else none
       |_=>none)else none
      |_=>none
     |none=>none
    |none=>none
  |none=>none
 |none=>none
end
def TV.qc1:TV->TV
 |.val (.slice none 0 0)=>.empty 1
 |.t (.nsl _) _ _=>.any []
 |v=>v
def dnT(H:Hints)(g:FuncId)(l:List TV):List TV:=bif H.qc1 g then l.map TV.qc1 else l
mutual
def TV.denilD:TV->TV
 |.val (.slice none 0 0)=>.empty 1
 |.t (.nsl _) _ _=>.any []
 |.t (.pair ..) _ _=>.any []
 |.agg l=>.agg (denilDTL l)
 |.tuple l=>.tuple (denilDTL l)
 |v=>v
def denilDTL:List TV->List TV
 |[]=>[]
 |v::l=>v.denilD::denilDTL l
end
def qCO(H:Hints)(g:FuncId)(r:TV):TV:=bif H.denr g then r.denilD else r
def TV.qbi:TV->TV
 |.val (.slice none 0 0)=>.empty 1000
 |.t (.nsl _) _ _=>.any []
 |v=>v
def qzS(M:List qD)(q:Root)(c:List TV):List qD:=M.modify q.lvl λb=>qtv b q.slot (some c)
noncomputable def qCQ(I:IoT)(g:FuncId)(args:List TV)(M:List qD)(R:Type)(k:TV->List qD->List Root->Option R):Option R :=
 match args with
 |.ptr q off::rest=>if decide (off=0)&&decide (q.slot<16384)&&knownL rest&&(ptrsTL rest).isEmpty then (match quj M q with
  |some (some c)=>if c.all TV.one&&knownL c&&(ptrsTL c).isEmpty then I g c (rest.map TV.qbi) R λc'=>if c'.all TV.one&&knownL c'&&(ptrsTL c').isEmpty then k (.tuple []) (qzS M q c') [q]else none else none
  |_=>none)else none
 |_=>none
noncomputable def qlF(P:Program)(H:Hints)(J:TH)(T:qpa):Nat->TOrc
 |0=>{call:=λ_ _ _ _ _ _=>none,code:=λ_ _ _ _ _ _ _=>none,born:=λ_ _ _ _ _=>none}
 |n+1=>{
   call:=λctx g args M R k=>if H.io g then qCQ J.io g args M R k else runT P H J T (qlF P H J T n) ctx g (dnT H g args) M R λr M wb=>k (qCO H g r) M wb
   code:=λctx f bid c st R k=>tx P H J T (qlF P H J T n) ctx f bid c st R k
   born:=λctx g args R k=>qwv P H J T (qlF P H J T n) ctx g args R k}
def qwq:(rs:List (Ty×Nat))->TV->Option (denL (rs.map (·.1)))
 |[p],r=>asL [p] [r]
 |rs,.tuple l=>asL rs l
 |_,_=>none
noncomputable def fnT(P:Program)(H:Hints)(J:TH)(T:qpa)(n:Nat)(g:FuncId)(args:List TV)(rs:List (Ty×Nat)):Option (denL (rs.map (·.1))) :=
 (qlF P H J T n).call [] g args [] _ λr M _=>match M with
  |[]=>qwq rs r
  |_=>none
noncomputable def qCP(P:Program)(H:Hints)(J:TH)(T:qpa)(n:Nat)(g:FuncId)(c args:List TV)(bs:List (Ty×Nat)):Option (denL (bs.map (·.1))) :=
 if c.all TV.one then runT P H J T (qlF P H J T n) [] g (.ptr ⟨0,0⟩ 0::args) [[(0,some c)]] _ λr M _=>match r,M with
  |.tuple [],[[(0,some c')]]=>asL bs c'
  |_,_=>none
 else none
inductive Cp where
 |v (τ:Ty)
 |p (τ:Ty)
@[reducible] def Cp.den:Cp->Type
 |.v τ=>τ.den
 |.p τ=>τ.den
@[reducible] def denC:List Cp->Type
 |[]=>Unit
 |[c]=>c.den
 |c::q::l=>c.den×denC (q::l)
inductive Pm where
 |ty (τ:Ty)
 |ptr (τ:Ty)
 |fn (g:FuncId) (caps:List Cp)
@[reducible] def Pm.den:Pm->Type
 |.ty τ=>τ.den
 |.ptr τ=>τ.den
 |.fn _ cs=>denC cs
@[reducible] def denP:List Pm->Type
 |[]=>Unit
 |[p]=>p.den
 |p::q::l=>p.den×denP (q::l)
def qsu(τ:Ty)(cs:List TV):Option τ.den :=
 if τ.one=true then (match cs with
  |[c]=>qee τ 1000 c
  |_=>none)else qee τ 1000 (.agg cs)
def qAS:(c:Cp)->TV->Option c.den
 |.v τ,v=>qee τ 1000 v
 |.p τ,.cptr true cs=>qsu τ cs
 |.p _,_=>none
def qCg:(c:Cp)->c.den->TV
 |.v τ,x=>ofTy τ 1000 x
 |.p τ,x=>.cptr true (ofTy τ 1000 x).cells
def qqK:(cs:List Cp)->List TV->Option (denC cs)
 |[],[]=>some ()
 |[c],[v]=>qAS c v
 |c::q::ps,v::l=>(qAS c v).bind λx=>(qqK (q::ps) l).bind λy=>some (x,y)
 |_,_=>none
def qzv:(cs:List Cp)->denC cs->List TV
 |[],_=>[]
 |[c],x=>[qCg c x]
 |c::q::ps,x=>qCg c x.1::qzv (q::ps) x.2
def qBH:(p:Pm)->TV->Option p.den
 |.ty τ,v=>qee τ 1000 v
 |.ptr τ,v=>qAS (.p τ) v
 |.fn g cs,.fn g' [] cap=>if g=g' then qqK cs cap else none
 |.fn _ _,_=>none
def qCF:(p:Pm)->p.den->TV
 |.ty τ,x=>ofTy τ 1000 x
 |.ptr τ,x=>qCg (.p τ) x
 |.fn g cs,x=>.fn g [] (qzv cs x)
def qqJ:(ps:List Pm)->List TV->Option (denP ps)
 |[],[]=>some ()
 |[p],[v]=>qBH p v
 |p::q::ps,v::l=>(qBH p v).bind λx=>(qqJ (q::ps) l).bind λy=>some (x,y)
 |_,_=>none
def qaE:(ps:List Pm)->denP ps->List TV
 |[],_=>[]
 |[p],x=>[qCF p x]
 |p::q::ps,x=>qCF p x.1::qaE (q::ps) x.2
structure Entry where
 g:FuncId
 ps:List Pm
 rs:List (Ty×Nat)
 F:denP ps->Option (denL (rs.map (·.1)))
def qp0(rs:List (Ty×Nat))(x:denL (rs.map (·.1))):TV:=qcU (ofL rs x)
structure IoEntry where
 g:FuncId
 bs:List (Ty×Nat)
 ps:List (Ty×Nat)
 F:denL (bs.map (·.1))->denL (ps.map (·.1))->Option (denL (bs.map (·.1)))
def qvY:List IoEntry->IoT
 |[],_,_,_,_,_=>none
 |e::l,g,c,args,R,k=>if e.g=g then (match asL e.bs c,asL e.ps args with
   |some x,some y=>(e.F x y).bind λz=>k (ofL e.bs z)
   |_,_=>none)else qvY l g c args R k
def qdA:List Entry->qpa
 |[],_,_,_,_=>none
 |e::l,g,args,R,k=>if e.g=g then (match qqJ e.ps args with
   |some x=>(e.F x).bind λy=>k (qp0 e.rs y)
   |none=>qdA l g args R k)else qdA l g args R k
end
end Go.Tx
end
section
namespace Go.Fl
open Ieee
section
set_option maxRecDepth 100000
def Val(d:Datum)(n:Int):Prop:=∃neg mag place,d=.number neg mag place/\mag*2 ^ place.toNat=n.natAbs*2 ^ (-place).toNat/\(neg=true->n<=0)/\(neg=false->0<=n)
def IsF(w:Nat)(n:Int):Prop:=Val (double.read w) n
theorem qgi:double.leastPlace = -1074:=by decide
theorem qqL:double.binade=2 ^ 52:=rfl
theorem qot:double.infRung=2047*2 ^ 52:=rfl
theorem qj4:double.signWeight=2 ^ 63:=rfl
theorem qxR(neg:Bool){r:Nat}(h:r<2 ^ 63):(double.word neg r) / 2 ^ 63 % 2=(if neg then 1 else 0)/\(double.word neg r) % 2 ^ 63=r:=by
 unfold Format.word;rw [qj4];cases neg
 ·simp only [qf,if_false]<;>omega
 ·simp only [if_true]<;>omega
theorem qxQ(neg:Bool){k e:Nat}(h1:2 ^ 52<=k)(h2:k<2 ^ 53)(he:e<=2000):double.read (double.word neg (e*2 ^ 52+k))=.number neg k (-1074+(e:Int)):=by
 have hr:=qxR neg (r:=e*2 ^ 52+k) (by omega);unfold Format.read;rw [qj4,qqL,qot,qgi];simp only [hr.1,hr.2];have c1:¬ (e*2 ^ 52+k<2 ^ 52):=by omega
 have c2:e*2 ^ 52+k<2047*2 ^ 52:=by omega
 rw [if_neg c1,if_pos c2];have e1:(e*2 ^ 52+k) % 2 ^ 52=k-2 ^ 52:=by omega
 have e2:(e*2 ^ 52+k) / 2 ^ 52=e+1:=by omega
 rw [e1,e2];have e3:2 ^ 52+(k-2 ^ 52)=k:=by omega
 rw [e3];have e4:e+1-1=e:=by omega
 rw [e4];cases neg<;>rfl
theorem qxS(neg:Bool):double.read (double.word neg 0)=.number neg 0 (-1074):=by
 cases neg<;>decide
theorem qwG(neg:Bool){q d:Nat}(hq:0<q):Toward.even.cut neg (q*2 ^ d) d=q:=by
 unfold Toward.cut;have hl:d<=(q*2 ^ d).log2:=by
  rw [Nat.le_log2 (by have:=Nat.pow_pos (n:=d) (show 0<2 by omega);have:=Nat.mul_pos hq this;omega)];exact Nat.le_mul_of_pos_left _ hq
 have hm:min d ((q*2 ^ d).log2+2)=d:=by omega
 simp only [hm,Nat.one_shiftLeft];have hp:0<2 ^ d:=Nat.pow_pos (by omega);have e1:q*2 ^ d / 2 ^ d=q:=Nat.mul_div_cancel _ hp;have e2:q*2 ^ d % 2 ^ d=0:=Nat.mul_mod_left _ _;rw [e1,e2];have c1:decide (2 ^ d<2*0)=false:=by simp
 have c2:((2 ^ d==2*0)&&(q % 2==1))=false:=by
  have:(2 ^ d==2*0)=false:=by simp
  rw [this];rfl
 simp [c2]
theorem qui(m k:Nat)(hm:m≠0):(m*2 ^ k).log2=m.log2+k:=by
 have hp:0<2 ^ k:=Nat.pow_pos (by omega);have hne:m*2 ^ k≠0:=by have:=Nat.mul_pos (Nat.pos_of_ne_zero hm) hp;omega
 rw [Nat.log2_eq_iff hne];have h1:=Nat.log2_self_le hm;have h2:=@Nat.lt_log2_self m;constructor
 ·rw [Nat.pow_add];exact Nat.mul_le_mul_right _ h1
 ·have:2 ^ (m.log2+k+1)=2 ^ (m.log2+1)*2 ^ k:=by rw [<- Nat.pow_add];congr 1;omega
  rw [this];exact Nat.mul_lt_mul_of_pos_right h2 hp
theorem qBV(B q k:Nat)(h3:q<=1074*B)(hk:k<2*B):q+k<=2047*B:=by omega
theorem qkd{d:Datum}{n:Int}(h:Val d n)(hn:n.natAbs<2 ^ 53):IsF (double.write d) n:=by
 obtain ⟨neg,mag,place,rfl,hv,hs1,hs2⟩:=h;unfold IsF;show Val (double.read (double.nearest neg mag place)) n;unfold Format.nearest;by_cases h0:mag=0
 ·rw [if_pos h0,qxS];subst h0;have hz:n.natAbs=0:=by
   have hp:0<2 ^ (-place).toNat:=Nat.pow_pos (by omega);rw [Nat.zero_mul]at hv;rcases Nat.mul_eq_zero.1 hv.symm with h|h
   ·exact h
   ·omega
  exact ⟨neg,0,-1074,rfl,by rw [hz,Nat.zero_mul,Nat.zero_mul],hs1,hs2⟩
 rw [if_neg h0];have hnz:n.natAbs≠0:=by
  intro hz;rw [hz,Nat.zero_mul]at hv;have hp:0<2 ^ place.toNat:=Nat.pow_pos (by omega);rcases Nat.mul_eq_zero.1 hv with h|h<;>omega
 have hlog:(mag.log2:Int)+place=n.natAbs.log2:=by
  have h1:=congrArg Nat.log2 hv;rw [qui _ _ h0,qui _ _ hnz]at h1;omega
 have hl53:n.natAbs.log2<53:=(Nat.log2_lt hnz).2 hn;generalize hL:n.natAbs.log2=L at *;have hfb:(double.fractionBits:Int)=52:=rfl;have hlast:max (place+(mag.log2:Int)-(double.fractionBits:Int)) double.leastPlace=(L:Int)-52:=by
  rw [qgi,hfb];omega
 simp only [hlast];have hL2:L+1022<=2000:=by omega
 have t2:(-((-1074:Int)+((L+1022:Nat):Int))).toNat=52-L:=by omega
 have t3:((-1074:Int)+((L+1022:Nat):Int)).toNat=0:=by omega
 have hkept:Toward.even.cut neg (mag <<< (place-((L:Int)-52)).toNat) (((L:Int)-52)-place).toNat=n.natAbs*2 ^ (52-L):=by
  have hp52:0<2 ^ (52-L):=Nat.pow_pos (by omega);have hq:0<n.natAbs*2 ^ (52-L):=Nat.mul_pos (Nat.pos_of_ne_zero hnz) hp52;have key:mag <<< (place-((L:Int)-52)).toNat=n.natAbs*2 ^ (52-L)*2 ^ (((L:Int)-52)-place).toNat:=by
   rw [Nat.shiftLeft_eq]
   refine Nat.eq_of_mul_eq_mul_right (Nat.pow_pos (n:=place.toNat+(-place).toNat) (show 0<2 by omega)) ?_;have a1:mag*2 ^ (place-((L:Int)-52)).toNat*2 ^ (place.toNat+(-place).toNat)=(mag*2 ^ place.toNat)*2 ^ ((place-((L:Int)-52)).toNat+(-place).toNat):=by
    rw [Nat.pow_add,Nat.pow_add];ac_rfl
   have a2:n.natAbs*2 ^ (52-L)*2 ^ (((L:Int)-52)-place).toNat*2 ^ (place.toNat+(-place).toNat)=n.natAbs*2 ^ ((52-L)+(((L:Int)-52)-place).toNat+(place.toNat+(-place).toNat)):=by
    rw [Nat.mul_assoc,Nat.mul_assoc,<- Nat.pow_add,<- Nat.pow_add];congr 2
    omega
   rw [a1,hv,a2,Nat.mul_assoc,<- Nat.pow_add];congr 2
   omega
  rw [key,qwG neg hq]
 rw [hkept];have hk1:2 ^ 52<=n.natAbs*2 ^ (52-L):=by
  have h1:2 ^ L<=n.natAbs:=by rw [<- hL];exact Nat.log2_self_le hnz
  have h2:2 ^ 52=2 ^ L*2 ^ (52-L):=by rw [<- Nat.pow_add];congr 1;omega
  rw [h2];exact Nat.mul_le_mul_right _ h1
 have hk2:n.natAbs*2 ^ (52-L)<2 ^ 53:=by
  have h1:n.natAbs<2 ^ (L+1):=by rw [<- hL];exact Nat.lt_log2_self
  have h2:2 ^ 53=2 ^ (L+1)*2 ^ (52-L):=by rw [<- Nat.pow_add];congr 1;omega
  rw [h2];exact Nat.mul_lt_mul_of_pos_right h1 (Nat.pow_pos (by omega))
 have he:(((L:Int)-52)-double.leastPlace).toNat=L+1022:=by rw [qgi];omega
 rw [he,qqL,qot];have h3:(L+1022)*2 ^ 52<=1074*2 ^ 52:=Nat.mul_le_mul_right _ (by omega);have h5:2 ^ 53=2*2 ^ 52:=by rw [Nat.pow_succ,Nat.mul_comm]
 rw [h5]at hk2;have hmin:min ((L+1022)*2 ^ 52+n.natAbs*2 ^ (52-L)) (2047*2 ^ 52)=(L+1022)*2 ^ 52+n.natAbs*2 ^ (52-L):=Nat.min_eq_left (qBV _ _ _ h3 hk2);rw [<- h5]at hk2;rw [hmin,qxQ neg hk1 hk2 hL2];refine ⟨neg,n.natAbs*2 ^ (52-L),-1074+((L+1022:Nat):Int),rfl,?_,hs1,hs2⟩;rw [t2,t3,Nat.pow_zero,Nat.mul_one]
theorem qAN{neg:Bool}{mag:Nat}{place base:Int}{n:Int}(hv:mag*2 ^ place.toNat=n.natAbs*2 ^ (-place).toNat)(h1:neg=true->n<=0)(h2:neg=false->0<=n)(hb:base<=place) :
  signed neg mag (place-base).toNat*(2 ^ base.toNat:Nat)=n*(2 ^ (-base).toNat:Nat):=by
 have key:mag*2 ^ (place-base).toNat*2 ^ base.toNat=n.natAbs*2 ^ (-base).toNat:=by
  refine Nat.eq_of_mul_eq_mul_right (Nat.pow_pos (n:=(-place).toNat) (show 0<2 by omega)) ?_;have a1:mag*2 ^ (place-base).toNat*2 ^ base.toNat*2 ^ (-place).toNat=mag*2 ^ place.toNat*2 ^ (-base).toNat:=by
   rw [Nat.mul_assoc,Nat.mul_assoc,Nat.mul_assoc,<- Nat.pow_add,<- Nat.pow_add,<- Nat.pow_add];congr 2;omega
  rw [a1,hv,Nat.mul_assoc,Nat.mul_assoc,Nat.mul_comm (2 ^ (-place).toNat)]
 unfold signed;cases neg with
 |true =>
  have hn:=h1 rfl;have e:n = -(n.natAbs:Int):=by omega
  simp only [if_true,Nat.shiftLeft_eq];rw [Int.neg_mul,<- Int.natCast_mul,key];conv=>rhs;rw [e]
  rw [Int.neg_mul,Int.natCast_mul]
 |false =>
  have hn:=h2 rfl;have e:n=(n.natAbs:Int):=by omega
  simp only [qf,if_false,Nat.shiftLeft_eq];rw [<- Int.natCast_mul,key];conv=>rhs;rw [e]
  rw [Int.natCast_mul]
theorem qyl{x y:Datum}{m n:Int}(hx:Val x m)(hy:Val y n):∃d,x.sum y=some d/\Val d (m+n):=by
 obtain ⟨s,p,i,rfl,hv,h1,h2⟩:=hx;obtain ⟨t,q,j,rfl,hw,h3,h4⟩:=hy;have e1:=qAN (base:=min i j) hv h1 h2 (by omega);have e2:=qAN (base:=min i j) hw h3 h4 (by omega);refine ⟨_,rfl,?_⟩;generalize hb:min i j=base at *;generalize hT:signed s p (i-base).toNat+signed t q (j-base).toNat=total;have e3:total*(2 ^ base.toNat:Nat)=(m+n)*(2 ^ (-base).toNat:Nat):=by
  rw [<- hT,Int.add_mul,Int.add_mul,e1,e2]
 have hp:(0:Int)<(2 ^ base.toNat:Nat):=by have:=Nat.pow_pos (n:=base.toNat) (show 0<2 by omega);omega
 have hq:(0:Int)<(2 ^ (-base).toNat:Nat):=by have:=Nat.pow_pos (n:=(-base).toNat) (show 0<2 by omega);omega
 refine ⟨_,_,_,rfl,?_,?_,?_⟩
 ·have:=congrArg Int.natAbs e3;rw [Int.natAbs_mul,Int.natAbs_mul,Int.natAbs_natCast,Int.natAbs_natCast]at this;exact this
 ·intro h;by_cases h0:total=0
  ·rw [h0,Int.zero_mul]at e3;rcases Int.mul_eq_zero.1 e3.symm with h9|h9<;>omega
  ·rw [if_neg h0]at h;have hneg:total<0:=by simpa using h
   have h5:=Int.mul_neg_of_neg_of_pos hneg hp;rw [e3]at h5;rcases Int.lt_or_le 0 (m+n)with h6|h6
   ·have:=Int.mul_pos h6 hq;omega
   ·exact h6
 ·intro h;by_cases h0:total=0
  ·rw [h0,Int.zero_mul]at e3;rcases Int.mul_eq_zero.1 e3.symm with h9|h9<;>omega
  ·rw [if_neg h0]at h;have hpos:0<=total:=by
    have:¬ total<0:=by simpa using h
    omega
   have h5:=Int.mul_nonneg hpos (by omega:(0:Int)<=(2 ^ base.toNat:Nat));rw [e3]at h5;rcases Int.lt_or_le (m+n) 0 with h6|h6
   ·have:=Int.mul_neg_of_neg_of_pos h6 hq;omega
   ·exact h6
theorem qBk{x:Datum}{m:Int}(hx:Val x m):Val x.opposite (-m):=by
 obtain ⟨s,p,i,rfl,hv,h1,h2⟩:=hx;refine ⟨!s,p,i,rfl,by rw [Int.natAbs_neg];exact hv,λh=>?_,λh=>?_⟩
 ·have:=h2 (by cases s<;>simp_all);omega
 ·have:=h1 (by cases s<;>simp_all);omega
theorem qth{x y:Datum}{m n:Int}(hx:Val x m)(hy:Val y n):∃d,x.product y=some d/\Val d (m*n):=by
 obtain ⟨s,p,i,rfl,hv,h1,h2⟩:=hx;obtain ⟨t,q,j,rfl,hw,h3,h4⟩:=hy;refine ⟨_,rfl,_,_,_,rfl,?_,λh=>?_,λh=>?_⟩
 ·rw [Int.natAbs_mul];refine Nat.eq_of_mul_eq_mul_right (Nat.pow_pos (n:=(-i).toNat+(-j).toNat) (show 0<2 by omega)) ?_;have a1:p*q*2 ^ (i+j).toNat*2 ^ ((-i).toNat+(-j).toNat)=(p*2 ^ i.toNat)*(q*2 ^ j.toNat)*2 ^ (-(i+j)).toNat:=by
   have b1:p*q*2 ^ (i+j).toNat*2 ^ ((-i).toNat+(-j).toNat)=p*q*2 ^ ((i+j).toNat+((-i).toNat+(-j).toNat)):=by rw [Nat.mul_assoc,<- Nat.pow_add]
   have b2:(p*2 ^ i.toNat)*(q*2 ^ j.toNat)*2 ^ (-(i+j)).toNat=p*q*2 ^ ((i.toNat+j.toNat)+(-(i+j)).toNat):=by
    rw [Nat.pow_add,Nat.pow_add];ac_rfl
   rw [b1,b2];congr 2;omega
  rw [a1,hv,hw];have b3:n.natAbs*2 ^ (-j).toNat=n.natAbs*2 ^ (-j).toNat:=rfl;rw [Nat.pow_add];ac_rfl
 ·cases s<;>cases t<;>simp at h
  ·exact Int.mul_nonpos_of_nonneg_of_nonpos (h2 rfl) (h3 rfl)
  ·exact Int.mul_nonpos_of_nonpos_of_nonneg (h1 rfl) (h4 rfl)
 ·cases s<;>cases t<;>simp at h
  ·exact Int.mul_nonneg (h2 rfl) (h4 rfl)
  ·exact Int.mul_nonneg_of_nonpos_of_nonpos (h1 rfl) (h3 rfl)
theorem qBP{a b:Nat}{m n:Int}(ha:IsF a m)(hb:IsF b n)(h:(m+n).natAbs<2 ^ 53):∃r,double.add a b=some r/\IsF r (m+n):=by
 obtain ⟨d,hd,hv⟩:=qyl ha hb;exact ⟨_,by unfold Format.add;rw [hd];rfl,qkd hv h⟩
theorem qCt{a b:Nat}{m n:Int}(ha:IsF a m)(hb:IsF b n)(h:(m-n).natAbs<2 ^ 53):∃r,double.sub a b=some r/\IsF r (m-n):=by
 obtain ⟨d,hd,hv⟩:=qyl ha (qBk hb);exact ⟨_,by unfold Format.sub;rw [hd];rfl,qkd hv h⟩
theorem qCd{a b:Nat}{m n:Int}(ha:IsF a m)(hb:IsF b n)(h:(m*n).natAbs<2 ^ 53):∃r,double.mul a b=some r/\IsF r (m*n):=by
 obtain ⟨d,hd,hv⟩:=qth ha hb;exact ⟨_,by unfold Format.mul;rw [hd];rfl,qkd hv h⟩
theorem qA8(n:Int):Val (.number (n<0) n.natAbs 0) n:=⟨_,_,_,rfl,rfl,λh=>Int.le_of_lt (by simpa using h),λh=>Int.not_lt.1 (by simpa using h)⟩
theorem qup{n:Int}(h:n.natAbs<2 ^ 53):IsF (double.write (.number (n<0) n.natAbs 0)) n:=qkd (qA8 n) h
theorem qyY(neg:Bool){q d:Nat}:Toward.zero.cut neg (q*2 ^ d) d=q:=by
 unfold Toward.cut;simp only [Nat.one_shiftLeft,Bool.toNat_false,Nat.add_zero];by_cases hq:q=0
 ·rw [hq,Nat.zero_mul,Nat.zero_div]
 have hl:d<=(q*2 ^ d).log2:=by
  have hp:=Nat.mul_pos (Nat.pos_of_ne_zero hq) (Nat.pow_pos (n:=d) (show 0<2 by omega));rw [Nat.le_log2 (by omega)];exact Nat.le_mul_of_pos_left _ (Nat.pos_of_ne_zero hq)
 rw [show min d ((q*2 ^ d).log2+2)=d by omega];exact Nat.mul_div_cancel _ (Nat.pow_pos (by omega))
theorem qAa{d:Datum}{n:Int}(h:Val d n):d.toInt .zero=some n:=by
 obtain ⟨neg,mag,place,rfl,hv,h1,h2⟩:=h;unfold Datum.toInt Datum.integral;simp only
 have hc:Toward.zero.cut neg (mag <<< place.toNat) (-place).toNat=n.natAbs:=by
  rw [Nat.shiftLeft_eq,hv];exact qyY neg
 rw [hc];unfold signed;rw [Nat.shiftLeft_zero];cases neg with
 |true=>have:=h1 rfl;simp only [if_true];congr 1;omega
 |false=>have:=h2 rfl;simp only [qf,if_false];congr 1;omega
end
end Go.Fl
end
section
namespace Go.Fl
open Go Ieee
theorem qmn{a b:Nat}{m n:Int}(ha:IsF a m)(hb:IsF b n)(h:(m+n).natAbs<2 ^ 53):∃r,floatBits .add .f64 a b=some r/\IsF r (m+n):=qBP ha hb h
theorem qwQ{a b:Nat}{m n:Int}(ha:IsF a m)(hb:IsF b n)(h:(m-n).natAbs<2 ^ 53):∃r,floatBits .sub .f64 a b=some r/\IsF r (m-n):=qCt ha hb h
theorem qjm{a b:Nat}{m n:Int}(ha:IsF a m)(hb:IsF b n)(h:(m*n).natAbs<2 ^ 53):∃r,floatBits .mul .f64 a b=some r/\IsF r (m*n):=qCd ha hb h
theorem qAZ{a b c d:Nat}{x y u v:Int}(ha:IsF a x)(hb:IsF b y)(hc:IsF c u)(hd:IsF d v)(h1:(x+u).natAbs<2 ^ 53)(h2:(y+v).natAbs<2 ^ 53) :
  ∃re im,cSumBits .add .f64 a b c d=some (re,im)/\IsF re (x+u)/\IsF im (y+v):=by
 obtain ⟨re,e1,r1⟩:=qmn ha hc h1;obtain ⟨im,e2,r2⟩:=qmn hb hd h2;exact ⟨re,im,by unfold cSumBits;rw [e1,qa,e2,qa],r1,r2⟩
theorem qAX{a b c d:Nat}{x y u v:Int}(ha:IsF a x)(hb:IsF b y)(hc:IsF c u)(hd:IsF d v)
  (h1:(x*u).natAbs<2 ^ 53) (h2:(y*v).natAbs<2 ^ 53) (h3:(x*u-y*v).natAbs<2 ^ 53) (h4:(x*v).natAbs<2 ^ 53) (h5:(y*u).natAbs<2 ^ 53) (h6:(x*v+y*u).natAbs<2 ^ 53) :
  ∃re im,cMulBits a b c d=some (re,im)/\IsF re (x*u-y*v)/\IsF im (x*v+y*u):=by
 obtain ⟨ac,e1,r1⟩:=qjm ha hc h1;obtain ⟨bd,e2,r2⟩:=qjm hb hd h2;obtain ⟨re,e3,r3⟩:=qwQ r1 r2 h3;obtain ⟨ad,e4,r4⟩:=qjm ha hd h4;obtain ⟨bc,e5,r5⟩:=qjm hb hc h5;obtain ⟨im,e6,r6⟩:=qmn r4 r5 h6;exact ⟨re,im,by unfold cMulBits;rw [e1,qa,e2,qa,e3,qa,e4,qa,e5,qa,e6,qa],r3,r6⟩
theorem qpB:IsF 0 0:=by
 have h:=qup (n:=0) (by decide);have e:double.write (.number (decide ((0:Int)<0)) (0:Int).natAbs 0)=0:=by decide
 rw [e]at h;exact h
theorem qvt{n:Int}(h:n.natAbs<2 ^ 53):IsF (FloatKind.f64.nearest n) n:=qup h
end Go.Fl
end
section
namespace Go.Tx
open Go Go.Ab
section
inductive All2 {α β:Type} (R:α->β->Prop):List α->List β->Prop
 |nil:All2 R [] []
 |cons {a b l l'}:R a b->All2 R l l'->All2 R (a::l) (b::l')
section
variable {α β:Type} {R S:α->β->Prop}
theorem All2.length{l:List α}{l':List β}(h:All2 R l l'):l'.length=l.length:=by
 induction h with
 |nil=>rfl
 |cons _ _ ih=>simp [ih]
theorem All2.mono(hrs:∀a b,R a b->S a b){l:List α}{l':List β}(h:All2 R l l'):All2 S l l':=by
 induction h with
 |nil=>exact .nil
 |cons h1 _ ih=>exact .cons (hrs _ _ h1) ih
theorem All2.append{l m:List α}{l' m':List β}(h:All2 R l l')(h':All2 R m m'):All2 R (l++m) (l'++m'):=by
 induction h with
 |nil=>exact h'
 |cons h1 _ ih=>exact .cons h1 ih
theorem All2.take{l:List α}{l':List β}(h:All2 R l l'):∀n,All2 R (l.take n) (l'.take n):=by
 induction h with
 |nil=>intro n;simp;exact .nil
 |cons h1 _ ih=>intro n;cases n with
  |zero=>exact .nil
  |succ n=>exact .cons h1 (ih n)
theorem All2.drop{l:List α}{l':List β}(h:All2 R l l'):∀n,All2 R (l.drop n) (l'.drop n):=by
 induction h with
 |nil=>intro n;simp;exact .nil
 |cons h1 h2 ih=>intro n;cases n with
  |zero=>exact .cons h1 h2
  |succ n=>exact ih n
theorem All2.get{l:List α}{l':List β}(h:All2 R l l'):∀{i:Nat} {a:α},l[i]?=some a->∃b,l'[i]?=some b/\R a b:=by
 induction h with
 |nil=>intro i a h;simp at h
 |cons h1 h2 ih=>intro i a h;cases i with
  |zero=>simp at h;subst h;exact ⟨_,rfl,h1⟩
  |succ n=>exact ih (by simpa using h)
theorem All2.replicate{a:α}{b:β}(h:R a b):∀n,All2 R (List.replicate n a) (List.replicate n b)
 |0=>.nil
 |n+1=>.cons h (All2.replicate h n)
theorem All2.map{γ:Type}{g:β->γ}{S:α->γ->Prop}(hrs:∀a b,R a b->S a (g b)){l:List α}{l':List β}(h:All2 R l l'):All2 S l (l'.map g):=by
 induction h with
 |nil=>exact .nil
 |cons h1 _ ih=>exact .cons (hrs _ _ h1) ih
theorem All2.all{p:β->Prop}(hp:∀a b,R a b->p b){l:List α}{l':List β}(h:All2 R l l'):∀b∈l',p b:=by
 induction h with
 |nil=>simp
 |cons h1 _ ih =>
          intro b hb;rcases qk.1 hb with rfl|hb
          ·exact hp _ _ h1
          ·exact ih b hb
end
def FlR(o:Nat)(f:Fl):Prop:=(o≠2000->(f=.own↔qa1 o=true))/\(o=1000->f=.shared)
def RTy:(τ:Ty)->Nat->τ.den->V->Prop
 |.int k,_,n,v=>v=.val (.int k n)
 |.bool,_,b,v=>v=.val (.bool b)
 |.str,_,s,v=>v=.val (.string ⟨s.toArray⟩)
 |.flt,_,n,v=>∃b,v=.val (.float .f64 b)/\Fl.IsF b n
 |.cx,_,p,v=>∃a b,v=.val (.complex .f64 a b)/\Fl.IsF a p.1/\Fl.IsF b p.2
 |.err,_,x,v=>(x=true/\v=.val .nilIface)\/(x=false/\∃t,v=.iface t .undef)
 |.mset t,_,l,v=>qha t=true/\v=.mp (l.map λx=>(qcx t x,.bool true))
 |.sl t,o,l,v=>∃f c l',v=.sl f c l'/\FlR o f/\All2 (RTy t (nx o)) l l'
 |.nsl t,o,l,v=>(l=[]/\v=.val (.slice none 0 0))\/(l≠[]/\∃f c l',v=.sl f c l'/\FlR o f/\All2 (RTy t (nx o)) l l')
 |.unit,_,_,v=>v=.agg []
 |.pair a b,o,x,v=>∃v1 l,v=.agg (v1::l)/\RTy a o x.1 v1/\RTy b o x.2 (.agg l)
mutual
def RV:TV->V->Prop
 |.any rs,v=>(∀r∈v.qp,r∈rs)/\q3 [v]=false
 |.t τ o x,v=>RTy τ o x v
 |.clp τ x,v=>∃f l',v=.sl f true l'/\f≠.own/\All2 (RTy τ 0) x l'
 |.room a s,v=>(a<2/\∃n,v=.room s n/\(a=0->n=0))\/(2<=a/\(v=.undef\/∃f,f≠.own/\v=.sl f false []))
 |.empty o,v=>∃f c,v=.sl f c []/\FlR o f
 |.val u,v=>v=.val u
 |.agg l,v=>∃l',v=.agg l'/\RVL l l'
 |.tuple l,v=>∃l',v=.tuple l'/\RVL l l'
 |.fn g a b,v=>∃a' b',v=.fn g a' b'/\RVL a a'/\RVL b b'
 |.ptr r o,v=>v=.ptr r o
 |.mref r,v=>v=.mref r
 |.bsl r o n,v=>v=.bsl r o n
 |.yld r,v=>v=.yld r
 |.lp ..,v=>False
 |.cptr s l,v=>∃f l',v=.cptr f l'/\f≠.own/\(s=true->f=.shared)/\RVL l l'
 |.iface t x,v=>∃y,v=.iface t y/\RV x y
def RVL:List TV->List V->Prop
 |[],l=>l=[]
 |x::l,l'=>∃v m,l'=v::m/\RV x v/\RVL l m
end
theorem qv{x:TV}{l:List TV}{v:V}{m:List V}:RVL (x::l) (v::m)↔RV x v/\RVL l m:=by
 simp only [RVL,List.cons.injEq];exact ⟨λ⟨_,_,⟨rfl,rfl⟩,h1,h2⟩=>⟨h1,h2⟩,λ⟨h1,h2⟩=>⟨_,_,⟨rfl,rfl⟩,h1,h2⟩⟩
theorem q7:RVL [] []:=by simp [RVL]
theorem RVL.length:∀{l:List TV} {l':List V},RVL l l'->l'.length=l.length
 |[],l',h=>by simp only [RVL]at h;simp [h]
 |x::l,l',h=>by simp only [RVL]at h;obtain ⟨v,m,rfl,_,h2⟩:=h;simp [RVL.length h2]
theorem RVL.append:∀{l m:List TV} {l' m':List V},RVL l l'->RVL m m'->RVL (l++m) (l'++m')
 |[],m,l',m',h,h'=>by simp only [RVL]at h;simpa [h]using h'
 |x::l,m,l',m',h,h'=>by
  simp only [RVL]at h;obtain ⟨v,n,rfl,h1,h2⟩:=h;exact qv.2 ⟨h1,RVL.append h2 h'⟩
theorem RVL.take:∀{l:List TV} {l':List V} (n:Nat),RVL l l'->RVL (l.take n) (l'.take n)
 |_,_,0,h=>by simp [RVL]
 |[],l',n+1,h=>by simp only [RVL]at h;simp [h,RVL]
 |x::l,l',n+1,h=>by
  simp only [RVL]at h;obtain ⟨v,m,rfl,h1,h2⟩:=h;exact qv.2 ⟨h1,RVL.take n h2⟩
theorem RVL.drop:∀{l:List TV} {l':List V} (n:Nat),RVL l l'->RVL (l.drop n) (l'.drop n)
 |_,_,0,h=>by simpa using h
 |[],l',n+1,h=>by simp only [RVL]at h;simp [h,RVL]
 |x::l,l',n+1,h=>by
  simp only [RVL]at h;obtain ⟨v,m,rfl,h1,h2⟩:=h;exact RVL.drop n h2
theorem RVL.get:∀{l:List TV} {l':List V} {i:Nat} {x:TV},RVL l l'->l[i]?=some x->∃v,l'[i]?=some v/\RV x v
 |[],l',i,x,h,hi=>by simp at hi
 |y::l,l',0,x,h,hi=>by
  simp only [RVL]at h;obtain ⟨v,m,rfl,h1,h2⟩:=h;simp at hi;subst hi;exact ⟨v,rfl,h1⟩
 |y::l,l',i+1,x,h,hi=>by
  simp only [RVL]at h;obtain ⟨v,m,rfl,h1,h2⟩:=h;have hi':l[i]?=some x:=by simpa using hi
  obtain ⟨u,hu,hr⟩:=RVL.get h2 hi';exact ⟨u,by simpa using hu,hr⟩
theorem RVL.set:∀{l:List TV} {l':List V} (i:Nat) {x:TV} {v:V},RVL l l'->RV x v->RVL (l.set i x) (l'.set i v)
 |[],l',i,x,v,h,hx=>by simp only [RVL]at h;simp [h,RVL]
 |y::l,l',0,x,v,h,hx=>by
  simp only [RVL]at h;obtain ⟨u,m,rfl,h1,h2⟩:=h;exact qv.2 ⟨hx,h2⟩
 |y::l,l',i+1,x,v,h,hx=>by
  simp only [RVL]at h;obtain ⟨u,m,rfl,h1,h2⟩:=h;exact qv.2 ⟨h1,RVL.set i h2 hx⟩
theorem qcu(rs:List Root):RV (.any rs) .undef:=by simp [RV,V.qp,q3]
theorem RVL.getD{l:List TV}{l':List V}(h:RVL l l')(i:Nat):RV (l.getD i (.any [])) (l'.getD i .undef):=by
 cases hi:l[i]? with
 |some x=>obtain ⟨v,hv,hr⟩:=h.get hi;simpa [hi,hv]using hr
 |none =>
  have:l'[i]?=none:=by rw [List.getElem?_eq_none_iff]at hi ⊢;rw [h.length];exact hi
  simp only [List.getD_eq_getElem?_getD,hi,this,Option.getD_none];exact qcu []
theorem RVL.replicate{x:TV}{v:V}(h:RV x v):∀n,RVL (List.replicate n x) (List.replicate n v)
 |0=>by simp [RVL]
 |n+1=>qv.2 ⟨h,RVL.replicate h n⟩
theorem RVL.flatten:∀{n:Nat} {l:List TV} {l':List V},RVL l l'->RVL (List.replicate n l).flatten (List.replicate n l').flatten
 |0,_,_,_=>by simp [RVL]
 |n+1,l,l',h=>by simp only [List.replicate_succ,List.flatten_cons];exact h.append (RVL.flatten h)
theorem RVL.head{l:List TV}{l':List V}{x:TV}(h:RVL l l')(hx:l.head?=some x):∃v,l'.head?=some v/\RV x v:=by
 cases l with
 |nil=>simp at hx
 |cons y l =>
  simp only [RVL]at h;obtain ⟨u,m,rfl,h1,h2⟩:=h;simp at hx;subst hx;exact ⟨u,rfl,h1⟩
theorem qdR{o:Nat}:qa1 o=true↔o≠0/\o≠1000/\o≠2000:=by unfold qa1;simp
theorem qjA{o:Nat}:qa1 o=false↔o=0\/o=1000\/o=2000:=by
 have:=@qdR o;cases h:qa1 o with
 |true=>rw [h]at this;simp at this;simp<;>omega
 |false=>rw [h]at this;simp at this;simp<;>omega
theorem FlR.own{o:Nat}{f:Fl}(h:FlR o f)(ho:qa1 o=true):f=.own:=(h.1 (qdR.1 ho).2.2).2 ho
theorem FlR.not{o:Nat}{f:Fl}(h:FlR o f)(ho:qa1 o=false)(h2:o≠2000):f≠.own:=λe=>by have:=(h.1 h2).1 e;rw [ho]at this;cases this
theorem qeD{o:Nat}(h:qa1 o=true):FlR o .own:=⟨λ_=>by simp [h],λe=>absurd e (qdR.1 h).2.1⟩
theorem qfb{o:Nat}{f:Fl}(ho:qa1 o=false)(hf:f≠.own)(h1:o=1000->f=.shared):FlR o f:=⟨λ_=>by simp [hf,ho],h1⟩
theorem qqU(o:Nat):qa1 (dl o)=false/\dl o≠2000/\nx (dl o)=dl o:=by
 have h1:qa1 (dl o)=false:=by rw [qjA];unfold dl;split<;>simp
 refine ⟨h1,by unfold dl;split<;>simp,by unfold nx;rw [h1];rfl⟩
theorem qbT:∀(τ:Ty) (o:Nat) (x:τ.den) (v:V),RTy τ o x v->v.qp=[]
 |.int _,_,_,v,h=>by simp only [RTy]at h;simp [h,V.qp]
 |.bool,_,_,v,h=>by simp only [RTy]at h;simp [h,V.qp]
 |.str,_,_,v,h=>by simp only [RTy]at h;simp [h,V.qp]
 |.flt,_,_,v,h=>by simp only [RTy]at h;obtain ⟨b9,rfl,h9⟩:=h;simp [V.qp]
 |.cx,_,_,v,h=>by simp only [RTy]at h;obtain ⟨a9,b9,rfl,h8,h9⟩:=h;simp [V.qp]
 |.err,_,_,v,h=>by simp only [RTy]at h;rcases h with ⟨_,rfl⟩|⟨_,t9,rfl⟩<;>simp [V.qp]
 |.mset _,_,_,v,h=>by simp only [RTy]at h;obtain ⟨h8,rfl⟩:=h;simp [V.qp]
 |.sl t,o,l,v,h=>by simp only [RTy]at h;obtain ⟨f,c,l',rfl,_⟩:=h;simp [V.qp]
 |.nsl t,o,l,v,h=>by simp only [RTy]at h;rcases h with ⟨_,rfl⟩|⟨_,f,c,l',rfl,_⟩<;>simp [V.qp]
 |.unit,_,_,v,h=>by simp only [RTy]at h;simp [h,V.qp,ptrsL]
 |.pair a b,o,x,v,h=>by
  simp only [RTy]at h;obtain ⟨v1,l,rfl,h1,h2⟩:=h;have e1:=qbT a o _ _ h1;have e2:=qbT b o _ _ h2;simp only [V.qp]at e2;simp [V.qp,ptrsL,e1,e2]
theorem qna{l:List V}{r:Root}:r∈ptrsL l↔∃v∈l,r∈v.qp:=by
 induction l with
 |nil=>simp [ptrsL]
 |cons v l ih=>simp [ptrsL,ih]
mutual
theorem RV.qp:∀(x:TV) (v:V),RV x v->∀r∈v.qp,r∈x.qp
 |.any rs,v,h,r,hr=>by simp only [RV]at h;exact h.1 r hr
 |.t τ o x,v,h,r,hr=>by simp only [RV]at h;rw [qbT τ o x v h]at hr;cases hr
 |.clp τ x,v,h,r,hr=>by simp only [RV]at h;obtain ⟨f,l',rfl,_⟩:=h;simp [V.qp]at hr
 |.room a s,v,h,r,hr=>by simp only [RV]at h;obtain ⟨_,n,rfl,_⟩|⟨_,rfl|⟨f,hf0,rfl⟩⟩:=h<;>simp [V.qp]at hr
 |.empty own,v,h,r,hr=>by simp only [RV]at h;obtain ⟨f,c,rfl,_⟩:=h;simp [V.qp]at hr
 |.val u,v,h,r,hr=>by simp only [RV]at h;simp [h,V.qp]at hr
 |.agg l,v,h,r,hr=>by simp only [RV]at h;obtain ⟨l',rfl,h⟩:=h;simp only [V.qp]at hr;exact RVL.qp l l' h r hr
 |.tuple l,v,h,r,hr=>by simp only [RV]at h;obtain ⟨l',rfl,h⟩:=h;simp only [V.qp]at hr;exact RVL.qp l l' h r hr
 |.fn g a b,v,h,r,hr=>by
  simp only [RV]at h;obtain ⟨a',b',rfl,h1,h2⟩:=h;simp only [V.qp,qj]at hr;simp only [TV.qp,qj];exact hr.imp (RVL.qp a a' h1 r) (RVL.qp b b' h2 r)
 |.ptr q o,v,h,r,hr=>by simp only [RV]at h;rw [h]at hr;simpa [V.qp,TV.qp]using hr
 |.mref q,v,h,r,hr=>by simp only [RV]at h;rw [h]at hr;simpa [V.qp,TV.qp]using hr
 |.bsl q _ _,v,h,r,hr=>by simp only [RV]at h;rw [h]at hr;simpa [V.qp,TV.qp]using hr
 |.yld q,v,h,r,hr=>by simp only [RV]at h;rw [h]at hr;simpa [V.qp,TV.qp]using hr
 |.lp ..,v,h,r,hr=>by simp only [RV]at h
 |.cptr _ l,v,h,r,hr=>by simp only [RV]at h;obtain ⟨_,l',rfl,_,_,h⟩:=h;simp only [V.qp]at hr;exact RVL.qp l l' h r hr
 |.iface t x,v,h,r,hr=>by simp only [RV]at h;obtain ⟨y,rfl,h⟩:=h;simp only [V.qp]at hr;exact RV.qp x y h r hr
theorem RVL.qp:∀(l:List TV) (l':List V),RVL l l'->∀r∈ptrsL l',r∈ptrsTL l
 |[],l',h,r,hr=>by simp only [RVL]at h;simp [h,ptrsL]at hr
 |x::l,l',h,r,hr=>by
  simp only [RVL]at h;obtain ⟨v,m,rfl,h1,h2⟩:=h;simp only [ptrsL,qj]at hr;simp only [ptrsTL,qj];exact hr.imp (RV.qp x v h1 r) (RVL.qp l m h2 r)
end
mutual
theorem RV.ptrs_eq:∀(x:TV) (v:V),x.known=true->RV x v->v.qp=x.qp
 |.any rs,v,hk,h=>by simp [TV.known]at hk
 |.t τ o x,v,_,h=>by simp only [RV]at h;rw [qbT τ o x v h];simp [TV.qp]
 |.clp τ x,v,_,h=>by simp only [RV]at h;obtain ⟨f,l',rfl,_⟩:=h;simp [V.qp,TV.qp]
 |.room a s,v,_,h=>by simp only [RV]at h;obtain ⟨_,n,rfl,_⟩|⟨_,rfl|⟨f,hf0,rfl⟩⟩:=h<;>simp [V.qp,TV.qp]
 |.empty own,v,_,h=>by simp only [RV]at h;obtain ⟨f,c,rfl,_⟩:=h;simp [V.qp,TV.qp]
 |.val u,v,_,h=>by simp only [RV]at h;simp [h,V.qp,TV.qp]
 |.agg l,v,hk,h=>by simp only [RV]at h;obtain ⟨l',rfl,h⟩:=h;simp only [TV.known]at hk;simp only [V.qp,TV.qp];exact RVL.ptrs_eq l l' hk h
 |.tuple l,v,hk,h=>by simp only [RV]at h;obtain ⟨l',rfl,h⟩:=h;simp only [TV.known]at hk;simp only [V.qp,TV.qp];exact RVL.ptrs_eq l l' hk h
 |.fn g a b,v,hk,h=>by
  simp only [RV]at h;obtain ⟨a',b',rfl,h1,h2⟩:=h;simp only [TV.known,qe]at hk;simp only [V.qp,TV.qp,RVL.ptrs_eq a a' hk.1 h1,RVL.ptrs_eq b b' hk.2 h2]
 |.ptr q o,v,_,h=>by simp only [RV]at h;simp [h,V.qp,TV.qp]
 |.mref q,v,_,h=>by simp only [RV]at h;simp [h,V.qp,TV.qp]
 |.bsl q _ _,v,_,h=>by simp only [RV]at h;simp [h,V.qp,TV.qp]
 |.yld q,v,_,h=>by simp only [RV]at h;simp [h,V.qp,TV.qp]
 |.lp ..,v,_,h=>by simp only [RV]at h
 |.cptr _ l,v,hk,h=>by simp only [RV]at h;obtain ⟨_,l',rfl,_,_,h⟩:=h;simp only [TV.known]at hk;simp only [V.qp,TV.qp];exact RVL.ptrs_eq l l' hk h
 |.iface t x,v,hk,h=>by simp [TV.known]at hk
theorem RVL.ptrs_eq:∀(l:List TV) (l':List V),knownL l=true->RVL l l'->ptrsL l'=ptrsTL l
 |[],l',_,h=>by simp only [RVL]at h;simp [h,ptrsL,ptrsTL]
 |x::l,l',hk,h=>by
  simp only [RVL]at h;obtain ⟨v,m,rfl,h1,h2⟩:=h;simp only [knownL,qe]at hk;simp only [ptrsL,ptrsTL,RV.ptrs_eq x v hk.1 h1,RVL.ptrs_eq l m hk.2 h2]
end
theorem qac(g:Fl->Fl):∀l:List V,reflagL g l=l.map (V.reflag g)
 |[]=>rfl
 |v::l=>by simp [reflagL,qac g l]
theorem qzu{n:Nat}(h:qa1 (n+1)=true):nx (n+1)=n/\n+1≠1000:=by
 have:=qdR.1 h;refine ⟨by unfold nx;rw [h];simp,this.2.1⟩
theorem qho:∀(τ:Ty) (o:Nat) (x:τ.den) (v:V),RTy τ (dl o) x v->RTy τ 0 x v
 |.int _,_,_,v,h=>by simpa only [RTy]using h
 |.bool,_,_,v,h=>by simpa only [RTy]using h
 |.str,_,_,v,h=>by simpa only [RTy]using h
 |.flt,_,_,v,h=>by simpa only [RTy]using h
 |.cx,_,_,v,h=>by simpa only [RTy]using h
 |.err,_,_,v,h=>by simpa only [RTy]using h
 |.mset _,_,_,v,h=>by simpa only [RTy]using h
 |.sl t,o,l,v,h=>by
  obtain ⟨hno,h20,hnx⟩:=qqU o;simp only [RTy]at h ⊢;obtain ⟨f,c,l',rfl,h1,h⟩:=h;rw [hnx]at h;exact ⟨f,c,l',rfl,qfb rfl (h1.not hno h20) (λh=>by cases h),h.mono λa b hab=>qho t o a b hab⟩
 |.nsl t,o,l,v,h=>by
  obtain ⟨hno,h20,hnx⟩:=qqU o;simp only [RTy]at h ⊢;rcases h with h|⟨hne,f,c,l',rfl,h1,h⟩
  ·exact .inl h
  rw [hnx]at h;exact .inr ⟨hne,f,c,l',rfl,qfb rfl (h1.not hno h20) (λh=>by cases h),h.mono λa b hab=>qho t o a b hab⟩
 |.unit,_,_,v,h=>by simpa only [RTy]using h
 |.pair a b,o,x,v,h=>by
  simp only [RTy]at h ⊢;obtain ⟨v1,l,rfl,h1,h2⟩:=h;exact ⟨v1,l,rfl,qho a o _ _ h1,qho b o _ _ h2⟩
theorem qgA{g:Fl->Fl}(hg:∀f,g f≠.own)(hs:g .shared=.shared):∀(τ:Ty) (o:Nat) (x:τ.den) (v:V),RTy τ o x v->RTy τ (dl o) x (v.reflag g)
 |.int _,_,_,v,h=>by simp only [RTy]at h ⊢;simp [h,V.reflag]
 |.bool,_,_,v,h=>by simp only [RTy]at h ⊢;simp [h,V.reflag]
 |.str,_,_,v,h=>by simp only [RTy]at h ⊢;simp [h,V.reflag]
 |.flt,_,_,v,h=>by simp only [RTy]at h ⊢;obtain ⟨b9,rfl,h9⟩:=h;exact ⟨b9,by simp [V.reflag],h9⟩
 |.cx,_,_,v,h=>by simp only [RTy]at h ⊢;obtain ⟨a9,b9,rfl,h8,h9⟩:=h;exact ⟨a9,b9,by simp [V.reflag],h8,h9⟩
 |.err,_,_,v,h=>by simp only [RTy]at h ⊢;rcases h with ⟨hx,rfl⟩|⟨hx,t9,rfl⟩;exact .inl ⟨hx,by simp [V.reflag]⟩;exact .inr ⟨hx,t9,by simp [V.reflag]⟩
 |.mset _,_,_,v,h=>by simp only [RTy]at h ⊢;obtain ⟨h8,rfl⟩:=h;exact ⟨h8,by simp [V.reflag]⟩
 |.sl t,o,l,v,h=>by
  simp only [RTy]at h ⊢;obtain ⟨f,c,l',rfl,h0,h⟩:=h;obtain ⟨hno,h20,hnx⟩:=qqU o;refine ⟨g f,c,reflagL g l',by simp [V.reflag],qfb hno (hg f) (λh1=>?_),?_⟩
  ·have ho:o=1000:=by
    unfold dl at h1;split at h1
    ·assumption
    ·cases h1
   rw [h0.2 ho];exact hs
  ·rw [qac,hnx];refine h.map λa b hab=>?_;have h3:=qgA hg hs t _ a b hab;by_cases ho:o=1000
   ·subst ho;exact h3
   ·have:dl o=0:=by unfold dl;rw [if_neg ho]
    rw [this];exact qho t _ a _ h3
 |.nsl t,o,l,v,h=>by
  simp only [RTy]at h ⊢;rcases h with ⟨hx,rfl⟩|⟨hne,f,c,l',rfl,h0,h⟩
  ·exact .inl ⟨hx,by simp [V.reflag]⟩
  obtain ⟨hno,h20,hnx⟩:=qqU o;refine .inr ⟨hne,g f,c,reflagL g l',by simp [V.reflag],qfb hno (hg f) (λh1=>?_),?_⟩
  ·have ho:o=1000:=by
    unfold dl at h1;split at h1
    ·assumption
    ·cases h1
   rw [h0.2 ho];exact hs
  ·rw [qac,hnx];refine h.map λa b hab=>?_;have h3:=qgA hg hs t _ a b hab;by_cases ho:o=1000
   ·subst ho;exact h3
   ·have:dl o=0:=by unfold dl;rw [if_neg ho]
    rw [this];exact qho t _ a _ h3
 |.unit,_,_,v,h=>by simp only [RTy]at h ⊢;simp [h,V.reflag,reflagL]
 |.pair a b,o,x,v,h=>by
  simp only [RTy]at h ⊢;obtain ⟨v1,l,rfl,h1,h2⟩:=h;refine ⟨v1.reflag g,reflagL g l,by simp [V.reflag,reflagL],qgA hg hs a o _ _ h1,?_⟩;have:=qgA hg hs b o _ _ h2;simpa only [V.reflag]using this
theorem qhW{g:Fl->Fl}(hg:∀f,g f=.own↔f=.own)(hs:g .shared=.shared):∀(τ:Ty) (o:Nat) (x:τ.den) (v:V),RTy τ o x v->RTy τ o x (v.reflag g)
 |.int _,_,_,v,h=>by simp only [RTy]at h ⊢;simp [h,V.reflag]
 |.bool,_,_,v,h=>by simp only [RTy]at h ⊢;simp [h,V.reflag]
 |.str,_,_,v,h=>by simp only [RTy]at h ⊢;simp [h,V.reflag]
 |.flt,_,_,v,h=>by simp only [RTy]at h ⊢;obtain ⟨b9,rfl,h9⟩:=h;exact ⟨b9,by simp [V.reflag],h9⟩
 |.cx,_,_,v,h=>by simp only [RTy]at h ⊢;obtain ⟨a9,b9,rfl,h8,h9⟩:=h;exact ⟨a9,b9,by simp [V.reflag],h8,h9⟩
 |.err,_,_,v,h=>by simp only [RTy]at h ⊢;rcases h with ⟨hx,rfl⟩|⟨hx,t9,rfl⟩;exact .inl ⟨hx,by simp [V.reflag]⟩;exact .inr ⟨hx,t9,by simp [V.reflag]⟩
 |.mset _,_,_,v,h=>by simp only [RTy]at h ⊢;obtain ⟨h8,rfl⟩:=h;exact ⟨h8,by simp [V.reflag]⟩
 |.sl t,o,l,v,h=>by
  simp only [RTy]at h ⊢;obtain ⟨f,c,l',rfl,ho,h⟩:=h;refine ⟨g f,c,reflagL g l',by simp [V.reflag],⟨λh2=>by rw [hg f];exact ho.1 h2,λh1=>by rw [ho.2 h1];exact hs⟩,?_⟩;rw [qac];exact h.map λa b hab=>qhW hg hs t _ a b hab
 |.nsl t,o,l,v,h=>by
  simp only [RTy]at h ⊢;rcases h with ⟨hx,rfl⟩|⟨hne,f,c,l',rfl,ho,h⟩
  ·exact .inl ⟨hx,by simp [V.reflag]⟩
  refine .inr ⟨hne,g f,c,reflagL g l',by simp [V.reflag],⟨λh2=>by rw [hg f];exact ho.1 h2,λh1=>by rw [ho.2 h1];exact hs⟩,?_⟩;rw [qac];exact h.map λa b hab=>qhW hg hs t _ a b hab
 |.unit,_,_,v,h=>by simp only [RTy]at h ⊢;simp [h,V.reflag,reflagL]
 |.pair a b,o,x,v,h=>by
  simp only [RTy]at h ⊢;obtain ⟨v1,l,rfl,h1,h2⟩:=h;refine ⟨v1.reflag g,reflagL g l,by simp [V.reflag,reflagL],qhW hg hs a o _ _ h1,?_⟩;have:=qhW hg hs b o _ _ h2;simpa only [V.reflag]using this
theorem qpC{g:Fl->Fl}{l:List V}(h:q3 l=false):q3 (reflagL g l)=false:=by
 cases l with
 |nil=>rfl
 |cons x l=>cases x with
  |lp=>simp [q3]at h
  |room s n =>
   simp only [reflagL,V.reflag];by_cases h1:g .own=.own
   ·rw [if_pos h1];rfl
   ·rw [if_neg h1];by_cases h2:n=0
    ·rw [if_pos h2];rfl
    ·rw [if_neg h2];rfl
  |_=>rfl
theorem qdE{g:Fl->Fl}{v:V}(h:q3 [v]=false):q3 [v.reflag g]=false:=qpC (g:=g) h
theorem qfj(g:Fl->Fl)(v:V):(v.reflag g).qp=v.qp:=by
 have:=ptrsL_reflag g [v];simpa [reflagL,ptrsL]using this
mutual
theorem RV.dull'{g:Fl->Fl}(hg:∀f,g f≠.own)(hs:g .shared=.shared):∀(x:TV) (v:V),RV x v->RV x.q8 (v.reflag g)
 |.any rs,v,h=>by simp only [TV.q8,RV]at h ⊢;rw [qfj];exact ⟨h.1,qdE h.2⟩
 |.t τ o x,v,h=>by simp only [TV.q8,RV]at h ⊢;exact qgA hg hs τ o x v h
 |.clp τ x,v,h=>by
  simp only [TV.q8,RV]at h ⊢;obtain ⟨f,l',rfl,_,h⟩:=h;refine ⟨g f,reflagL g l',by simp [V.reflag],hg f,?_⟩;rw [qac];exact h.map λa b hab=>qho τ 0 a _ (qgA hg hs τ _ a b hab)
 |.room a s,v,h=>by
  simp only [RV]at h;rcases a with _|a
  ·obtain ⟨_,n,rfl,h0⟩|⟨h9,_⟩:=h
   ·obtain rfl:=h0 rfl;simp only [TV.q8,RV,V.reflag,if_neg (hg .own),if_true];exact ⟨_,_,rfl,qfb (by decide) (hg .own) (λh1=>by cases h1)⟩
   ·omega
  ·simp only [TV.q8,RV];refine .inr ⟨Nat.le_refl _,?_⟩;obtain ⟨_,n,rfl,_⟩|⟨_,rfl|⟨f,hf0,rfl⟩⟩:=h
   ·simp only [V.reflag,if_neg (hg .own)];split
    ·exact .inr ⟨_,hg _,rfl⟩
    ·exact .inl rfl
   ·exact .inl rfl
   ·exact .inr ⟨g f,hg f,by simp [V.reflag,reflagL]⟩
 |.empty o,v,h=>by
  simp only [TV.q8,RV]at h ⊢;obtain ⟨f,c,rfl,h0⟩:=h;refine ⟨g f,c,by simp [V.reflag,reflagL],qfb (qqU o).1 (hg f) (λh1=>?_)⟩;have ho:o=1000:=by
   unfold dl at h1;split at h1
   ·assumption
   ·cases h1
  rw [h0.2 ho];exact hs
 |.val u,v,h=>by simp only [TV.q8,RV]at h ⊢;simp [h,V.reflag]
 |.agg l,v,h=>by simp only [TV.q8,RV]at h ⊢;obtain ⟨l',rfl,h⟩:=h;exact ⟨_,by simp only [V.reflag],RVL.dull' hg hs l l' h⟩
 |.tuple l,v,h=>by simp only [TV.q8,RV]at h ⊢;obtain ⟨l',rfl,h⟩:=h;exact ⟨_,by simp only [V.reflag],RVL.dull' hg hs l l' h⟩
 |.fn g' a b,v,h=>by simp only [TV.q8,RV]at h ⊢;obtain ⟨a',b',rfl,h1,h2⟩:=h;exact ⟨_,_,by simp only [V.reflag],RVL.dull' hg hs a a' h1,RVL.dull' hg hs b b' h2⟩
 |.ptr q o,v,h=>by simp only [TV.q8,RV]at h ⊢;simp [h,V.reflag]
 |.mref q,v,h=>by simp only [TV.q8,RV]at h ⊢;simp [h,V.reflag]
 |.bsl q _ _,v,h=>by simp only [TV.q8,RV]at h ⊢;simp [h,V.reflag]
 |.yld q,v,h=>by simp only [TV.q8,RV]at h ⊢;simp [h,V.reflag]
 |.lp ..,v,h=>by simp only [RV]at h
 |.cptr s l,v,h=>by simp only [TV.q8,RV]at h ⊢;obtain ⟨f,l',rfl,_,hsh,h⟩:=h;exact ⟨g f,_,by simp only [V.reflag],hg f,λe=>(by rw [hsh e];exact hs),RVL.dull' hg hs l l' h⟩
 |.iface t x,v,h=>by simp only [TV.q8,RV]at h ⊢;obtain ⟨y,rfl,h⟩:=h;exact ⟨_,by simp only [V.reflag],RV.dull' hg hs x y h⟩
theorem RVL.dull'{g:Fl->Fl}(hg:∀f,g f≠.own)(hs:g .shared=.shared):∀(l:List TV) (l':List V),RVL l l'->RVL (dullL l) (reflagL g l')
 |[],l',h=>by simp only [RVL]at h;simp [h,dullL,reflagL,RVL]
 |x::l,l',h=>by
  simp only [RVL]at h;obtain ⟨v,m,rfl,h1,h2⟩:=h;simp only [dullL,reflagL];exact qv.2 ⟨RV.dull' hg hs x v h1,RVL.dull' hg hs l m h2⟩
end
mutual
theorem RV.qnO{g:Fl->Fl}(hg:∀f,g f=.own↔f=.own)(hs:g .shared=.shared):∀(x:TV) (v:V),RV x v->RV x (v.reflag g)
 |.any rs,v,h=>by simp only [RV]at h ⊢;rw [qfj];exact ⟨h.1,qdE h.2⟩
 |.t τ o x,v,h=>by simp only [RV]at h ⊢;exact qhW hg hs τ o x v h
 |.clp τ x,v,h=>by
  simp only [RV]at h ⊢;obtain ⟨f,l',rfl,h0,h⟩:=h;refine ⟨g f,reflagL g l',by simp [V.reflag],λe=>h0 ((hg f).1 e),?_⟩;rw [qac];exact h.map λa b hab=>qhW hg hs τ _ a b hab
 |.room a s,v,h=>by
  simp only [RV]at h ⊢;obtain ⟨h1,n,rfl,h0⟩|⟨h1,rfl|⟨f,hf0,rfl⟩⟩:=h
  ·exact .inl ⟨h1,n,by simp only [V.reflag,if_pos ((hg .own).2 rfl)],h0⟩
  ·exact .inr ⟨h1,.inl rfl⟩
  ·exact .inr ⟨h1,.inr ⟨g f,λe=>hf0 ((hg f).1 e),by simp [V.reflag,reflagL]⟩⟩
 |.empty o,v,h=>by simp only [RV]at h ⊢;obtain ⟨f,c,rfl,h0⟩:=h;exact ⟨g f,c,by simp [V.reflag,reflagL],⟨λh2=>by rw [hg f];exact h0.1 h2,λh1=>by rw [h0.2 h1];exact hs⟩⟩
 |.val u,v,h=>by simp only [RV]at h ⊢;simp [h,V.reflag]
 |.agg l,v,h=>by simp only [RV]at h ⊢;obtain ⟨l',rfl,h⟩:=h;exact ⟨_,by simp only [V.reflag],RVL.qnO hg hs l l' h⟩
 |.tuple l,v,h=>by simp only [RV]at h ⊢;obtain ⟨l',rfl,h⟩:=h;exact ⟨_,by simp only [V.reflag],RVL.qnO hg hs l l' h⟩
 |.fn g' a b,v,h=>by simp only [RV]at h ⊢;obtain ⟨a',b',rfl,h1,h2⟩:=h;exact ⟨_,_,by simp only [V.reflag],RVL.qnO hg hs a a' h1,RVL.qnO hg hs b b' h2⟩
 |.ptr q o,v,h=>by simp only [RV]at h ⊢;simp [h,V.reflag]
 |.mref q,v,h=>by simp only [RV]at h ⊢;simp [h,V.reflag]
 |.bsl q _ _,v,h=>by simp only [RV]at h ⊢;simp [h,V.reflag]
 |.yld q,v,h=>by simp only [RV]at h ⊢;simp [h,V.reflag]
 |.lp ..,v,h=>by simp only [RV]at h
 |.cptr s l,v,h=>by simp only [RV]at h ⊢;obtain ⟨f,l',rfl,h0,hsh,h⟩:=h;exact ⟨g f,_,by simp only [V.reflag],λe=>h0 ((hg f).1 e),λe=>(by rw [hsh e];exact hs),RVL.qnO hg hs l l' h⟩
 |.iface t x,v,h=>by simp only [RV]at h ⊢;obtain ⟨y,rfl,h⟩:=h;exact ⟨_,by simp only [V.reflag],RV.qnO hg hs x y h⟩
theorem RVL.qnO{g:Fl->Fl}(hg:∀f,g f=.own↔f=.own)(hs:g .shared=.shared):∀(l:List TV) (l':List V),RVL l l'->RVL l (reflagL g l')
 |[],l',h=>by simp only [RVL]at h;simp [h,reflagL,RVL]
 |x::l,l',h=>by
  simp only [RVL]at h;obtain ⟨v,m,rfl,h1,h2⟩:=h;simp only [reflagL];exact qv.2 ⟨RV.qnO hg hs x v h1,RVL.qnO hg hs l m h2⟩
end
theorem qko(f:Fl):qW f≠.own:=by cases f<;>simp [qW]
theorem RV.q8{x:TV}{v:V}(h:RV x v):RV x.q8 v.q8:=RV.dull' qko rfl x v h
theorem RVL.q8{l:List TV}{l':List V}(h:RVL l l'):RVL (dullL l) (reflagL qW l'):=RVL.dull' qko rfl l l' h
theorem RVL.qpS{g:Fl->Fl}(hg:∀f,g f≠.own)(hs:g .shared=.shared){l:List TV}{l':List V}(h:RVL l l'):RVL (dullL l) (l'.map (V.reflag g)):=by
 rw [<- qac];exact RVL.dull' hg hs l l' h
theorem qm2{l:List V}:ownsL l=true↔∃v∈l,v.owns=true:=by
 induction l with
 |nil=>simp [ownsL]
 |cons v l ih=>simp [ownsL,ih]
theorem qe4{α β:Type}{R:α->β->Prop}{l:List α}{l':List β}(h:All2 R l l'):∀b∈l',∃a∈l,R a b:=by
 induction h with
 |nil=>simp
 |cons h1 _ ih =>
  intro b hb;rcases qk.1 hb with rfl|hb
  ·exact ⟨_,by simp,h1⟩
  ·obtain ⟨a,ha,hr⟩:=ih b hb;exact ⟨a,by simp [ha],hr⟩
theorem qhX:∀(τ:Ty) (o:Nat) (x:τ.den) (v:V),RTy τ o x v->v.owns=true->(qa1 o=true\/o=2000)/\0<τ.depth
 |.int _,_,_,v,h,ho=>by simp only [RTy]at h;simp [h,V.owns]at ho
 |.bool,_,_,v,h,ho=>by simp only [RTy]at h;simp [h,V.owns]at ho
 |.str,_,_,v,h,ho=>by simp only [RTy]at h;simp [h,V.owns]at ho
 |.flt,_,_,v,h,ho=>by simp only [RTy]at h;obtain ⟨b9,rfl,h9⟩:=h;simp [V.owns]at ho
 |.cx,_,_,v,h,ho=>by simp only [RTy]at h;obtain ⟨a9,b9,rfl,h8,h9⟩:=h;simp [V.owns]at ho
 |.err,_,_,v,h,ho=>by simp only [RTy]at h;rcases h with ⟨_,rfl⟩|⟨_,t9,rfl⟩<;>simp [V.owns]at ho
 |.mset _,_,_,v,h,ho=>by simp only [RTy]at h;obtain ⟨h8,rfl⟩:=h;simp [V.owns]at ho
 |.sl t,o,l,v,h,ho=>by
  simp only [RTy]at h;obtain ⟨f,c,l',rfl,hf,h⟩:=h;simp only [V.owns,Bool.or_eq_true,decide_eq_true_eq]at ho;simp only [Ty.depth];refine ⟨?_,by omega⟩;by_cases h2:o=2000
  ·exact .inr h2
  left
  rcases ho with ho|ho
  ·exact (hf.1 h2).1 ho
  ·obtain ⟨b,hb,hbo⟩:=qm2.1 ho;obtain ⟨a,_,hr⟩:=qe4 h b hb;have:=(qhX t _ a b hr hbo).1;cases hno:qa1 o with
   |true=>rfl
   |false =>
    unfold nx at this;rw [hno]at this;simp only [qf,if_false,hno,false_or]at this;exact absurd this h2
 |.nsl t,o,l,v,h,ho=>by
  simp only [RTy]at h;rcases h with ⟨_,rfl⟩|⟨_,f,c,l',rfl,hf,h⟩
  ·simp [V.owns]at ho
  simp only [V.owns,Bool.or_eq_true,decide_eq_true_eq]at ho;simp only [Ty.depth];refine ⟨?_,by omega⟩;by_cases h2:o=2000
  ·exact .inr h2
  left
  rcases ho with ho|ho
  ·exact (hf.1 h2).1 ho
  ·obtain ⟨b,hb,hbo⟩:=qm2.1 ho;obtain ⟨a,_,hr⟩:=qe4 h b hb;have:=(qhX t _ a b hr hbo).1;cases hno:qa1 o with
   |true=>rfl
   |false =>
    unfold nx at this;rw [hno]at this;simp only [qf,if_false,hno,false_or]at this;exact absurd this h2
 |.unit,_,_,v,h,ho=>by simp only [RTy]at h;simp [h,V.owns,ownsL]at ho
 |.pair a b,o,x,v,h,ho=>by
  simp only [RTy]at h;obtain ⟨v1,l,rfl,h1,h2⟩:=h;simp only [V.owns,ownsL,Bool.or_eq_true]at ho;simp only [Ty.depth];rcases ho with ho|ho
  ·have:=qhX a o _ _ h1 ho;exact ⟨this.1,by omega⟩
  ·have:=qhX b o _ _ h2 (by simpa only [V.owns]using ho);exact ⟨this.1,by omega⟩
mutual
theorem RV.owns:∀(x:TV) (v:V),RV x v->v.owns=true->x.owns=true
 |.any rs,v,h,ho=>by simp [TV.owns]
 |.t τ o x,v,h,ho=>by simp only [RV]at h;have:=qhX τ o x v h ho;simpa [TV.owns]using this
 |.clp τ x,v,h,ho=>by
  simp only [RV]at h;obtain ⟨f,l',rfl,hf,h⟩:=h;simp only [V.owns,Bool.or_eq_true,decide_eq_true_eq]at ho;rcases ho with ho|ho
  ·exact absurd ho hf
  ·obtain ⟨b,hb,hbo⟩:=qm2.1 ho;obtain ⟨a,_,hr⟩:=qe4 h b hb;have:=(qhX τ _ a b hr hbo).1;simp [qa1]at this
 |.room a s,v,h,ho=>rfl
 |.empty o,v,h,ho=>by
  simp only [RV]at h;obtain ⟨f,c,rfl,hf⟩:=h;simp only [V.owns,ownsL,Bool.or_false,decide_eq_true_eq]at ho;simp only [TV.owns,Bool.or_eq_true,decide_eq_true_eq];by_cases h2:o=2000
  ·exact .inr h2
  ·exact .inl ((hf.1 h2).1 ho)
 |.val u,v,h,ho=>by simp only [RV]at h;simp [h,V.owns]at ho
 |.agg l,v,h,ho=>by simp only [RV]at h;obtain ⟨l',rfl,h⟩:=h;simp only [V.owns,TV.owns]at ho ⊢;exact RVL.owns l l' h ho
 |.tuple l,v,h,ho=>by simp only [RV]at h;obtain ⟨l',rfl,h⟩:=h;simp only [V.owns,TV.owns]at ho ⊢;exact RVL.owns l l' h ho
 |.fn g a b,v,h,ho=>by
  simp only [RV]at h;obtain ⟨a',b',rfl,h1,h2⟩:=h;simp only [V.owns,TV.owns,Bool.or_eq_true]at ho ⊢;exact ho.imp (RVL.owns a a' h1) (RVL.owns b b' h2)
 |.ptr q o,v,h,ho=>by simp only [RV]at h;simp [h,V.owns]at ho
 |.mref q,v,h,ho=>by simp only [RV]at h;simp [h,V.owns]at ho
 |.bsl q _ _,v,h,ho=>by simp only [RV]at h;simp [h,V.owns]at ho
 |.yld q,v,h,ho=>by simp only [RV]at h;simp [h,V.owns]at ho
 |.lp ..,v,h,ho=>by simp only [RV]at h
 |.cptr _ l,v,h,ho=>by simp only [RV]at h;obtain ⟨f,l',rfl,h0,_,h⟩:=h;simp only [V.owns,TV.owns,h0,decide_false,Bool.false_or]at ho ⊢;exact RVL.owns l l' h ho
 |.iface t x,v,h,ho=>by simp only [RV]at h;obtain ⟨y,rfl,h⟩:=h;simp only [V.owns,TV.owns]at ho ⊢;exact RV.owns x y h ho
theorem RVL.owns:∀(l:List TV) (l':List V),RVL l l'->ownsL l'=true->ownsTL l=true
 |[],l',h,ho=>by simp only [RVL]at h;simp [h,ownsL]at ho
 |x::l,l',h,ho=>by
  simp only [RVL]at h;obtain ⟨v,m,rfl,h1,h2⟩:=h;simp only [ownsL,ownsTL,Bool.or_eq_true]at ho ⊢;exact ho.imp (RV.owns x v h1) (RVL.owns l m h2)
end
theorem qx5{τ:Ty}(h1:τ.one=true){o:Nat}{x:τ.den}{v:V}(h:RTy τ o x v):v.one=true:=by
 cases τ with
 |unit=>simp [Ty.one]at h1
 |pair a b=>simp [Ty.one]at h1
 |sl t=>simp only [RTy]at h;obtain ⟨f,c,l',rfl,_⟩:=h;rfl
 |nsl t=>simp only [RTy]at h;rcases h with ⟨_,rfl⟩|⟨_,f,c,l',rfl,_⟩<;>rfl
 |flt=>simp only [RTy]at h;obtain ⟨b9,rfl,_⟩:=h;rfl
 |cx=>simp only [RTy]at h;obtain ⟨a9,b9,rfl,_⟩:=h;rfl
 |err=>simp only [RTy]at h;rcases h with ⟨_,rfl⟩|⟨_,t9,rfl⟩<;>rfl
 |mset t=>simp [Ty.one]at h1
 |_=>simp only [RTy]at h;subst h;rfl
theorem RV.one{x:TV}{v:V}(h1:x.one=true)(h:RV x v):v.one=true:=by
 cases x with
 |any rs=>simp [TV.one]at h1
 |t τ o x=>simp only [RV]at h;exact qx5 h1 h
 |clp τ x=>simp only [RV]at h;obtain ⟨f,l',rfl,_⟩:=h;rfl
 |room a s=>simp [TV.one]at h1
 |empty own=>simp only [RV]at h;obtain ⟨f,c,rfl,_⟩:=h;rfl
 |val u=>simp only [RV]at h;subst h;exact h1
 |agg l=>simp [TV.one]at h1
 |tuple l=>simp [TV.one]at h1
 |fn g a b=>simp only [RV]at h;obtain ⟨a',b',rfl,_⟩:=h;rfl
 |ptr r o=>simp only [RV]at h;subst h;rfl
 |mref r=>simp only [RV]at h;subst h;rfl
 |bsl r o n=>simp only [RV]at h;subst h;rfl
 |yld r=>simp only [RV]at h;subst h;rfl
 |lp s pe g env ps a b=>simp only [RV]at h
 |cptr _ l=>simp only [RV]at h;obtain ⟨_,l',rfl,_⟩:=h;rfl
 |iface t x=>simp only [RV]at h;obtain ⟨y,rfl,_⟩:=h;rfl
theorem qwD{v:V}(h:v.one=true):v.cells=[v]:=by cases v<;>first|rfl|simp [V.one]at h
theorem RVL.qCX:∀{l:List TV} {l':List V},l.all TV.one=true->RVL l l'->l'.all V.one=true
 |[],l',_,h=>by simp only [RVL]at h;simp [h]
 |x::l,l',h1,h=>by
  simp only [RVL]at h;obtain ⟨v,m,rfl,h2,h3⟩:=h;simp only [List.all_cons,qe]at h1 ⊢;exact ⟨RV.one h1.1 h2,RVL.qCX h1.2 h3⟩
theorem RV.cells{x:TV}{v:V}(hk:x.oks=true)(h:RV x v):RVL x.cells v.cells/\v.oks=true:=by
 by_cases hx:∃l,x=.agg l
 ·obtain ⟨l,rfl⟩:=hx;simp only [RV]at h;obtain ⟨l',rfl,h⟩:=h;simp only [TV.oks,TV.cells]at hk;exact ⟨h,RVL.qCX hk h⟩
 ·have hc:x.cells=[x]:=by cases x<;>first|rfl|exact absurd ⟨_,rfl⟩ hx
  have h1:x.one=true:=by simpa [TV.oks,hc]using hk
  have hv:=RV.one h1 h;have hcv:=qwD hv;rw [hc,hcv];exact ⟨qv.2 ⟨h,q7⟩,by simp [V.oks,hcv,hv]⟩
theorem qdt{c:List V}(h1:q3 c=false)(h2:qf9 c=false):qdg c=false:=by
 cases c with
 |nil=>rfl
 |cons x l=>cases x<;>first|rfl|(simp [q3]at h1;done)|(simp [qf9]at h2)
theorem qaz{l:List TV}{l':List V}(h:RVL l l'):q3 l'=false:=by
 cases l with
 |nil=>simp only [RVL]at h;simp [h,q3]
 |cons x l =>
  simp only [RVL]at h;obtain ⟨v,m,rfl,h1,_⟩:=h;cases v with
  |lp s pe g env ps a b =>
   exfalso
   cases x with
   |any rs=>simp [RV,q3]at h1
   |t τ o x =>
    cases τ<;>simp [RV,RTy]at h1
   |lp=>simp only [RV]at h1
   |_=>simp [RV]at h1
  |_=>rfl
mutual
theorem rv_ofTy:∀(τ:Ty) (o:Nat) (x:τ.den) (v:V),RTy τ o x v->RV (ofTy τ o x) v
 |.int _,_,_,v,h=>by simpa only [ofTy,RV]using h
 |.bool,_,_,v,h=>by simpa only [ofTy,RV]using h
 |.str,_,_,v,h=>by simpa only [ofTy,RV]using h
 |.flt,_,_,v,h=>by simpa only [ofTy,RV]using h
 |.cx,_,_,v,h=>by simpa only [ofTy,RV]using h
 |.err,_,_,v,h=>by simpa only [ofTy,RV]using h
 |.mset _,_,_,v,h=>by simpa only [ofTy,RV]using h
 |.sl t,o,l,v,h=>by simpa only [ofTy,RV]using h
 |.nsl t,o,l,v,h=>by simpa only [ofTy,RV]using h
 |.unit,_,_,v,h=>by simp only [RTy]at h;simp [h,ofTy,RV,RVL]
 |.pair a b,o,x,v,h=>by
  simp only [RTy]at h;obtain ⟨v1,l,rfl,h1,h2⟩:=h;simp only [ofTy,RV];exact ⟨_,rfl,qv.2 ⟨rv_ofTy a o _ _ h1,rv_ofTyC b o _ l h2⟩⟩
theorem rv_ofTyC:∀(τ:Ty) (o:Nat) (x:τ.den) (l:List V),RTy τ o x (.agg l)->RVL (ofTyC τ o x) l
 |.int _,_,_,l,h=>by simp [RTy]at h
 |.bool,_,_,l,h=>by simp [RTy]at h
 |.str,_,_,l,h=>by simp [RTy]at h
 |.flt,_,_,l,h=>by simp [RTy]at h
 |.cx,_,_,l,h=>by simp [RTy]at h
 |.err,_,_,l,h=>by simp [RTy]at h
 |.mset _,_,_,l,h=>by simp [RTy]at h
 |.sl t,o,x,l,h=>by simp [RTy]at h
 |.nsl t,o,x,l,h=>by simp [RTy]at h
 |.unit,_,_,l,h=>by simp only [RTy,V.agg.injEq]at h;simp [h,ofTyC,RVL]
 |.pair a b,o,x,l,h=>by
  simp only [RTy,V.agg.injEq]at h;obtain ⟨v1,m,rfl,h1,h2⟩:=h;simp only [ofTyC];exact qv.2 ⟨rv_ofTy a o _ _ h1,rv_ofTyC b o _ m h2⟩
end
theorem qur{τ:Ty}(h:τ.one=true)(o:Nat)(x:τ.den):(ofTy τ o x).one=true:=by cases τ<;>first|rfl|simp [Ty.one]at h
theorem qoG:∀(τ:Ty),τ.qnu=true->∀(o:Nat) (x:τ.den),(ofTyC τ o x).all TV.one=true
 |.unit,_,o,x=>rfl
 |.pair a b,h,o,x=>by
  simp only [Ty.qnu,qe]at h;simp only [ofTyC,List.all_cons,qe];exact ⟨qur h.1 o _,qoG b h.2 o _⟩
 |.int _,h,_,_|.bool,h,_,_|.str,h,_,_|.flt,h,_,_|.cx,h,_,_|.err,h,_,_|.mset _,h,_,_|.nsl _,h,_,_|.sl _,h,_,_=>by simp [Ty.qnu]at h
theorem qpV{τ:Ty}(h:τ.qbY=true)(o:Nat)(x:τ.den):(ofTy τ o x).oks=true:=by
 cases τ with
 |unit=>rfl
 |pair a b =>
  simp only [Ty.qbY,qe]at h;simp only [ofTy,TV.oks,TV.cells,List.all_cons,qe];exact ⟨qur h.1 o _,qoG b h.2 o _⟩
 |mset t=>simp [Ty.qbY]at h
 |_=>rfl
theorem qlg:∀(τ:Ty),τ.qnu=true->∀(o:Nat) (x:τ.den),(ofTyC τ o x).length=τ.qbk
 |.unit,_,o,x=>rfl
 |.pair a b,h,o,x=>by
  simp only [Ty.qnu,qe]at h;simp [ofTyC,Ty.qbk,qlg b h.2 o x.2]
 |.int _,h,_,_|.bool,h,_,_|.str,h,_,_|.flt,h,_,_|.cx,h,_,_|.err,h,_,_|.mset _,h,_,_|.nsl _,h,_,_|.sl _,h,_,_=>by simp [Ty.qnu]at h
theorem qta{τ:Ty}(h:τ.qbY=true)(o:Nat)(x:τ.den):(ofTy τ o x).cells.length=τ.qbk:=by
 cases τ with
 |unit=>rfl
 |pair a b =>
  simp only [Ty.qbY,qe]at h;simp [ofTy,TV.cells,Ty.qbk,qlg b h.2 o x.2]
 |_=>rfl
theorem qkN{τ:Ty}(h:τ.qbY=true){o:Nat}{x:τ.den}{v:V}(hr:RTy τ o x v):v.cells.length=τ.qbk/\v.oks=true:=by
 obtain ⟨h1,h2⟩:=RV.cells (qpV h o x) (rv_ofTy τ o x v hr);exact ⟨by rw [h1.length,qta h],h2⟩
theorem qsJ:∀{d d':Nat} {o' o:Nat},d'<=d->fits d o' o=true->fits d' o' o=true
 |_,0,_,_,_,_=>rfl
 |0,d'+1,_,_,h,_=>by omega
 |d+1,d'+1,o',o,h,hf=>by
  simp only [fits,Bool.or_eq_true,qe]at hf ⊢;exact hf.imp id λhf=>⟨hf.1,qsJ (by omega) hf.2⟩
theorem qpw{o' o d:Nat}{f:Fl}(h:fits (d+1) o' o=true)(hf:FlR o' f):FlR o f/\(o=2000\/fits d (nx o') (nx o)=true):=by
 simp only [fits,Bool.or_eq_true,qe,decide_eq_true_eq,beq_iff_eq,Bool.not_eq_true',decide_eq_false_iff_not]at h;rcases h with rfl|⟨⟨⟨h1,h2⟩,h3⟩,h4⟩
 ·exact ⟨⟨λh=>absurd rfl h,λh=>by cases h⟩,.inl rfl⟩
 ·exact ⟨⟨λ_=>by rw [hf.1 h2,h1],λh=>hf.2 (h3.resolve_left λh5=>h5 h)⟩,.inr h4⟩
theorem qmq:∀(d o:Nat),fits d o 2000=true
 |0,_=>rfl
 |d+1,o=>by simp [fits]
theorem qeQ:∀(τ:Ty) (o o':Nat) (x:τ.den) (v:V),fits τ.depth o o'=true->RTy τ o x v->RTy τ o' x v
 |.int _,_,_,_,v,_,h=>by simpa only [RTy]using h
 |.bool,_,_,_,v,_,h=>by simpa only [RTy]using h
 |.str,_,_,_,v,_,h=>by simpa only [RTy]using h
 |.flt,_,_,_,v,_,h=>by simpa only [RTy]using h
 |.cx,_,_,_,v,_,h=>by simpa only [RTy]using h
 |.err,_,_,_,v,_,h=>by simpa only [RTy]using h
 |.mset _,_,_,_,v,_,h=>by simpa only [RTy]using h
 |.unit,_,_,_,v,_,h=>by simpa only [RTy]using h
 |.sl t,o,o',l,v,hm,h=>by
  simp only [Ty.depth]at hm;simp only [RTy]at h ⊢;obtain ⟨f,c,l',rfl,hf,h⟩:=h;obtain ⟨h1,h2⟩:=qpw hm hf;refine ⟨f,c,l',rfl,h1,h.mono λa b hab=>qeQ t _ _ a b ?_ hab⟩;rcases h2 with rfl|h2
  ·exact qmq _ _
  ·exact h2
 |.nsl t,o,o',l,v,hm,h=>by
  simp only [Ty.depth]at hm;simp only [RTy]at h ⊢;rcases h with h|⟨hne,f,c,l',rfl,hf,h⟩
  ·exact .inl h
  obtain ⟨h1,h2⟩:=qpw hm hf;refine .inr ⟨hne,f,c,l',rfl,h1,h.mono λa b hab=>qeQ t _ _ a b ?_ hab⟩;rcases h2 with rfl|h2
  ·exact qmq _ _
  ·exact h2
 |.pair a b,o,o',x,v,hm,h=>by
  simp only [Ty.depth]at hm;simp only [RTy]at h ⊢;obtain ⟨v1,l,rfl,h3,h4⟩:=h;exact ⟨v1,l,rfl,qeQ a _ _ _ _ (qsJ (by omega) hm) h3,qeQ b _ _ _ _ (qsJ (by omega) hm) h4⟩
theorem qc2:∀(τ:Ty) (o:Nat) (w:TV) (x:τ.den) (v:V),qee τ o w=some x->RV w v->RTy τ o x v:=by
 have dflt:∀(τ:Ty) (o:Nat) (τ':Ty) (o':Nat) (y:τ'.den) (x:τ.den) (v:V),(if h:τ'=τ then (if fits τ.depth o' o=true then some (cast' h y)else none)else none)=some x->RTy τ' o' y v->RTy τ o x v:=by
  intro τ o τ' o' y x v h hr;split at h
  ·rename_i he;split at h
   ·rename_i hm;simp only [qb]at h;subst h;subst he;exact qeQ _ _ _ _ _ hm hr
   ·cases h
  ·cases h
 intro τ;induction τ with
 |int k =>
  intro o w x v h hr;cases w<;>simp only [qee]at h<;>first|cases h|exact dflt _ _ _ _ _ _ _ h (by simpa only [RV]using hr)
 |bool =>
  intro o w x v h hr;cases w<;>simp only [qee]at h<;>first|cases h|exact dflt _ _ _ _ _ _ _ h (by simpa only [RV]using hr)
 |str =>
  intro o w x v h hr;cases w<;>simp only [qee]at h<;>first|cases h|exact dflt _ _ _ _ _ _ _ h (by simpa only [RV]using hr)
 |flt =>
  intro o w x v h hr;cases w<;>simp only [qee]at h<;>first|cases h|exact dflt _ _ _ _ _ _ _ h (by simpa only [RV]using hr)
 |cx =>
  intro o w x v h hr;cases w<;>simp only [qee]at h<;>first|cases h|exact dflt _ _ _ _ _ _ _ h (by simpa only [RV]using hr)
 |err =>
  intro o w x v h hr;cases w<;>simp only [qee]at h<;>first|cases h|exact dflt _ _ _ _ _ _ _ h (by simpa only [RV]using hr)
 |mset t =>
  intro o w x v h hr;cases w<;>simp only [qee]at h<;>first|cases h|exact dflt _ _ _ _ _ _ _ h (by simpa only [RV]using hr)
 |sl t ih =>
  intro o w x v h hr;cases w with
  |empty own =>
   simp only [qee]at h;split at h
   ·rename_i ho;simp only [qb]at h;subst h;simp only [RV]at hr;obtain ⟨f,c,rfl,hf⟩:=hr;simp only [RTy];exact ⟨f,c,[],rfl,(qpw ho hf).1,.nil⟩
   ·cases h
  |t τ' o' y =>
   cases τ' with
   |nsl t' =>
    simp only [qee]at h;split at h
    ·rename_i he;subst he;split at h
     ·rename_i hm;have h':nel y=some x:=h;cases y with
      |nil=>cases h'
      |cons a l =>
       simp only [nel,qb]at h';subst h';simp only [RV,RTy]at hr;rcases hr with ⟨h0,_⟩|⟨_,hr⟩
       ·cases h0
       ·have key:=qeQ (.sl t') o' o (a::l) v hm (by simpa only [RTy]using hr);exact key
     ·cases h
    ·cases h
   |_=>simp only [qee]at h;exact dflt _ _ _ _ _ _ _ h (by simpa only [RV]using hr)
  |_=>simp [qee]at h
 |nsl t ih =>
  intro o w x v h hr;cases w with
  |val u =>
   cases u with
   |slice p a b =>
    cases p with
    |some p=>simp [qee]at h
    |none =>
     match a,b with
     |0,0 =>
      simp only [qee,qb]at h;subst h;simp only [RV]at hr;subst hr;simp only [RTy];exact .inl ⟨trivial,trivial⟩
     |_+1,_=>simp [qee]at h
     |0,_+1=>simp [qee]at h
   |_=>simp [qee]at h
  |t τ' o' y =>
   cases τ' with
   |sl t' =>
    simp only [qee]at h;split at h
    ·rename_i he;subst he;split at h
     ·rename_i hm;have h':nel y=some x:=h;cases y with
      |nil=>cases h'
      |cons a l =>
       simp only [nel,qb]at h';subst h';simp only [RV]at hr;have:=qeQ (.sl t') o' o _ _ hm hr;simp only [RTy]at this ⊢;exact .inr ⟨by simp,this⟩
     ·cases h
    ·cases h
   |_=>simp only [qee]at h;exact dflt _ _ _ _ _ _ _ h (by simpa only [RV]using hr)
  |_=>simp [qee]at h
 |unit =>
  intro o w x v h hr;cases w with
  |agg l =>
   cases l with
   |nil=>simp only [RV]at hr;obtain ⟨l',rfl,h1⟩:=hr;simp only [RVL]at h1;simp [RTy,h1]
   |cons=>simp [qee]at h
  |t τ' o' y=>simp only [qee]at h;exact dflt _ _ _ _ _ _ _ h (by simpa only [RV]using hr)
  |_=>simp [qee]at h
 |pair a b iha ihb =>
  intro o w x v h hr;cases w with
  |agg l =>
   cases l with
   |nil=>simp [qee]at h
   |cons u l =>
    simp only [qee]at h;obtain ⟨y,hy,h⟩:=qd.1 h;obtain ⟨z,hz,h⟩:=qd.1 h;simp only [qb]at h;subst h;simp only [RV]at hr;obtain ⟨l',rfl,hl⟩:=hr;simp only [RVL]at hl;obtain ⟨v1,m,rfl,h1,h2⟩:=hl;simp only [RTy];exact ⟨v1,m,rfl,iha _ _ _ _ hy h1,ihb _ _ _ _ hz (by simp only [RV];exact ⟨m,rfl,h2⟩)⟩
  |t τ' o' y=>simp only [qee]at h;exact dflt _ _ _ _ _ _ _ h (by simpa only [RV]using hr)
  |_=>simp [qee]at h
theorem ql8:∀(ps:List (Ty×Nat)) (l:List TV) (x:denL (ps.map (·.1))) (l':List V),asL ps l=some x->RVL l l'->RVL (ofL ps x) l'
 |[],l,x,l',h,hr=>by
  cases l with
  |nil=>simpa [ofL]using hr
  |cons=>simp [asL]at h
 |[(τ,o)],l,x,l',h,hr=>by
  match l,h,hr with
  |[v],h,hr =>
   simp only [asL]at h;simp only [RVL]at hr;obtain ⟨u,m,rfl,h1,rfl⟩:=hr;simp only [ofL];exact qv.2 ⟨rv_ofTy _ _ _ _ (qc2 _ _ _ _ _ h h1),q7⟩
  |[],h,hr=>simp [asL]at h
  |_::_::_,h,hr=>simp [asL]at h
 |(τ,o)::q::ps,l,x,l',h,hr=>by
  match l,h,hr with
  |[],h,hr=>simp [asL]at h
  |v::l,h,hr =>
   simp only [asL]at h;obtain ⟨y,hy,h⟩:=qd.1 h;obtain ⟨z,hz,h⟩:=qd.1 h;simp only [qb]at h;subst h;simp only [RVL]at hr;obtain ⟨u,m,rfl,h1,h2⟩:=hr;simp only [ofL];exact qv.2 ⟨rv_ofTy _ _ _ _ (qc2 _ _ _ _ _ hy h1),ql8 (q::ps) l _ _ hz h2⟩
theorem qtW{τ:Ty}{o:Nat}:∀(l:List TV) (x:List τ.den) (l':List V),qwo τ o l=some x->RVL l l'->All2 (RTy τ o) x l'
 |[],x,l',h,hr=>by simp only [qwo,qb]at h;simp only [RVL]at hr;subst h;subst hr;exact .nil
 |v::l,x,l',h,hr=>by
  simp only [qwo]at h;obtain ⟨y,hy,h⟩:=qd.1 h;obtain ⟨z,hz,h⟩:=qd.1 h;simp only [qb]at h;subst h;simp only [RVL]at hr;obtain ⟨u,m,rfl,h1,h2⟩:=hr;exact .cons (qc2 _ _ _ _ _ hy h1) (qtW l _ _ hz h2)
theorem qqc(p:Bool)(u:Value):RV (qlp p u) (qcG p u):=by
 unfold qlp qcG;split
 ·simp [RV,RTy]
 ·simp [RV,RTy]
 ·simp [RV,RTy]
 ·simp only [RV,RTy];exact ⟨0,rfl,Fl.qpB⟩
 ·simp only [RV,RTy];exact ⟨0,0,rfl,Fl.qpB,Fl.qpB⟩
 ·cases p
  ·simp only [RV,qej,qf,if_false];exact ⟨_,_,rfl,qeD rfl⟩
  ·simp [RV,qej]
 ·rename_i h1 h2 h3 h4 h5 h6;split
  ·exact absurd rfl h6
  ·simp [RV]
theorem qtt{g:Value->TV}{h:Value->V}(hr:∀u,RV (g u) (h u)):∀l:List Value,RVL (l.map g) (l.map h)
 |[]=>q7
 |u::l=>qv.2 ⟨hr u,qtt hr l⟩
theorem quE(p:Bool)(u:Value):RV (qmg p u) (ofConst p u):=by
 have key:=qqc p u;cases u<;>first|exact key|(simp only [qmg,ofConst,RV];exact ⟨_,rfl,qtt (qqc p) _⟩)
theorem qeR:∀(τ:Ty) (o:Nat) (x:τ.den) (v:V),RTy τ o x v->RTy τ 1000 x (v.reflag qJ)
 |.int _,_,_,v,h=>by simp only [RTy]at h ⊢;simp [h,V.reflag]
 |.bool,_,_,v,h=>by simp only [RTy]at h ⊢;simp [h,V.reflag]
 |.str,_,_,v,h=>by simp only [RTy]at h ⊢;simp [h,V.reflag]
 |.flt,_,_,v,h=>by simp only [RTy]at h ⊢;obtain ⟨b9,rfl,h9⟩:=h;exact ⟨b9,by simp [V.reflag],h9⟩
 |.cx,_,_,v,h=>by simp only [RTy]at h ⊢;obtain ⟨a9,b9,rfl,h8,h9⟩:=h;exact ⟨a9,b9,by simp [V.reflag],h8,h9⟩
 |.err,_,_,v,h=>by simp only [RTy]at h ⊢;rcases h with ⟨hx,rfl⟩|⟨hx,t9,rfl⟩;exact .inl ⟨hx,by simp [V.reflag]⟩;exact .inr ⟨hx,t9,by simp [V.reflag]⟩
 |.mset _,_,_,v,h=>by simp only [RTy]at h ⊢;obtain ⟨h8,rfl⟩:=h;exact ⟨h8,by simp [V.reflag]⟩
 |.sl t,o,l,v,h=>by
  simp only [RTy]at h ⊢;obtain ⟨f,c,l',rfl,_,h⟩:=h;refine ⟨.shared,c,reflagL qJ l',by simp [V.reflag,qJ],qfb rfl (by simp) (λ_=>rfl),?_⟩;rw [qac];exact h.map λa b hab=>qeR t _ a b hab
 |.nsl t,o,l,v,h=>by
  simp only [RTy]at h ⊢;rcases h with ⟨hx,rfl⟩|⟨hne,f,c,l',rfl,_,h⟩
  ·exact .inl ⟨hx,by simp [V.reflag]⟩
  refine .inr ⟨hne,.shared,c,reflagL qJ l',by simp [V.reflag,qJ],qfb rfl (by simp) (λ_=>rfl),?_⟩;rw [qac];exact h.map λa b hab=>qeR t _ a b hab
 |.unit,_,_,v,h=>by simp only [RTy]at h ⊢;simp [h,V.reflag,reflagL]
 |.pair a b,o,x,v,h=>by
  simp only [RTy]at h ⊢;obtain ⟨v1,l,rfl,h1,h2⟩:=h;refine ⟨v1.reflag qJ,reflagL qJ l,by simp [V.reflag,reflagL],qeR a o _ _ h1,?_⟩;have:=qeR b o _ _ h2;simpa only [V.reflag]using this
mutual
theorem RV.share:∀(x:TV) (v:V),RV x v->RV x.share (v.reflag qJ)
 |.any rs,v,h=>by simp only [TV.share,RV]at h ⊢;rw [qfj];exact ⟨h.1,qdE h.2⟩
 |.t τ o x,v,h=>by simp only [TV.share,RV]at h ⊢;exact qeR τ o x v h
 |.clp τ x,v,h=>by
  simp only [TV.share,RV,RTy]at h ⊢;obtain ⟨f,l',rfl,_,h⟩:=h;refine ⟨.shared,true,reflagL qJ l',by simp [V.reflag,qJ],qfb rfl (by simp) (λ_=>rfl),?_⟩;rw [qac];exact h.map λa b hab=>qeR τ _ a b hab
 |.room a s,v,h=>by
  simp only [RV]at h;rcases a with _|a
  ·obtain ⟨_,n,rfl,h0⟩|⟨h9,_⟩:=h
   ·obtain rfl:=h0 rfl;simp only [TV.share,RV,V.reflag,qJ];exact ⟨.shared,false,by simp,qfb rfl (by simp) (λ_=>rfl)⟩
   ·omega
  ·simp only [TV.share,RV];refine .inr ⟨Nat.le_refl _,?_⟩;obtain ⟨_,n,rfl,_⟩|⟨_,rfl|⟨f,hf0,rfl⟩⟩:=h
   ·by_cases hn:n=0
    ·exact .inr ⟨.shared,by simp,by simp [V.reflag,qJ,hn]⟩
    ·exact .inl (by simp [V.reflag,qJ,hn])
   ·exact .inl rfl
   ·exact .inr ⟨.shared,by simp,by simp [V.reflag,reflagL,qJ]⟩
 |.empty own,v,h=>by simp only [TV.share,RV]at h ⊢;obtain ⟨f,c,rfl,_⟩:=h;exact ⟨.shared,c,by simp [V.reflag,reflagL,qJ],qfb rfl (by simp) (λ_=>rfl)⟩
 |.val u,v,h=>by simp only [TV.share,RV]at h ⊢;simp [h,V.reflag]
 |.agg l,v,h=>by simp only [TV.share,RV]at h ⊢;obtain ⟨l',rfl,h⟩:=h;exact ⟨_,by simp only [V.reflag],RVL.share l l' h⟩
 |.tuple l,v,h=>by simp only [TV.share,RV]at h ⊢;obtain ⟨l',rfl,h⟩:=h;exact ⟨_,by simp only [V.reflag],RVL.share l l' h⟩
 |.fn g' a b,v,h=>by simp only [TV.share,RV]at h ⊢;obtain ⟨a',b',rfl,h1,h2⟩:=h;exact ⟨_,_,by simp only [V.reflag],RVL.share a a' h1,RVL.share b b' h2⟩
 |.ptr q o,v,h=>by simp only [TV.share,RV]at h ⊢;simp [h,V.reflag]
 |.mref q,v,h=>by simp only [TV.share,RV]at h ⊢;simp [h,V.reflag]
 |.bsl q _ _,v,h=>by simp only [TV.share,RV]at h ⊢;simp [h,V.reflag]
 |.yld q,v,h=>by simp only [TV.share,RV]at h ⊢;simp [h,V.reflag]
 |.lp ..,v,h=>by simp only [RV]at h
 |.cptr _ l,v,h=>by simp only [TV.share,RV]at h ⊢;obtain ⟨f,l',rfl,_,_,h⟩:=h;exact ⟨.shared,_,by simp only [V.reflag,qJ],by simp,λ_=>rfl,RVL.share l l' h⟩
 |.iface t x,v,h=>by simp only [TV.share,RV]at h ⊢;obtain ⟨y,rfl,h⟩:=h;exact ⟨_,by simp only [V.reflag],RV.share x y h⟩
theorem RVL.share:∀(l:List TV) (l':List V),RVL l l'->RVL (shareL l) (reflagL qJ l')
 |[],l',h=>by simp only [RVL]at h;simp [h,shareL,reflagL,RVL]
 |x::l,l',h=>by
  simp only [RVL]at h;obtain ⟨v,m,rfl,h1,h2⟩:=h;simp only [shareL,reflagL];exact qv.2 ⟨RV.share x v h1,RVL.share l m h2⟩
end
theorem quf{o:Nat}:qa1 (lo o)=qa1 o:=by
 rw [Bool.eq_iff_iff,qdR,qdR];unfold lo;split<;>omega
theorem qCf{o:Nat}:nx (lo o)=lo (nx o):=by
 have h1:=@quf o;unfold nx;rw [h1];cases ho:qa1 o with
 |false=>rfl
 |true =>
  have:=qdR.1 ho;simp only [if_true];unfold lo;split<;>split<;>omega
theorem qBd{o:Nat}:lo o=2000↔o=2000:=by unfold lo;split<;>omega
theorem qwU{g:Fl->Fl}(hg:∀f,g f=.own↔f=.own){o:Nat}{f:Fl}(h:FlR o f):FlR (lo o) (g f) :=
 ⟨λh2=>by rw [hg f,quf];exact h.1 (λe=>h2 (qBd.2 e)),λh1=>by unfold lo at h1;split at h1<;>omega⟩
theorem qoT{g:Fl->Fl}(hg:∀f,g f=.own↔f=.own):∀(τ:Ty) (o:Nat) (x:τ.den) (v:V),RTy τ o x v->RTy τ (lo o) x (v.reflag g)
 |.int _,_,_,v,h=>by simp only [RTy]at h ⊢;simp [h,V.reflag]
 |.bool,_,_,v,h=>by simp only [RTy]at h ⊢;simp [h,V.reflag]
 |.str,_,_,v,h=>by simp only [RTy]at h ⊢;simp [h,V.reflag]
 |.flt,_,_,v,h=>by simp only [RTy]at h ⊢;obtain ⟨b9,rfl,h9⟩:=h;exact ⟨b9,by simp [V.reflag],h9⟩
 |.cx,_,_,v,h=>by simp only [RTy]at h ⊢;obtain ⟨a9,b9,rfl,h8,h9⟩:=h;exact ⟨a9,b9,by simp [V.reflag],h8,h9⟩
 |.err,_,_,v,h=>by simp only [RTy]at h ⊢;rcases h with ⟨hx,rfl⟩|⟨hx,t9,rfl⟩;exact .inl ⟨hx,by simp [V.reflag]⟩;exact .inr ⟨hx,t9,by simp [V.reflag]⟩
 |.mset _,_,_,v,h=>by simp only [RTy]at h ⊢;obtain ⟨h8,rfl⟩:=h;exact ⟨h8,by simp [V.reflag]⟩
 |.sl t,o,l,v,h=>by
  simp only [RTy]at h ⊢;obtain ⟨f,c,l',rfl,hf,h⟩:=h;refine ⟨g f,c,reflagL g l',by simp [V.reflag],qwU hg hf,?_⟩;rw [qac,qCf];exact h.map λa b hab=>qoT hg t _ a b hab
 |.nsl t,o,l,v,h=>by
  simp only [RTy]at h ⊢;rcases h with ⟨hx,rfl⟩|⟨hne,f,c,l',rfl,hf,h⟩
  ·exact .inl ⟨hx,by simp [V.reflag]⟩
  refine .inr ⟨hne,g f,c,reflagL g l',by simp [V.reflag],qwU hg hf,?_⟩;rw [qac,qCf];exact h.map λa b hab=>qoT hg t _ a b hab
 |.unit,_,_,v,h=>by simp only [RTy]at h ⊢;simp [h,V.reflag,reflagL]
 |.pair a b,o,x,v,h=>by
  simp only [RTy]at h ⊢;obtain ⟨v1,l,rfl,h1,h2⟩:=h;refine ⟨v1.reflag g,reflagL g l,by simp [V.reflag,reflagL],qoT hg a o _ _ h1,?_⟩;have:=qoT hg b o _ _ h2;simpa only [V.reflag]using this
theorem qhH{τ:Ty}{o:Nat}{x:τ.den}{v:V}(h:RTy τ o x v):q3 [v]=false:=by
 cases τ with
 |int _=>simp only [RTy]at h;subst h;rfl
 |bool=>simp only [RTy]at h;subst h;rfl
 |str=>simp only [RTy]at h;subst h;rfl
 |flt=>simp only [RTy]at h;obtain ⟨b9,rfl,_⟩:=h;rfl
 |cx=>simp only [RTy]at h;obtain ⟨a9,b9,rfl,_⟩:=h;rfl
 |err=>simp only [RTy]at h;rcases h with ⟨_,rfl⟩|⟨_,t9,rfl⟩<;>rfl
 |mset t=>simp only [RTy]at h;obtain ⟨_,rfl⟩:=h;rfl
 |sl t=>simp only [RTy]at h;obtain ⟨f,c,l',rfl,_⟩:=h;rfl
 |nsl t=>simp only [RTy]at h;rcases h with ⟨_,rfl⟩|⟨_,f,c,l',rfl,_⟩<;>rfl
 |unit=>simp only [RTy]at h;subst h;rfl
 |pair a b=>simp only [RTy]at h;obtain ⟨v1,l,rfl,_⟩:=h;rfl
mutual
theorem RV.lo{g:Fl->Fl}(hg:∀f,g f=.own↔f=.own):∀(x:TV) (v:V),RV x v->RV x.qa8 (v.reflag g)
 |.any rs,v,h=>by simp only [TV.qa8,RV]at h ⊢;rw [qfj];exact ⟨h.1,qdE h.2⟩
 |.t τ o x,v,h=>by simp only [TV.qa8,RV]at h ⊢;exact qoT hg τ o x v h
 |.clp τ x,v,h=>by
  simp only [TV.qa8,RV]at h ⊢;obtain ⟨f,l',rfl,h0,h⟩:=h;refine ⟨g f,reflagL g l',by simp [V.reflag],λe=>h0 ((hg f).1 e),?_⟩;rw [qac];exact h.map λa b hab=>qoT hg τ 0 a b hab
 |.room a s,v,h=>by
  simp only [TV.qa8,RV]at h ⊢;obtain ⟨h1,n,rfl,h0⟩|⟨h1,rfl|⟨f,hf0,rfl⟩⟩:=h
  ·exact .inl ⟨h1,n,by simp only [V.reflag,if_pos ((hg .own).2 rfl)],h0⟩
  ·exact .inr ⟨h1,.inl rfl⟩
  ·exact .inr ⟨h1,.inr ⟨g f,λe=>hf0 ((hg f).1 e),by simp [V.reflag,reflagL]⟩⟩
 |.empty own,v,h=>by simp only [TV.qa8,RV]at h ⊢;obtain ⟨f,c,rfl,h0⟩:=h;exact ⟨g f,c,by simp [V.reflag,reflagL],qwU hg h0⟩
 |.val u,v,h=>by simp only [TV.qa8,RV]at h ⊢;simp [h,V.reflag]
 |.agg l,v,h=>by simp only [TV.qa8,RV]at h ⊢;obtain ⟨l',rfl,h⟩:=h;exact ⟨_,by simp only [V.reflag],RVL.lo hg l l' h⟩
 |.tuple l,v,h=>by simp only [TV.qa8,RV]at h ⊢;obtain ⟨l',rfl,h⟩:=h;exact ⟨_,by simp only [V.reflag],RVL.lo hg l l' h⟩
 |.fn g' a b,v,h=>by simp only [TV.qa8,RV]at h ⊢;obtain ⟨a',b',rfl,h1,h2⟩:=h;exact ⟨_,_,by simp only [V.reflag],RVL.lo hg a a' h1,RVL.lo hg b b' h2⟩
 |.ptr q o,v,h=>by simp only [TV.qa8,RV]at h ⊢;simp [h,V.reflag]
 |.mref q,v,h=>by simp only [TV.qa8,RV]at h ⊢;simp [h,V.reflag]
 |.bsl q _ _,v,h=>by simp only [TV.qa8,RV]at h ⊢;simp [h,V.reflag]
 |.yld q,v,h=>by simp only [TV.qa8,RV]at h ⊢;simp [h,V.reflag]
 |.lp ..,v,h=>by simp only [RV]at h
 |.cptr _ l,v,h=>by simp only [TV.qa8,RV]at h ⊢;obtain ⟨f,l',rfl,h0,_,h⟩:=h;exact ⟨g f,_,by simp only [V.reflag],λe=>h0 ((hg f).1 e),λe=>(by cases e),RVL.lo hg l l' h⟩
 |.iface t x,v,h=>by simp only [TV.qa8,RV]at h ⊢;obtain ⟨y,rfl,h⟩:=h;exact ⟨_,by simp only [V.reflag],RV.lo hg x y h⟩
theorem RVL.lo{g:Fl->Fl}(hg:∀f,g f=.own↔f=.own):∀(l:List TV) (l':List V),RVL l l'->RVL (loosenL l) (reflagL g l')
 |[],l',h=>by simp only [RVL]at h;simp [h,loosenL,reflagL,RVL]
 |x::l,l',h=>by
  simp only [RVL]at h;obtain ⟨v,m,rfl,h1,h2⟩:=h;simp only [loosenL,reflagL];exact qv.2 ⟨RV.lo hg x v h1,RVL.lo hg l m h2⟩
end
mutual
theorem reflag_id:∀v:V,v.reflag (λf=>f)=v
 |.undef|.val _|.ptr .. | .yld _|.mref _|.bsl .. | .mp _|.lp ..=>by simp [V.reflag]
 |.cptr _ l=>by simp only [V.reflag,reflagL_id l]
 |.room ..=>by simp [V.reflag]
 |.sl f c l=>by simp only [V.reflag,reflagL_id l]
 |.fn g a b=>by simp only [V.reflag,reflagL_id a,reflagL_id b]
 |.iface t x=>by simp only [V.reflag,reflag_id x]
 |.agg l=>by simp only [V.reflag,reflagL_id l]
 |.tuple l=>by simp only [V.reflag,reflagL_id l]
theorem reflagL_id:∀l:List V,reflagL (λf=>f) l=l
 |[]=>rfl
 |v::l=>by simp only [reflagL,reflag_id v,reflagL_id l]
end
theorem RV.lo0{x:TV}{v:V}(h:RV x v):RV x.qa8 v:=by
 have:=RV.lo (g:=λf=>f) (λf=>Iff.rfl) x v h
 rwa [reflag_id]at this
theorem qyn{o d:Nat}(h:sure o (d+1)=true):sure (nx o) d=true:=by
 unfold nx;cases ho:qa1 o with
 |false =>
  rcases qjA.1 ho with rfl|rfl|rfl
  ·simp [sure]at h
  ·simp [sure]
  ·simp [sure]at h
 |true =>
  have:=qdR.1 ho;simp only [if_true];unfold sure at h ⊢;by_cases h1:o<1000
  ·rw [if_pos h1]at h;rw [if_pos (by omega)];simp only [decide_eq_true_eq]at h ⊢;omega
  ·by_cases h2:o<2000
   ·by_cases h3:o-1<1000
    ·omega
    ·rw [if_neg h3,if_pos (by omega)]
   ·rw [if_neg h1,if_neg h2]at h;simp only [decide_eq_true_eq]at h;rw [if_neg (by omega),if_neg (by omega)];simp only [decide_eq_true_eq]<;>omega
theorem qym{o d d':Nat}(h:sure o d=true)(hd:d'<=d):sure o d'=true:=by
 unfold sure at h ⊢;by_cases h1:o<1000
 ·rw [if_pos h1]at h ⊢;simp only [decide_eq_true_eq]at h ⊢;omega
 ·by_cases h2:o<2000
  ·rw [if_neg h1,if_pos h2]
  ·rw [if_neg h1,if_neg h2]at h ⊢;simp only [decide_eq_true_eq]at h ⊢;omega
theorem qqi{o d:Nat}{f:Fl}(h:sure o (d+1)=true)(hf:FlR o f):f≠.q8:=by
 cases ho:qa1 o with
 |true=>rw [hf.own ho];simp
 |false =>
  rcases qjA.1 ho with rfl|rfl|rfl
  ·simp [sure]at h
  ·rw [hf.2 rfl];simp
  ·simp [sure]at h
theorem quk{l:List V}(h:∀x∈l,x.loose=false):looseL l=false:=by
 induction l with
 |nil=>rfl
 |cons a l ih =>
  simp only [looseL,Bool.or_eq_false_iff];exact ⟨h a (by simp),ih λx hx=>h x (by simp [hx])⟩
theorem qfR:∀(τ:Ty) (o:Nat) (x:τ.den) (v:V),sure o τ.depth=true->RTy τ o x v->v.soft=false/\v.loose=false
 |.int _,_,_,v,_,h=>by simp only [RTy]at h;subst h;exact ⟨rfl,rfl⟩
 |.bool,_,_,v,_,h=>by simp only [RTy]at h;subst h;exact ⟨rfl,rfl⟩
 |.str,_,_,v,_,h=>by simp only [RTy]at h;subst h;exact ⟨rfl,rfl⟩
 |.flt,_,_,v,_,h=>by simp only [RTy]at h;obtain ⟨b9,rfl,h9⟩:=h;exact ⟨rfl,rfl⟩
 |.cx,_,_,v,_,h=>by simp only [RTy]at h;obtain ⟨a9,b9,rfl,h8,h9⟩:=h;exact ⟨rfl,rfl⟩
 |.err,_,_,v,_,h=>by simp only [RTy]at h;rcases h with ⟨_,rfl⟩|⟨_,t9,rfl⟩<;>exact ⟨rfl,rfl⟩
 |.mset _,_,_,v,_,h=>by simp only [RTy]at h;obtain ⟨h8,rfl⟩:=h;exact ⟨rfl,rfl⟩
 |.sl t,o,l,v,hf,h=>by
  simp only [RTy]at h;obtain ⟨f,c,l',rfl,ho,h⟩:=h;simp only [Ty.depth]at hf;have hnd:=qqi hf ho;have hall:∀b∈l',b.soft=false/\b.loose=false:=λb hb=>by
   obtain ⟨a,_,hr⟩:=qe4 h b hb;exact qfR t _ a b (qyn hf) hr
  simp only [V.soft,V.loose,Bool.or_eq_false_iff,decide_eq_false_iff_not,Bool.and_eq_false_iff];exact ⟨⟨.inl hnd,quI λb hb=>(hall b hb).1⟩,hnd,quk λb hb=>(hall b hb).2⟩
 |.nsl t,o,l,v,hf,h=>by
  simp only [RTy]at h;rcases h with ⟨_,rfl⟩|⟨_,f,c,l',rfl,ho,h⟩
  ·exact ⟨rfl,rfl⟩
  simp only [Ty.depth]at hf;have hnd:=qqi hf ho;have hall:∀b∈l',b.soft=false/\b.loose=false:=λb hb=>by
   obtain ⟨a,_,hr⟩:=qe4 h b hb;exact qfR t _ a b (qyn hf) hr
  simp only [V.soft,V.loose,Bool.or_eq_false_iff,decide_eq_false_iff_not,Bool.and_eq_false_iff];exact ⟨⟨.inl hnd,quI λb hb=>(hall b hb).1⟩,hnd,quk λb hb=>(hall b hb).2⟩
 |.unit,_,_,v,_,h=>by simp only [RTy]at h;subst h;exact ⟨rfl,rfl⟩
 |.pair a b,o,x,v,hf,h=>by
  simp only [RTy]at h;obtain ⟨v1,l,rfl,h1,h2⟩:=h;simp only [Ty.depth]at hf;have e1:=qfR a o _ _ (qym hf (by omega)) h1;have e2:=qfR b o _ _ (qym hf (by omega)) h2;simp only [V.soft,softL,V.loose,looseL,Bool.or_eq_false_iff]at e2 ⊢;exact ⟨⟨e1.1,e2.1⟩,e1.2,e2.2⟩
mutual
theorem RV.firm:∀(x:TV) (v:V),x.firm=true->RV x v->v.soft=false
 |.any rs,v,hf,h=>by simp [TV.firm]at hf
 |.t τ o x,v,hf,h=>by simp only [TV.firm]at hf;simp only [RV]at h;exact (qfR τ o x v hf h).1
 |.clp τ x,v,hf,h=>by simp [TV.firm]at hf
 |.room a s,v,hf,h=>by simp [TV.firm]at hf
 |.empty own,v,hf,h=>by simp only [RV]at h;obtain ⟨f,c,rfl,_⟩:=h;simp [V.soft,softL]
 |.val u,v,hf,h=>by simp only [RV]at h;subst h;rfl
 |.agg l,v,hf,h=>by simp only [RV]at h;obtain ⟨l',rfl,h⟩:=h;simp only [TV.firm]at hf;simp only [V.soft];exact RVL.firm l l' hf h
 |.tuple l,v,hf,h=>by simp only [RV]at h;obtain ⟨l',rfl,h⟩:=h;simp only [TV.firm]at hf;simp only [V.soft];exact RVL.firm l l' hf h
 |.fn g a b,v,hf,h=>by
  simp only [RV]at h;obtain ⟨a',b',rfl,h1,h2⟩:=h;simp only [TV.firm,qe]at hf;simp only [V.soft,Bool.or_eq_false_iff];exact ⟨RVL.firm a a' hf.1 h1,RVL.firm b b' hf.2 h2⟩
 |.ptr q o,v,hf,h=>by simp only [RV]at h;subst h;rfl
 |.mref q,v,hf,h=>by simp only [RV]at h;subst h;rfl
 |.bsl q _ _,v,hf,h=>by simp only [RV]at h;subst h;rfl
 |.yld q,v,hf,h=>by simp only [RV]at h;subst h;rfl
 |.lp ..,v,hf,h=>by simp only [RV]at h
 |.cptr s l,v,hf,h=>by
  simp only [TV.firm,qe]at hf;simp only [RV]at h;obtain ⟨f,l',rfl,_,hsh,h⟩:=h;have:=hsh hf.1;subst this;simp only [V.soft,RVL.firm l l' hf.2 h]<;>rfl
 |.iface t x,v,hf,h=>by simp only [RV]at h;obtain ⟨y,rfl,h⟩:=h;simp only [TV.firm]at hf;simp only [V.soft];exact RV.firm x y hf h
theorem RVL.firm:∀(l:List TV) (l':List V),firmL l=true->RVL l l'->softL l'=false
 |[],l',hf,h=>by simp only [RVL]at h;subst h;rfl
 |x::l,l',hf,h=>by
  simp only [RVL]at h;obtain ⟨v,m,rfl,h1,h2⟩:=h;simp only [firmL,qe]at hf;simp only [softL,Bool.or_eq_false_iff];exact ⟨RV.firm x v hf.1 h1,RVL.firm l m hf.2 h2⟩
end
mutual
theorem RV.tight:∀(x:TV) (v:V),x.tight=true->RV x v->v.loose=false
 |.any rs,v,hf,h=>by simp [TV.tight]at hf
 |.t τ o x,v,hf,h=>by simp only [TV.tight]at hf;simp only [RV]at h;exact (qfR τ o x v hf h).2
 |.clp τ x,v,hf,h=>by simp [TV.tight]at hf
 |.room a s,v,hf,h=>by simp [TV.tight]at hf
 |.empty o,v,hf,h=>by simp only [TV.tight]at hf;simp only [RV]at h;obtain ⟨f,c,rfl,h0⟩:=h;simp [V.loose,looseL,qqi hf h0]
 |.val u,v,hf,h=>by simp only [RV]at h;subst h;rfl
 |.agg l,v,hf,h=>by simp only [RV]at h;obtain ⟨l',rfl,h⟩:=h;simp only [TV.tight]at hf;simp only [V.loose];exact RVL.tight l l' hf h
 |.tuple l,v,hf,h=>by simp only [RV]at h;obtain ⟨l',rfl,h⟩:=h;simp only [TV.tight]at hf;simp only [V.loose];exact RVL.tight l l' hf h
 |.fn g a b,v,hf,h=>by
  simp only [RV]at h;obtain ⟨a',b',rfl,h1,h2⟩:=h;simp only [TV.tight,qe]at hf;simp only [V.loose,Bool.or_eq_false_iff];exact ⟨RVL.tight a a' hf.1 h1,RVL.tight b b' hf.2 h2⟩
 |.ptr q o,v,hf,h=>by simp only [RV]at h;subst h;rfl
 |.mref q,v,hf,h=>by simp only [RV]at h;subst h;rfl
 |.bsl q _ _,v,hf,h=>by simp only [RV]at h;subst h;rfl
 |.yld q,v,hf,h=>by simp only [RV]at h;subst h;rfl
 |.lp ..,v,hf,h=>by simp only [RV]at h
 |.cptr s l,v,hf,h=>by
  simp only [TV.tight,qe]at hf;simp only [RV]at h;obtain ⟨f,l',rfl,_,hsh,h⟩:=h;have:=hsh hf.1;subst this;simp only [V.loose,RVL.tight l l' hf.2 h]<;>rfl
 |.iface t x,v,hf,h=>by simp only [RV]at h;obtain ⟨y,rfl,h⟩:=h;simp only [TV.tight]at hf;simp only [V.loose];exact RV.tight x y hf h
theorem RVL.tight:∀(l:List TV) (l':List V),tightL l=true->RVL l l'->looseL l'=false
 |[],l',hf,h=>by simp only [RVL]at h;subst h;rfl
 |x::l,l',hf,h=>by
  simp only [RVL]at h;obtain ⟨v,m,rfl,h1,h2⟩:=h;simp only [tightL,qe]at hf;simp only [looseL,Bool.or_eq_false_iff];exact ⟨RV.tight x v hf.1 h1,RVL.tight l m hf.2 h2⟩
end
theorem qqb{bx:Root->Option (List V)}:∀(τ:Ty) (o:Nat) (x:τ.den) (v:V),τ.isSet=false->RTy τ o x v->peekV bx v=some (v.reflag qJ)
 |.int _,o,x,v,hns,h=>by simp only [RTy]at h;subst h;rfl
 |.bool,o,x,v,hns,h=>by simp only [RTy]at h;subst h;rfl
 |.str,o,x,v,hns,h=>by simp only [RTy]at h;subst h;rfl
 |.flt,o,x,v,hns,h=>by simp only [RTy]at h;obtain ⟨b9,rfl,h9⟩:=h;rfl
 |.cx,o,x,v,hns,h=>by simp only [RTy]at h;obtain ⟨a9,b9,rfl,h8,h9⟩:=h;rfl
 |.err,o,x,v,hns,h=>by simp only [RTy]at h;rcases h with ⟨_,rfl⟩|⟨_,t9,rfl⟩<;>rfl
 |.mset _,o,x,v,hns,h=>by simp [Ty.isSet]at hns
 |.sl _,o,x,v,hns,h=>by simp only [RTy]at h;obtain ⟨f,c,l',rfl,_⟩:=h;rfl
 |.nsl _,o,x,v,hns,h=>by simp only [RTy]at h;rcases h with ⟨_,rfl⟩|⟨_,f,c,l',rfl,_⟩<;>rfl
 |.unit,o,x,v,hns,h=>by simp only [RTy]at h;subst h;rfl
 |.pair a b,o,x,v,hns,h=>by
  simp only [RTy]at h;simp only [Ty.isSet,Bool.or_eq_false_iff]at hns;obtain ⟨v1,l,rfl,h1,h2⟩:=h;have e1:=qqb (bx:=bx) a o x.1 v1 hns.1 h1;have e2:=qqb (bx:=bx) b o x.2 _ hns.2 h2;simp only [peekV,V.reflag]at e2 ⊢;obtain ⟨m,hm,he⟩:=qc.1 e2;simp only [V.agg.injEq]at he;subst he;simp only [peekL,e1,hm,reflagL,qi]
theorem qqI{k:IntKind}:∀{l:List TV} {xs:List Int} {l':List V},qqH k l=some xs->RVL l l'->l'=xs.map λx=>V.val (.int k x)
 |[],xs,l',h,hr=>by
  simp only [qqH,qb]at h;subst h;simp only [RVL]at hr;rw [hr]<;>rfl
 |.t (.int k') o x::l,xs,l',h,hr=>by
  simp only [qqH]at h;split at h
  ·rename_i hk;obtain ⟨m,hm,rfl⟩:=qc.1 h;simp only [RVL]at hr;obtain ⟨v,vs,rfl,h1,h2⟩:=hr;simp only [RV,RTy]at h1;rw [h1,qqI hm h2,hk];rfl
  ·cases h
theorem qvg{k:IntKind}(xs:List Int):reflagL qJ (xs.map λx=>V.val (.int k x))=(xs.map λx=>V.val (.int k x))/\(xs.map λx=>V.val (.int k x)).all V.one=true/\ptrsL (xs.map λx=>V.val (.int k x))=[]:=by
 induction xs with
 |nil=>exact ⟨rfl,rfl,rfl⟩
 |cons x xs ih=>simp only [qh,reflagL,V.reflag,List.all_cons,ptrsL,V.qp,ih.1,ih.2.1,ih.2.2];exact ⟨trivial,by simp [V.one],rfl⟩
theorem qqD{k:IntKind}{o:Nat}:∀(xs:List Int),All2 (RTy (.int k) o) xs (xs.map λx=>V.val (.int k x))
 |[]=>.nil
 |x::xs=>.cons (by simp only [RTy]) (qqD xs)
mutual
theorem peekTV_ok{bt:Root->Option (List TV)}{bx:Root->Option (List V)}(hb:∀r c,bt r=some c->∃c',bx r=some c'/\RVL c c'/\(r.slot<16384->qf9 c'=false)):∀(x y:TV) (v:V),peekTV bt x=some y->RV x v->∃u,peekV bx v=some u/\RV y u
 |.any _,y,v,h,hr=>by simp [peekTV]at h
 |.val w,y,v,h,hr=>by
  simp only [peekTV,qb]at h;subst h;simp only [RV]at hr;subst hr;exact ⟨.val w,rfl,by simp [RV]⟩
 |.t τ o x,y,v,h,hr=>by
  simp only [peekTV]at h;cases hs:τ.isSet with
  |true=>rw [hs]at h;cases h
  |false =>
   rw [hs]at h;simp only [cond_false,qb]at h;subst h;simp only [RV]at hr;exact ⟨_,qqb τ o x v hs hr,by simp only [RV];exact qeR τ o x v hr⟩
 |.mref _,y,v,h,hr=>by simp [peekTV]at h
 |.yld _,y,v,h,hr=>by simp [peekTV]at h
 |.lp ..,y,v,h,hr=>by simp [peekTV]at h
 |.bsl r off n,y,v,h,hr=>by
  simp only [peekTV]at h;split at h
  ·rename_i c hc;split at h
   ·rename_i hle;obtain ⟨xs,hxs,rfl⟩:=qc.1 h;simp only [RV]at hr;subst hr;obtain ⟨c',hc',hrc,hmp⟩:=hb r c hc;have hl:=qqI hxs ((hrc.drop off).take n);obtain ⟨e1,e2,e3⟩:=qvg (k:=.i64) xs;refine ⟨.sl .shared false (reflagL qJ ((c'.drop off).take n)),?_,?_⟩
    ·simp only [peekV,hc'];rw [if_pos ⟨qdt (qaz hrc) (hmp hle.2),by rw [hrc.length];exact hle.1,by rw [hl,e1];exact e2,by rw [hl];exact e3⟩]
    ·simp only [RV,RTy];refine ⟨.shared,false,_,rfl,⟨λ_=>by simp [qa1],λ_=>rfl⟩,?_⟩;rw [hl,e1];exact qqD (o:=0) xs
   ·cases h
  ·cases h
 |.clp τ x,y,v,h,hr=>by
  simp only [peekTV,qb]at h;subst h;have h2:=RV.share (.clp τ x) v hr;simp only [RV]at hr;obtain ⟨f,l',rfl,_,_⟩:=hr;exact ⟨_,rfl,h2⟩
 |.room a s,y,v,h,hr=>by simp [peekTV]at h
 |.empty o,y,v,h,hr=>by
  simp only [peekTV,qb]at h;subst h;have h2:=RV.share (.empty o) v hr;simp only [RV]at hr;obtain ⟨f,c,rfl,_⟩:=hr;exact ⟨_,rfl,h2⟩
 |.agg l,y,v,h,hr=>by
  simp only [peekTV]at h;obtain ⟨m,hm,rfl⟩:=qc.1 h;simp only [RV]at hr;obtain ⟨l',rfl,hl⟩:=hr;obtain ⟨u,hu,hru⟩:=peekTL_ok hb l m l' hm hl;exact ⟨.agg u,by simp only [peekV,hu,qi],by simp only [RV];exact ⟨u,rfl,hru⟩⟩
 |.tuple l,y,v,h,hr=>by
  simp only [peekTV]at h;obtain ⟨m,hm,rfl⟩:=qc.1 h;simp only [RV]at hr;obtain ⟨l',rfl,hl⟩:=hr;obtain ⟨u,hu,hru⟩:=peekTL_ok hb l m l' hm hl;exact ⟨.tuple u,by simp only [peekV,hu,qi],by simp only [RV];exact ⟨u,rfl,hru⟩⟩
 |.fn g a b,y,v,h,hr=>by
  simp only [peekTV]at h;split at h
  ·rename_i p q hp hq;simp only [qb]at h;subst h;simp only [RV]at hr;obtain ⟨a',b',rfl,h1,h2⟩:=hr;obtain ⟨u,hu,hru⟩:=peekTL_ok hb a p a' hp h1;obtain ⟨w,hw,hrw⟩:=peekTL_ok hb b q b' hq h2;exact ⟨.fn g u w,by simp only [peekV,hu,hw],by simp only [RV];exact ⟨u,w,rfl,hru,hrw⟩⟩
  ·cases h
 |.ptr r off,y,v,h,hr=>by
  simp only [peekTV]at h;split at h
  ·rename_i c hc;split at h
   ·rename_i hle;simp only [qb]at h;subst h;simp only [RV]at hr;subst hr;obtain ⟨c',hc',hrc,hmp⟩:=hb r c hc;refine ⟨.cptr .shared (reflagL qJ (c'.drop off)),?_,?_⟩
    ·simp only [peekV,hc'];rw [if_pos ⟨qdt (qaz hrc) (hmp hle.2),by rw [hrc.length];exact hle.1⟩]
    ·simp only [RV];exact ⟨.shared,_,rfl,by simp,λ_=>rfl,RVL.share _ _ (hrc.drop off)⟩
   ·cases h
  ·cases h
 |.cptr _ cs,y,v,h,hr=>by
  simp only [peekTV,qb]at h;subst h;simp only [RV]at hr;obtain ⟨f,l',rfl,_,_,hl⟩:=hr;refine ⟨.cptr .shared (reflagL qJ l'),rfl,?_⟩;simp only [RV];exact ⟨.shared,_,rfl,by simp,λ_=>rfl,RVL.share _ _ hl⟩
 |.iface t x,y,v,h,hr=>by
  simp only [peekTV]at h;obtain ⟨m,hm,rfl⟩:=qc.1 h;simp only [RV]at hr;obtain ⟨l',rfl,hl⟩:=hr;obtain ⟨u,hu,hru⟩:=peekTV_ok hb x m l' hm hl;exact ⟨.iface t u,by simp only [peekV,hu,qi],by simp only [RV];exact ⟨u,rfl,hru⟩⟩
theorem peekTL_ok{bt:Root->Option (List TV)}{bx:Root->Option (List V)}(hb:∀r c,bt r=some c->∃c',bx r=some c'/\RVL c c'/\(r.slot<16384->qf9 c'=false)):∀(l m:List TV) (l':List V),peekTL bt l=some m->RVL l l'->∃u,peekL bx l'=some u/\RVL m u
 |[],m,l',h,hr=>by
  simp only [peekTL,qb]at h;subst h;simp only [RVL]at hr;subst hr;exact ⟨[],rfl,q7⟩
 |x::l,m,l',h,hr=>by
  simp only [peekTL]at h;split at h
  ·rename_i p q hp hq;simp only [qb]at h;subst h;simp only [RVL]at hr;obtain ⟨v,vs,rfl,h1,h2⟩:=hr;obtain ⟨u,hu,hru⟩:=peekTV_ok hb x p v hp h1;obtain ⟨w,hw,hrw⟩:=peekTL_ok hb l q vs hq h2;exact ⟨u::w,by simp only [peekL,hu,hw],qv.2 ⟨hru,hrw⟩⟩
  ·cases h
end
theorem qzp{l:List V}(h:∀x∈l,x.qcA=true):mineL l=true:=by
 induction l with
 |nil=>rfl
 |cons x l ih=>simp only [mineL,qe];exact ⟨h x (by simp),ih λy hy=>h y (by simp [hy])⟩
theorem ql1:∀(τ:Ty) (o:Nat) (x:τ.den) (v:V),qqs τ o=true->RTy τ o x v->v.qcA=true
 |.int _,o,x,v,hm,h=>by simp only [RTy]at h;subst h;rfl
 |.bool,o,x,v,hm,h=>by simp only [RTy]at h;subst h;rfl
 |.str,o,x,v,hm,h=>by simp only [RTy]at h;subst h;rfl
 |.flt,o,x,v,hm,h=>by simp only [RTy]at h;obtain ⟨b9,rfl,h9⟩:=h;rfl
 |.cx,o,x,v,hm,h=>by simp only [RTy]at h;obtain ⟨a9,b9,rfl,h8,h9⟩:=h;rfl
 |.err,o,x,v,hm,h=>by simp only [RTy]at h;rcases h with ⟨_,rfl⟩|⟨_,t9,rfl⟩<;>rfl
 |.nsl _,o,x,v,hm,h=>by simp [qqs]at hm
 |.mset _,o,x,v,hm,h=>by simp [qqs]at hm
 |.sl t,o,x,v,hm,h=>by
  simp only [qqs,qe]at hm;simp only [RTy]at h;obtain ⟨f,c,l',rfl,hf,hall⟩:=h;simp only [V.qcA,qe,decide_eq_true_eq];refine ⟨hf.own hm.1,qzp λy hy=>?_⟩;obtain ⟨a,_,ha⟩:=qe4 hall y hy;exact ql1 t _ a y hm.2 ha
 |.unit,o,x,v,hm,h=>by simp only [RTy]at h;subst h;rfl
 |.pair a b,o,x,v,hm,h=>by
  simp only [qqs,qe]at hm;simp only [RTy]at h;obtain ⟨v1,l,rfl,h1,h2⟩:=h;have e1:=ql1 a o x.1 v1 hm.1 h1;have e2:=ql1 b o x.2 _ hm.2 h2;simp only [V.qcA]at e2 ⊢;simp only [mineL,qe];exact ⟨e1,e2⟩
mutual
theorem RV.qcA:∀(x:TV) (v:V),x.qcA=true->RV x v->v.qcA=true
 |.any _,v,hm,hr=>by simp [TV.qcA]at hm
 |.val w,v,hm,hr=>by simp only [RV]at hr;subst hr;rfl
 |.t τ o x,v,hm,hr=>by simp only [RV]at hr;exact ql1 τ o x v (by simpa only [TV.qcA]using hm) hr
 |.clp τ x,v,hm,hr=>by simp [TV.qcA]at hm
 |.room a s,v,hm,hr=>by simp [TV.qcA]at hm
 |.empty o,v,hm,hr=>by
  simp only [TV.qcA]at hm;simp only [RV]at hr;obtain ⟨f,c,rfl,hf⟩:=hr;simp only [V.qcA,qe,decide_eq_true_eq];exact ⟨hf.own hm,rfl⟩
 |.agg l,v,hm,hr=>by
  simp only [TV.qcA]at hm;simp only [RV]at hr;obtain ⟨l',rfl,hl⟩:=hr;simp only [V.qcA];exact RVL.qcA l l' hm hl
 |.tuple l,v,hm,hr=>by
  simp only [TV.qcA]at hm;simp only [RV]at hr;obtain ⟨l',rfl,hl⟩:=hr;simp only [V.qcA];exact RVL.qcA l l' hm hl
 |.fn g a b,v,hm,hr=>by
  simp only [TV.qcA,qe]at hm;simp only [RV]at hr;obtain ⟨a',b',rfl,h1,h2⟩:=hr;simp only [V.qcA,qe];exact ⟨RVL.qcA a a' hm.1 h1,RVL.qcA b b' hm.2 h2⟩
 |.ptr ..,v,hm,hr=>by simp [TV.qcA]at hm
 |.mref _,v,hm,hr=>by simp [TV.qcA]at hm
 |.bsl ..,v,hm,hr=>by simp [TV.qcA]at hm
 |.yld _,v,hm,hr=>by simp [TV.qcA]at hm
 |.lp ..,v,hm,hr=>by simp [TV.qcA]at hm
 |.cptr ..,v,hm,hr=>by simp [TV.qcA]at hm
 |.iface t x,v,hm,hr=>by
  simp only [TV.qcA]at hm;simp only [RV]at hr;obtain ⟨y,rfl,hy⟩:=hr;simp only [V.qcA];exact RV.qcA x y hm hy
theorem RVL.qcA:∀(l:List TV) (l':List V),mineTL l=true->RVL l l'->mineL l'=true
 |[],l',hm,hr=>by simp only [RVL]at hr;subst hr;rfl
 |x::l,l',hm,hr=>by
  simp only [mineTL,qe]at hm;simp only [RVL]at hr;obtain ⟨v,m,rfl,h1,h2⟩:=hr;simp only [mineL,qe];exact ⟨RV.qcA x v hm.1 h1,RVL.qcA l m hm.2 h2⟩
end
end
section
variable {P:Program} {H:Hints} {f:FuncId}
theorem qu3(p:Bool)(u:Value):RVL (qlp p u).cells (qcG p u).cells:=by
 have h:=qqc p u;have h1:(qlp p u).cells=[qlp p u]:=by unfold qlp;split<;>(try split)<;>rfl
 have h2:(qcG p u).cells=[qcG p u]:=by unfold qcG qej;split<;>(try split)<;>rfl
 rw [h1,h2];exact qv.2 ⟨h,q7⟩
theorem qsB(p:Bool)(u:Value):RVL (qmg p u).cells (ofConst p u).cells:=by
 have key:=qu3 p u;cases u<;>first|exact key|exact qtt (qqc p) _
theorem qh1{t:TypeId}{z:TV}(h:qsm P H f t=some z):∃z',zeroOf P H f t=some z'/\RV z z'/\RVL z.cells z'.cells:=by
 unfold qsm at h;obtain ⟨u,hu,rfl⟩:=qc.1 h;exact ⟨ofConst (H.precise f) u,by unfold zeroOf;rw [hu];rfl,quE _ _,qsB _ _⟩
theorem qj7{cs vs:List TV}{cs' vs':List V}{off:Nat}(h:RVL cs cs')(hv:RVL vs vs'):RVL (qkQ cs off vs) (qN cs' off vs'):=by
 unfold qkQ qN;rw [hv.length];exact ((h.take off).append hv).append (h.drop _)
theorem qlO(place:Nat->Option (Nat×Nat)):∀(is:List Nat) (xs:List TV) (ys:List V) (cs r:List TV) (cs':List V),RVL xs ys->RVL cs cs'->qq2 place cs (is.zip xs)=some r ->
  ∃r',qgO place cs' (is.zip ys)=some r'/\RVL r r'
 |[],xs,ys,cs,r,cs',hx,hc,h=>by simp only [List.zip_nil_left,qq2,qb]at h;subst h;exact ⟨cs',by simp [qgO],hc⟩
 |i::is,[],ys,cs,r,cs',hx,hc,h=>by
  simp only [RVL]at hx;subst hx;simp only [List.zip_nil_right,qq2,qb]at h;subst h;exact ⟨cs',by simp [qgO],hc⟩
 |i::is,x::xs,ys,cs,r,cs',hx,hc,h=>by
  simp only [RVL]at hx;obtain ⟨v,m,rfl,h1,h2⟩:=hx;simp only [List.zip_cons_cons,qq2]at h;simp only [List.zip_cons_cons,qgO];split at h
  ·cases h
  ·rename_i off size hp;rw [hp];simp only
   split at h
   ·cases h
   ·rename_i hn;simp only [not_or,Decidable.not_not,Bool.not_eq_false]at hn;obtain ⟨hl,ho,hk⟩:=hn;obtain ⟨hcells,hko⟩:=RV.cells hk h1;rw [if_neg]
    ·exact qlO place is xs m _ r _ h2 (qj7 hc hcells) h
    ·rw [hcells.length,hc.length,hko];simp only [not_or,Decidable.not_not,Bool.not_eq_false];exact ⟨hl,ho,trivial⟩
theorem qyu{t:TypeId}{is:List Nat}{xs:List TV}{ys:List V}{x:TV}(hx:RVL xs ys)(h:qyt P H f t (is.zip xs)=some x) :
  ∃v,qo5 P H f t (is.zip ys)=some v/\RV x v:=by
 unfold qyt at h;unfold qo5;split at h
 ·rename_i z fields hz hu;obtain ⟨z',hz',_,hcz⟩:=qh1 hz;split at h
  ·rename_i places hpl;obtain ⟨l,hl,rfl⟩:=qc.1 h;obtain ⟨l',hl',hr⟩:=qlO _ _ _ _ _ _ _ hx hcz hl;refine ⟨.agg l',?_,by simp only [RV];exact ⟨l',rfl,hr⟩⟩;rw [hz',hu];simp only [hpl,hl',qi]
  ·cases h
 ·rename_i z n elem hz hu;obtain ⟨z',hz',_,hcz⟩:=qh1 hz;split at h
  ·rename_i ie hie;obtain ⟨l,hl,rfl⟩:=qc.1 h;obtain ⟨l',hl',hr⟩:=qlO _ _ _ _ _ _ _ hx hcz hl;refine ⟨.agg l',?_,by simp only [RV];exact ⟨l',rfl,hr⟩⟩;rw [hz',hu];simp only [hie,hl',qi]
  ·cases h
 ·cases h
theorem qt0{agg:Bool}{s:Nat}:∀(n:Nat) {cs:List TV} {cs':List V},RVL cs cs'->RVL (qk8 agg s n cs) (chunk agg s n cs')
 |0,_,_,_=>by simp [qk8,chunk,RVL]
 |n+1,cs,cs',h=>by
  simp only [qk8,chunk];refine qv.2 ⟨?_,qt0 n (h.drop s)⟩;cases agg with
  |true=>simp only [if_true,RV];exact ⟨_,rfl,h.take s⟩
  |false =>
   simp only [qf,if_false];cases cs with
   |nil=>simp only [RVL]at h;subst h;exact qcu []
   |cons y cs=>simp only [RVL]at h;obtain ⟨v,m,rfl,h1,_⟩:=h;exact h1
theorem qn7{t:TypeId}{len:Nat}{is:List Nat}{xs:List TV}{ys:List V}{x:TV}(hx:RVL xs ys)(h:qi1 P H f t len (is.zip xs)=some x) :
  ∃v,qdC P H f t len (is.zip ys)=some v/\RV x v:=by
 unfold qi1 at h;unfold qdC;split at h
 ·rename_i elem hu;rw [hu];simp only;split at h
  ·rename_i ie z τ hie hz hτ;obtain ⟨z',hz',_,hcz⟩:=qh1 hz;rw [hie,hz'];simp only;split at h
   ·cases h
   ·rename_i hn;simp only [not_or]at hn;rw [if_neg (by rw [hcz.length];simp only [not_or];exact ⟨hn.1,hn.2.1,hn.2.2.1,hn.2.2.2.1⟩)];split at h
    ·rename_i cs hcs;obtain ⟨cs',hcs',hr⟩:=qlO _ _ _ _ _ _ _ hx (RVL.flatten hcz) hcs;rw [hcs'];simp only;split at h
     ·rename_i hc;simp only [qe,List.isEmpty_iff]at hc;obtain ⟨hc,hup⟩:=hc;obtain ⟨hup1,hup2⟩:=qzu hup;obtain ⟨l,hl,rfl⟩:=qc.1 h;have hp:ptrsL cs'=[]:=by
       apply List.eq_nil_iff_forall_not_mem.2;intro r hrr;have:=RVL.qp cs cs' hr r hrr;rw [hc.2]at this;cases this
      rw [if_pos ⟨RVL.qCX hc.1 hr,by rw [hp];rfl⟩];refine ⟨_,rfl,?_⟩;simp only [RV,RTy];exact ⟨.own,false,_,rfl,qeD hup,by rw [hup1];exact qtW _ _ _ hl (qt0 _ hr)⟩
     ·cases h
    ·cases h
  ·cases h
 ·cases h
theorem qdy{t:TypeId}{cs:List TV}{cs':List V}{x:TV}(h:qaW P t cs=some x)(hc:RVL cs cs'):∃v,qaa P t cs'=some v/\RV x v:=by
 unfold qaW at h;unfold qaa;split at h
 ·cases h
 ·rename_i d hd;rw [hd];simp only;split at h
  ·rename_i ha;rw [if_pos ha];split at h
   ·rename_i hl;cases h;rw [if_pos (by rw [hc.length];exact hl)];exact ⟨_,rfl,by simp only [RV];exact ⟨_,rfl,hc.take _⟩⟩
   ·cases h
  ·rename_i ha;rw [if_neg ha];obtain ⟨v,hv,hr⟩:=RVL.head hc h;exact ⟨v,hv,hr⟩
theorem qyw{t:TypeId}{x y:TV}{v:V}{fd:Nat}(h:qyv P t x fd=some y)(hx:RV x v):∃u,qo6 P t v fd=some u/\RV y u:=by
 unfold qyv at h;split at h
 ·rename_i fields cs hu;simp only [RV]at hx;obtain ⟨cs',rfl,hc⟩:=hx;unfold qo6;rw [hu];simp only;split at h
  ·rename_i d hd;rw [hd];simp only;exact qdy h (hc.drop _)
  ·cases h
 ·cases h
theorem qqo{t:TypeId}{x y:TV}{v:V}{fd:Nat}(h:qkV P t x fd=some y)(hx:RV x v):∃u,qcw P t v fd=some u/\RV y u:=by
 unfold qkV at h;unfold qcw;split at h
 ·rename_i fields hu;rw [hu];simp only;split at h
  ·rename_i d hd;rw [hd];simp only;split at h
   ·cases h
   ·rename_i h0;rw [if_neg h0];split at h
    ·rename_i r off;cases h;simp only [RV]at hx;subst hx;exact ⟨_,rfl,by simp [RV]⟩
    ·rename_i sh cs;simp only [RV]at hx;obtain ⟨f',cs',rfl,hf0,hsh,hc⟩:=hx;split at h
     ·rename_i hl;cases h;simp only
      rw [if_pos (by rw [hc.length];exact hl)];exact ⟨_,rfl,by simp only [RV];exact ⟨_,_,rfl,hf0,hsh,hc.drop _⟩⟩
     ·cases h
    ·cases h
  ·cases h
 ·cases h
theorem qka{R:Type}{i:Int}{k:Nat->Option R}{r:R}:∀{n j:Nat},qBA R i k n j=some r->∃m,j<=m/\m<j+n/\i=(m:Int)/\k m=some r
 |0,j,h=>by simp [qBA]at h
 |n+1,j,h=>by
  simp only [qBA]at h;cases hd:decide (i=(j:Int))with
  |true=>rw [hd]at h;exact ⟨j,Nat.le_refl _,by omega,of_decide_eq_true hd,h⟩
  |false =>
   rw [hd]at h;obtain ⟨m,h1,h2,h3,h4⟩:=qka (n:=n) (j:=j+1) h;exact ⟨m,by omega,by omega,h3,h4⟩
theorem qnG{x:TV}{n:Int}{v:V}(h:qv1 x=some n)(hx:RV x v):∃k,v=.val (.int k n):=by
 unfold qv1 at h;split at h
 ·rename_i k o m;cases h;simp only [RV,RTy]at hx;exact ⟨k,hx⟩
 ·cases h
theorem qfL{k:IntKind}{n:Int}(h:0<=n):qjP (.val (.int k n))=some n.toNat:=by simp [qjP,h]
theorem qqh{α:Type}{l r:List α}{a b:Int}(h:slc l a b=some r):0<=a/\a<=b/\b<=l.length/\r=(l.take b.toNat).drop a.toNat:=by
 unfold slc at h;split at h
 ·rename_i hc;cases h;exact ⟨hc.1,hc.2.1,hc.2.2,rfl⟩
 ·cases h
theorem qlR{α:Type}{l:List α}{n:Int}{e:α}(h:idx l n=some e):0<=n/\l[n.toNat]?=some e:=by
 unfold idx at h;split at h
 ·rename_i hc;exact ⟨hc,h⟩
 ·cases h
theorem qe7{α:Type}{l l2 r:List α}(h:app l l2=some r):l.length+l2.length<=4294967296/\r=l++l2:=by
 unfold app at h;split at h
 ·rename_i hc;cases h;exact ⟨hc,rfl⟩
 ·cases h
theorem qzs{α:Type}{z:α}{n:Int}{r:List α}(h:mkS z n=some r):0<=n/\n<=4294967296/\r=List.replicate n.toNat z:=by
 unfold mkS at h;split at h
 ·rename_i hc;cases h;exact ⟨hc.1,hc.2,rfl⟩
 ·cases h
theorem qdl{τ:Ty}(he:τ.qbY=true){o:Nat}{l:List τ.den}{l':List V}(h:All2 (RTy τ o) l l'):∀e∈l',e.cells.length=τ.qbk/\e.oks=true/\e.qp=[]:=λe he'=>by
 obtain ⟨a,_,hr⟩:=qe4 h e he';obtain ⟨h1,h2⟩:=qkN he hr;exact ⟨h1,h2,qbT _ _ _ _ hr⟩
theorem qwi{τ:Ty}{o:Nat}{l:List τ.den}{l':List V}(h:All2 (RTy τ o) l l'):ptrsL l'=[]:=by
 apply List.eq_nil_iff_forall_not_mem.2;intro r hr;obtain ⟨v,hv,hrv⟩:=qna.1 hr;obtain ⟨a,_,h2⟩:=qe4 h v hv;rw [qbT _ _ _ _ h2]at hrv;cases hrv
theorem qeo{v:V}(h:v.qp=[]):ptrsL v.cells=[]:=by
 cases v<;>first|exact h|(simp only [V.cells,ptrsL,List.append_nil];exact h)
theorem qih{τ:Ty}{elem:TypeId}{o:Nat}{l:List τ.den}{l':List V}{n:Int}{e:τ.den}{k:IntKind}{t:TypeId}{fl:Fl}{c sh:Bool}(hsh:sh=true->fl=.shared)(hu:P.underlying t=some (.slice elem))(hall:All2 (RTy τ o) l l')(hc:P.cellsOf elem=τ.qbk)(h0:τ.qbk≠0)(he:τ.qbY=true)
  (h:idx l n=some e):∃v,qbh P t (.sl fl c l') (.val (.int k n))=some v/\RV (.cptr sh (ofTy τ (dl o) e).cells) v:=by
 obtain ⟨h1,h2⟩:=qlR h;obtain ⟨b,hb,hr⟩:=hall.get h2;obtain ⟨hl,hk⟩:=qkN he hr;refine ⟨.cptr (qW fl) (reflagL qW b.cells),?_,?_⟩
 ·simp only [qbh,hu];rw [if_pos h1,hb];simp only
  rw [if_pos ⟨by rw [hl,hc],hk,by rw [hc];exact h0,by rw [qeo (qbT _ _ _ _ hr)];rfl⟩]
 ·have hd:=qgA qko rfl τ o e b hr;have hcells:=(RV.cells (qpV he (dl o) e) (rv_ofTy τ (dl o) e _ hd)).1;simp only [RV];refine ⟨_,_,rfl,by cases fl<;>simp [qW],λe=>(by rw [hsh e];rfl),?_⟩;have hre:(b.reflag qW).cells=reflagL qW b.cells:=qk7 qW b;rw [<- hre];exact hcells
theorem qqp{t:TypeId}{x:TV}{k0:IntKind}{i:Int}{R:Type}{k:TV->Option R}{r:R}{v:V}(h:qkW P t x i R k=some r)(hx:RV x v) :
  ∃y u,k y=some r/\qbh P t v (.val (.int k0 i))=some u/\RV y u:=by
 unfold qkW at h;split at h
 ·rename_i len elem q off hu;split at h
  ·cases h
  ·rename_i h0;obtain ⟨m,_,hm,rfl,hk⟩:=qka h;simp only [RV]at hx;subst hx;refine ⟨_,.ptr q (off+m*P.cellsOf elem),hk,?_,by simp [RV]⟩;simp only [qbh,hu];rw [if_pos ⟨by omega,by omega,h0⟩];simp
 ·rename_i len elem sh cs hu;split at h
  ·cases h
  ·rename_i h0;obtain ⟨m,_,hm,rfl,hk⟩:=qka h;split at hk
   ·rename_i hl;simp only [RV]at hx;obtain ⟨f',cs',rfl,hf0,hsh,hc⟩:=hx;refine ⟨_,.cptr f' (cs'.drop (m*P.cellsOf elem)),hk,?_,by simp only [RV];exact ⟨_,_,rfl,hf0,hsh,hc.drop _⟩⟩;simp only [qbh,hu];rw [if_pos ⟨by omega,by omega,h0,by rw [hc.length];simpa using hl⟩];simp
   ·cases hk
 ·rename_i elem τ o l hu;split at h
  ·rename_i hc;obtain ⟨e,he,hk⟩:=qd.1 h;simp only [RV,RTy]at hx;obtain ⟨fl,c,l',rfl,hfl,hall⟩:=hx;obtain ⟨u,hu',hr⟩:=qih (k:=k0) (fl:=fl) (c:=c) (sh:=decide (o=1000)) (λe=>hfl.2 (of_decide_eq_true e)) hu hall hc.1 hc.2.1 hc.2.2.2 he;exact ⟨_,u,hk,hu',hr⟩
  ·cases h
 ·rename_i elem τ l hu;split at h
  ·rename_i hc;obtain ⟨e,he,hk⟩:=qd.1 h;simp only [RV]at hx;obtain ⟨fl,l',rfl,_,hall⟩:=hx;obtain ⟨u,hu',hr⟩:=qih (k:=k0) (fl:=fl) (c:=true) (sh:=false) (λe=>by cases e) hu hall hc.1 hc.2.1 hc.2.2.2 he;exact ⟨_,u,hk,hu',hr⟩
  ·cases h
 ·cases h
theorem qyy{elem t:TypeId}{len:Nat}{cs:List TV}{cs':List V}{k0:IntKind}{i:Int}{R:Type}{k:TV->Option R}{r:R}(hu:P.underlying t=some (.array len elem))(h:qyx P elem len cs i R k=some r)(hc:RVL cs cs') :
  ∃y u,k y=some r/\qnM P t (.agg cs') (.val (.int k0 i))=some u/\RV y u:=by
 unfold qyx at h;split at h
 ·cases h
 ·rename_i h0;obtain ⟨m,_,hm,rfl,hk⟩:=qka h;split at hk
  ·rename_i v hv;obtain ⟨u,hu',hr⟩:=qdy hv (hc.drop _);refine ⟨_,u,hk,?_,hr⟩;simp only [qnM,hu];rw [if_pos ⟨by omega,by omega,h0⟩];simpa using hu'
  ·cases hk
def RVO:Option TV->Option V->Prop
 |none,none=>True
 |some x,some v=>RV x v
 |_,_=>False
theorem qdH{b:Option V}(h:RVO none b):b=none:=by cases b<;>simp_all [RVO]
theorem ql3{x:TV}{b:Option V}(h:RVO (some x) b):∃v,b=some v/\RV x v:=by
 cases b with
 |none=>simp [RVO]at h
 |some v=>exact ⟨v,rfl,h⟩
theorem qff{d:Nat}{d0:Int}{lo:Option TV}{lo':Option V}{a:Int}(h:(match lo with|none=>some d0|some v=>qv1 v)=some a)(hlo:RVO lo lo')(hd:d0=d)(h0:0<=a):qft d lo'=some a.toNat:=by
 cases lo with
 |none=>rw [qdH hlo];simp only [qb]at h;subst h;subst hd;simp [qft]
 |some x =>
  obtain ⟨v,rfl,hr⟩:=ql3 hlo;obtain ⟨k,rfl⟩:=qnG h hr;simp [qft,qfL h0]
theorem qAU{R:Type}{c:Prop}[Decidable c]{x:Option R}{r:R}(h:(bif decide c then x else none)=some r):c/\x=some r:=by
 cases hd:decide c with
 |true=>rw [hd]at h;exact ⟨of_decide_eq_true hd,h⟩
 |false=>rw [hd]at h;cases h
theorem qyD{t:TypeId}{x:TV}{v:V}{lo hi mx:Option TV}{lo' hi' mx':Option V}{R:Type}{k:TV->Option R}{r:R}(hx:RV x v)(hlo:RVO lo lo')(hhi:RVO hi hi')(hmx:RVO mx mx')
  (h:qyC P t x lo hi mx R k=some r):∃y u,k y=some r/\qdZ P t v lo' hi' mx'=some u/\RV y u:=by
 unfold qyC at h;simp only at h;split at h
 ·rename_i elem τ oo l hu;simp only [RV,RTy]at hx;obtain ⟨fl,c,l',rfl,hfl,hall⟩:=hx;split at h
  ·cases h
  ·rename_i hn;simp only [not_or,Decidable.not_not,Bool.not_eq_false,Bool.not_eq_true]at hn;obtain ⟨hoo,hoo2,h0,hcl,hok,hel⟩:=hn;have hown:fl≠.own:=hfl.not hoo hoo2;have hnx:nx oo=oo:=by unfold nx;rw [hoo];rfl
   have hcells:l'.all (λe=>decide (e.cells.length=P.cellsOf elem))=true:=by
    rw [List.all_eq_true];intro e he;rw [(qdl hel hall e he).1,hcl];simp
   have hvs:∀(mx:Option V),qdZ P t (.sl fl c l') lo' hi' mx=(match qft 0 lo',qft l'.length hi' with
     |some a,some b =>
      match mx with
      |none=>if a<=b/\b<=l'.length then some (.sl fl (c&&decide (b=l'.length)) ((l'.take b).drop a))else none
      |some m=>if qjP m=some b/\hi'.isSome/\a<=b/\b<=l'.length then some (.sl fl true ((l'.take b).drop a))else none
     |_,_=>none):=λmx=>by
    unfold qdZ;rw [hu];simp only;rw [if_neg (by simp only [not_or,Bool.not_eq_false];exact ⟨hown,h0,hcells⟩)];rfl
   split at h
   ·rename_i a b ha hb;have hfin:∀q,slc l a b=some q->qft 0 lo'=some a.toNat/\qft l'.length hi'=some b.toNat/\a.toNat<=b.toNat/\b.toNat<=l'.length/\All2 (RTy τ (nx oo)) q ((l'.take b.toNat).drop a.toNat):=λq hq=>by
     obtain ⟨h1,h2,h3,rfl⟩:=qqh hq;have hl:=hall.length;refine ⟨qff ha hlo rfl h1,qff hb hhi (by rw [hl]) (by omega),by omega,by omega,(hall.take _).drop _⟩
    split at h
    ·obtain ⟨q,hq,hk⟩:=qd.1 h;obtain ⟨e1,e2,e3,e4,e5⟩:=hfin q hq;rw [qdH hmx];refine ⟨_,.sl fl (c&&decide (b.toNat=l'.length)) ((l'.take b.toNat).drop a.toNat),hk,?_,?_⟩
     ·rw [hvs,e1,e2];simp only;rw [if_pos ⟨e3,e4⟩]
     ·simp only [RV,RTy];exact ⟨fl,_,_,rfl,hfl,e5⟩
    ·rename_i m;obtain ⟨vm,hvm,hrm⟩:=ql3 hmx;split at h
     ·rename_i cc hcc;split at h
      ·rename_i hs;obtain ⟨q,hq,hk⟩:=qd.1 h;obtain ⟨hcb,hk⟩:=qAU hk;obtain ⟨e1,e2,e3,e4,e5⟩:=hfin q hq;obtain ⟨h1,h2,_,_⟩:=qqh hq;obtain ⟨k3,rfl⟩:=qnG hcc hrm;have hs':hi'.isSome=true:=by
        cases hi with
        |none=>simp at hs
        |some x=>obtain ⟨v,rfl,_⟩:=ql3 hhi;rfl
       refine ⟨_,.sl fl true ((l'.take b.toNat).drop a.toNat),hk,?_,?_⟩
       ·rw [hvm,hvs,e1,e2];simp only;rw [if_pos ⟨by rw [hcb];exact qfL (by omega),hs',e3,e4⟩]
       ·simp only [RV];exact ⟨fl,_,rfl,hown,e5.mono λx y hxy=>by
         rw [hnx]at hxy;refine qho τ oo x y ?_;rcases qjA.1 hoo with h|h|h
         ·subst h;exact hxy
         ·subst h;exact hxy
         ·exact absurd h hoo2⟩
      ·cases h
     ·cases h
   ·cases h
 ·rename_i elem oo hu;simp only [RV]at hx;obtain ⟨fl,c,rfl,hfl⟩:=hx;split at h
  ·cases h
  ·rename_i hn0;simp only [not_or,Bool.not_eq_true]at hn0;obtain ⟨hoo,hoo2,h0⟩:=hn0;have hown:fl≠.own:=hfl.not hoo hoo2;split at h
   ·rename_i a b ha hb;cases hd:(decide (a=0)&&decide (b=0))with
    |false=>rw [hd]at h;cases h
    |true =>
     rw [hd]at h;simp only [qe,decide_eq_true_eq]at hd;obtain ⟨rfl,rfl⟩:=hd;rw [qdH hmx];refine ⟨_,.sl fl (c&&decide (0=([]:List V).length)) [],h,?_,?_⟩
     ·unfold qdZ;rw [hu];simp only;rw [if_neg (by simp only [not_or];exact ⟨hown,h0,by simp⟩)];rw [qff (d:=0) ha hlo rfl (by omega),qff (d:=([]:List V).length) hb hhi rfl (by omega)];simp
     ·simp only [RV];exact ⟨fl,_,rfl,hfl⟩
   ·cases h
 ·rename_i s hu;simp only [RV,RTy]at hx;subst hx;split at h
  ·rename_i a b ha hb;obtain ⟨q,hq,hk⟩:=qd.1 h;obtain ⟨h1,h2,h3,rfl⟩:=qqh hq;rw [qdH hmx];have hsz:(⟨s.toArray⟩:ByteArray).size=s.length:=by simp [ByteArray.size]
   refine ⟨_,.val (.string ((⟨s.toArray⟩:ByteArray).extract a.toNat b.toNat)),hk,?_,?_⟩
   ·unfold qdZ;rw [hu];simp only;rw [qff (d:=0) ha hlo rfl h1,qff (d:=(⟨s.toArray⟩:ByteArray).size) hb hhi (by rw [hsz]) (by omega)];simp only
    rw [if_pos ⟨rfl,by omega,by rw [hsz];omega⟩]
   ·simp only [RV,RTy,V.val.injEq,Value.string.injEq];apply ByteArray.ext;rw [ByteArray.data_extract];apply Array.ext';simp [List.drop_take]
  ·cases h
 ·cases h
theorem qtP{t elem:TypeId}{s n:Nat}{lo hi mx:Option V}(hu:P.underlying t=some (.slice elem)):qdZ P t (.room s n) lo hi mx=none:=by
 unfold qdZ;rw [hu]
theorem qv2{t:TypeId}{x:TV}{v:V}{lo hi mx:Option TV}{lo' hi' mx':Option V}{R:Type}{k:TV->Option R}{r:R}(hx:RV x v)(hlo:RVO lo lo')(hhi:RVO hi hi')(hmx:RVO mx mx')
  (h:qtK P t x lo hi mx R k=some r):∃y u,k y=some r/\(qdZ P t v lo' hi' mx').or (qi6 P t v lo' hi' mx')=some u/\RV y u:=by
 unfold qtK at h;split at h
 ·rename_i elem hu;simp only [RV]at hx;subst hx;split at h
  ·cases h
  ·rename_i h0;split at h
   ·rename_i a b ha hb;cases hd:(decide (a=0)&&decide (b=0))with
    |false=>rw [hd]at h;cases h
    |true =>
     rw [hd]at h;simp only [qe,decide_eq_true_eq]at hd;obtain ⟨rfl,rfl⟩:=hd;rw [qdH hmx];refine ⟨_,.val (.slice none 0 0),h,?_,by simp only [RV]⟩;have e:qdZ P t (.val (.slice none 0 0)) lo' hi' none=some (.val (.slice none 0 0)):=by
      unfold qdZ;rw [hu];simp only;rw [if_neg h0,qff (d:=0) ha hlo rfl (by omega),qff (d:=0) hb hhi rfl (by omega)];simp [qft]
     rw [e];rfl
   ·cases h
 ·rename_i elem a s hu;split at h
  ·cases h
  ·rename_i hcond;simp only [not_or,Nat.not_le]at hcond;obtain ⟨h0,ha⟩:=hcond;simp only [RV]at hx;obtain ⟨_,n,rfl,_⟩|⟨h9,_⟩:=hx
   case inr=>omega
   split at h
   ·rename_i kk oo b;obtain ⟨rfl,hk⟩:=qAU h;rw [qdH hlo,qdH hmx];obtain ⟨w,rfl,hw⟩:=ql3 hhi;simp only [RV,RTy]at hw;subst hw;refine ⟨_,.room s 0,hk,?_,by simp [RV]⟩;rw [qtP hu];unfold qi6;rw [hu];simp only;rw [if_pos h0];rfl
   ·cases h
 ·rename_i n elem r' off hu;split at h
  ·rename_i h1;simp only [RV]at hx;subst hx;split at h
   ·rw [qdH hlo,qdH hhi,qdH hmx];refine ⟨_,.bsl r' off n,h,?_,by simp only [RV]⟩;have e:qdZ P t (.ptr r' off) none none none=none:=by unfold qdZ;rw [hu]
    rw [e];unfold qi6;rw [hu];simp only;rw [if_pos h1];rfl
   ·cases h
  ·cases h
 ·cases h
end
section
variable {P:Program} {H:Hints} {f:FuncId}
theorem qqr{t:TypeId}{len cap:TV}{len' cap':V}{R:Type}{k:TV->Option R}{r:R}(hl:RV len len')(hc:RV cap cap')(h:qkX P H f t len cap R k=some r) :
  ∃y u,k y=some r/\qex P H f t len' cap'=some u/\RV y u:=by
 unfold qkX at h;split at h
 ·rename_i elem hu;split at h
  ·rename_i z τ n c hz hτ hn hcc;obtain ⟨z',hz',hzr,hzc⟩:=qh1 hz;obtain ⟨k1,rfl⟩:=qnG hn hl;obtain ⟨k2,rfl⟩:=qnG hcc hc;split at h
   ·rename_i hcond;obtain ⟨h0,hcl,hok,hby,_,_,hup⟩:=hcond;obtain ⟨hup1,hup2⟩:=qzu hup;split at h
    ·rename_i x hx;obtain ⟨q,hq,hk⟩:=qd.1 h;obtain ⟨hcn,hk1⟩:=qAU hk;subst hcn;obtain ⟨h1,h2,rfl⟩:=qzs hq;have hrt:=qc2 _ _ _ _ _ hx hzr;refine ⟨_,.sl .own false (List.replicate c.toNat z'),hk1,?_,?_⟩
     ·unfold qex;rw [hu];simp only;rw [hz',qfL h1,qfL h1];simp only
      have hbb:P.bytesOf elem*c.toNat<=8192*4294967296:=Nat.mul_le_mul hby (by omega);rw [if_pos ⟨Nat.le_refl _,λh=>h,h0,by rw [hzc.length];exact hcl,(RV.cells hok hzr).2,by rw [qbT _ _ _ _ hrt];rfl,by omega,by omega⟩]
     ·simp only [RV,RTy];exact ⟨.own,false,_,rfl,qeD hup,by rw [hup1];exact All2.replicate hrt _⟩
    ·cases h
   ·cases h
  ·cases h
 ·cases h
theorem big{s b:Nat}(h1:s<=4294967296)(h2:b<=8192):(s+512)*b<=70368744177664:=by
 have:=Nat.mul_le_mul (Nat.add_le_add_right h1 512) h2;omega
def qz3(yt:TypeDesc)(y:V):Option (List V):=match yt,y with
 |.slice _,.sl _ _ l=>some l
 |.slice _,.val (.slice none 0 0)=>some []
 |.string,.val (.string b)=>some (b.data.toList.map λc=>.val (.int .u8 c.toNat))
 |_,_=>none
theorem qk0{argTypes:Array TypeId}{elem:TypeId}{yt:TypeDesc}{x y:V}(h0:(argTypes[0]?).bind P.underlying=some (.slice elem))(h1:(argTypes[1]?).bind P.underlying=some yt) :
  qcW P argTypes x y=match qz3 yt y with
  |none=>none
  |some l2 =>
   if P.cellsOf elem=0\/((P.info? elem).bind (·.zero)).map (λz=>z.cells.size)≠some (P.cellsOf elem)\/l2.all (λe=>decide (e.cells.length=P.cellsOf elem)&&e.oks)=false\/(ptrsL l2).isEmpty=false then none else
   match x with
   |.val (.slice none 0 0)=>if l2.isEmpty then some x else if (l2.length+512)*P.bytesOf elem<=70368744177664/\l2.length<=70368744177664 then some (.sl .own false l2)else none
   |.sl fl c l =>
    if l.all (λe=>decide (e.cells.length=P.cellsOf elem))=true/\(l.length+l2.length+512)*P.bytesOf elem<=70368744177664/\l.length+l2.length<=70368744177664 then
     (if fl=.own then some (.sl .own false (l++l2))
     else if c then (if l2.isEmpty then some x else some (.sl .own false (l++l2)))
     else none)
    else none
   |_=>none:=by
 unfold qcW;rw [h0,h1];rfl
theorem qyp{yt:TypeDesc}{y:TV}{τ:Ty}{o:Nat}{l:List τ.den}{v:V}(h:tail? yt y=some ⟨τ,(o,l)⟩)(hy:RV y v) :
  ∃l',qz3 yt v=some l'/\All2 (RTy τ o) l l':=by
 unfold tail? at h;split at h
 ·split at h
  ·simp only [qb,Sigma.mk.injEq]at h;obtain ⟨rfl,h⟩:=h;obtain ⟨rfl,rfl⟩:=Prod.mk.inj (eq_of_heq h);simp only [RV,RTy]at hy;obtain ⟨f,c,l',rfl,_,hall⟩:=hy;exact ⟨l',rfl,hall⟩
  ·cases h
 ·split at h
  ·simp only [qb,Sigma.mk.injEq]at h;obtain ⟨rfl,h⟩:=h;obtain ⟨rfl,rfl⟩:=Prod.mk.inj (eq_of_heq h);simp only [RV]at hy;obtain ⟨f,l',rfl,_,hall⟩:=hy;exact ⟨l',rfl,hall⟩
  ·cases h
 ·rename_i s;split at h
  ·simp only [qb,Sigma.mk.injEq]at h;obtain ⟨rfl,h⟩:=h;obtain ⟨rfl,rfl⟩:=Prod.mk.inj (eq_of_heq h);simp only [RV,RTy]at hy;subst hy;refine ⟨_,rfl,?_⟩;simp only
   clear h;have:∀s':List UInt8,All2 (RTy (.int .u8) 0) (s'.map λc=>(c.toNat:Int)) (s'.map λc=>V.val (.int .u8 c.toNat)):=λs'=>by
    induction s' with
    |nil=>exact .nil
    |cons c s ih=>exact .cons (by simp [RTy]) ih
   simpa using this s
  ·cases h
 ·cases h
theorem qeU{argTypes:Array TypeId}{elem:TypeId}{yt:TypeDesc}{l l2:List V}{y:V}
  (h0:(argTypes[0]?).bind P.underlying=some (.slice elem)) (h1:(argTypes[1]?).bind P.underlying=some yt)
  (hy:qz3 yt y=some l2)
  (hs0:P.cellsOf elem≠0) (hz:((P.info? elem).bind (·.zero)).map (λz=>z.cells.size)=some (P.cellsOf elem))
  (hl2:∀e∈l2,e.cells.length=P.cellsOf elem/\e.oks=true/\e.qp=[]) (hl:∀e∈l,e.cells.length=P.cellsOf elem)
  (hn:l.length+l2.length<=4294967296) (hb:P.bytesOf elem<=8192) :
  (∀c,qcW P argTypes (.sl .own c l) y=some (.sl .own false (l++l2)))/\(l2≠[]->∀f,f≠.own->qcW P argTypes (.sl f true l) y=some (.sl .own false (l++l2)))/\(l2=[]->∀f,f≠.own->qcW P argTypes (.sl f true l) y=some (.sl f true l)):=by
 have hp:ptrsL l2=[]:=by
  apply List.eq_nil_iff_forall_not_mem.2;intro r hr;obtain ⟨v,hv,hrv⟩:=qna.1 hr;rw [(hl2 v hv).2.2]at hrv;cases hrv
 have hall2:l2.all (λe=>decide (e.cells.length=P.cellsOf elem)&&e.oks)=true:=by
  rw [List.all_eq_true];intro e he;simp [(hl2 e he).1,(hl2 e he).2.1]
 have hall:l.all (λe=>decide (e.cells.length=P.cellsOf elem))=true:=by
  rw [List.all_eq_true];intro e he;simp [hl e he]
 have hbig:=big (s:=l.length+l2.length) hn hb;have hun:∀(f:Fl) (c:Bool),qcW P argTypes (.sl f c l) y=if l.all (λe=>decide (e.cells.length=P.cellsOf elem))=true/\(l.length+l2.length+512)*P.bytesOf elem<=70368744177664/\l.length+l2.length<=70368744177664 then
     (if f=.own then some (.sl .own false (l++l2))
     else if c then (if l2.isEmpty then some (.sl f c l)else some (.sl .own false (l++l2)))
     else none)
    else none:=λf c=>by
  rw [qk0 h0 h1,hy];simp only;rw [if_neg (by simp only [not_or,Decidable.not_not,Bool.not_eq_false];exact ⟨hs0,hz,hall2,by rw [hp];rfl⟩)]
 refine ⟨λc=>?_,λhne f hf=>?_,λhne f hf=>?_⟩
 ·rw [hun,if_pos ⟨hall,hbig,by omega⟩,if_pos rfl]
 ·rw [hun,if_pos ⟨hall,hbig,by omega⟩,if_neg hf,if_pos rfl,if_neg (by simpa using hne)]
 ·rw [hun,if_pos ⟨hall,hbig,by omega⟩,if_neg hf,if_pos rfl,if_pos (by simp [hne])]
theorem qvZ{argTypes:Array TypeId}{x y:TV}{x' y':V}{R:Type}{k:TV->Option R}{r:R}(hx:RV x x')(hy:RV y y')(h:qtF P argTypes x y R k=some r) :
  ∃z u,k z=some r/\qcW P argTypes x' y'=some u/\RV z u:=by
 unfold qtF at h;split at h
 ·rename_i elem yt h0 h1;split at h
  ·-- nothing is appended
   rename_i ow;simp only [RV]at hy;obtain ⟨fy,cy,rfl,_⟩:=hy;split at h
   ·rename_i e τ o l;split at h
    ·rename_i hc;obtain ⟨ho,hcl,hs0,hz,hb,hok,hel⟩:=hc;obtain ⟨q,hq,hk⟩:=qd.1 h;obtain ⟨hn,rfl⟩:=qe7 hq;simp only [RV,RTy]at hx;obtain ⟨fx,cx,l',rfl,hfx,hall⟩:=hx;have hfo:fx=.own:=hfx.own ho;subst hfo;have hv:=(qeU (l:=l') (l2:=[]) (y:=.sl fy cy []) h0 h1 rfl hs0 hz (by simp) (λe he=>by rw [(qdl hel hall e he).1,hcl]) (by rw [hall.length];exact hn) hb).1 cx;refine ⟨_,_,hk,hv,?_⟩;simp only [RV,RTy];exact ⟨.own,false,_,rfl,qeD ho,by simpa using hall⟩
    ·cases h
   ·rename_i e;split at h
    ·rename_i hc;obtain ⟨hoe,hs0,hz,hb⟩:=hc;simp only [RV]at hx;obtain ⟨fx,cx,rfl,hfx⟩:=hx;have hfo:fx=.own:=hfx.own hoe;subst hfo;have hv:=(qeU (l:=[]) (l2:=[]) (y:=.sl fy cy []) h0 h1 rfl hs0 hz (by simp) (by simp) (by simp) hb).1 cx;exact ⟨_,_,h,hv,by simp only [RV];exact ⟨_,_,rfl,hfx⟩⟩
    ·cases h
   ·cases h
  ·split at h
   ·cases h
   ·rename_i τ o2 l2 ht;obtain ⟨l2',hl2',hall2⟩:=qyp ht hy;split at h
    ·rename_i hc;obtain ⟨hcl,hs0,hz,hb,hok,hel⟩:=hc;have hc2:∀e∈l2',e.cells.length=P.cellsOf elem/\e.oks=true/\e.qp=[]:=λe he=>by
      obtain ⟨h1,h2,h3⟩:=qdl hel hall2 e he;exact ⟨by rw [h1,hcl],h2,h3⟩
     split at h
     ·rename_i τ' o l;split at h
      ·rename_i he;subst he;split at h
       ·rename_i hoo;obtain ⟨q,hq,hk⟩:=qd.1 h;obtain ⟨hn,rfl⟩:=qe7 hq;simp only [RV,RTy]at hx;obtain ⟨fx,cx,l',rfl,hfx,hall⟩:=hx;have hfo:fx=.own:=hfx.own hoo;subst hfo;have hv:=(qeU (l:=l') (l2:=l2') h0 h1 hl2' hs0 hz hc2 (λe he=>by rw [(qdl hel hall e he).1,hcl]) (by rw [hall.length,hall2.length];exact hn) hb).1 cx;refine ⟨_,_,hk,hv,?_⟩;simp only [RV,RTy];split
        ·rename_i hf;exact ⟨.own,false,_,rfl,qeD hoo,hall.append (hall2.mono λa b hab=>qeQ _ _ _ _ _ hf hab)⟩
        ·have hall':∀d o',fits d o' (nx 2001)=true:=λd o'=>by cases d<;>rfl
         exact ⟨.own,false,_,rfl,qeD rfl,(hall.mono λa b hab=>qeQ _ _ _ _ _ (hall' _ _) hab).append (hall2.mono λa b hab=>qeQ _ _ _ _ _ (hall' _ _) hab)⟩
       ·cases h
      ·cases h
     ·split at h
      ·rename_i hup0;obtain ⟨hoe,hup⟩:=hup0;obtain ⟨hup1,hup2⟩:=qzu hup;obtain ⟨q,hq,hk⟩:=qd.1 h;obtain ⟨hn,rfl⟩:=qe7 hq;simp only [RV]at hx;obtain ⟨fx,cx,rfl,hfx⟩:=hx;have hfo:fx=.own:=hfx.own hoe;subst hfo;have hv:=(qeU (l:=[]) (l2:=l2') h0 h1 hl2' hs0 hz hc2 (by simp) (by rw [hall2.length];simpa using hn) hb).1 cx;refine ⟨_,_,hk,hv,?_⟩;simp only [RV,RTy];exact ⟨.own,false,_,rfl,qeD hup,by rw [hup1];simpa using hall2⟩
      ·cases h
     ·rename_i τ' l;split at h
      ·rename_i he;subst he;obtain ⟨q,hq,hk⟩:=qd.1 h;obtain ⟨hn,rfl⟩:=qe7 hq;simp only [RV]at hx;obtain ⟨fx,l',rfl,hfx,hall⟩:=hx;have hup:∀{o:Nat} {m:List τ'.den} {m':List V},All2 (RTy τ' o) m m'->All2 (RTy τ' (nx 2000)) m m':=λhm=>hm.mono λa b hab=>qeQ _ _ _ _ _ (qmq _ _) hab;have hv2:=qeU (l:=l') (l2:=l2') h0 h1 hl2' hs0 hz hc2 (λe he=>by rw [(qdl hel hall e he).1,hcl]) (by rw [hall.length,hall2.length];exact hn) hb;by_cases hne:l2'=[]
       ·refine ⟨_,_,hk,hv2.2.2 hne fx hfx,?_⟩;subst hne;cases hall2;simp only [RV,RTy];exact ⟨fx,true,l',rfl,⟨λe=>absurd rfl e,λe=>by cases e⟩,by simpa [cast']using hup hall⟩
       ·refine ⟨_,_,hk,hv2.2.1 hne fx hfx,?_⟩;simp only [RV,RTy];exact ⟨.own,false,_,rfl,⟨λe=>absurd rfl e,λe=>by cases e⟩,(hup hall).append (hup hall2)⟩
      ·cases h
     ·cases h
    ·cases h
 ·cases h
theorem qaj{op:BinOp}{t:TypeId}{xo yo:Operand}{a b u:Value}(h:Ab.valOf P (do eqGuard op t xo yo a b;Go.binOp op t a b)=some u):qk1 P op t xo yo (.val a) (.val b)=some (qca u):=by
 unfold qk1;simp only [V.toVal,h,qi]
theorem qn{α β:Type}(s:Sem α)(g:α->Sem β):Ab.valOf P (s >>= g)=(Ab.valOf P s).bind λa=>Ab.valOf P (g a):=by
 induction s with
 |pure a=>rfl
 |program k ih=>exact ih P
 |mark m k ih=>exact ih
 |_=>rfl
theorem qR{α:Type}(a:α):Ab.valOf P (pure a)=some a:=rfl
theorem quS{t:TypeId}{xo yo:Operand}{k1 k2:IntKind}{a b n:Int}(h:qC8 k1 a b=some n):qk1 P .shl t xo yo (.val (.int k1 a)) (.val (.int k2 b))=some (.val (.int k1 n)):=by
 unfold qC8 at h;split at h
 ·rename_i h0;cases h;exact qaj (u:=.int k1 _) (by simp [eqGuard,Go.binOp,Op.shift,Int.not_lt.2 h0,qR])
 ·cases h
theorem quT{t:TypeId}{xo yo:Operand}{k1 k2:IntKind}{a b n:Int}(h:qC9 k1 a b=some n):qk1 P .shr t xo yo (.val (.int k1 a)) (.val (.int k2 b))=some (.val (.int k1 n)):=by
 unfold qC9 at h;split at h
 ·rename_i h0;cases h;exact qaj (u:=.int k1 _) (by simp [eqGuard,Go.binOp,Op.shift,Int.not_lt.2 h0,qR])
 ·cases h
theorem qz7{op:BinOp}{t:TypeId}{xo yo:Operand}{k1:IntKind}{a b:Int}{R:Type}{k:TV->Option R}{r:R}{o1 o2:Nat}(h:qsc P op t (.t (.int k1) o1 a) (.t (.int k1) o2 b) R k=some r) :
  ∃z u,k z=some r/\qk1 P op t xo yo (.val (.int k1 a)) (.val (.int k1 b))=some u/\RV z u:=by
 have hrem:∀{z:TV},(bif decide (b=0)then none else k z)=some r->b≠0/\k z=some r:=λ{z} h=>by
  cases hd:decide (b=0)with
  |true=>rw [hd]at h;cases h
  |false=>rw [hd]at h;exact ⟨of_decide_eq_false hd,h⟩
 cases op<;>simp only [qsc,if_true]at h<;>try (cases h;done)
 case quo =>
  obtain ⟨h0,h⟩:=hrem h;refine ⟨_,.val (.int k1 (k1.wrap (a.tdiv b))),h,?_,by simp [RV,RTy]⟩;exact qaj (u:=.int k1 (k1.wrap (a.tdiv b))) (by simp [eqGuard,Go.binOp,Op.intDiv,h0,qR])
 case rem =>
  obtain ⟨h0,h⟩:=hrem h;refine ⟨_,.val (.int k1 (a.tmod b)),h,?_,by simp [RV,RTy]⟩;exact qaj (u:=.int k1 (a.tmod b)) (by simp [eqGuard,Go.binOp,Op.intDiv,h0,qR])
 case add =>
  refine ⟨_,.val (.int k1 (k1.wrap (a+b))),h,?_,by simp [RV,RTy]⟩;exact qaj (u:=.int k1 (k1.wrap (a+b))) (by simp [eqGuard,Go.binOp,Op.intArith,qR])
 case sub =>
  refine ⟨_,.val (.int k1 (k1.wrap (a-b))),h,?_,by simp [RV,RTy]⟩;exact qaj (u:=.int k1 (k1.wrap (a-b))) (by simp [eqGuard,Go.binOp,Op.intArith,qR])
 case mul =>
  refine ⟨_,.val (.int k1 (k1.wrap (a*b))),h,?_,by simp [RV,RTy]⟩;exact qaj (u:=.int k1 (k1.wrap (a*b))) (by simp [eqGuard,Go.binOp,Op.intArith,qR])
 case eql =>
  refine ⟨_,.val (.bool (decide (a=b))),h,?_,by simp [RV,RTy]⟩;exact qaj (u:=.bool (decide (a=b))) (by simp [eqGuard,Go.binOp,Op.intCmp,qR];rfl)
 case neq =>
  refine ⟨_,.val (.bool (!decide (a=b))),h,?_,by simp [RV,RTy]⟩;exact qaj (u:=.bool (!decide (a=b))) (by simp [eqGuard,Go.binOp,Op.intCmp,qR,bne];rfl)
 case lss =>
  refine ⟨_,.val (.bool (decide (a<b))),h,?_,by simp [RV,RTy]⟩;exact qaj (u:=.bool (decide (a<b))) (by simp [eqGuard,Go.binOp,Op.intCmp,qR])
 case leq =>
  refine ⟨_,.val (.bool (decide (a<=b))),h,?_,by simp [RV,RTy]⟩;exact qaj (u:=.bool (decide (a<=b))) (by simp [eqGuard,Go.binOp,Op.intCmp,qR])
 case gtr =>
  refine ⟨_,.val (.bool (decide (a > b))),h,?_,by simp [RV,RTy]⟩;exact qaj (u:=.bool (decide (a > b))) (by simp [eqGuard,Go.binOp,Op.intCmp,qR])
 case geq =>
  refine ⟨_,.val (.bool (decide (a>=b))),h,?_,by simp [RV,RTy]⟩;exact qaj (u:=.bool (decide (a>=b))) (by simp [eqGuard,Go.binOp,Op.intCmp,qR])
 case and =>
  refine ⟨_,.val (.int k1 (qCA k1 a b)),h,?_,by simp [RV,RTy]⟩;exact qaj (u:=.int k1 (qCA k1 a b)) (by simp [eqGuard,Go.binOp,Op.intBits,qR,qCA])
 case or =>
  refine ⟨_,.val (.int k1 (orI k1 a b)),h,?_,by simp [RV,RTy]⟩;exact qaj (u:=.int k1 (orI k1 a b)) (by simp [eqGuard,Go.binOp,Op.intBits,qR,orI])
 case xor =>
  refine ⟨_,.val (.int k1 (qCH k1 a b)),h,?_,by simp [RV,RTy]⟩;exact qaj (u:=.int k1 (qCH k1 a b)) (by simp [eqGuard,Go.binOp,Op.intBits,qR,qCH])
 case andNot =>
  refine ⟨_,.val (.int k1 (qpg k1 a b)),h,?_,by simp [RV,RTy]⟩;exact qaj (u:=.int k1 (qpg k1 a b)) (by simp [eqGuard,Go.binOp,Op.intBits,qR,qpg])
 case shl =>
  obtain ⟨n,hn,hk⟩:=qd.1 h;exact ⟨_,_,hk,quS hn,by simp [RV,RTy]⟩
 case shr =>
  obtain ⟨n,hn,hk⟩:=qd.1 h;exact ⟨_,_,hk,quT hn,by simp [RV,RTy]⟩
theorem qv0{op:BinOp}(hop:op=.shl\/op=.shr){t:TypeId}{xo yo:Operand}{k1 k2:IntKind}{a b:Int}{R:Type}{k:TV->Option R}{r:R}{o1 o2:Nat}(h:qsc P op t (.t (.int k1) o1 a) (.t (.int k2) o2 b) R k=some r) :
  ∃z u,k z=some r/\qk1 P op t xo yo (.val (.int k1 a)) (.val (.int k2 b))=some u/\RV z u:=by
 rcases hop with rfl|rfl
 ·simp only [qsc]at h;obtain ⟨n,hn,hk⟩:=qd.1 h;exact ⟨_,_,hk,quS hn,by simp [RV,RTy]⟩
 ·simp only [qsc]at h;obtain ⟨n,hn,hk⟩:=qd.1 h;exact ⟨_,_,hk,quT hn,by simp [RV,RTy]⟩
theorem qlG{op:BinOp}{k:FloatKind}{x y r:Nat}(h:floatBits op k x y=some r):Ab.valOf P (Op.floatArith op k x y)=some (.float k r):=by
 unfold floatBits at h;cases op<;>simp only at h<;>first|(cases h;done)|skip
 all_goals (simp [Op.floatArith,h];rfl)
theorem qbF{op:BinOp}{k:FloatKind}{x y r:Nat}(h:floatBits op k x y=some r):Ab.valOf P (Op.Complex.arith op k x y)=some r:=by
 unfold Op.Complex.arith;rw [qn,qlG h];rfl
theorem qv4{t:TypeId}{a b c d re im:Nat}(h:cSumBits .add .f64 a b c d=some (re,im)):Ab.valOf P (Go.binOp .add t (.complex .f64 a b) (.complex .f64 c d))=some (.complex .f64 re im):=by
 unfold cSumBits at h;obtain ⟨x,h1,h⟩:=qd.1 h;obtain ⟨y,h2,h⟩:=qd.1 h;cases h;simp only [Go.binOp,ne_eq,not_true,if_false,Op.complexOp];rw [qn,qbF h1,qa,qn,qbF h2];rfl
theorem qv3{t:TypeId}{a b c d re im:Nat}(h:cMulBits a b c d=some (re,im)):Ab.valOf P (Go.binOp .mul t (.complex .f64 a b) (.complex .f64 c d))=some (.complex .f64 re im):=by
 unfold cMulBits at h;obtain ⟨ac,h1,h⟩:=qd.1 h;obtain ⟨bd,h2,h⟩:=qd.1 h;obtain ⟨x,h3,h⟩:=qd.1 h;obtain ⟨ad,h4,h⟩:=qd.1 h;obtain ⟨bc,h5,h⟩:=qd.1 h;obtain ⟨y,h6,h⟩:=qd.1 h;cases h;have hp:Ab.valOf P (Op.Complex.product a b c d)=some (re,im):=by
  unfold Op.Complex.product Op.Complex.mul Op.Complex.sub Op.Complex.add;rw [qn,qbF h1,qa,qn,qbF h2,qa,qn,qbF h3,qa,qn,qbF h4,qa,qn,qbF h5,qa,qn,qbF h6];rfl
 have hc:∀x,Ab.valOf P (Op.Complex.conv .f64 x .f64)=some x:=λx=>by unfold Op.Complex.conv;simp [qR]
 simp only [Go.binOp,ne_eq,not_true,if_false,Op.complexOp];rw [qn,hc,qa,qn,hc,qa,qn,hc,qa,qn,hc,qa];simp only [beq_self_eq_true,if_true];rw [qn,hp,qa,qn,hc,qa,qn,hc];rfl
theorem qdD{n m:Int}(h:flo n=some m):m=n/\n.natAbs<2 ^ 53:=by
 unfold flo at h;split at h
 ·rename_i h1;cases h;exact ⟨rfl,h1⟩
 ·cases h
theorem qBw{op:BinOp}{t:TypeId}{xo yo:Operand}{a b:Int×Int}{x y:V}{o1 o2:Nat}{R:Type}{k:TV->Option R}{r:R}(hx:RV (.t .cx o1 a) x)(hy:RV (.t .cx o2 b) y)(h:qsc P op t (.t .cx o1 a) (.t .cx o2 b) R k=some r) :
  ∃z u,k z=some r/\qk1 P op t xo yo x y=some u/\RV z u:=by
 simp only [RV,RTy]at hx hy;obtain ⟨b1,b2,rfl,i1,i2⟩:=hx;obtain ⟨c1,c2,rfl,j1,j2⟩:=hy;unfold qsc at h;simp only at h;split at h
 ·obtain ⟨re,h1,h⟩:=qd.1 h;obtain ⟨im,h2,h⟩:=qd.1 h;obtain ⟨rfl,g1⟩:=qdD h1;obtain ⟨rfl,g2⟩:=qdD h2;obtain ⟨re,im,e,r1,r2⟩:=Fl.qAZ i1 i2 j1 j2 g1 g2;refine ⟨_,.val (.complex .f64 re im),h,qaj (u:=.complex .f64 re im) ?_,by simp only [RV,RTy];exact ⟨re,im,rfl,r1,r2⟩⟩;rw [qn];show (some ()).bind (λ_=>Ab.valOf P (Go.binOp .add t (.complex .f64 b1 b2) (.complex .f64 c1 c2)))=_;exact qv4 e
 ·obtain ⟨ac,h1,h⟩:=qd.1 h;obtain ⟨bd,h2,h⟩:=qd.1 h;obtain ⟨rfl,g1⟩:=qdD h1;obtain ⟨rfl,g2⟩:=qdD h2;obtain ⟨x,h3,h⟩:=qd.1 h;obtain ⟨rfl,g3⟩:=qdD h3;obtain ⟨ad,h4,h⟩:=qd.1 h;obtain ⟨bc,h5,h⟩:=qd.1 h;obtain ⟨rfl,g4⟩:=qdD h4;obtain ⟨rfl,g5⟩:=qdD h5;obtain ⟨y,h6,h⟩:=qd.1 h;obtain ⟨rfl,g6⟩:=qdD h6;obtain ⟨re,im,e,r1,r2⟩:=Fl.qAX i1 i2 j1 j2 g1 g2 g3 g4 g5 g6;refine ⟨_,.val (.complex .f64 re im),h,qaj (u:=.complex .f64 re im) ?_,by simp only [RV,RTy];exact ⟨re,im,rfl,r1,r2⟩⟩;rw [qn];show (some ()).bind (λ_=>Ab.valOf P (Go.binOp .mul t (.complex .f64 b1 b2) (.complex .f64 c1 c2)))=_;exact qv3 e
 ·cases h
theorem qz8{op:BinOp}{t:TypeId}{xo yo:Operand}{a b:List UInt8}{R:Type}{k:TV->Option R}{r:R}{o1 o2:Nat}(h:qsc P op t (.t .str o1 a) (.t .str o2 b) R k=some r) :
  ∃z u,k z=some r/\qk1 P op t xo yo (.val (.string ⟨a.toArray⟩)) (.val (.string ⟨b.toArray⟩))=some u/\RV z u:=by
 cases op<;>simp only [qsc]at h<;>try (cases h;done)
 case eql =>
  refine ⟨_,.val (.bool (decide (a=b))),h,?_,by simp [RV,RTy]⟩;exact qaj (u:=.bool (decide (a=b))) (by simp [eqGuard,binOp_string_eql,qR];rw [Bool.eq_iff_iff];simp)
 case neq =>
  refine ⟨_,.val (.bool (!decide (a=b))),h,?_,by simp [RV,RTy]⟩;exact qaj (u:=.bool (!decide (a=b))) (by simp [eqGuard,binOp_string_neq,qR];rw [Bool.eq_iff_iff];simp)
 case lss =>
  refine ⟨_,.val (.bool (Op.bytesLess a b)),h,?_,by simp [RV,RTy]⟩;exact qaj (u:=.bool (Op.bytesLess a b)) (by simp [eqGuard,binOp_string_lss,qR])
 case add =>
  obtain ⟨q,hq,hk⟩:=qd.1 h;obtain ⟨hn,rfl⟩:=qe7 hq;refine ⟨_,.val (.string ⟨(a++b).toArray⟩),hk,?_,by simp [RV,RTy]⟩;refine qaj (u:=.string ⟨(a++b).toArray⟩) ?_;have h1:(⟨a.toArray⟩:ByteArray).size=a.length:=by simp [ByteArray.size]
  have h2:(⟨b.toArray⟩:ByteArray).size=b.length:=by simp [ByteArray.size]
  have h3:(⟨a.toArray⟩++⟨b.toArray⟩:ByteArray)=⟨(a++b).toArray⟩:=by apply ByteArray.ext;simp
  have h4:¬ (((⟨a.toArray⟩:ByteArray).size+(⟨b.toArray⟩:ByteArray).size:Nat):Int) > IntKind.i64.max:=by
   rw [h1,h2];simp only [IntKind.max,IntKind.signed,IntKind.bits,if_true]<;>omega
  have h5:Go.binOp .add t (.string ⟨a.toArray⟩) (.string ⟨b.toArray⟩)=pure (.string ⟨(a++b).toArray⟩):=by
   simp only [Go.binOp,Op.stringOp];rw [if_neg h4,h3]
  simp only [eqGuard];rw [h5];rfl
theorem qt{t:TypeId}{d:TypeDesc}(h:P.underlying t=some d):Ab.valOf P (underlying t)=some d:=by
 unfold Go.underlying;simp only [qn];have h1:Ab.valOf P Go.program=some P:=rfl;simp only [h1,qa,h];rfl
theorem qk9{n:Nat}{t:TypeId}(h:P.underlying t=some .bool)(a b:Bool):Ab.valOf P (Op.equalIn (n+1) t (.bool a) (.bool b))=some (a==b):=by
 unfold Op.equalIn;rw [qn,qt h];rfl
theorem qsG{n:Nat}{t:TypeId}{k0:IntKind}(h:P.underlying t=some (.int k0))(k:IntKind)(a b:Int):Ab.valOf P (Op.equalIn (n+1) t (.int k a) (.int k b))=some (decide (a=b)):=by
 unfold Op.equalIn;rw [qn,qt h];simp only [qa,if_true];rfl
theorem qsH{n:Nat}{t:TypeId}(h:P.underlying t=some .string)(a b:List UInt8):Ab.valOf P (Op.equalIn (n+1) t (.string ⟨a.toArray⟩) (.string ⟨b.toArray⟩))=some (decide (a=b)):=by
 unfold Op.equalIn;rw [qn,qt h];simp only [qa];show some ((⟨a.toArray⟩:ByteArray)==⟨b.toArray⟩)=_;rw [qb,Bool.eq_iff_iff];first
 |(show (a.toArray==b.toArray)=true↔decide (a=b)=true;simp)
 |(show decide ((⟨a.toArray⟩:ByteArray)=⟨b.toArray⟩)=true↔decide (a=b)=true;simp)
def qCK(x:TV)(u:Value):Prop:=(qvQ x=true/\RV x (.val u))\/∃(l:List TV) (vs:List Value),x=.agg l/\u=.agg vs.toArray/\l.all qvQ=true/\RVL l (vs.map .val)
theorem qzQ{x:TV}{v:V}(h:qvQ x=true)(hr:RV x v):∃u,v=.val u:=by
 cases x with
 |t τ o x=>cases τ<;>simp only [RV,RTy]at hr<;>first|exact ⟨_,hr⟩|simp [qvQ]at h
 |_=>simp [qvQ]at h
theorem qny:∀{l:List TV} {l':List V},l.all qvQ=true->RVL l l'->∃vs:List Value,l'=vs.map .val
 |[],l',_,h=>by simp only [RVL]at h;exact ⟨[],by simp [h]⟩
 |x::l,l',h1,h=>by
  simp only [RVL]at h;obtain ⟨v,m,rfl,h2,h3⟩:=h;simp only [List.all_cons,qe]at h1;obtain ⟨u,rfl⟩:=qzQ h1.1 h2;obtain ⟨vs,rfl⟩:=qny h1.2 h3;exact ⟨u::vs,rfl⟩
theorem qi4:∀vs:List Value,toValL (vs.map .val)=some vs
 |[]=>rfl
 |u::vs=>by simp [toValL,V.toVal,qi4 vs]
theorem qn9{t:TypeId}{i:TypeInfo}(h:P.info? t=some i):Ab.valOf P (typeInfo t)=some i:=by
 unfold typeInfo;simp only [qn];have h1:Ab.valOf P Go.program=some P:=rfl;simp only [h1,qa,h];rfl
theorem qnK{t:TypeId}{d:TypeDesc}(h:P.underlying t=some d):∃i,P.info? t=some i:=by
 unfold Program.underlying at h;cases hi:P.info? t with
 |none=>rw [hi]at h;cases h
 |some i=>exact ⟨i,rfl⟩
theorem qte{t:TypeId}{xs:List TV}{vs:List Value}{off:Nat}{u:TV}(hs:xs.all qvQ=true)(hr:RVL xs (vs.map .val))(h:qaW P t (xs.drop off)=some u) :
  ∃w,Ab.valOf P (part t vs.toArray off)=some w/\qCK u w:=by
 unfold qaW at h;split at h
 ·cases h
 ·rename_i d hd;obtain ⟨i,hi⟩:=qnK hd;have hsz:Ab.valOf P (sizeOf t)=some (P.cellsOf t):=by
   unfold sizeOf;rw [qn,qn9 hi];simp [Program.cellsOf,hi,qR]
  have hag:Ab.valOf P (isAgg t)=some (qK P t):=by
   unfold isAgg qK;rw [qn,qt hd,hd];cases d<;>rfl
  unfold part;rw [qn,hag];simp only [qa];split at h
  ·rename_i ha;rw [if_pos ha];split at h
   ·rename_i hl;cases h;rw [qn,hsz];refine ⟨_,rfl,.inr ⟨_,(vs.drop off).take (P.cellsOf t),rfl,?_,?_,?_⟩⟩
    ·congr 1
     apply Array.ext';simp [List.take_drop]
    ·rw [List.all_eq_true]at hs ⊢;exact λy hy=>hs y (List.mem_of_mem_drop (List.mem_of_mem_take hy))
    ·rw [List.map_take,List.map_drop];exact (hr.drop off).take _
   ·cases h
  ·rename_i ha;rw [if_neg ha];have hx:xs[off]?=some u:=by simpa [List.head?_drop]using h
   obtain ⟨v,hv,hrv⟩:=hr.get hx;rw [List.getElem?_map]at hv;obtain ⟨w,hw,rfl⟩:=qc.1 hv;have hw':vs.toArray[off]?=some w:=by simpa using hw
   rw [hw'];refine ⟨w,rfl,.inl ⟨?_,hrv⟩⟩;rw [List.all_eq_true]at hs;exact hs u (List.mem_of_getElem? hx)
theorem quN:∀(d:Nat) (t:TypeId) (x y:TV) (b:Bool),teq P d t x y=some b->∀n,d<=n->∀u v,qCK x u->qCK y v->Ab.valOf P (Op.equalIn n t u v)=some b
 |0,t,x,y,b,h,n,hn,u,v,hu,hv=>by simp [teq]at h
 |d+1,t,x,y,b,h,n,hn,u,v,hu,hv=>by
  obtain ⟨n,rfl⟩:∃m,n=m+1:=⟨n-1,by omega⟩
  unfold teq at h;split at h
  ·rename_i k0 k o a k' o' a' ht;split at h
   ·rename_i hk;subst hk;cases h;rcases hu with ⟨_,hu⟩|⟨_,_,hu,_⟩
    ·rcases hv with ⟨_,hv⟩|⟨_,_,hv,_⟩
     ·simp only [RV,RTy,V.val.injEq]at hu hv;subst hu;subst hv;exact qsG ht _ _ _
     ·cases hv
    ·cases hu
   ·cases h
  ·rename_i o a o' a' ht;cases h;rcases hu with ⟨_,hu⟩|⟨_,_,hu,_⟩
   ·rcases hv with ⟨_,hv⟩|⟨_,_,hv,_⟩
    ·simp only [RV,RTy,V.val.injEq]at hu hv;subst hu;subst hv;exact qk9 ht _ _
    ·cases hv
   ·cases hu
  ·rename_i o a o' a' ht;cases h;rcases hu with ⟨_,hu⟩|⟨_,_,hu,_⟩
   ·rcases hv with ⟨_,hv⟩|⟨_,_,hv,_⟩
    ·simp only [RV,RTy,V.val.injEq]at hu hv;subst hu;subst hv;exact qsH ht _ _
    ·cases hv
   ·cases hu
  ·rename_i fields xs ys ht;split at h
   ·cases h
   ·rename_i hheld;rcases hu with ⟨hu,_⟩|⟨l,vs,hl,rfl,hsx,hrx⟩
    ·simp [qvQ]at hu
    ·rcases hv with ⟨hv,_⟩|⟨m,ws,hm,rfl,hsy,hry⟩
     ·simp [qvQ]at hv
     ·cases hl;cases hm
      unfold Op.equalIn;rw [qn, qt ht];simp only [qa];rw [qn];have h1 : Ab.valOf P Go.program = some P := rfl;simp only [h1, qa];rw [if_neg hheld, qn, <- Array.forIn_toList];have key : ∀ (fs : List Field) (b : Bool), fs.foldr (fun fd acc => if fd.name = "_" then none else
        match qaW P fd.type (xs.drop fd.offset),qaW P fd.type (ys.drop fd.offset),acc with
        |some u,some v,some b=>(teq P d fd.type u v).map λa=>bif a then b else false
        |_,_,_=>none) (some true)=some b ->
        Ab.valOf P (forIn fs ((none:Option Bool),()) λf __s=>(
         if f.name ≠ "_" then do
          let __do_lift <- part f.type vs.toArray f.offset
          let __do_lift_1 <- part f.type ws.toArray f.offset
          let __do_lift <- Op.equalIn n f.type __do_lift __do_lift_1
          if (!__do_lift)=true then pure (ForInStep.done (some false,()))
           else pure (ForInStep.yield (none,()))
         else pure (ForInStep.yield (none,())):Sem _))=some (if b then (none,())else (some false,())):=by
       intro fs;induction fs with
       |nil=>intro b hb;simp only [List.foldr_nil,qb]at hb;subst hb;rfl
       |cons fd fs ih =>
        intro b hb;simp only [List.foldr_cons]at hb;split at hb
        ·cases hb
        ·rename_i qco;split at hb
         ·rename_i u v b' hu hv hacc;obtain ⟨a,ha,rfl⟩:=qc.1 hb;obtain ⟨w1,hw1,hr1⟩:=qte hsx hrx hu;obtain ⟨w2,hw2,hr2⟩:=qte hsy hry hv;have he:=quN d fd.type u v a ha n (by omega) w1 w2 hr1 hr2;have ih':=ih b' hacc;rw [List.forIn_cons,qn,if_pos qco,qn,hw1];simp only [qa];rw [qn,hw2];simp only [qa];rw [qn,he];simp only [qa];cases a with
          |true =>
           simp only [Bool.not_true,qf,if_false,qR,qa,cond_true];exact ih'
          |false =>
           simp only [Bool.not_false,if_true,qR,qa,cond_false,qf,if_false]
         ·cases hb
      have hkey:=key fields.toList b h;rw [hkey];simp only [qa];cases b<;>rfl
  ·cases h
theorem qdw:9<=Op.maxDepth:=by unfold Op.maxDepth;omega
theorem qz6{op:BinOp}{t:TypeId}{xo yo:Operand}{l m:List TV}{l' m':List V}{R:Type}{k:TV->Option R}{r:R}(hl:RVL l l')(hm:RVL m m')(h:qsc P op t (.agg l) (.agg m) R k=some r) :
  ∃z u,k z=some r/\qk1 P op t xo yo (.agg l') (.agg m')=some u/\RV z u:=by
 simp only [qsc]at h;split at h
 ·cases h
 ·rename_i hc;simp only [Bool.or_eq_true,Bool.not_eq_true',not_or,Bool.not_eq_true,Bool.not_eq_false,qe]at hc;obtain ⟨hg,hs1,hs2⟩:=hc;split at h
  ·rename_i b hb;obtain ⟨vs,rfl⟩:=qny hs1 hl;obtain ⟨ws,rfl⟩:=qny hs2 hm;have he:=quN 9 t _ _ b hb Op.maxDepth qdw _ _ (.inr ⟨l,vs,rfl,rfl,hs1,hl⟩) (.inr ⟨m,ws,rfl,rfl,hs2,hm⟩);have hv:∀u,Ab.valOf P (do eqGuard op t xo yo (.agg vs.toArray) (.agg ws.toArray);Go.binOp op t (.agg vs.toArray) (.agg ws.toArray))=some u->qk1 P op t xo yo (.agg (vs.map .val)) (.agg (ws.map .val))=some (qca u):=λu hu=>by
    unfold qk1;simp only [V.toVal,qi4,qi,hu]
   have hguard:∀op,(op=.eql\/op=.neq)->Ab.valOf P (eqGuard op t xo yo (.agg vs.toArray) (.agg ws.toArray))=some ():=λop hop=>by
    have h1:Ab.valOf P Go.program=some P:=rfl;rcases hop with rfl|rfl<;>simp only [eqGuard]<;>(simp only [Bool.not_true,qf,if_false,qn,h1,qa,hg,Bool.not_false,if_true];rfl)
   split at h
   ·refine ⟨_,.val (.bool b),h,?_,by simp [RV,RTy]⟩;refine hv (.bool b) ?_;rw [qn,hguard .eql (.inl rfl)];simp only [qa];show Ab.valOf P (Op.equal t _ _ >>= λx=>(pure (Value.bool x):Sem Value))=_;rw [qn];unfold Op.equal;rw [he];rfl
   ·refine ⟨_,.val (.bool (!b)),h,?_,by simp [RV,RTy]⟩;refine hv (.bool (!b)) ?_;rw [qn,hguard .neq (.inr rfl)];simp only [qa];show Ab.valOf P (Op.equal t _ _ >>= λx=>(pure (Value.bool (!x)):Sem Value))=_;rw [qn];unfold Op.equal;rw [he];rfl
   ·cases h
  ·cases h
theorem qoi{t:TypeId}(h:P.underlying t=some .bool)(a b:Bool):Ab.valOf P (Op.equal t (.bool a) (.bool b))=some (a==b):=by
 unfold Op.equal;obtain ⟨n,hn⟩:∃n,Op.maxDepth=n+1:=⟨Op.maxDepth-1,by have:=qdw;omega⟩
 rw [hn];exact qk9 h a b
theorem qys{op:BinOp}{t:TypeId}{xo yo:Operand}{a b:Bool}{R:Type}{k:TV->Option R}{r:R}{o1 o2:Nat}(h:qsc P op t (.t .bool o1 a) (.t .bool o2 b) R k=some r) :
  ∃z u,k z=some r/\qk1 P op t xo yo (.val (.bool a)) (.val (.bool b))=some u/\RV z u:=by
 simp only [qsc]at h;split at h
 ·rename_i hu;refine ⟨_,.val (.bool (a==b)),h,?_,by simp [RV,RTy]⟩;refine qaj (u:=.bool (a==b)) ?_;show Ab.valOf P (Op.equal t _ _ >>= λx=>(pure (Value.bool x):Sem Value))=_;rw [qn,qoi hu];rfl
 ·rename_i hu;refine ⟨_,.val (.bool (!(a==b))),h,?_,by simp [RV,RTy]⟩;refine qaj (u:=.bool (!(a==b))) ?_;show Ab.valOf P (Op.equal t _ _ >>= λx=>(pure (Value.bool (!x)):Sem Value))=_;rw [qn,qoi hu];rfl
 ·cases h
theorem qsi{argTypes:Array TypeId}{s n:Nat}{y:V}:qcW P argTypes (.room s n) y=none:=by
 unfold qcW;split
 ·simp only
  split
  ·rfl
  ·split
   ·rfl
   ·rfl
 ·rfl
theorem qqv{argTypes:Array TypeId}{s n:Nat}{y:V}:qem P argTypes (.room s n) y=none:=by
 unfold qem;split
 ·rename_i h;cases h
 ·rfl
theorem qtG{argTypes:Array TypeId}{x y:TV}{x' y':V}{R:Type}{k:TV->Option R}{r:R}(hx:RV x x')(hy:RV y y')(h:qql P argTypes x y R k=some r) :
  ∃z u,k z=some r/\(qcW P argTypes x' y').or ((qem P argTypes x' y').or (qgE P argTypes x' y'))=some u/\RV z u:=by
 unfold qql at h;split at h
 ·rename_i elem yt h0 h1;split at h
  ·rename_i hc0;obtain ⟨hs0,hz,hb⟩:=hc0;split at h
   ·rename_i ik o n;simp only [RV]at hx;subst hx;simp only [RV,RTy]at hy;subst hy;cases hd:(decide (0<n)&&decide (n<=4294967296))with
    |false=>rw [hd]at h;cases h
    |true =>
     rw [hd]at h;simp only [qe,decide_eq_true_eq]at hd;have key:∀m:Int,0<m->m<=4294967296->m.toNat<=4294967296/\m<=70368744177664:=λm _ _=>by omega
     obtain ⟨key1,key2⟩:=key n hd.1 hd.2;refine ⟨_,.room (P.cellsOf elem) n.toNat,h,?_,by simp [RV]⟩;have e1:qcW P argTypes (.val (.slice none 0 0)) (.val (.int .i64 n))=none:=by
      rw [qk0 h0 h1];rfl
     have hbig:n.toNat*P.bytesOf elem<=4294967296*8192:=Nat.mul_le_mul key1 hb;have e2:qem P argTypes (.val (.slice none 0 0)) (.val (.int .i64 n))=some (.room (P.cellsOf elem) n.toNat):=by
      unfold qem;rw [h0,h1];simp only;rw [if_pos ⟨hd.1,key2,hs0,hz,by omega⟩]
     rw [e1,e2];rfl
   ·split at h
    ·cases h
    ·rename_i τ o2 l2 ht;obtain ⟨l2',hl2',hall2⟩:=qyp ht hy;split at h
     ·rename_i hc;obtain ⟨hcl,hok,hel,hup⟩:=hc;obtain ⟨hup1,hup2⟩:=qzu hup;have hc2:∀e∈l2',e.cells.length=P.cellsOf elem/\e.oks=true/\e.qp=[]:=λe he=>by
       obtain ⟨h1,h2,h3⟩:=qdl hel hall2 e he;exact ⟨by rw [h1,hcl],h2,h3⟩
      have hp:ptrsL l2'=[]:=by
       apply List.eq_nil_iff_forall_not_mem.2;intro r hr;obtain ⟨v,hv,hrv⟩:=qna.1 hr;rw [(hc2 v hv).2.2]at hrv;cases hrv
      have hall2':l2'.all (λe=>decide (e.cells.length=P.cellsOf elem)&&e.oks)=true:=by
       rw [List.all_eq_true];intro e he;simp [(hc2 e he).1,(hc2 e he).2.1]
      have hlen:=hall2.length;split at h
      ·-- behind nil
       simp only [RV]at hx;subst hx;have hv:qcW P argTypes (.val (.slice none 0 0)) y'=if l2'.isEmpty then some (.val (.slice none 0 0))else if (l2'.length+512)*P.bytesOf elem<=70368744177664/\l2'.length<=70368744177664 then some (.sl .own false l2')else none:=by
        rw [qk0 h0 h1,hl2'];simp only;rw [if_neg (by simp only [not_or,Decidable.not_not,Bool.not_eq_false];exact ⟨hs0,hz,hall2',by rw [hp];rfl⟩)]
       cases hem:List.isEmpty l2 with
       |true =>
        rw [hem]at h;have hem':l2'.isEmpty=true:=by rw [List.isEmpty_iff]at hem ⊢;subst hem;cases hall2;rfl
        exact ⟨_,.val (.slice none 0 0),h,by rw [hv,if_pos hem'];rfl,by simp only [RV]⟩
       |false =>
        rw [hem]at h;obtain ⟨q,hq,hk⟩:=qd.1 h;obtain ⟨hn,rfl⟩:=qe7 hq;have hem':¬ l2'.isEmpty=true:=by
         intro h9;rw [List.isEmpty_iff]at h9;subst h9;cases hall2;cases hem
        have hbig:=big (s:=l2'.length) (by rw [hlen];simpa using hn) hb;refine ⟨_,.sl .own false l2',hk,by rw [hv,if_neg hem',if_pos ⟨hbig,by rw [hlen];simp at hn;omega⟩];rfl,?_⟩;simp only [RV,RTy];exact ⟨.own,false,_,rfl,qeD hup,by rw [hup1];simpa using hall2⟩
      ·rename_i s τ2 o3 y2 _;split at h
       ·rename_i hs;subst hs;split at h
        ·rename_i q0;simp only [RV]at hx;obtain ⟨_,n,rfl,hn0⟩|⟨h9,_⟩:=hx
         case inr=>omega
         obtain rfl:=hn0 trivial;have hy2:∃fl cl,y'=.sl fl cl l2':=by
          cases τ2 with
          |sl t2=>simp only [RV,RTy]at hy;obtain ⟨f,c,l',rfl,_,_⟩:=hy;simp only [qz3]at hl2';exact ⟨f,c,by simpa using hl2'⟩
          |_=>simp [tail?]at ht
         obtain ⟨fl,cl,rfl⟩:=hy2;have hn:l2.length<=4294967296\/List.isEmpty l2=true:=by
          cases hem:List.isEmpty l2 with
          |true=>exact .inr rfl
          |false =>
           rw [hem]at h;obtain ⟨q,hq,hk⟩:=qd.1 h;obtain ⟨hn,rfl⟩:=qe7 hq;exact .inl (by simpa using hn)
         have hnl:l2'.length<=4294967296:=by
          rw [hlen];rcases hn with hn|hn
          ·exact hn
          ·rw [List.isEmpty_iff]at hn;rw [hn];simp
         have hbig:l2'.length*P.bytesOf elem<=4294967296*8192:=Nat.mul_le_mul hnl hb;have hv:qgE P argTypes (.room (P.cellsOf elem) 0) (.sl fl cl l2')=if l2'.isEmpty=true then some (.room (P.cellsOf elem) 0)else some (.sl .own false l2'):=by
          unfold qgE;rw [h0,h1];simp only;rw [if_pos ⟨trivial,hz,hall2',by rw [hp];rfl,by omega,by omega⟩]
         rw [qsi,qqv,hv];cases hem:List.isEmpty l2 with
         |true =>
          rw [hem]at h;have hem':l2'.isEmpty=true:=by rw [List.isEmpty_iff]at hem ⊢;subst hem;cases hall2;rfl
          exact ⟨_,.room (P.cellsOf elem) 0,h,by rw [if_pos hem'];rfl,by simp [RV]⟩
         |false =>
          rw [hem]at h;obtain ⟨q,hq,hk⟩:=qd.1 h;obtain ⟨hn,rfl⟩:=qe7 hq;have hem':¬ l2'.isEmpty=true:=by
           intro h9;rw [List.isEmpty_iff]at h9;subst h9;cases hall2;cases hem
          refine ⟨_,.sl .own false l2',hk,by rw [if_neg hem'];rfl,?_⟩;simp only [RV,RTy];exact ⟨.own,false,_,rfl,qeD hup,by rw [hup1];simpa using hall2⟩
        ·cases h
       ·cases h
      ·cases h
     ·cases h
  ·cases h
 ·cases h
end
section
variable {P:Program} {H:Hints} {f:FuncId}
theorem qjl{t:TypeId}{d:TypeDesc}(hd:P.underlying t=some d){x y:Value}(h:(∃e,d=.slice e/\x=.slice none 0 0/\y=.slice none 0 0)\/(∃e,d=.pointer e/\x=.pointer none/\y=.pointer none)\/(∃a b c,d=.func a b c/\x=.nilFunc/\y=.nilFunc)) :
  Ab.valOf P (Op.equal t x y)=some true:=by
 unfold Op.equal;obtain ⟨n,hn⟩:∃n,Op.maxDepth=n+1:=⟨Op.maxDepth-1,by have:=qdw;omega⟩
 rw [hn];unfold Op.equalIn;rw [qn,qt hd];rcases h with ⟨e,rfl,rfl,rfl⟩|⟨e,rfl,rfl,rfl⟩|⟨a,b,c,rfl,rfl,rfl⟩<;>rfl
theorem qu9{t:TypeId}{ms:_}(hd:P.underlying t=some (.interface ms)):Ab.valOf P (Op.equal t .nilIface .nilIface)=some true:=by
 unfold Op.equal;obtain ⟨n,hn⟩:∃n,Op.maxDepth=n+1:=⟨Op.maxDepth-1,by have:=qdw;omega⟩
 rw [hn];unfold Op.equalIn;rw [qn,qt hd];rfl
theorem qBx{op:BinOp}{t:TypeId}{xo yo:Operand}{x y:TV}{x' y':V}{R:Type}{k:TV->Option R}{r:R}(hx:RV x x')(hy:RV y y')(h:qsc P op t x y R k=some r) :
  ∃z u,k z=some r/\qk1 P op t xo yo x' y'=some u/\RV z u:=by
 by_cases h1:∃k1 o1 a k2 o2 b,x=.t (.int k1) o1 a/\y=.t (.int k2) o2 b
 ·obtain ⟨k1,o1,a,k2,o2,b,rfl,rfl⟩:=h1;simp only [RV,RTy]at hx hy;subst hx;subst hy;by_cases hs:op=.shl\/op=.shr
  ·exact qv0 hs h
  by_cases hk:k1=k2
  ·subst hk;exact qz7 h
  ·unfold qsc at h;cases op<;>first|exact absurd (.inl rfl) hs|exact absurd (.inr rfl) hs|simp [hk]at h
 by_cases h2:∃o1 a o2 b,x=.t .str o1 a/\y=.t .str o2 b
 ·obtain ⟨o1,a,o2,b,rfl,rfl⟩:=h2;simp only [RV,RTy]at hx hy;subst hx;subst hy;exact qz8 h
 by_cases h3:∃o1 a o2 b,x=.t .bool o1 a/\y=.t .bool o2 b
 ·obtain ⟨o1,a,o2,b,rfl,rfl⟩:=h3;simp only [RV,RTy]at hx hy;subst hx;subst hy;exact qys h
 by_cases h5:∃o1 a o2 b,x=.t .cx o1 a/\y=.t .cx o2 b
 ·obtain ⟨o1,a,o2,b,rfl,rfl⟩:=h5;exact qBw hx hy h
 by_cases h4:∃l m,x=.agg l/\y=.agg m
 ·obtain ⟨l,m,rfl,rfl⟩:=h4;simp only [RV]at hx hy;obtain ⟨l',rfl,hl⟩:=hx;obtain ⟨m',rfl,hm⟩:=hy;exact qz6 hl hm h
 unfold qsc at h;split at h
 ·exact absurd ⟨_,_,_,_,_,_,rfl,rfl⟩ h1
 ·exact absurd ⟨_,_,_,_,rfl,rfl⟩ h5
 ·exact absurd ⟨_,_,_,_,rfl,rfl⟩ h2
 ·exact absurd ⟨_,_,_,_,rfl,rfl⟩ h3
 ·exact absurd ⟨_,_,rfl,rfl⟩ h4
 ·rename_i τ o l;simp only [RV,RTy]at hx hy;obtain ⟨fx,cx,l',rfl,_,hall⟩:=hx;subst hy;split at h
  ·rename_i el hu;cases hall with
   |nil=>simp at h
   |cons ha hb =>
    simp only [List.isEmpty_cons,cond_false]at h;have hv:∀v m op,qk1 P op t xo yo (.sl fx cx (v::m)) (.val (.slice none 0 0))=(match op with
      |.eql=>some (.val (.bool false))
      |.neq=>some (.val (.bool true))
      |_=>none):=λv m op=>by
     unfold qk1;simp only [V.toVal,hu,notNil,if_true];cases op<;>rfl
    split at h
    ·exact ⟨_,_,h,hv _ _ _,by simp [RV,RTy]⟩
    ·exact ⟨_,_,h,hv _ _ _,by simp [RV,RTy]⟩
    ·cases h
  ·cases h
 ·rename_i τ o l;simp only [RV,RTy]at hx hy;subst hy;split at h
  ·rename_i el hu;have hv:∀op,(op=.eql\/op=.neq)->qk1 P op t xo yo x' (.val (.slice none 0 0))=some (.val (.bool (if op=.eql then List.isEmpty l else !List.isEmpty l))):=by
    intro op hop;rcases hx with ⟨rfl,rfl⟩|⟨hne,fx,cx,l',rfl,_,hall⟩
    ·have he:=qjl hu (.inl ⟨_,rfl,rfl,rfl⟩) (x:=.slice none 0 0) (y:=.slice none 0 0);unfold qk1;simp only [V.toVal];rcases hop with rfl|rfl
     ·show ((Ab.valOf P (Op.equal t (.slice none 0 0) (.slice none 0 0) >>= λb=>(pure (Value.bool b):Sem Value))).map qca)=_;rw [qn,he];rfl
     ·show ((Ab.valOf P (Op.equal t (.slice none 0 0) (.slice none 0 0) >>= λb=>(pure (Value.bool (!b)):Sem Value))).map qca)=_;rw [qn,he];rfl
    ·cases hall with
     |nil=>exact absurd rfl hne
     |cons ha hb =>
      unfold qk1;simp only [V.toVal,hu,notNil,if_true];rcases hop with rfl|rfl<;>rfl
   split at h
   ·exact ⟨_,_,h,hv _ (.inl rfl),by simp [RV,RTy]⟩
   ·exact ⟨_,_,h,hv _ (.inr rfl),by simp [RV,RTy]⟩
   ·cases h
  ·cases h
 ·split at h
  ·rename_i d hd;split at h
   ·rename_i hn;have hv:x'.toVal=none/\notNil d x' y'=true:=by
     unfold qxC at hn;split at hn
     ·simp only [RV]at hx hy;subst hx;subst hy;exact ⟨rfl,rfl⟩
     ·simp only [RV]at hx hy;obtain ⟨_,l',rfl,_⟩:=hx;subst hy;exact ⟨rfl,rfl⟩
     ·simp only [RV]at hx hy;obtain ⟨a',b',rfl,_⟩:=hx;subst hy;exact ⟨rfl,rfl⟩
     ·cases hn
    have hv2:∀op,qk1 P op t xo yo x' y'=(match op with
      |.eql=>some (.val (.bool false))
      |.neq=>some (.val (.bool true))
      |_=>none):=λop=>by
     unfold qk1;simp only [hv.1,hd,hv.2,if_true];cases op<;>rfl
    split at h
    ·exact ⟨_,_,h,hv2 _,by simp [RV,RTy]⟩
    ·exact ⟨_,_,h,hv2 _,by simp [RV,RTy]⟩
    ·cases h
   ·split at h
    ·rename_i hn;have hv:∃u v,x'=.val u/\y'=.val v/\Ab.valOf P (Op.equal t u v)=some true/\(∀op,op=.eql\/op=.neq->Ab.valOf P (do eqGuard op t xo yo u v;Go.binOp op t u v)=Ab.valOf P (Op.equal t u v >>= λb=>(pure (Value.bool (if op=.eql then b else !b)):Sem Value))):=by
      unfold qAt at hn;split at hn
      ·simp only [RV]at hx hy;subst hx;subst hy;refine ⟨_,_,rfl,rfl,qjl hd (.inl ⟨_,rfl,rfl,rfl⟩),?_⟩;rintro op (rfl|rfl)<;>rfl
      ·simp only [RV]at hx hy;subst hx;subst hy;refine ⟨_,_,rfl,rfl,qjl hd (.inr (.inl ⟨_,rfl,rfl,rfl⟩)),?_⟩;rintro op (rfl|rfl)<;>rfl
      ·simp only [RV]at hx hy;subst hx;subst hy;refine ⟨_,_,rfl,rfl,qjl hd (.inr (.inr ⟨_,_,_,rfl,rfl,rfl⟩)),?_⟩;rintro op (rfl|rfl)<;>rfl
      ·cases hn
     obtain ⟨u,v,rfl,rfl,he,hg⟩:=hv;split at h
     ·refine ⟨_,.val (.bool true),h,?_,by simp [RV,RTy]⟩;refine qaj (u:=.bool true) ?_;rw [hg _ (.inl rfl),qn,he];rfl
     ·refine ⟨_,.val (.bool false),h,?_,by simp [RV,RTy]⟩;refine qaj (u:=.bool false) ?_;rw [hg _ (.inr rfl),qn,he];rfl
     ·cases h
    ·cases h
  ·cases h
theorem qCv{op:UnOp}{x y:TV}{v:V}(hx:RV x v)(h:tun op x=some y):∃u,v.toVal.bind (λa=>(Ab.valOf P (Go.Op.unary op a)).map qca)=some u/\RV y u:=by
 unfold tun at h;split at h
 ·cases h;simp only [RV,RTy]at hx;subst hx;exact ⟨_,rfl,by simp [RV,RTy,qca]⟩
 ·cases h;simp only [RV,RTy]at hx;subst hx;exact ⟨_,rfl,by simp [RV,RTy,qca]⟩
 ·cases h
theorem qz9{src dst:TypeId}{x:TV}{v:V}{R:Type}{k:TV->Option R}{r:R}(hx:RV x v)(h:qBy P src dst x R k=some r):∃z u,k z=some r/\qqw P src dst v=some u/\RV z u:=by
 unfold qBy at h;split at h
 ·rename_i d1 kk k0 o n h1 h2;simp only [RV,RTy]at hx;subst hx;refine ⟨_,.val (.int kk (kk.wrap n)),h,?_,by simp [RV,RTy]⟩;unfold qqw qgF;simp only [V.toVal];unfold Go.convert;rw [qn,qt h1];simp only [qa];rw [qn,qt h2];rfl
 ·rename_i d1 k0 o n h1 h2;obtain ⟨n',hn',hk'⟩:=qd.1 h;obtain ⟨rfl,hn⟩:=qdD hn';simp only [RV,RTy]at hx;subst hx;refine ⟨_,.val (.float .f64 (FloatKind.f64.nearest n')),hk',?_,by simp only [RV,RTy];exact ⟨_,rfl,Fl.qvt hn⟩⟩;unfold qqw qgF;simp only [V.toVal];unfold Go.convert;rw [qn,qt h1];simp only [qa];rw [qn,qt h2];rfl
 ·rename_i o n h1 h2;obtain ⟨n',hn',hk'⟩:=qd.1 h;obtain ⟨rfl,hn⟩:=qdD hn';simp only [RV,RTy]at hx;obtain ⟨b,rfl,hb⟩:=hx;refine ⟨_,.val (.int .i64 n'),hk',?_,by simp [RV,RTy]⟩;unfold qqw qgF;simp only [V.toVal];unfold Go.convert;rw [qn,qt h1];simp only [qa];rw [qn,qt h2];have h3:(FloatKind.f64.decode b).toInt .zero=some n':=Fl.qAa hb;have h4:IntKind.i64.min<=n'/\n'<=IntKind.i64.max:=by
   simp only [IntKind.min,IntKind.max,IntKind.signed,IntKind.bits,if_true]<;>omega
  show ((Ab.valOf P (Conv.floatToInt .f64 b .i64)).map qca)=_;unfold Conv.floatToInt;simp only [h3];rw [if_pos h4];rfl
 ·rename_i d1 o s h1 h2;simp only [RV,RTy]at hx;subst hx;refine ⟨_,.val (.string ⟨s.toArray⟩),h,?_,by simp [RV,RTy]⟩;unfold qqw qgF;simp only [V.toVal];unfold Go.convert;rw [qn,qt h1];simp only [qa];rw [qn,qt h2];rfl
 ·rename_i e o l h1 h2;split at h
  ·rename_i he;simp only [RV,RTy]at hx;obtain ⟨f,c,l',rfl,_,hall⟩:=hx;refine ⟨_,.val (.string ⟨(l.map λn=>UInt8.ofNat n.toNat).toArray⟩),h,?_,by simp [RV,RTy]⟩;simp only [qqw,qsj,h1,h2,he];have hb:∀{l:List Int} {l':List V},All2 (λ(n:Int) v=>v=.val (.int .u8 n)) l l'->bytesOf l'=some (l.map λn=>UInt8.ofNat n.toNat):=by
    intro l l' hall;induction hall with
    |nil=>rfl
    |cons h1 _ ih=>subst h1;simp only [bytesOf,ih,qi,qh]
   rw [hb (hall.mono λn v h=>by simpa only [RTy]using h)];rfl
  ·cases h
 ·cases h
theorem qqq{k:IntKind}:∀{xs:List TV} {ys:List V} {l:List Int},qse k xs=some l->RVL xs ys->ys=l.map λn=>.val (.int k n)
 |[],ys,l,h,hr=>by simp only [qse,qb]at h;simp only [RVL]at hr;subst h;subst hr;rfl
 |x::xs,ys,l,h,hr=>by
  simp only [RVL]at hr;obtain ⟨v,m,rfl,h1,h2⟩:=hr;cases x with
  |t τ o x =>
   cases τ with
   |int k' =>
    simp only [qse]at h;split at h
    ·rename_i hk;subst hk;obtain ⟨l',hl',rfl⟩:=qc.1 h;simp only [RV,RTy]at h1;subst h1;rw [qqq hl' h2];rfl
    ·cases h
   |_=>simp [qse]at h
  |_=>simp [qse]at h
theorem qi3(k:IntKind):∀l:List Int,toValL (l.map λn=>V.val (.int k n))=some (l.map λn=>Value.int k n)
 |[]=>rfl
 |n::l=>by simp [toValL,V.toVal,qi3 k l]
theorem qxs(k:IntKind):∀(l:List Int) (n:Int),Ab.valOf P ((l.map λn=>Value.int k n).foldlM Go.Builtin.max2 (.int k n))=some (.int k (l.foldl max n))
 |[],n=>rfl
 |m::l,n=>by
  simp only [qh,List.foldlM_cons,List.foldl_cons];rw [qn];have:Ab.valOf P (Go.Builtin.max2 (.int k n) (.int k m))=some (.int k (max n m)):=by
   show some (Value.int k (if m > n then m else n))=_;congr 2;split<;>omega
  rw [this];exact qxs k l _
theorem qxy(k:IntKind):∀(l:List Int) (n:Int),Ab.valOf P ((l.map λn=>Value.int k n).foldlM Go.Builtin.min2 (.int k n))=some (.int k (l.foldl min n))
 |[],n=>rfl
 |m::l,n=>by
  simp only [qh,List.foldlM_cons,List.foldl_cons];rw [qn];have:Ab.valOf P (Go.Builtin.min2 (.int k n) (.int k m))=some (.int k (min n m)):=by
   show some (Value.int k (if m<n then m else n))=_;congr 2;split<;>omega
  rw [this];exact qxy k l _
theorem qtI{b:Builtin}{argTypes:Array TypeId}{ty:TypeId}{xs:List TV}{ys:List V}{R:Type}{k:TV->Option R}{r:R}(hx:RVL xs ys)(h:qqn P b argTypes xs R k=some r) :
  ∃z u,k z=some r/\qdJ P b argTypes ty ys=some u/\RV z u:=by
 unfold qqn at h;split at h
 ·rename_i τ o l;simp only [RVL]at hx;obtain ⟨v,m,rfl,h1,rfl⟩:=hx;simp only [RV,RTy]at h1;obtain ⟨fx,c,l',rfl,_,hall⟩:=h1;split at h
  ·rename_i e he;refine ⟨_,.val (.int .i64 l'.length),h,?_,by simp [RV,RTy,hall.length]⟩;simp only [qdJ,he]
  ·cases h
 ·rename_i τ l;simp only [RVL]at hx;obtain ⟨v,m,rfl,h1,rfl⟩:=hx;simp only [RV]at h1;obtain ⟨fx,l',rfl,_,hall⟩:=h1;split at h
  ·rename_i e he;refine ⟨_,.val (.int .i64 l'.length),h,?_,by simp [RV,RTy,hall.length]⟩;simp only [qdJ,he]
  ·cases h
 ·rename_i ow;simp only [RVL]at hx;obtain ⟨v,m,rfl,h1,rfl⟩:=hx;simp only [RV]at h1;obtain ⟨fx,c,rfl,_⟩:=h1;split at h
  ·rename_i e he;refine ⟨_,.val (.int .i64 ([]:List V).length),h,?_,by simp [RV,RTy]⟩;simp only [qdJ,he]
  ·cases h
 ·rename_i o s;simp only [RVL]at hx;obtain ⟨v,m,rfl,h1,rfl⟩:=hx;simp only [RV,RTy]at h1;subst h1;split at h
  ·rename_i he;refine ⟨_,.val (.int .i64 s.length),h,?_,by simp [RV,RTy]⟩;obtain ⟨t,ht,hu⟩:=qd.1 he;have hl:Ab.valOf P (Go.Builtin.len_ argTypes ty #[.string ⟨s.toArray⟩])=some (.int .i64 s.length):=by
    unfold Go.Builtin.len_;have ha:(#[Value.string ⟨s.toArray⟩]:Array Value)[0]?=some (.string ⟨s.toArray⟩):=rfl;simp only [ht,ha];rw [qn,qt hu];simp only [qa];show some (goInt (⟨s.toArray⟩:ByteArray).size)=_;simp [goInt,ByteArray.size]
   show ((toValL [V.val (.string ⟨s.toArray⟩)]).bind λvs=>(Ab.valOf P (Go.Builtin.len_ argTypes ty vs.toArray)).map qca)=_;simp only [toValL,V.toVal,qa];rw [show [Value.string ⟨s.toArray⟩].toArray=#[Value.string ⟨s.toArray⟩]from rfl,hl];rfl
  ·cases h
 ·simp only [RVL]at hx;obtain ⟨v,m,rfl,h1,rfl⟩:=hx;simp only [RV]at h1;subst h1;split at h
  ·rename_i e he;refine ⟨_,.val (.int .i64 0),h,?_,by simp [RV,RTy]⟩;obtain ⟨t,ht,hu⟩:=qd.1 he;have hl:Ab.valOf P (Go.Builtin.cap_ argTypes ty #[.slice none 0 0])=some (.int .i64 0):=by
    unfold Go.Builtin.cap_;have ha:(#[Value.slice none 0 0]:Array Value)[0]?=some (.slice none 0 0):=rfl;simp only [ht,ha];rw [qn,qt hu];rfl
   show ((toValL [V.val (.slice none 0 0)]).bind λvs=>(Ab.valOf P (Go.Builtin.cap_ argTypes ty vs.toArray)).map qca)=_;simp only [toValL,V.toVal,qa];rw [show [Value.slice none 0 0].toArray=#[Value.slice none 0 0]from rfl,hl];rfl
  ·cases h
 ·simp only [RVL]at hx;obtain ⟨v,m,rfl,h1,rfl⟩:=hx;simp only [RV]at h1;subst h1;split at h
  ·rename_i e he;refine ⟨_,.val (.int .i64 0),h,?_,by simp [RV,RTy]⟩;obtain ⟨t,ht,hu⟩:=qd.1 he;have hl:Ab.valOf P (Go.Builtin.len_ argTypes ty #[.slice none 0 0])=some (.int .i64 0):=by
    unfold Go.Builtin.len_;have ha:(#[Value.slice none 0 0]:Array Value)[0]?=some (.slice none 0 0):=rfl;simp only [ht,ha];rw [qn,qt hu];rfl
   show ((toValL [V.val (.slice none 0 0)]).bind λvs=>(Ab.valOf P (Go.Builtin.len_ argTypes ty vs.toArray)).map qca)=_;simp only [toValL,V.toVal,qa];rw [show [Value.slice none 0 0].toArray=#[Value.slice none 0 0]from rfl,hl];rfl
  ·cases h
 ·rename_i x y;simp only [RVL]at hx;obtain ⟨v,m,rfl,h1,v2,m2,rfl,h2,rfl⟩:=hx;split at h
  ·obtain ⟨z,u,hz,hu,hr⟩:=qtG h1 h2 h;exact ⟨z,u,hz,by simp only [qdJ,hu],hr⟩
  ·obtain ⟨z,u,hz,hu,hr⟩:=qvZ h1 h2 h;exact ⟨z,u,hz,by simp only [qdJ,hu,Option.some_or],hr⟩
 ·rename_i o1 a o2 b;simp only [RVL]at hx;obtain ⟨v,m,rfl,h1,v2,m2,rfl,h2,rfl⟩:=hx;simp only [RV,RTy]at h1 h2;obtain ⟨b1,rfl,i1⟩:=h1;obtain ⟨b2,rfl,i2⟩:=h2;exact ⟨_,.val (.complex .f64 b1 b2),h,rfl,by simp only [RV,RTy];exact ⟨b1,b2,rfl,i1,i2⟩⟩
 ·rename_i o1 a;simp only [RVL]at hx;obtain ⟨v,m,rfl,h1,rfl⟩:=hx;simp only [RV,RTy]at h1;obtain ⟨b1,b2,rfl,i1,i2⟩:=h1;exact ⟨_,.val (.float .f64 b1),h,rfl,by simp only [RV,RTy];exact ⟨b1,rfl,i1⟩⟩
 ·rename_i o1 a;simp only [RVL]at hx;obtain ⟨v,m,rfl,h1,rfl⟩:=hx;simp only [RV,RTy]at h1;obtain ⟨b1,b2,rfl,i1,i2⟩:=h1;exact ⟨_,.val (.float .f64 b2),h,rfl,by simp only [RV,RTy];exact ⟨b2,rfl,i2⟩⟩
 ·rename_i kk o n xs;split at h
  ·rename_i l hl;simp only [RVL]at hx;obtain ⟨v,m,rfl,h1,h2⟩:=hx;simp only [RV,RTy]at h1;subst h1;rw [qqq hl h2];refine ⟨_,.val (.int kk (l.foldl max n)),h,?_,by simp [RV,RTy]⟩;show ((toValL ((n::l).map λn=>V.val (.int kk n))).bind λvs=>(Ab.valOf P (Go.Builtin.max_ argTypes ty vs.toArray)).map qca)=_;rw [qi3];simp only [qa];have:Ab.valOf P (Go.Builtin.max_ argTypes ty ((n::l).map λn=>Value.int kk n).toArray)=some (.int kk (l.foldl max n)):=qxs kk l n;rw [this];rfl
  ·cases h
 ·rename_i kk o n xs;split at h
  ·rename_i l hl;simp only [RVL]at hx;obtain ⟨v,m,rfl,h1,h2⟩:=hx;simp only [RV,RTy]at h1;subst h1;rw [qqq hl h2];refine ⟨_,.val (.int kk (l.foldl min n)),h,?_,by simp [RV,RTy]⟩;show ((toValL ((n::l).map λn=>V.val (.int kk n))).bind λvs=>(Ab.valOf P (Go.Builtin.min_ argTypes ty vs.toArray)).map qca)=_;rw [qi3];simp only [qa];have:Ab.valOf P (Go.Builtin.min_ argTypes ty ((n::l).map λn=>Value.int kk n).toArray)=some (.int kk (l.foldl min n)):=qxy kk l n;rw [this];rfl
  ·cases h
 ·cases h
def BxR:Option (List TV)->Option (List V)->Prop
 |none,b=>True
 |some c,b=>∃c',b=some c'/\RVL c c'
def BxO:Option (List TV)->Option (List V)->Prop
 |none,b=>b=none
 |some c,b=>∃c',b=some c'/\RVL c c'
theorem qyr{R:Type}{mk:Int->TV}{l:List Int}{r:R}:∀(n i:Nat) (acc:List TV) (k:List TV->Option R),qCu R mk l n i acc k=some r->i<=l.length->n+i<=l.length/\k (acc++((l.drop i).take n).map mk)=some r
 |0,i,acc,k,h,hi=>⟨by omega,by simpa [qCu]using h⟩
 |n+1,i,acc,k,h,hi=>by
  unfold qCu at h;obtain ⟨e,he,hk⟩:=qd.1 h;rw [show idx l (i:Int)=l[i]? from by simp [idx]]at he;have hlt:=(qm.1 he).1;obtain ⟨h1,h2⟩:=qyr n (i+1) _ k hk (by omega);refine ⟨by omega,?_⟩;have e1:(l.drop i).take (n+1)=e::(l.drop (i+1)).take n:=by
   rw [List.drop_eq_getElem_cons hlt,List.take_succ_cons];rw [(qm.1 he).2]
  rw [e1,qh];simpa using h2
theorem qtH{t:TypeId}{x:TV}{R:Type}{k:TV->Option R}{r:R}{v:V}(h:qqm P t x R k=some r)(hx:RV x v):∃y u,k y=some r/\qh0 P t v=some u/\RV y u:=by
 unfold qqm at h;split at h
 ·rename_i n elem kk o l hu;split at h
  ·cases h
  ·rename_i h0;obtain ⟨h1,h2⟩:=qyr n 0 [] _ h (Nat.zero_le _);simp only [RV,RTy]at hx;obtain ⟨fl,c,l',rfl,hfl,hall⟩:=hx;have hl:=hall.length;have hv:∀{l:List Int} {l':List V},All2 (λ(n:Int) v=>v=.val (.int kk n)) l l'->(qgM l').isSome=true:=by
    intro l l' h;induction h with
    |nil=>rfl
    |cons h1 _ ih=>subst h1;simpa [qgM]using ih
   have hall':=hall.mono λn v (h:RTy (.int kk) (nx o) n v)=>(by simpa only [RTy]using h:v=.val (.int kk n))
   refine ⟨_,.cptr (qW fl) (l'.take n),h2,?_,?_⟩
   ·simp only [qh0,hu];rw [if_pos ⟨by omega,h0,hv hall'⟩]
   ·simp only [RV];refine ⟨_,_,rfl,by cases fl<;>simp [qW],λe=>by rw [hfl.2 (of_decide_eq_true e)];rfl,?_⟩;have ht:∀{l:List Int} {l':List V},All2 (λ(n:Int) v=>v=.val (.int kk n)) l l'->∀n,RVL ((l.take n).map λe=>.t (.int kk) 0 e) (l'.take n):=by
     intro l l' h;induction h with
     |nil=>intro n;simp only [List.take_nil,List.map_nil];exact q7
     |cons h1 _ ih =>
      intro n;cases n with
      |zero=>simp only [List.take_zero,List.map_nil];exact q7
      |succ n =>
       subst h1;simp only [List.take_succ_cons,qh];exact qv.2 ⟨by simp only [RV,RTy],ih n⟩
    simpa using ht hall' n
 ·cases h
theorem qsf{tk:Bool}{o:Op}{ty:TypeId}{xs:List TV}{ys:List V}{bx:Option (List TV)}{bx':Option (List V)}{R:Type}{k:TV->Option (List TV)->Option R}{r:R}(hx:RVL xs ys)(hb:BxR bx bx')(hmp:∀c,bx'=some c->qf9 c=false)
  (h:qcK P H f tk o xs bx R k=some r):∃z c u c',k z c=some r/\qaO P H f tk o ty ys bx'=some (u,c')/\RV z u/\BxO c c':=by
 have fin:∀{x:Option TV} {y:Option V},(match x with|some x=>k x none|none=>none)=some r->(∀z,x=some z->∃u,y=some u/\RV z u)->∃z c u c',k z c=some r/\(y.map λx=>(x,(none:Option (List V))))=some (u,c')/\RV z u/\BxO c c':=by
  intro x y h1 h2;cases x with
  |none=>cases h1
  |some z =>
   obtain ⟨u,hu,hr⟩:=h2 z rfl;exact ⟨z,none,u,none,h1,by rw [hu];rfl,hr,rfl⟩
 have fin2:∀{y:Option V},(∃z u,k z none=some r/\y=some u/\RV z u)->∃z c u c',k z c=some r/\(y.map λx=>(x,(none:Option (List V))))=some (u,c')/\RV z u/\BxO c c':=by
  rintro y ⟨z,u,h1,rfl,hr⟩;exact ⟨z,none,u,none,h1,rfl,hr,rfl⟩
 unfold qcK at h;simp only at h;split at h
 ·simp only [RVL]at hx;obtain ⟨v,m,rfl,h1,rfl⟩:=hx;exact ⟨_,none,v,none,h,rfl,h1,rfl⟩
 ·simp only [RVL]at hx;obtain ⟨v,m,rfl,h1,rfl⟩:=hx;exact ⟨_,none,v,none,h,rfl,h1,rfl⟩
 ·rename_i o' c a b;simp only [RVL]at hx;obtain ⟨v,m,rfl,h1,va,ma,rfl,ha,vb,mb,rfl,hb',rfl⟩:=hx;simp only [RV,RTy]at h1;subst h1;cases c with
  |true=>exact ⟨_,none,va,none,h,rfl,ha,rfl⟩
  |false=>exact ⟨_,none,vb,none,h,rfl,hb',rfl⟩
 ·rename_i t parts xs;exact fin h λz hz=>qyu hx hz
 ·rename_i t len parts xs;exact fin h λz hz=>qn7 hx hz
 ·rename_i t a cs;simp only [RVL]at hx;obtain ⟨v,m,rfl,h1,rfl⟩:=hx;simp only [RV]at h1;obtain ⟨_,cs',rfl,_,_,hc⟩:=h1;refine fin h λz hz=>?_;obtain ⟨w,hw,rfl⟩:=qc.1 hz;obtain ⟨u,hu,hr⟩:=qdy hw hc;exact ⟨u.q8,by rw [hu];rfl,hr.q8⟩
 ·rename_i t a q off;simp only [RVL]at hx;obtain ⟨v,m,rfl,h1,rfl⟩:=hx;simp only [RV]at h1;subst h1;split at h
  ·rename_i cs;obtain ⟨cs',rfl,hc⟩:=hb;have hlp:=qdt (qaz hc) (hmp _ rfl);split at h
   ·rename_i htk;split at h
    ·rename_i x hxx;obtain ⟨u,hu,hr⟩:=qdy hxx (hc.drop off);refine ⟨_,_,u,_,h,?_,hr,⟨_,rfl,qj7 hc (RVL.q8 ((hc.drop off).take _))⟩⟩;simp only [qaO,hlp,qf,if_false,htk,if_true,hu,qi]
    ·cases h
   ·rename_i htk;obtain ⟨z,c,u,c',h1,h2,h3,h4⟩:=fin (y:=(qaa P t (cs'.drop off)).map V.q8) h λz hz=>by
     obtain ⟨w,hw,rfl⟩:=qc.1 hz;obtain ⟨u,hu,hr⟩:=qdy hw (hc.drop off);exact ⟨u.q8,by rw [hu];rfl,hr.q8⟩
    refine ⟨z,c,u,c',h1,?_,h3,h4⟩;simp only [qaO,hlp,qf,if_false];rw [if_neg htk];exact h2
  ·cases h
 ·rename_i t a b q off x;simp only [RVL]at hx;obtain ⟨v,m,rfl,h1,v2,m2,rfl,h2,rfl⟩:=hx;simp only [RV]at h1;subst h1;split at h
  ·rename_i cs;obtain ⟨cs',rfl,hc⟩:=hb;have hlp:=qdt (qaz hc) (hmp _ rfl);split at h
   ·rename_i hcond;obtain ⟨h0,hl,ho,hk⟩:=hcond;obtain ⟨hcells,hko⟩:=RV.cells hk h2;refine ⟨_,_,.undef,_,h,?_,qcu [],⟨_,rfl,qj7 hc hcells⟩⟩;simp only [qaO];rw [if_pos ⟨hlp,h0,by rw [hcells.length];exact hl,by rw [hcells.length,hc.length];exact ho,hko⟩]
   ·cases h
  ·cases h
 ·simp only [RVL]at hx;obtain ⟨v,m,rfl,h1,rfl⟩:=hx;simp only [RV]at h1;subst h1;exact ⟨_,none,_,none,h,rfl,by simp [RV],rfl⟩
 ·simp only [RVL]at hx;obtain ⟨v,m,rfl,h1,rfl⟩:=hx;have h1':=h1;simp only [RV]at h1;obtain ⟨_,l',rfl,_,h1⟩:=h1;exact ⟨_,none,_,none,h,rfl,h1',rfl⟩
 ·simp only [RVL]at hx;obtain ⟨v,m,rfl,h1,rfl⟩:=hx;have h1':=h1;simp only [RV]at h1;obtain ⟨a',b',rfl,_⟩:=h1;exact ⟨_,none,_,none,h,rfl,h1',rfl⟩
 ·rename_i op' t xo c0 yt o0 b;simp only [RVL]at hx;obtain ⟨v,m,rfl,h1,v2,m2,rfl,h2,rfl⟩:=hx;simp only [RV,RTy]at h1 h2;subst h2;have hv:∀op ms,(op=.eql\/op=.neq)->P.underlying t=some (.interface ms)->qk1 P op t xo (.const c0) v (.val .nilIface)=some (.val (.bool (if op=.eql then b else !b))):=by
   intro op ms hop hu;rcases h1 with ⟨rfl,rfl⟩|⟨rfl,t9,rfl⟩
   ·have he:Ab.valOf P (Op.equal t .nilIface .nilIface)=some true:=qu9 hu;have hg:∀op,Ab.valOf P (eqGuard op t xo (.const c0) .nilIface .nilIface)=some ():=by
     intro op;unfold eqGuard;cases op<;>cases xo<;>rfl
    unfold qk1;simp only [V.toVal];rcases hop with rfl|rfl
    ·rw [qn,hg];simp only [qa];show ((Ab.valOf P (Op.equal t .nilIface .nilIface >>= λb=>(pure (Value.bool b):Sem Value))).map qca)=_;rw [qn,he];rfl
    ·rw [qn,hg];simp only [qa];show ((Ab.valOf P (Op.equal t .nilIface .nilIface >>= λb=>(pure (Value.bool (!b)):Sem Value))).map qca)=_;rw [qn,he];rfl
   ·unfold qk1;simp only [V.toVal,Option.map_none,hu,notNil,if_true];rcases hop with rfl|rfl<;>rfl
  split at h
  ·rename_i ms hu;exact fin2 ⟨_,_,h,hv .eql ms (.inl rfl) hu,by simp [RV,RTy]⟩
  ·rename_i ms hu;exact fin2 ⟨_,_,h,hv .neq ms (.inr rfl) hu,by simp [RV,RTy]⟩
  ·cases h
 ·simp only [RVL]at hx;obtain ⟨v,m,rfl,h1,v2,m2,rfl,h2,rfl⟩:=hx;exact fin2 (qBx h1 h2 h)
 ·simp only [RVL]at hx;obtain ⟨v,m,rfl,h1,rfl⟩:=hx;exact fin h λz hz=>qCv h1 hz
 ·simp only [RVL]at hx;obtain ⟨v,m,rfl,h1,rfl⟩:=hx;exact fin2 (qz9 h1 h)
 ·refine ⟨_,none,_,none,h,rfl,?_,rfl⟩;simp only [RV];exact ⟨_,_,rfl,hx.take _,hx.drop _⟩
 ·simp only [RVL]at hx;obtain ⟨v,m,rfl,h1,v2,m2,rfl,h2,rfl⟩:=hx;exact fin2 (qqr h1 h2 h)
 ·rename_i t a lo hi mx x rest;simp only [RVL]at hx;obtain ⟨v,m,rfl,h1,h2⟩:=hx;have hhead:∀{l:List TV} {l':List V},RVL l l'->RVO l.head? l'.head?:=λ{l l'} h=>by
   cases l with
   |nil=>simp only [RVL]at h;subst h;trivial
   |cons y l=>simp only [RVL]at h;obtain ⟨u,n,rfl,h3,_⟩:=h;exact h3
  have htail:∀{l:List TV} {l':List V},RVL l l'->RVL l.tail l'.tail:=λ{l l'} h=>by
   rw [<- List.drop_one,<- List.drop_one];exact h.drop 1
  have hr1:RVL (if lo.isSome=true then rest.tail else rest) (if lo.isSome=true then m.tail else m):=by
   split
   ·exact htail h2
   ·exact h2
  have hr2:RVL (if hi.isSome=true then (if lo.isSome=true then rest.tail else rest).tail else (if lo.isSome=true then rest.tail else rest)) (if hi.isSome=true then (if lo.isSome=true then m.tail else m).tail else (if lo.isSome=true then m.tail else m)):=by
   split
   ·exact htail hr1
   ·exact hr1
  have ho:∀{q:Bool} {l:List TV} {l':List V},RVL l l'->RVO (if q=true then l.head? else none) (if q=true then l'.head? else none):=λ{q l l'} h=>by
   split
   ·exact hhead h
   ·trivial
  split at h
  ·obtain ⟨y,u,hk,hv,hr⟩:=qv2 h1 (ho h2) (ho hr1) (ho hr2) h;exact fin2 ⟨y,u,hk,hv,hr⟩
  ·obtain ⟨y,u,hk,hv,hr⟩:=qyD h1 (ho h2) (ho hr1) (ho hr2) h;exact fin2 ⟨y,u,hk,by rw [hv];rfl,hr⟩
 ·simp only [RVL]at hx;obtain ⟨v,m,rfl,h1,rfl⟩:=hx;exact fin h λz hz=>qqo hz h1
 ·simp only [RVL]at hx;obtain ⟨v,m,rfl,h1,rfl⟩:=hx;exact fin h λz hz=>qyw hz h1
 ·simp only [RVL]at hx;obtain ⟨v,m,rfl,h1,rfl⟩:=hx;obtain ⟨y,u,hk,hu,hr⟩:=qtH h h1;exact fin2 ⟨y,u,hk,hu,hr⟩
 ·simp only [RVL]at hx;obtain ⟨v,m,rfl,h1,v2,m2,rfl,h2,rfl⟩:=hx;simp only [RV,RTy]at h2;subst h2;obtain ⟨y,u,hk,hu,hr⟩:=qqp h h1;exact fin2 ⟨y,u,hk,hu,hr⟩
 ·simp only [RVL]at hx;obtain ⟨v,m,rfl,h1,v2,m2,rfl,h2,rfl⟩:=hx;simp only [RV,RTy]at h2;subst h2;split at h
  ·rename_i len elem cs hu;simp only [RV]at h1;obtain ⟨cs',rfl,hc⟩:=h1;obtain ⟨y,u,hk,hv,hr⟩:=qyy hu h hc;exact fin2 ⟨y,u,hk,hv,hr⟩
  ·rename_i o s hu;simp only [RV,RTy]at h1;subst h1;obtain ⟨b,hb',hk⟩:=qd.1 h;obtain ⟨h0,hi⟩:=qlR hb';refine fin2 ⟨_,.val (.int .u8 b.toNat),hk,?_,by simp [RV,RTy]⟩;simp only [qnM,hu];rw [if_pos h0];have key:∀j:Nat,s[j]?=some b->(⟨s.toArray⟩:ByteArray)[j]?=some b:=λj hj=>by
    have hlt:=(qm.1 hj).1;rw [getElem?_pos (⟨s.toArray⟩:ByteArray) j (by simpa [ByteArray.size]using hlt)];have:=(qm.1 hj).2;simp only [qb];rw [<- this];rfl
   rw [key _ hi];rfl
  ·cases h
 ·simp only [RVL]at hx;obtain ⟨v,m,rfl,h1,rfl⟩:=hx;simp only [RV]at h1;obtain ⟨l',rfl,hl⟩:=h1;exact fin h λz hz=>hl.get hz
 ·exact fin2 (qtI hx h)
 ·cases h
end
end Go.Tx
end
