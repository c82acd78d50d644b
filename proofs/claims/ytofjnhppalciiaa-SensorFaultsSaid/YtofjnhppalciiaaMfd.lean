/-
  ONE LAW OF A CHAPTER: its program side is run by an interpreter that is proved sound; what it computes is shown to be what the law says. No conditions. Part 4 of 8.
-/
import Derived.Test.YtofjnhppalciiaaMfc
import Ieee.Arith
import Derived.Laws.ComplexArith
import Derived.Laws.Strings
set_option linter.unusedSimpArgs false
set_option linter.unusedVariables false
set_option linter.unnecessarySimpa false
section
namespace Go.Tx
open Go Go.Ab
section
inductive Ty where
 |int (k:IntKind)
 |bool
 |str
 |flt
 |cx
 |err
 |mset (t:Ty)
 |nsl (t:Ty)
 |sl (t:Ty)
 |unit
 |pair (a b:Ty)
 deriving DecidableEq
@[reducible] def Ty.den:Ty->Type
 |.int _=>Int
 |.bool=>Bool
 |.str=>List UInt8
 |.flt=>Int
 |.cx=>Int×Int
 |.err=>Bool
 |.mset t=>List t.den
 |.nsl t=>List t.den
 |.sl t=>List t.den
 |.unit=>Unit
 |.pair a b=>a.den×b.den
def Ty.depth:Ty->Nat
 |.sl t=>t.depth+1
 |.nsl t=>t.depth+1
 |.pair a b=>max a.depth b.depth
 |_=>0
def Ty.one:Ty->Bool
 |.unit|.pair .. | .mset _=>false
 |_=>true
def Ty.qbl:Ty->Nat
 |.unit=>0
 |.pair _ b=>b.qbl+1
 |_=>1
def Ty.isSet:Ty->Bool
 |.mset _=>true
 |.pair a b=>a.isSet||b.isSet
 |_=>false
def Ty.qnj:Ty->Bool
 |.unit=>true
 |.pair a b=>a.one&&b.qnj
 |_=>false
def Ty.qbR:Ty->Bool
 |.unit=>true
 |.mset _=>false
 |.pair a b=>a.one&&b.qnj
 |_=>true
def Ty.ok:Ty->Bool
 |.sl t=>t.qbR&&t.ok
 |.nsl t=>t.qbR&&t.ok
 |.pair a b=>a.one&&a.ok&&b.qnj&&b.ok
 |_=>true
def qa7(o:Nat):Bool:=!(decide (o=0)||(decide (o=1000)||decide (o=2000)))
def nx(o:Nat):Nat:=if qa7 o then o-1 else o
def dl(o:Nat):Nat:=if o=1000 then 1000 else 0
def lo(o:Nat):Nat:=if 1000<=o/\o<2000 then o-1000 else o
def sure(o d:Nat):Bool:=if o<1000 then decide (d<=o)else if o<2000 then true else decide (d<=o-2000)
def nf(o d:Nat):Nat:=if o<1000 then min o d else o
def fits:Nat->Nat->Nat->Bool
 |0,_,_=>true
 |d+1,o',o=>decide (o=2000)||((qa7 o'==qa7 o)&&!decide (o'=2000)&&(!decide (o=1000)||decide (o'=1000))&&fits d (nx o') (nx o))
inductive TV where
 |any (rs:List Root)
 |t (τ:Ty) (own:Nat) (x:τ.den)
 |clp (τ:Ty) (x:List τ.den)
 |room (a s:Nat)
 |empty (o:Nat)
 |val (v:Value)
 |agg (l:List TV)
 |tuple (l:List TV)
 |fn (g:FuncId) (first cap:List TV)
 |ptr (r:Root) (off:Nat)
 |cptr (sh:Bool) (l:List TV)
 |iface (t:TypeId) (v:TV)
 |mref (r:Root)
 |bsl (r:Root) (off n:Nat)
 |yld (r:Root)
 |lp (state:LoopState) (pend:Option Code) (f:FuncId) (env:List TV) (params:List Tmp) (assign body:Code)
instance:Inhabited TV:=⟨.any []⟩
structure Env where
 n:Nat
 t:Tr TV
noncomputable def Env.get(e:Env)(i:Nat):TV:=Env.rec (motive:=λ_=>TV) (λn t=>Bool.rec (motive:=λ_=>TV) (.any []) (t.get (.any []) i) (Nat.ble (Nat.succ i) n)) e
noncomputable def Env.set(e:Env)(i:Nat)(v:TV):Env:=Env.rec (motive:=λ_=>Env) (λn t=>⟨n,t.set (.any []) i v⟩) e
noncomputable def Env.qsK(f:Nat->TV->TV)(e:Env):Env:=Env.rec (motive:=λ_=>Env) (λn t=>⟨n,t.qsK (.any []) n f 1 0⟩) e
noncomputable def Env.all(p:Nat->TV->Bool)(e:Env):Bool:=e.t.allI p 1 0
noncomputable def Env.mask(p:TV->Bool)(e:Env):Mask:=⟨e.t.qxl p 1 0⟩
noncomputable def qqS:List TV->Nat->Tr TV->Tr TV
 |[],_,t=>t
 |v::l,i,t=>qqS l (i+1) (t.set (.any []) i v)
noncomputable def Env.qgB(args:List TV)(n:Nat):Env:=⟨args.length+(n-args.length),qqS args 0 .nil⟩
noncomputable def Env.toL(e:Env):List TV:=(List.range e.n).map λi=>e.t.get (.any []) i
noncomputable def qdj(D:Mask)(rs:Nat->List Root)(e:Env):Env:=e.qsK λi v=>Bool.rec (motive:=λ_=>TV) v (.any (rs i)) (D.has i)
def TV.cells:TV->List TV
 |.agg l=>l
 |v=>[v]
def TV.one:TV->Bool
 |.any _|.agg _|.tuple _|.room .. | .lp ..=>false
 |.t τ _ _=>τ.one
 |.val u=>match u with
  |.agg _=>false
  |.tuple _=>false
  |_=>true
 |_=>true
def TV.oks(x:TV):Bool:=x.cells.all TV.one
mutual
def TV.qab:TV->TV
 |.any rs=>.any rs
 |.t τ o x=>.t τ (dl o) x
 |.clp τ x=>.clp τ x
 |.room a s=>match a with
  |0=>.empty 0
  |_+1=>.room 2 s
 |.empty o=>.empty (dl o)
 |.val v=>.val v
 |.agg l=>.agg (dullL l)
 |.tuple l=>.tuple (dullL l)
 |.fn g a b=>.fn g (dullL a) (dullL b)
 |.ptr r o=>.ptr r o
 |.mref r=>.mref r
 |.bsl r o n=>.bsl r o n
 |.yld r=>.yld r
 |.lp s pe f env ps a b=>.lp s pe f env ps a b
 |.cptr s l=>.cptr s (dullL l)
 |.iface t v=>.iface t v.qab
def dullL:List TV->List TV
 |[]=>[]
 |v::l=>v.qab::dullL l
end
mutual
def TV.share:TV->TV
 |.any rs=>.any rs
 |.t τ _ x=>.t τ 1000 x
 |.clp τ x=>.t (.sl τ) 1000 x
 |.room a s=>match a with
  |0=>.empty 1000
  |_+1=>.room 2 s
 |.empty _=>.empty 1000
 |.val v=>.val v
 |.agg l=>.agg (shareL l)
 |.tuple l=>.tuple (shareL l)
 |.fn g a b=>.fn g (shareL a) (shareL b)
 |.ptr r o=>.ptr r o
 |.mref r=>.mref r
 |.bsl r o n=>.bsl r o n
 |.yld r=>.yld r
 |.lp s pe f env ps a b=>.lp s pe f env ps a b
 |.cptr _ l=>.cptr true (shareL l)
 |.iface t v=>.iface t v.share
def shareL:List TV->List TV
 |[]=>[]
 |v::l=>v.share::shareL l
end
mutual
def TV.qbd:TV->TV
 |.any rs=>.any rs
 |.t τ o x=>.t τ (lo o) x
 |.clp τ x=>.clp τ x
 |.room a s=>.room a s
 |.empty o=>.empty (lo o)
 |.val v=>.val v
 |.agg l=>.agg (loosenL l)
 |.tuple l=>.tuple (loosenL l)
 |.fn g a b=>.fn g (loosenL a) (loosenL b)
 |.ptr r o=>.ptr r o
 |.mref r=>.mref r
 |.bsl r o n=>.bsl r o n
 |.yld r=>.yld r
 |.lp s pe f env ps a b=>.lp s pe f env ps a b
 |.cptr _ l=>.cptr false (loosenL l)
 |.iface t v=>.iface t v.qbd
def loosenL:List TV->List TV
 |[]=>[]
 |v::l=>v.qbd::loosenL l
end
mutual
def TV.qp:TV->List Root
 |.any rs=>rs
 |.ptr r _=>[r]
 |.mref r=>[r]
 |.bsl r _ _=>[r]
 |.yld r=>[r]
 |.lp _ _ _ env _ _ _=>ptrsTL env
 |.cptr _ cs=>ptrsTL cs
 |.fn _ a b=>ptrsTL a++ptrsTL b
 |.iface _ v=>v.qp
 |.agg l=>ptrsTL l
 |.tuple l=>ptrsTL l
 |_=>[]
def ptrsTL:List TV->List Root
 |[]=>[]
 |v::l=>v.qp++ptrsTL l
end
mutual
def TV.owns:TV->Bool
 |.any _=>true
 |.t τ o _=>(qa7 o||decide (o=2000))&&decide (0<τ.depth)
 |.room ..=>true
 |.empty o=>qa7 o||decide (o=2000)
 |.fn _ a b=>ownsTL a||ownsTL b
 |.cptr _ l=>ownsTL l
 |.iface _ v=>v.owns
 |.agg l=>ownsTL l
 |.tuple l=>ownsTL l
 |_=>false
def ownsTL:List TV->Bool
 |[]=>false
 |v::l=>v.owns||ownsTL l
end
mutual
def TV.known:TV->Bool
 |.any _=>false
 |.lp _ _ _ env _ _ _=>knownL env
 |.fn _ a b=>knownL a&&knownL b
 |.cptr _ l=>knownL l
 |.iface _ _=>false
 |.agg l=>knownL l
 |.tuple l=>knownL l
 |_=>true
def knownL:List TV->Bool
 |[]=>true
 |v::l=>v.known&&knownL l
end
mutual
def TV.firm:TV->Bool
 |.any _=>false
 |.room ..=>false
 |.t τ o _=>sure o τ.depth
 |.clp _ _=>false
 |.fn _ a b=>firmL a&&firmL b
 |.cptr s l=>s&&firmL l
 |.iface _ v=>v.firm
 |.agg l=>firmL l
 |.tuple l=>firmL l
 |_=>true
def firmL:List TV->Bool
 |[]=>true
 |v::l=>v.firm&&firmL l
end
mutual
def TV.tight:TV->Bool
 |.any _=>false
 |.room ..=>false
 |.t τ o _=>sure o τ.depth
 |.empty o=>sure o 1
 |.clp _ _=>false
 |.fn _ a b=>tightL a&&tightL b
 |.cptr s l=>s&&tightL l
 |.iface _ v=>v.tight
 |.agg l=>tightL l
 |.tuple l=>tightL l
 |_=>true
def tightL:List TV->Bool
 |[]=>true
 |v::l=>v.tight&&tightL l
end
def TV.isAny:TV->Bool
 |.any _=>true
 |_=>false
def TV.qdH(x:TV):TV:=if x.firm then x else .any x.qp
def qqv(k:IntKind):List TV->Option (List Int)
 |[]=>some []
 |.t (.int k') _ x::l=>if k'=k then (qqv k l).map λm=>x::m else none
 |_::_=>none
section
variable (bx:Root->Option (List TV))
mutual
def peekTV:TV->Option TV
 |.ptr r off=>match bx r with
  |some c=>if off<=c.length/\r.slot<16384 then some (.cptr true (shareL (c.drop off)))else none
  |none=>none
 |.fn g a b=>match peekTL a,peekTL b with
  |some x,some y=>some (.fn g x y)
  |_,_=>none
 |.iface t v=>(peekTV v).map (.iface t)
 |.agg l=>(peekTL l).map .agg
 |.tuple l=>(peekTL l).map .tuple
 |.cptr _ cs=>some (.cptr true (shareL cs))
 |.t τ _ x=>bif τ.isSet then none else some (.t τ 1000 x)
 |.mref _=>none
 |.bsl r off n=>match bx r with
  |some c=>if off+n<=c.length/\r.slot<16384 then (qqv .i64 ((c.drop off).take n)).map λl=>.t (.sl (.int .i64)) 1000 l else none
  |none=>none
 |.clp τ x=>some (.t (.sl τ) 1000 x)
 |.room ..=>none
 |.empty _=>some (.empty 1000)
 |.val v=>some (.val v)
 |.any _=>none
 |.yld _=>none
 |.lp ..=>none
def peekTL:List TV->Option (List TV)
 |[]=>some []
 |v::l=>match peekTV v,peekTL l with
  |some x,some xs=>some (x::xs)
  |_,_=>none
end
end
def qqf:Ty->Nat->Bool
 |.sl t,o=>qa7 o&&qqf t (nx o)
 |.nsl _,_=>false
 |.pair a b,o=>qqf a o&&qqf b o
 |.mset _,_=>false
 |_,_=>true
mutual
def TV.qcq:TV->Bool
 |.t τ o _=>qqf τ o
 |.empty o=>qa7 o
 |.val _=>true
 |.fn _ a b=>mineTL a&&mineTL b
 |.iface _ v=>v.qcq
 |.agg l=>mineTL l
 |.tuple l=>mineTL l
 |_=>false
def mineTL:List TV->Bool
 |[]=>true
 |v::l=>v.qcq&&mineTL l
end
mutual
def ofTy:(τ:Ty)->Nat->τ.den->TV
 |.unit,_,_=>.agg []
 |.pair a b,o,x=>.agg (ofTy a o x.1::ofTyC b o x.2)
 |.int k,o,x=>.t (.int k) o x
 |.bool,o,x=>.t .bool o x
 |.str,o,x=>.t .str o x
 |.flt,o,x=>.t .flt o x
 |.cx,o,x=>.t .cx o x
 |.err,o,x=>.t .err o x
 |.mset t,o,x=>.t (.mset t) o x
 |.sl t,o,x=>.t (.sl t) o x
 |.nsl t,o,x=>.t (.nsl t) o x
def ofTyC:(τ:Ty)->Nat->τ.den->List TV
 |.pair a b,o,x=>ofTy a o x.1::ofTyC b o x.2
 |_,_,_=>[]
end
def nel{α:Type}:List α->Option (List α)
 |[]=>none
 |a::l=>some (a::l)
def qB9{t t':Ty}(h:t'=t)(x:Option (List t'.den)):Option (List t.den):=h▸x
def cast'{τ τ':Ty}(h:τ'=τ)(x:τ'.den):τ.den:=h▸x
def qd5:(τ:Ty)->Nat->TV->Option τ.den
 |.unit,_,.agg []=>some ()
 |.pair a b,o,.agg (v::l)=>(qd5 a o v).bind λx=>(qd5 b o (.agg l)).bind λy=>some (x,y)
 |.sl _,o,.empty o'=>if fits 1 o' o=true then some []else none
 |.sl t,o,.t (.nsl t') o' x=>if h:t'=t then (if fits (t.depth+1) o' o=true then qB9 h (nel x)else none)else none
 |.nsl _,_,.val (.slice none 0 0)=>some []
 |.nsl t,o,.t (.sl t') o' x=>if h:t'=t then (if fits (t.depth+1) o' o=true then qB9 h (nel x)else none)else none
 |τ,o,.t τ' o' x=>if h:τ'=τ then (if fits τ.depth o' o=true then some (cast' h x)else none)else none
 |_,_,_=>none
@[reducible] def denL:List Ty->Type
 |[]=>Unit
 |[τ]=>τ.den
 |τ::τ'::l=>τ.den×denL (τ'::l)
def asL:(ps:List (Ty×Nat))->List TV->Option (denL (ps.map (·.1)))
 |[],[]=>some ()
 |[(τ,o)],[v]=>qd5 τ o v
 |(τ,o)::q::ps,v::l=>(qd5 τ o v).bind λx=>(asL (q::ps) l).bind λy=>some (x,y)
 |_,_=>none
def ofL:(ps:List (Ty×Nat))->denL (ps.map (·.1))->List TV
 |[],_=>[]
 |[(τ,o)],x=>[ofTy τ o x]
 |(τ,o)::q::ps,x=>ofTy τ o x.1::ofL (q::ps) x.2
def idx{α:Type}(l:List α)(n:Int):Option α:=if 0<=n then l[n.toNat]? else none
def app{α:Type}(l l2:List α):Option (List α):=if l.length+l2.length<=4294967296 then some (l++l2)else none
def slc{α:Type}(l:List α)(lo hi:Int):Option (List α):=if 0<=lo/\lo<=hi/\hi<=l.length then some ((l.take hi.toNat).drop lo.toNat)else none
def mkS{α:Type}(z:α)(n:Int):Option (List α):=if 0<=n/\n<=4294967296 then some (List.replicate n.toNat z)else none
def qh3{σ ρ:Type}(f:σ->Option (σ⊕ρ)):Nat->σ->Option ρ
 |0,_=>none
 |n+1,s=>match f s with
  |some (.inl s')=>qh3 f n s'
  |some (.inr r)=>some r
  |none=>none
open Classical in
noncomputable def qaw{σ ρ:Type}(f:σ->Option (σ⊕ρ))(s:σ):Option ρ :=
 if h:∃n r,qh3 f n s=some r then some (Classical.choose (Classical.choose_spec h))else none
abbrev qC:=List (Nat×Option (List TV))
structure TSt where
 E:Env
 L:List qC
 B:qC
 Wt:Mask
 Wb:List Root
def qV:qC->Nat->Option (Option (List TV))
 |[],_=>none
 |(k,c)::l,s=>if k=s then some c else qV l s
def qtc:qC->Nat->Option (List TV)->qC
 |[],_,_=>[]
 |(k,c)::l,s,c'=>if k=s then (k,c')::l else (k,c)::qtc l s c'
def isRec:List TV->Bool
 |.lp ..::_=>true
 |_=>false
def qmK(b:qC):Bool:=b.all λp=>match p.2 with
 |some c=>!isRec c
 |none=>true
def TSt.cont(st:TSt)(r:Root):Option (List TV) :=
 match if r.lvl=st.L.length then qV st.B r.slot else match st.L[r.lvl]? with|some b=>qV b r.slot|none=>none with
 |some (some c)=>some c
 |_=>none
def TSt.box(st:TSt)(r:Root):Option (List TV) :=
 match st.cont r with
 |some c=>if isRec c then none else some c
 |none=>none
def TSt.qo(st:TSt)(r:Root)(c:List TV):TSt :=
 if r.lvl=st.L.length then {st with B:=qtc st.B r.slot (some c),Wb:=r::st.Wb}
 else {st with L:=st.L.modify r.lvl λb=>qtc b r.slot (some c),Wb:=r::st.Wb}
noncomputable def TSt.put(st:TSt)(d:Option Tmp)(v:TV):TSt :=
 match d with
 |some t=>{st with E:=st.E.set t v,Wt:=Mask.ins t st.Wt}
 |none=>st
def qle(precise:Bool):Value->TV
 |.int k n=>.t (.int k) 0 n
 |.bool b=>.t .bool 0 b
 |.string s=>.t .str 0 s.data.toList
 |.float .f64 0=>.t .flt 0 0
 |.complex .f64 0 0=>.t .cx 0 (0,0)
 |.slice none 0 0=>if precise then .val (.slice none 0 0)else .empty 1
 |v=>.val v
def ql2(precise:Bool):Value->TV
 |.agg cs=>.agg (cs.toList.map (qle precise))
 |v=>qle precise v
structure Place where
 lvl:Option Nat
 slot:Nat
 cell:Nat
structure Join where
 lv:List Place
 ps:List (Ty×Nat)
 abn:Bool:=false
 D:Mask
 wr:List Root:=[]
 rs:List Root:=[]
 rb:List Root:=[]
 Dn:Mask:=.empty
 kp:List (Tmp×Root×Nat):=[]
noncomputable def Join.qx0(j:Join)(t:Nat):List Root:=Bool.rec (motive:=λ_=>List Root) j.rs [] (j.Dn.has t)
inductive Kind where
 |loop (id:Nat)|block (id:Nat)|cond (t:Tmp)|region (id:Nat)|inl (d:Tmp)
 deriving DecidableEq
abbrev IoT:=FuncId->List TV->List TV->(R:Type)->(List TV->Option R)->Option R
structure TH where
 io:IoT:=λ_ _ _ _ _=>none
 lib:FuncId->Bool:=λ_=>false
 join:List Tmp->FuncId->Kind->Option Join
 inl:List Tmp->FuncId->Tmp->Bool
abbrev qoZ:=FuncId->List TV->(R:Type)->(TV->Option R)->Option R
section
variable (P:Program) (H:Hints) (f:FuncId)
def qbD:Nat->TypeId->Option (List Ty)
 |0,_=>none
 |d+1,t=>match P.underlying t with
  |some (.int k)=>some [.int k]
  |some .bool=>some [.bool]
  |some .string=>some [.str]
  |some (.float .f64)=>some [.flt]
  |some (.complex .f64)=>some [.cx]
  |some (.slice e)=>match qbD d e,P.underlying e with
   |some cs,some (.struct _)=>some [.sl (cs.foldr .pair .unit)]
   |some cs,some (.array ..)=>some [.sl (cs.foldr .pair .unit)]
   |some [τ],_=>some [.sl τ]
   |_,_=>none
  |some (.struct fields)=>(fields.toList.mapM λfd=>qbD d fd.type).map List.flatten
  |some (.array n e)=>(qbD d e).map λcs=>(List.replicate n cs).flatten
  |_=>none
def qAN(t:TypeId):Option Ty :=
 match qbD P 10 t with
 |some cs=>if qK P t then some (cs.foldr .pair .unit)else cs.head?
 |none=>none
def qa3(t:TypeId)(cs:List TV):Option TV :=
 match P.underlying t with
 |none=>none
 |some _=>if qK P t then (if P.cellsOf t<=cs.length then some (.agg (cs.take (P.cellsOf t)))else none)else cs.head?
def qr9(t:TypeId):Option TV:=((P.info? t).bind (·.zero)).map (ql2 (H.precise f))
def qkD(cs:List TV)(off:Nat)(vs:List TV):List TV:=cs.take off++vs++cs.drop (off+vs.length)
def qqR(place:Nat->Option (Nat×Nat))(cs:List TV):List (Nat×TV)->Option (List TV)
 |[]=>some cs
 |(i,v)::rest =>
  match place i with
  |none=>none
  |some (off,size)=>if v.cells.length≠size\/off+v.cells.length > cs.length\/v.oks=false then none else qqR place (qkD cs off v.cells) rest
def qyq(t:TypeId)(parts:List (Nat×TV)):Option TV :=
 match qr9 P H f t,P.underlying t with
 |some z,some (.struct fields) =>
  match fields.toList.mapM (λf=>(P.info? f.type).map λi=>(f.offset,i.size))with
  |some places=>(qqR (places.toArray[·]?) z.cells parts).map .agg
  |none=>none
 |some z,some (.array _ elem) =>
  match P.info? elem with
  |some ie=>(qqR (λi=>some (i*ie.size,ie.size)) z.cells parts).map .agg
  |none=>none
 |_,_=>none
def qkU(agg:Bool)(s:Nat):Nat->List TV->List TV
 |0,_=>[]
 |n+1,cs=>(if agg then .agg (cs.take s)else cs.headD (.any []))::qkU agg s n (cs.drop s)
mutual
def TV.lev:TV->Option Nat
 |.t τ o _=>if τ.depth=0 then none else some (nf o τ.depth)
 |.empty o=>if qa7 o then none else some o
 |.agg l=>levL l
 |_=>none
def levL:List TV->Option Nat
 |[]=>none
 |v::l=>match v.lev with
  |some n=>some n
  |none=>levL l
end
mutual
def TV.hasEmpty:TV->Bool
 |.empty _=>true
 |.agg l=>hasEmptyL l
 |_=>false
def hasEmptyL:List TV->Bool
 |[]=>false
 |v::l=>v.hasEmpty||hasEmptyL l
end
def qu8(l:List TV):Nat:=(levL l).getD (if hasEmptyL l then 1 else 0)
def qwe(τ:Ty)(o:Nat):List TV->Option (List τ.den)
 |[]=>some []
 |v::l=>(qd5 τ o v).bind λx=>(qwe τ o l).bind λy=>some (x::y)
def qiR(t:TypeId)(len:Nat)(parts:List (Nat×TV)):Option TV :=
 match P.underlying t with
 |some (.slice elem) =>
  match P.info? elem,qr9 P H f elem,qAN P elem with
  |some ie,some z,some τ =>
   if ie.size=0\/(qK P elem=false/\ie.size≠1)\/z.cells.length≠ie.size\/len*ie.size > 16777216\/τ.ok=false\/τ.qbR=false then none else
   match qqR (λi=>some (i*ie.size,ie.size)) ((List.replicate len z.cells).flatten) parts with
   |some cs=>if cs.all TV.one&&(ptrsTL cs).isEmpty&&qa7 (qu8 (qkU (qK P elem) ie.size len cs)+1)then
     (qwe τ (qu8 (qkU (qK P elem) ie.size len cs)) (qkU (qK P elem) ie.size len cs)).map λl=>.t (.sl τ) (qu8 (qkU (qK P elem) ie.size len cs)+1) l else none
   |none=>none
  |_,_,_=>none
 |_=>none
def qys(t:TypeId)(x:TV)(fd:Nat):Option TV :=
 match P.underlying t,x with
 |some (.struct fields),.agg cs =>
  match fields[fd]? with
  |some d=>qa3 P d.type (cs.drop d.offset)
  |none=>none
 |_,_=>none
def qkI(t:TypeId)(x:TV)(fd:Nat):Option TV :=
 match P.underlying t with
 |some (.struct fields) =>
  match fields[fd]? with
  |some d=>if P.cellsOf d.type=0 then none else
   match x with
   |.ptr r off=>some (.ptr r (off+d.offset))
   |.cptr s cs=>if d.offset<=cs.length then some (.cptr s (cs.drop d.offset))else none
   |_=>none
  |none=>none
 |_=>none
def qBG(R:Type)(i:Int)(k:Nat->Option R):Nat->Nat->Option R
 |0,_=>none
 |n+1,j=>bif decide (i=(j:Int))then k j else qBG R i k n (j+1)
def qyu(elem:TypeId)(len:Nat)(cs:List TV)(i:Int)(R:Type)(k:TV->Option R):Option R :=
 if P.cellsOf elem=0 then none else
 qBG R i (λj=>match qa3 P elem (cs.drop (j*P.cellsOf elem))with
  |some v=>k v
  |none=>none) len 0
def qkJ(t:TypeId)(x:TV)(i:Int)(R:Type)(k:TV->Option R):Option R :=
 match P.underlying t,x with
 |some (.array len elem),.ptr r off=>if P.cellsOf elem=0 then none else qBG R i (λj=>k (.ptr r (off+j*P.cellsOf elem))) len 0
 |some (.array len elem),.cptr s cs=>if P.cellsOf elem=0 then none else qBG R i (λj=>if j*P.cellsOf elem<=cs.length then k (.cptr s (cs.drop (j*P.cellsOf elem)))else none) len 0
 |some (.slice elem),.t (.sl τ) o l=>if P.cellsOf elem=τ.qbl/\τ.qbl≠0/\τ.ok=true/\τ.qbR=true then (idx l i).bind λe=>k (.cptr (decide (o=1000)) (ofTy τ (dl (nx o)) e).cells)else none
 |some (.slice elem),.clp τ l=>if P.cellsOf elem=τ.qbl/\τ.qbl≠0/\τ.ok=true/\τ.qbR=true then (idx l i).bind λe=>k (.cptr false (ofTy τ 0 e).cells)else none
 |_,_=>none
def qCG{α:Type}(R:Type)(mk:α->TV)(l:List α):Nat->Nat->List TV->(List TV->Option R)->Option R
 |0,_,acc,k=>k acc
 |n+1,i,acc,k=>(idx l (i:Int)).bind λe=>qCG R mk l n (i+1) (acc++[mk e]) k
def qp9(t:TypeId)(x:TV)(R:Type)(k:TV->Option R):Option R :=
 match P.underlying t,x with
 |some (.array n _),.t (.sl (.int kk)) o l=>if n=0 then none else qCG R (λe:Int=>.t (.int kk) 0 e) l n 0 [] λcs=>k (.cptr (decide (o=1000)) cs)
 |_,_=>none
def flo(n:Int):Option Int:=if n.natAbs<9007199254740992 then some n else none
def qDn(k:IntKind)(a b:Int):Option Int:=if 0<=b then some (k.wrap (a*2 ^ (min b.toNat k.bits)))else none
def qDo(k:IntKind)(a b:Int):Option Int:=if 0<=b then some (a.fdiv (2 ^ (min b.toNat k.bits)))else none
def qCN(k:IntKind)(a b:Int):Int:=k.wrap (BitVec.ofInt k.bits a &&& BitVec.ofInt k.bits b).toNat
def orI(k:IntKind)(a b:Int):Int:=k.wrap (BitVec.ofInt k.bits a ||| BitVec.ofInt k.bits b).toNat
def qCV(k:IntKind)(a b:Int):Int:=k.wrap (BitVec.ofInt k.bits a ^^^ BitVec.ofInt k.bits b).toNat
def qo5(k:IntKind)(a b:Int):Int:=k.wrap (BitVec.ofInt k.bits a &&& ~~~ BitVec.ofInt k.bits b).toNat
def qvL:TV->Option Int
 |.t (.int _) _ n=>some n
 |_=>none
def qyz(t:TypeId)(x:TV)(lo hi mx:Option TV)(R:Type)(k:TV->Option R):Option R :=
 let lo':Option Int:=match lo with|none=>some 0|some v=>qvL v
 match P.underlying t,x with
 |some (.slice elem),.t (.sl τ) o l =>
  if qa7 o=true\/o=2000\/P.cellsOf elem=0\/P.cellsOf elem≠τ.qbl\/τ.ok=false\/τ.qbR=false then none else
  match lo',(match hi with|none=>some (l.length:Int)|some v=>qvL v)with
  |some a,some b =>
   match mx with
   |none=>(slc l a b).bind λl'=>k (.t (.sl τ) o l')
   |some m=>match qvL m with
    |some c=>if hi.isSome then (slc l a b).bind λl'=>bif decide (c=b)then k (.clp τ l')else none else none
    |none=>none
  |_,_=>none
 |some (.slice elem),.empty o =>
  if qa7 o=true\/o=2000\/P.cellsOf elem=0 then none else
  match lo',(match hi with|none=>some 0|some v=>qvL v),mx with
  |some a,some b,none=>bif decide (a=0)&&decide (b=0)then k (.empty o)else none
  |_,_,_=>none
 |some .string,.t .str _ s =>
  match lo',(match hi with|none=>some (s.length:Int)|some v=>qvL v),mx with
  |some a,some b,none=>(slc s a b).bind λl'=>k (.t .str 0 l')
  |_,_,_=>none
 |_,_=>none
def qtr(t:TypeId)(x:TV)(lo hi mx:Option TV)(R:Type)(k:TV->Option R):Option R :=
 match P.underlying t,x with
 |some (.slice elem),.val (.slice none 0 0) =>
  if P.cellsOf elem=0 then none else
  match (match lo with|none=>some 0|some v=>qvL v),(match hi with|none=>some 0|some v=>qvL v),mx with
  |some a,some b,none=>bif decide (a=0)&&decide (b=0)then k (.val (.slice none 0 0))else none
  |_,_,_=>none
 |some (.slice elem),.room a s =>
  if P.cellsOf elem=0\/2<=a then none else
  match lo,hi,mx with
  |none,some (.t (.int _) _ b),none=>bif decide (b=0)then k (.room 0 s)else none
  |_,_,_=>none
 |some (.array n elem),.ptr r off=>if P.cellsOf elem=1 then (match lo,hi,mx with
  |none,none,none=>k (.bsl r off n)
  |_,_,_=>none)else none
 |_,_=>none
def TV.bare:TV->Bool
 |.val (.slice none 0 0)=>true
 |.room ..=>true
 |.ptr ..=>true
 |_=>false
def qkK(t:TypeId)(len cap:TV)(R:Type)(k:TV->Option R):Option R :=
 match P.underlying t with
 |some (.slice elem) =>
  match qr9 P H f elem,qAN P elem,qvL len,qvL cap with
  |some z,some τ,some n,some c =>
   if P.cellsOf elem≠0/\z.cells.length=P.cellsOf elem/\z.oks=true/\P.bytesOf elem<=8192/\τ.ok=true/\τ.qbR=true/\qa7 (qu8 [z]+1)=true then
    match qd5 τ (qu8 [z]) z with
    |some x=>(mkS x n).bind λl=>bif decide (c=n)then k (.t (.sl τ) (qu8 [z]+1) l)else none
    |none=>none
   else none
  |_,_,_,_=>none
 |_=>none
def tail?(yt:TypeDesc):TV->Option (Σ τ:Ty,Nat×List τ.den)
 |.t (.sl τ) o l=>match yt with
  |.slice _=>some ⟨τ,(nx o,l)⟩
  |_=>none
 |.clp τ l=>match yt with
  |.slice _=>some ⟨τ,(0,l)⟩
  |_=>none
 |.t .str _ s=>match yt with
  |.string=>some ⟨.int .u8,(0,s.map λc=>(c.toNat:Int))⟩
  |_=>none
 |_=>none
def qtm(argTypes:Array TypeId)(x y:TV)(R:Type)(k:TV->Option R):Option R :=
 match (argTypes[0]?).bind P.underlying,(argTypes[1]?).bind P.underlying with
 |some (.slice elem),some yt =>
  match y with
  |.empty _=>(match yt,x with
   |.slice _,.t (.sl τ) o l=>if qa7 o=true/\τ.qbl=P.cellsOf elem/\P.cellsOf elem≠0/\((P.info? elem).bind (·.zero)).map (λz=>z.cells.size)=some (P.cellsOf elem)/\P.bytesOf elem<=8192/\τ.ok=true/\τ.qbR=true then (app l []).bind λl'=>k (.t (.sl τ) o l')else none
   |.slice _,.empty o=>if qa7 o=true/\P.cellsOf elem≠0/\((P.info? elem).bind (·.zero)).map (λz=>z.cells.size)=some (P.cellsOf elem)/\P.bytesOf elem<=8192 then k (.empty o)else none
   |_,_=>none)
  |y=>match tail? yt y with
  |none=>none
  |some ⟨τ,(o2,l2)⟩ =>
   if τ.qbl=P.cellsOf elem/\P.cellsOf elem≠0/\((P.info? elem).bind (·.zero)).map (λz=>z.cells.size)=some (P.cellsOf elem)/\P.bytesOf elem<=8192/\τ.ok=true/\τ.qbR=true then
    match x with
    |.t (.sl τ') o l=>if h:τ'=τ then (if qa7 o=true then (app (cast' (congrArg Ty.sl h) l:(Ty.sl τ).den) l2).bind λl'=>k (.t (.sl τ) (if fits τ.depth o2 (nx o)=true then o else 2001) l')else none)else none
    |.empty o=>if qa7 o=true/\qa7 (o2+1)=true then (app [] l2).bind λl'=>k (.t (.sl τ) (o2+1) l')else none
    |.clp τ' l=>if h:τ'=τ then (app (cast' (congrArg Ty.sl h) l:(Ty.sl τ).den) l2).bind λl'=>k (.t (.sl τ) 2000 l')else none
    |_=>none
   else none
 |_,_=>none
def qp8(argTypes:Array TypeId)(x y:TV)(R:Type)(k:TV->Option R):Option R :=
 match (argTypes[0]?).bind P.underlying,(argTypes[1]?).bind P.underlying with
 |some (.slice elem),some yt =>
  if P.cellsOf elem≠0/\((P.info? elem).bind (·.zero)).map (λz=>z.cells.size)=some (P.cellsOf elem)/\P.bytesOf elem<=8192 then
   match x,yt,y with
   |.val (.slice none 0 0),.int _,.t (.int .i64) _ n=>bif decide (0<n)&&decide (n<=4294967296)then k (.room 1 (P.cellsOf elem))else none
   |x,yt,y=>match tail? yt y with
    |none=>none
    |some ⟨τ,(o2,l2)⟩ =>
     if τ.qbl=P.cellsOf elem/\τ.ok=true/\τ.qbR=true/\qa7 (o2+1)=true then
      match x,y with
      |.val (.slice none 0 0),_=>bif List.isEmpty l2 then k (.val (.slice none 0 0))else (app [] l2).bind λl'=>k (.t (.sl τ) (o2+1) l')
      |.room 0 s,.t ..=>if s=P.cellsOf elem then (match yt with
       |.slice _=>bif List.isEmpty l2 then k (.room 0 s)else (app [] l2).bind λl'=>k (.t (.sl τ) (o2+1) l')
       |_=>none)else none
      |_,_=>none
     else none
  else none
 |_,_=>none
def qvA:TV->Bool
 |.t (.int _) _ _|.t .bool _ _|.t .str _ _=>true
 |_=>false
def teq:Nat->TypeId->TV->TV->Option Bool
 |0,_,_,_=>none
 |d+1,t,x,y=>match P.underlying t,x,y with
  |some (.int _),.t (.int k) _ a,.t (.int k') _ b=>if k=k' then some (decide (a=b))else none
  |some .bool,.t .bool _ a,.t .bool _ b=>some (a==b)
  |some .string,.t .str _ a,.t .str _ b=>some (decide (a=b))
  |some (.struct fields),.agg xs,.agg ys=>if P.stoodInHeld t then none else
   fields.toList.foldr (fun fd acc => if fd.name = "_" then none else
    match qa3 P fd.type (xs.drop fd.offset),qa3 P fd.type (ys.drop fd.offset),acc with
    |some u,some v,some b=>(teq d fd.type u v).map λa=>bif a then b else false
    |_,_,_=>none) (some true)
  |_,_,_=>none
def qxv:TypeDesc->TV->TV->Bool
 |.pointer _,.ptr ..,.val (.pointer none)=>true
 |.pointer _,.cptr ..,.val (.pointer none)=>true
 |.func ..,.fn ..,.val .nilFunc=>true
 |_,_,_=>false
def qAv:TypeDesc->TV->TV->Bool
 |.slice _,.val (.slice none 0 0),.val (.slice none 0 0)=>true
 |.pointer _,.val (.pointer none),.val (.pointer none)=>true
 |.func ..,.val .nilFunc,.val .nilFunc=>true
 |_,_,_=>false
def qrZ(op:BinOp)(t:TypeId)(x y:TV)(R:Type)(k:TV->Option R):Option R :=
 match x,y with
 |.t (.int k1) _ a,.t (.int k2) _ b =>
  match op with
  |.shl=>(qDn k1 a b).bind λn=>k (.t (.int k1) 0 n)
  |.shr=>(qDo k1 a b).bind λn=>k (.t (.int k1) 0 n)
  |_=>if k1=k2 then (match op with
   |.and=>k (.t (.int k1) 0 (qCN k1 a b))
   |.or=>k (.t (.int k1) 0 (orI k1 a b))
   |.xor=>k (.t (.int k1) 0 (qCV k1 a b))
   |.andNot=>k (.t (.int k1) 0 (qo5 k1 a b))
   |.add=>k (.t (.int k1) 0 (k1.wrap (a+b)))
   |.sub=>k (.t (.int k1) 0 (k1.wrap (a-b)))
   |.mul=>k (.t (.int k1) 0 (k1.wrap (a*b)))
   |.quo=>bif decide (b=0)then none else k (.t (.int k1) 0 (k1.wrap (a.tdiv b)))
   |.rem=>bif decide (b=0)then none else k (.t (.int k1) 0 (a.tmod b))
   |.eql=>k (.t .bool 0 (decide (a=b)))
   |.neq=>k (.t .bool 0 (!decide (a=b)))
   |.lss=>k (.t .bool 0 (decide (a<b)))
   |.leq=>k (.t .bool 0 (decide (a<=b)))
   |.gtr=>k (.t .bool 0 (decide (a > b)))
   |.geq=>k (.t .bool 0 (decide (a>=b)))
   |_=>none)else none
 |.t .cx _ a,.t .cx _ b =>
  match P.underlying t,op with
  |some (.complex .f64),.add=>(flo (a.1+b.1)).bind λre=>(flo (a.2+b.2)).bind λim=>k (.t .cx 0 (re,im))
  |some (.complex .f64),.mul=>(flo (a.1*b.1)).bind λac=>(flo (a.2*b.2)).bind λbd=>(flo (ac-bd)).bind λre=>(flo (a.1*b.2)).bind λad=>(flo (a.2*b.1)).bind λbc=>(flo (ad+bc)).bind λim=>k (.t .cx 0 (re,im))
  |_,_=>none
 |.t .str _ a,.t .str _ b =>
  match op with
  |.eql=>k (.t .bool 0 (decide (a=b)))
  |.neq=>k (.t .bool 0 (!decide (a=b)))
  |.lss=>k (.t .bool 0 (Op.bytesLess a b))
  |.add=>(app a b).bind λl=>k (.t .str 0 l)
  |_=>none
 |.t .bool _ a,.t .bool _ b =>
  match P.underlying t,op with
  |some .bool,.eql=>k (.t .bool 0 (a==b))
  |some .bool,.neq=>k (.t .bool 0 (!(a==b)))
  |_,_=>none
 |.agg l,.agg l'=>if P.eqGuardType P.depth t||!(l.all qvA&&l'.all qvA)then none else (match teq P 9 t (.agg l) (.agg l')with
  |some b=>(match op with
   |.eql=>k (.t .bool 0 b)
   |.neq=>k (.t .bool 0 (!b))
   |_=>none)
  |none=>none)
 |.t (.sl τ) _ l,.val (.slice none 0 0) =>
  match P.underlying t with
  |some (.slice _)=>bif List.isEmpty l then none else (match op with
   |.eql=>k (.t .bool 0 false)
   |.neq=>k (.t .bool 0 true)
   |_=>none)
  |_=>none
 |.t (.nsl τ) _ l,.val (.slice none 0 0) =>
  match P.underlying t with
  |some (.slice _)=>(match op with
   |.eql=>k (.t .bool 0 (List.isEmpty l))
   |.neq=>k (.t .bool 0 (!List.isEmpty l))
   |_=>none)
  |_=>none
 |x,y=>match P.underlying t with
  |some d =>
   if qxv d x y then (match op with
   |.eql=>k (.t .bool 0 false)
   |.neq=>k (.t .bool 0 true)
   |_=>none)
   else if qAv d x y then (match op with
   |.eql=>k (.t .bool 0 true)
   |.neq=>k (.t .bool 0 false)
   |_=>none)
   else none
  |none=>none
def tun(op:UnOp)(x:TV):Option TV :=
 match op,x with
 |.not,.t .bool _ b=>some (.t .bool 0 (!b))
 |.neg,.t (.int k) _ n=>some (.t (.int k) 0 (k.wrap (0-n)))
 |_,_=>none
def qBE(src dst:TypeId)(x:TV)(R:Type)(k:TV->Option R):Option R :=
 match P.underlying src,P.underlying dst,x with
 |some _,some (.int kk),.t (.int _) _ n=>k (.t (.int kk) 0 (kk.wrap n))
 |some _,some (.float .f64),.t (.int _) _ n=>(flo n).bind λn=>k (.t .flt 0 n)
 |some _,some (.int .i64),.t .flt _ n=>(flo n).bind λn=>k (.t (.int .i64) 0 n)
 |some _,some .string,.t .str _ s=>k (.t .str 0 s)
 |some (.slice e),some .string,.t (.sl (.int .u8)) _ l=>match P.underlying e with
  |some (.int .u8)=>k (.t .str 0 (l.map λn=>UInt8.ofNat n.toNat))
  |_=>none
 |_,_,_=>none
def qr1(k:IntKind):List TV->Option (List Int)
 |[]=>some []
 |.t (.int k') _ n::l=>if k=k' then (qr1 k l).map (n::·)else none
 |_=>none
def qqa(b:Builtin)(argTypes:Array TypeId)(xs:List TV)(R:Type)(k:TV->Option R):Option R :=
 match b,xs with
 |.len,[.t (.sl _) _ l]=>match (argTypes[0]?).bind P.underlying with
  |some (.slice _)=>k (.t (.int .i64) 0 (l.length:Int))
  |_=>none
 |.len,[.clp _ l]=>match (argTypes[0]?).bind P.underlying with
  |some (.slice _)=>k (.t (.int .i64) 0 (l.length:Int))
  |_=>none
 |.len,[.empty _]=>match (argTypes[0]?).bind P.underlying with
  |some (.slice _)=>k (.t (.int .i64) 0 0)
  |_=>none
 |.len,[.t .str _ s]=>match (argTypes[0]?).bind P.underlying with
  |some .string=>k (.t (.int .i64) 0 (s.length:Int))
  |_=>none
 |.cap,[.val (.slice none 0 0)]=>match (argTypes[0]?).bind P.underlying with
  |some (.slice _)=>k (.t (.int .i64) 0 0)
  |_=>none
 |.len,[.val (.slice none 0 0)]=>match (argTypes[0]?).bind P.underlying with
  |some (.slice _)=>k (.t (.int .i64) 0 0)
  |_=>none
 |.append,[x,y]=>if x.bare then qp8 P argTypes x y R k else qtm P argTypes x y R k
 |.complex,[.t .flt _ a,.t .flt _ b]=>k (.t .cx 0 (a,b))
 |.real,[.t .cx _ a]=>k (.t .flt 0 a.1)
 |.imag,[.t .cx _ a]=>k (.t .flt 0 a.2)
 |.max,.t (.int kk) _ n::xs=>match qr1 kk xs with
  |some l=>k (.t (.int kk) 0 (l.foldl max n))
  |none=>none
 |.min,.t (.int kk) _ n::xs=>match qr1 kk xs with
  |some l=>k (.t (.int kk) 0 (l.foldl min n))
  |none=>none
 |_,_=>none
def qcz(tk:Bool)(o:Op)(xs:List TV)(bx:Option (List TV))(R:Type)(k:TV->Option (List TV)->Option R):Option R :=
 let v (x:Option TV):Option R:=match x with
  |some x=>k x none
  |none=>none
 match o,xs with
 |.move _,[x]|.assign _,[x]=>k x none
 |.pick ..,[.t .bool _ c,a,b]=>bif c then k a none else k b none
 |.build t parts,xs=>v (qyq P H f t (parts.toList.map (·.1) |>.zip xs))
 |.buildSlice t len parts,xs=>v (qiR P H f t len (parts.toList.map (·.1) |>.zip xs))
 |.load t _,[.cptr _ cs]=>v ((qa3 P t cs).map TV.qab)
 |.load t _,[.ptr _ off]=>match bx with
  |some cs=>if tk then (match qa3 P t (cs.drop off)with
    |some x=>k x (some (qkD cs off (dullL ((cs.drop off).take (if qK P t then P.cellsOf t else 1)))))
    |none=>none)
   else v ((qa3 P t (cs.drop off)).map TV.qab)
  |none=>none
 |.store t _ _,[.ptr _ off,x]=>match bx with
  |some cs=>if P.cellsOf t≠0/\x.cells.length=P.cellsOf t/\off+x.cells.length<=cs.length/\x.oks=true then k (.any []) (some (qkD cs off x.cells))else none
  |none=>none
 |.nilCheck _,[.ptr r off]=>k (.ptr r off) none
 |.nilCheck _,[.cptr s cs]=>k (.cptr s cs) none
 |.nilCheck _,[.fn g a b]=>k (.fn g a b) none
 |.binOp op t _ (.const _) _,[.t .err _ b,.val .nilIface]=>match P.underlying t,op with
  |some (.interface _),.eql=>k (.t .bool 0 b) none
  |some (.interface _),.neq=>k (.t .bool 0 (!b)) none
  |_,_=>none
 |.binOp op t _ _ _,[x,y]=>qrZ P op t x y R λx=>k x none
 |.unOp op _ _,[x]=>v (tun op x)
 |.convert src dst _,[x]=>qBE P src dst x R λx=>k x none
 |.makeFunc (.func g) first _,xs=>k (.fn g (xs.take first.size) (xs.drop first.size)) none
 |.makeSlice t _ _,[l,c]=>qkK P H f t l c R λx=>k x none
 |.slice t _ lo hi mx,x::rest =>
  let r1:=if lo.isSome then rest.tail else rest
  let r2:=if hi.isSome then r1.tail else r1
  if x.bare then qtr P t x (if lo.isSome then rest.head? else none) (if hi.isSome then r1.head? else none) (if mx.isSome then r2.head? else none) R λx=>k x none else
  qyz P t x (if lo.isSome then rest.head? else none) (if hi.isSome then r1.head? else none) (if mx.isSome then r2.head? else none) R λx=>k x none
 |.fieldAddr t _ fd,[x]=>v (qkI P t x fd)
 |.field t _ fd,[x]=>v (qys P t x fd)
 |.sliceToArrayPointer t _,[x]=>qp9 P t x R λx=>k x none
 |.indexAddr t _ _,[x,.t (.int _) _ i]=>qkJ P t x i R λx=>k x none
 |.index t _ _,[x,.t (.int _) _ i]=>(match P.underlying t,x with
  |some (.array len elem),.agg cs=>qyu P elem len cs i R λx=>k x none
  |some .string,.t .str _ s=>(idx s i).bind λb=>k (.t (.int .u8) 0 (b.toNat:Int)) none
  |_,_=>none)
 |.extract _ i,[.tuple l]=>v l[i]?
 |.call {callee:=.builtin b,argTypes,..},xs=>qqa P b argTypes xs R λx=>k x none
 |_,_=>none
noncomputable def rdT(o:Oper)(E:Env):Operand->TV
 |.tmp t=>if qah H f o then E.get t else (E.get t).qab
 |.const v=>ql2 (H.precise f||qry o.op) v
 |.func g=>.fn g [] []
 |.global _=>.any []
noncomputable def qbE(E:Env)(ts:List Tmp):Env:=ts.foldl (λE t=>E.set t (E.get t).qab) E
def qkz:Op->List TV->Option Root
 |.load ..,.ptr r _::_=>some r
 |.store ..,.ptr r _::_=>some r
 |_,_=>none
def qb0:Op->List TV->Nat×Nat
 |.load t _,.ptr _ off::_=>(off,if qK P t then P.cellsOf t else 1)
 |.store ..,[.ptr _ off,x]=>(off,x.cells.length)
 |_,_=>(0,0)
def quB:Op->List TV->List Root
 |.store ..,[_,x]=>x.qp
 |_,_=>[]
def qdm:TV->Bool
 |.fn g _ _=>H.qih g
 |_=>false
def qfE:TV->List TV->Bool
 |.fn _ first cap,args=>(ptrsTL (first++args++cap)).isEmpty
 |_,_=>false
end
def qmB:Ty->Bool
 |.int _|.bool|.str=>true
 |_=>false
def qpy:Ty->Bool
 |.unit=>true
 |.pair a b=>qmB a&&qpy b
 |_=>false
def qgZ:Ty->Bool
 |.pair a b=>qmB a&&qpy b
 |τ=>qmB τ
def qoS:(τ:Ty)->τ.den->Value
 |.int k,n=>.int k n
 |.bool,b=>.bool b
 |.str,s=>.string ⟨s.toArray⟩
 |_,_=>.tuple #[]
def qvU:(τ:Ty)->τ.den->List Value
 |.pair a b,x=>qoS a x.1::qvU b x.2
 |_,_=>[]
def qcn(τ:Ty)(x:τ.den):Value :=
 match τ,x with
 |.pair a b,x=>.agg (qoS a x.1::qvU b x.2).toArray
 |τ,x=>qoS τ x
def eqS:(τ:Ty)->τ.den->τ.den->Bool
 |.int _,a,b=>decide (a=b)
 |.bool,a,b=>a==b
 |.str,a,b=>decide (a=b)
 |_,_,_=>false
def eqR:(τ:Ty)->τ.den->τ.den->Bool
 |.unit,_,_=>true
 |.pair a b,x,y=>bif eqS a x.1 y.1 then eqR b x.2 y.2 else false
 |_,_,_=>false
def eqK(τ:Ty)(x y:τ.den):Bool :=
 match τ,x,y with
 |.pair a b,x,y=>bif eqS a x.1 y.1 then eqR b x.2 y.2 else false
 |τ,x,y=>eqS τ x y
def qk0(τ:Ty)(l:List τ.den)(k:τ.den):Bool:=l.any λx=>eqK τ k x
def qBd(τ:Ty)(l:List τ.den)(k:τ.den):List τ.den:=bif qk0 τ l k then l else l++[k]
section
variable (P:Program) (H:Hints) (f:FuncId)
def qiN(t:TypeId)(τ:Ty):Bool :=
 match P.underlying t,τ with
 |some (.int k),.int k'=>decide (k=k')
 |some .bool,.bool=>true
 |some .string,.str=>true
 |_,_=>false
def qje:List Field->Nat->Ty->Bool
 |[],_,.unit=>true
 | fd :: fs, i, .pair a b => decide (fd.name ≠ "_") && decide (fd.offset = i) && qiN P fd.type a && qje fs (i + 1) b
 |_,_,_=>false
def qew(t:TypeId)(τ:Ty):Bool :=
 qiN P t τ||match P.underlying t,τ with
 |some (.struct fields),.pair a b=>!P.stoodInHeld t&&qje P fields.toList 0 (.pair a b)
 |_,_=>false
def qjm:Op->List TV->Bool
 |.makeMap ..,_|.lookup ..,_|.mapUpdate ..,_|.insert ..,_=>true
 |.call {callee:=.builtin .len,..},[.mref _]=>true
 |_,_=>false
def qml:List TV->Bool
 |[]=>true
 |[.t (.int _) _ _]=>true
 |_=>false
def qlG(o:Oper)(xs:List TV)(st:TSt)(R:Type)(k:TV->TSt->Fp->Option R):Option R :=
 match o.op with
 |.makeMap t _=>match o.dst,P.underlying t with
  |some d,some (.map kt vt)=>match qAN P kt with
   |some τ=>if (qV st.B (q9 d)).isNone/\qgZ τ=true/\qml xs=true then
     k (.mref ⟨st.L.length,q9 d⟩) {st with B:=(q9 d,some [.t (.mset τ) 0 []])::st.B,Wb:=⟨st.L.length,q9 d⟩::st.Wb} (.fresh ⟨st.L.length,q9 d⟩)else none
   |none=>none
  |_,_=>none
 |.lookup t _ _ ok=>match xs with
  |[.mref r,x]=>match st.box r,P.underlying t with
   |some [.t (.mset τ) _ l],some (.map kt vt)=>if qew P kt τ=true then (match qr9 P H f vt,qd5 τ 0 x with
     |some (.t .bool _ false),some y=>k (if ok then .tuple [.t .bool 0 (qk0 τ l y),.t .bool 0 (qk0 τ l y)]else .t .bool 0 (qk0 τ l y)) st .looks
     |_,_=>none)else none
   |_,_=>none
  |_=>none
 |.mapUpdate t _ _ _|.insert t _ _ _=>match xs with
  |[.mref r,x,.t .bool _ true]=>match st.box r,P.underlying t with
   |some [.t (.mset τ) _ l],some (.map kt vt)=>if qew P kt τ=true then (match qd5 τ 0 x with
     |some y=>k (.any []) (st.qo r [.t (.mset τ) 0 (qBd τ l y)]) (.mapw r)
     |none=>none)else none
   |_,_=>none
  |_=>none
 |.call {callee:=.builtin .len,argTypes,..}=>match xs with
  |[.mref r]=>match st.box r,(argTypes[0]?).bind P.underlying with
   |some [.t (.mset τ) _ l],some (.map _ _)=>if argTypes.toList.any H.mapT then k (.t (.int .i64) 0 (l.length:Int)) st .looks else none
   |_,_=>none
  |_=>none
 |_=>none
end
mutual
def TV.adopt(q:Root):TV->TV
 |.mref _=>.mref q
 |.cptr s l=>.cptr s (adoptTL q l)
 |.fn g a b=>.fn g (adoptTL q a) (adoptTL q b)
 |.agg l=>.agg (adoptTL q l)
 |.tuple l=>.tuple (adoptTL q l)
 |v=>v
def adoptTL(q:Root):List TV->List TV
 |[]=>[]
 |v::l=>v.adopt q::adoptTL q l
end
mutual
def TV.onlyMaps:TV->Bool
 |.any _|.ptr .. | .bsl .. | .iface .. | .yld _|.lp ..=>false
 |.cptr _ l=>onlyMapsTL l
 |.fn _ a b=>onlyMapsTL a&&onlyMapsTL b
 |.agg l=>onlyMapsTL l
 |.tuple l=>onlyMapsTL l
 |_=>true
def onlyMapsTL:List TV->Bool
 |[]=>true
 |v::l=>v.onlyMaps&&onlyMapsTL l
end
def qq8(H:Hints):TV->Bool
 |.fn g _ _=>(H.seq g).isSome
 |_=>false
def qmk(H:Hints):TV->Bool
 |.fn g _ _=>H.born g
 |_=>false
noncomputable def TSt.get(st:TSt)(p:Place):TV :=
 match p.lvl with
 |none=>st.E.get p.slot
 |some l=>match st.box ⟨l,p.slot⟩with
  |some cs=>cs.getD p.cell (.any [])
  |none=>.any []
def subset(l m:List Root):Bool:=l.all λr=>m.contains r
def Place.qCi(lv:List Place)(l:Option Nat)(s c:Nat):Bool:=lv.any λp=>decide (p.lvl=l)&&decide (p.slot=s)&&decide (p.cell=c)
def qw6:TV->Root->Nat->Bool
 |.ptr r o,r',o'=>decide (r=r')&&decide (o=o')
 |_,_,_=>false
noncomputable def TSt.keeps(st:TSt)(j:Join):Bool:=j.kp.all λp=>qw6 (st.E.get p.1) p.2.1 p.2.2
noncomputable def qrB:TSt->List (Tmp×Root×Nat)->TSt
 |st,[]=>st
 |st,p::l=>qrB {st with E:=st.E.set p.1 (.ptr p.2.1 p.2.2)} l
noncomputable def TSt.qkd(st:TSt)(j:Join):Bool :=
 (st.E.all λt v=>Bool.rec (motive:=λ_=>Bool) true (Place.qCi j.lv none t 0||subset v.qp (j.qx0 t)) (j.D.has t)) &&
 (j.wr.all λr=>match st.cont r with
  |some cs=>!isRec cs&&(List.range cs.length).all λi=>Place.qCi j.lv (some r.lvl) r.slot i||subset (cs.getD i (.any [])).qp j.rb
  |none=>true)&&st.keeps j
def TSt.wrote(st:TSt)(j:Join):Bool:=st.Wt.sub j.D&&(st.Wb.all λr=>j.wr.contains r||decide (st.L.length<r.lvl))
def qB1(rs:List Root)(b:qC)(s:Nat):qC :=
 match qV b s with
 |none=>(s,none)::b
 |some none=>b
 |some (some cs)=>qtc b s (some (cs.map λ_=>.any rs))
def TSt.forget(st:TSt)(rs:List Root)(r:Root):TSt :=
 if r.lvl=st.L.length then {st with B:=qB1 rs st.B r.slot}else {st with L:=st.L.modify r.lvl λb=>qB1 rs b r.slot}
noncomputable def TSt.qbP(st:TSt)(p:Place)(v:TV):TSt :=
 match p.lvl with
 |none=>{st with E:=st.E.set p.slot v}
 |some l=>match st.box ⟨l,p.slot⟩with
  |some cs=>{st.qo ⟨l,p.slot⟩ (cs.set p.cell v)with Wb:=st.Wb}
  |none=>st
noncomputable def qcy(st:TSt):List Place->List TV->TSt
 |p::ps,v::vs=>qcy (st.qbP p v) ps vs
 |_,_=>st
noncomputable def TSt.qdv(st:TSt)(j:Join)(vs:List TV):TSt :=
 qcy {j.wr.foldl (λst r=>st.forget j.rb r) {st with E:=qdj j.D j.qx0 st.E}with Wt:=j.D++st.Wt,Wb:=j.wr++st.Wb} j.lv vs
noncomputable def TSt.qbJ(st:TSt)(j:Join)(vs:List TV):TSt:=qrB (st.qdv j vs) j.kp
def TSt.fresh(st:TSt):TSt:={st with Wt:=.empty,Wb:=[]}
def TSt.merge(st st0:TSt):TSt:={st with Wt:=st.Wt++st0.Wt,Wb:=st.Wb++st0.Wb}
def TSt.qCR(st st0:TSt)(j:Join):Bool:=j.wr.all λr=>match st0.cont r with
 |some cs=>(match st.cont r with
  |some cs2=>decide (cs2.length=cs.length)
  |none=>false)
 |none=>true
noncomputable def TSt.outs(st st0:TSt)(j:Join):Option (denL (j.ps.map (·.1))) :=
 if st.qkd j&&st.wrote j&&st.qCR st0 j then asL j.ps (j.lv.map st.get)else none
noncomputable def qu4(j:Option Join)(st:TSt)(run:TSt->(R:Type)->(Ex->TSt->Option R)->Option R)(R:Type)(k:Ex->TSt->Option R):Option R :=
 match j with
 |none=>run st R k
 |some j =>
  if j.abn then
   (run st.fresh (denL (j.ps.map (·.1))⊕R) λe st2=>match e with
    |.normal=>(st2.outs st j).map .inl
    |e=>(k e (st2.merge st)).map .inr).bind (Sum.elim (λx=>k .normal (st.qbJ j (ofL j.ps x))) some)
  else
   (run st.fresh (denL (j.ps.map (·.1))) λe st2=>match e with
    |.normal=>st2.outs st j
    |_=>none).bind λx=>k .normal (st.qbJ j (ofL j.ps x))
def qaG(D:List Tmp):qC->qC
 |[]=>[]
 |(k,c)::l=>if D.contains k then qaG D l else (k,c)::qaG D l
noncomputable def qes(D:List Tmp)(E:Env):Env:=qdj (Mask.ofList D) (λ_=>[]) E
def qjG:qC->List Root
 |[]=>[]
 |(_,some c)::l=>ptrsTL c++qjG l
 |(_,none)::l=>qjG l
def quU:qC->Bool
 |[]=>true
 |(_,c)::l=>c.isSome&&quU l
def qnK(D:List Tmp)(n:Nat):qC->List Root
 |[]=>[]
 |(k,_)::l=>if D.contains k then ⟨n,k⟩::qnK D n l else qnK D n l
def inE(st:TSt)(D:List Tmp):List Tmp:=D.filter λt=>decide (t<st.E.n)
noncomputable def TSt.clear(D:List Tmp)(st:TSt):Option TSt :=
 let E:=qes (inE st D) st.E
 let B:=qaG D st.B
 if decide (B.length=st.B.length)||((E.all λ_ v=>qcO st.L.length D v.qp)&&qcO st.L.length D (qjG B)&&quU B)then some {st with E,B,Wt:=Mask.ofList (inE st D)++st.Wt,Wb:=qnK D st.L.length st.B++st.Wb}else none
structure TOrc where
 call:List Tmp->FuncId->List TV->List qC->(R:Type)->(TV->List qC->List Root->Option R)->Option R
 code:List Tmp->FuncId->Nat->Code->TSt->(R:Type)->(Ex->TSt->Option R)->Option R
 born:List Tmp->FuncId->List TV->(R:Type)->(TV->TV->Option R)->Option R
def qeh:List qC->Option (List qC×qC)
 |[]=>none
 |[b]=>some ([],b)
 |b::c::l=>(qeh (c::l)).map λ(x,y)=>(b::x,y)
section
variable (P:Program) (H:Hints) (J:TH) (T:qoZ) (O:TOrc) (ctx:List Tmp) (f:FuncId)
noncomputable def qiZ:Env->List Tmp->List TV->Env
 |E,t::ts,v::vs=>qiZ (E.set t v) ts vs
 |E,_,_=>E
def TSt.qoN(st:TSt)(r:Root)(v:TV):TSt:={st.qo r [v]with Wb:=st.Wb}
noncomputable def qxY(d:Tmp)(r:Root)(args:List TV)(st:TSt)(R:Type)(k:TV->TSt->Option R):Option R :=
 match st.cont r with
 |some [.lp .ready none g env ps asz bo] =>
  if args.length≠ps.length then none else
  O.code (d::ctx) g 0 asz {E:=qiZ (Env.qgB env env.length) ps (dullL args),L:=st.L++[st.B],B:=[],Wt:=.empty,Wb:=[]} R λe s2=>match e with
   |.normal=>(match s2.cont r with
    |some [.lp .ready none g2 env2 ps2 as2 bo2] =>
     O.code (d::ctx) g 0 bo (s2.qoN r (.lp .busy none g2 env2 ps2 as2 bo2)) R λex s3=>(match s3.cont r with
      |some [.lp _ _ g3 env3 ps3 as3 bo3] =>
       (match qeh (s3.qoN r (.lp (if ex.code.isNone then .ready else .done) ex.code g3 env3 ps3 as3 bo3)).L with
       |some (L,B)=>if L.length=st.L.length then k (.t .bool 0 ex.code.isNone) {st with L,B,Wb:=(if ex.code.isNone then []else [r])++(s3.Wb++st.Wb)}else none
       |none=>none)
      |_=>none)
    |_=>none)
   |_=>none
 |_=>none
noncomputable def qnX(d:Tmp)(fv:TV)(args:List TV)(st:TSt)(R:Type)(k:TV->TSt->Option R):Option R :=
 match fv with
 |.fn g first cap =>
  if knownL (first++args++cap)then
   (if (ptrsTL (first++args++cap)).isEmpty then
    (if J.inl ctx f d then O.call (d::ctx) g (shareL (first++args++cap)) [] R λr M _=>match M with
     |[]=>k (if tightL (first++args++cap)then r else r.qbd) st
     |_=>none
    else T g (shareL (first++args++cap)) R λr=>k (if tightL (first++args++cap)then r else r.qbd) st)
   else if H.qih g then (match peekTL st.box (first++args++cap)with
    |some xs=>if (ptrsTL xs).isEmpty then T g xs R λr=>if r.qcq then k r st else none else none
    |none=>none)
   else O.call (d::ctx) g (dullL (first++args++cap)) (st.L++[st.B]) R λr M wb=>match qeh M with
    |some (L,B)=>if L.length=st.L.length then k r {st with L,B,Wb:=wb++st.Wb}else none
    |none=>none)
  else none
 |.yld r=>qxY O ctx d r args st R k
 |_=>none
noncomputable def qwm(d:Option Tmp)(fv:TV)(args:List TV)(st:TSt)(R:Type)(k:TV->TSt->Fp->Option R):Option R :=
 match fv,d with
 |.fn g first cap,some d =>
  if knownL (first++args++cap)&&(ptrsTL (first++args++cap)).isEmpty&&tightL (first++args++cap)&&(qV st.B (q9 d)).isNone then
   O.born (d::ctx) g (shareL (first++args++cap)) R λr c=>k (r.adopt ⟨st.L.length,q9 d⟩) {st with B:=(q9 d,some [c])::st.B,Wb:=⟨st.L.length,q9 d⟩::st.Wb} (.fresh ⟨st.L.length,q9 d⟩)
  else none
 |_,_=>none
noncomputable def qDm(d:Option Tmp)(fv:TV)(args:List TV)(st:TSt)(R:Type)(k:TV->TSt->Fp->Option R):Option R :=
 match fv,d with
 |.fn g first cap,some d=>match first++args++cap with
  |[.t .str _ s,.t .str _ sep]=>match H.seq g with
   |some clos=>if (qV st.B d).isNone then k (.fn clos [] [.cptr true [.t .str 0 sep],.ptr ⟨st.L.length,d⟩ 0,.cptr true [.t (.int .i64) 0 0]]) {st with B:=(d,some [.t .str 0 s])::st.B,Wb:=⟨st.L.length,d⟩::st.Wb} (.fresh ⟨st.L.length,d⟩)else none
   |none=>none
  |_=>none
 |_,_=>none
def qjB:TV->List TV->Option Root
 |.fn _ first cap,args=>if knownL (first++args++cap)then (match ptrsTL (first++args++cap)with
  |q::rest=>if rest.all (λr=>decide (r=q))&&onlyMapsTL (first++args++cap)then some q else none
  |[]=>none)else none
 |_,_=>none
def qwT(n:Nat)(q:Root)(c:List TV):List qC:=(List.range n).map λl=>if l=q.lvl then [(q.slot,some c)]else []
def qtZ(M:List qC)(r:Root):Option (Option (List TV)):=match M[r.lvl]? with
 |some b=>qV b r.slot
 |none=>none
noncomputable def qxn(d:Tmp)(g:FuncId)(args:List TV)(q:Root)(st:TSt)(R:Type)(k:TV->TSt->Option R):Option R :=
 match st.box q with
 |some [.t (.mset τ) o l]=>O.call (d::ctx) g (dullL args) (qwT (st.L.length+1) q [.t (.mset τ) o l]) R λr M _ =>
   if r.known&&r.qp.isEmpty&&!r.owns then (match qtZ M q with
    |some (some [.t (.mset τ') o' l'])=>k r (st.qo q [.t (.mset τ') o' l'])
    |_=>none)else none
 |_=>none
def qpu(fv:TV)(args:List TV):Bool:=qmk H fv||(qq8 H fv||(qjB fv args).isSome)
noncomputable def qzV(d:Option Tmp)(fv:TV)(args:List TV)(st:TSt)(R:Type)(k:TV->TSt->Fp->Option R):Option R :=
 if qmk H fv then qwm O ctx d fv args st R k else if qq8 H fv then qDm H d fv args st R k else match fv,qjB fv args with
  |.fn g first cap,some q=>qxn O ctx (d.getD 0) g (first++args++cap) q st R λv s=>k v s (.mapw q)
  |_,_=>none
noncomputable def qlc(o:Oper)(xs:List TV)(st:TSt)(R:Type)(k:TV->TSt->Fp->Option R):Option R :=
 match o.op with
 |.alloc t=>match o.dst,qr9 P H f t with
  |some d,some z=>if (qV st.B d).isNone then k (.ptr ⟨st.L.length,d⟩ 0) {st with B:=(d,some z.cells)::st.B,Wb:=⟨st.L.length,d⟩::st.Wb} (.fresh ⟨st.L.length,d⟩)else none
  |_,_=>none
 |.box t _=>match o.dst,xs with
  |some d,[x]=>if (qV st.B d).isNone/\x.cells.length=P.cellsOf t/\x.oks=true then k (.ptr ⟨st.L.length,d⟩ 0) {st with B:=(d,some x.cells)::st.B,Wb:=⟨st.L.length,d⟩::st.Wb} (.fresh ⟨st.L.length,d⟩)else none
  |_,_=>none
 |.call {callee:=.value _,..}=>match xs with
  |fv::args=>if qpu H fv args then qzV H O ctx o.dst fv args st R k else qnX H J T O ctx f (o.dst.getD 0) fv args st R λv s=>k v s (if qfE fv args then .none else if qdm H fv then .looks else .all)
  |[]=>none
 |op=>if qjm op xs then qlG P H f o xs st R k else match qkz op xs with
  |none=>qcz P H f (qah H f o) op xs none R λv c=>match c with
   |none=>k v st .none
   |some _=>none
  |some r=>if 16384<=r.slot then none else qcz P H f (qah H f o) op xs (st.box r) R λv c=>match c with
   |none=>k v st (.root r (qb0 P op xs).1 (qb0 P op xs).2 false)
   |some c=>if (quB op xs).all (λp=>decide (p.lvl<=r.lvl))&&decide ((qb0 P op xs).1+(qb0 P op xs).2<=c.length)then k v (st.qo r c) (.root r (qb0 P op xs).1 (qb0 P op xs).2 true)else none
noncomputable def qiP(o:Oper)(st:TSt)(R:Type)(k:TSt->Fp->Option R):Option R :=
 if qah H f o&&!qeA (tmpsOf o)then none else
 qlc P H J T O ctx f o (o.op.operands.toList.map (rdT H f o st.E)) (if qah H f o then {st with E:=qbE st.E (tmpsOf o),Wt:=Mask.ofList ((tmpsOf o).filter (λt=>(st.E.get t).owns))++st.Wt}else st) R λv s fp=>k (s.put o.dst v) fp
noncomputable def qsv(ops:Array Oper)(o:Oper)(st:TSt)(R:Type)(yes no:TSt->Option R):Option R :=
 match o.guard with
 |none=>yes st
 |some (j,want)=>match (ops[j]?).bind (·.dst)with
  |some t=>match st.E.get t with
   |.t .bool _ b=>bif b then (let st1:TSt:={st with E:=st.E.set t (.t .bool 0 true)};if want then yes st1 else no st1)
     else (let st1:TSt:={st with E:=st.E.set t (.t .bool 0 false)};if want then no st1 else yes st1)
   |.val (.tuple vs)=>if vs.size=0 then no st else none
   |_=>none
  |none=>none
noncomputable def quS(ops:Array Oper):List Nat->TSt->(R:Type)->(TSt->Option R)->Option R
 |[],st,_,k=>k st
 |i::rest,st,R,k =>
  match ops[i]? with
  |none=>none
  |some o=>qsv ops o st R (λst=>qiP P H J T O ctx f o st R λst' _=>quS ops rest st' R k) (λst=>quS ops rest (st.put o.dst (.val undef)) R k)
noncomputable def qkM(o:Oper)(E:Env):List Tmp:=if qah H f o then (tmpsOf o).filter λt=>(E.get t).owns else []
noncomputable def qqN(ops:Array Oper):List Nat->TSt->List (Nat×Foot)->(R:Type)->(TSt->List (Nat×Foot)->Option R)->Option R
 |[],st,fps,_,k=>k st fps
 |i::rest,st,fps,R,k =>
  match ops[i]? with
  |none=>none
  |some o=>qsv ops o st R
    (λst=>qiP P H J T O ctx f o st R λst' fp=>qqN ops rest st' ((i,⟨fp,qkM H f o st.E,qbu H f ops o⟩)::fps) R k)
    (λst=>qqN ops rest (st.put o.dst (.val undef)) ((i,⟨.none,[],qbu H f ops o⟩)::fps) R k)
noncomputable def qqZ(E:Env):Operand->Option Int
 |.tmp t=>qvL (E.get t)
 |.const v=>match v with
  |.int _ n=>some n
  |_=>none
 |_=>none
noncomputable def qf9(ops:Array Oper)(E:Env):Nat->Nat->Tmp->Option (Rt×List (Int×Nat×Nat)×Bool)
 |0,_,_=>none
 |n+1,k,d=>if H.link f d=false then some (.tmp d,[],false)else
  match qnI ops k d with
  |none=>none
  |some c=>match (ops[c]?).map Oper.op with
   |some (.move (.tmp a))=>qf9 ops E n c a
   |some (.indexAddr t (.tmp a) i) =>
    match qf9 ops E n c a,qqZ E i,P.underlying t with
    |some (r,p,false),some j,some (.slice elem)=>some (r,(j,0,P.cellsOf elem)::p,true)
    |_,_,_=>none
   |some (.fieldAddr t (.tmp a) fd) =>
    match qf9 ops E n c a,qlz P t fd with
    |some (r,(j,o,s)::p,true),some o'=>some (r,(j,o+o',s)::p,true)
    |_,_=>none
   |some (.load t (.tmp a)) =>
    if qK P t then none else
    if H.link f a then (match qf9 ops E n c a with
     |some (r,p,true)=>some (r,p,false)
     |_=>none)
    else match E.get a with
     |.ptr r off=>some (.box r off,[],false)
     |_=>none
   |_=>none
def qm9(e:TV)(cs:List TV):TV :=
 match e with
 |.agg _=>.agg cs
 |_=>cs.headD (.any [])
def qAO(ys:List TV):List (Int×Nat×Nat)->TV->(R:Type)->(TV->Option R)->Option R
 |(i,o,s)::p,.t (.sl τ) lv l,R,k =>
  if qa7 lv=true/\τ.qbl=s/\s≠0/\τ.ok=true/\τ.qbR=true then
   (idx l i).bind λe=>match p with
    |[]=>if o+ys.length<=s then (match qd5 τ (nx lv) (qm9 (ofTy τ (nx lv) e) (qkD (ofTy τ (nx lv) e).cells o ys))with
      |some e'=>k (.t (.sl τ) lv (l.set i.toNat e'))
      |none=>none)else none
    |_::_=>match (ofTy τ (nx lv) e).cells[o]? with
     |some z=>qAO ys p z R λz'=>match qd5 τ (nx lv) (qm9 (ofTy τ (nx lv) e) ((ofTy τ (nx lv) e).cells.set o z'))with
      |some e'=>k (.t (.sl τ) lv (l.set i.toNat e'))
      |none=>none
     |none=>none
  else none
 |_,_,_,_=>none
def qwS(b:qC):qC:=b.map λp=>(p.1,p.2.map (List.map TV.qdH))
noncomputable def qBy(E:Env):Mask:=E.mask λx=>!(x.firm||x.isAny)
def qte:qC->List Root
 |[]=>[]
 |(_,none)::b=>qte b
 |(k,some c)::b=>if c.all TV.firm then qte b else ⟨0,k⟩::qte b
noncomputable def TSt.qbU(st:TSt)(T:List Tmp):TSt :=
 {st with E:=(qbE st.E T).qsK (λ_ v=>v.qdH),B:=qwS st.B,Wt:=Mask.ofList (T.filter (λt=>(st.E.get t).owns))++(qBy (qbE st.E T)++st.Wt),Wb:=qte st.B++st.Wb}
structure Hole where
 r:Tmp
 τ:Ty
 lv:Nat
 l:List τ.den
 j:Int
noncomputable def qy1(hole:Option Hole)(r0:Tmp)(p:List (Int×Nat×Nat))(x:TV)(st:TSt)(R:Type)(k:TSt->Option R):Option R :=
 match hole,p with
 |some h,[(i,0,1)]=>if h.r=r0 then (match x with
   |.t (.sl τ) o y=>(match qd5 h.τ (nx h.lv) (.t (.sl τ) o y)with
    |some e=>bif decide (i=h.j)then (if (TV.t (.sl h.τ) h.lv (h.l.set h.j.toNat e)).firm then k (st.put (some r0) (.t (.sl h.τ) h.lv (h.l.set h.j.toNat e)))else none)else none
    |none=>none)
   |_=>none)else none
 |_,_=>none
noncomputable def lsT(ops:Array Oper)(s:Nat)(o:Oper)(st:TSt)(hole:Option Hole)(R:Type)(k:TSt->Option R):Option R :=
 match o.op with
 |.store t (.tmp d) xo =>
  let x:=rdT H f o st.E xo
  if st.L.isEmpty&&qmK st.B&&st.B.all (λp=>decide (p.1<16384))&&o.dst.isNone&&o.guard.isNone&&qeA (tmpsOf o)&&decide (P.cellsOf t≠0)&&decide (x.cells.length=P.cellsOf t)&&x.oks&&x.qp.isEmpty then
   match qf9 P H f ops st.E ops.size s d with
   |some (.tmp r,p,true)=>if (tmpsOf o).contains r then none else
    if hole.isSome then qy1 hole r p x (st.qbU (tmpsOf o)) R k else
    qAO x.cells p.reverse (st.E.get r) R λy=>if y.firm then k ((st.qbU (tmpsOf o)).put (some r) y)else none
   |some (.box q off,p,true)=>match st.box q with
    |some cs=>match cs[off]? with
     |some z=>qAO x.cells p.reverse z R λy=>if y.firm then k ((st.qbU (tmpsOf o)).qo q ((cs.map TV.qdH).set off y))else none
     |none=>none
    |none=>none
   |_=>none
  else none
 |_=>none
noncomputable def apT(ops:Array Oper)(s:Nat)(o:Oper)(st:TSt)(R:Type)(k:TSt->Hole->Option R):Option R :=
 match o.op with
 |.call {args,..}=>match (args[0]?:Option Operand)with
  |some (.tmp d)=>match qf9 P H f ops st.E ops.size s d with
   |some (.tmp r,[(j,0,1)],false)=>if r=d\/st.E.n<=d then none else
    (match st.E.get r with
    |.t (.sl (.sl τ)) lv l=>if qa7 lv&&qa7 (nx lv)then (idx l j).bind λe =>
      k {st with E:=(st.E.set r (.any [])).set d (.t (.sl τ) (nx lv) e),Wt:=Mask.ins r (Mask.ins d st.Wt)} ⟨r,.sl τ,lv,l,j⟩else none
    |_=>none)
   |_=>none
  |_=>none
 |_=>none
def qpx(o:Oper):Option Hole->Option Hole
 |some h=>if o.dst=some h.r\/(tmpsOf o).contains h.r=true then none else some h
 |none=>none
def qBg:TV->Bool
 |.cptr ..=>true
 |_=>false
noncomputable def qsJ(o:Oper)(E:Env):Bool :=
 !qkX H f o||((match o.dst with
  |some d=>decide (d<E.n)
  |none=>true)&&(match o.op with
  |.load _ (.tmp a)=>!H.link f a||qBg (E.get a)
  |_=>true))
noncomputable def qgT(ops:Array Oper):List Nat->TSt->Option Hole->List (Nat×Foot)->(R:Type)->(TSt->List (Nat×Foot)->Option R)->Option R
 |[],st,_,fps,_,k=>k st fps
 |i::rest,st,hole,fps,R,k =>
  match ops[i]? with
  |none=>none
  |some o=>if qfr H f o then lsT P H f ops i o st hole R λst'=>qgT ops rest st' none ((i,⟨.all,[],looksAt ops o⟩)::fps) R k
   else if qlg H f o then (if qkX H f o then none else apT P H f ops i o st R λst hole=>qsv ops o st R
    (λst=>qiP P H J T O ctx f o st R λst' fp=>qgT ops rest st' (qpx o (some hole)) ((i,⟨fp,qkM H f o st.E,qbu H f ops o⟩)::fps) R k)
    (λst=>qgT ops rest (st.put o.dst (.val undef)) (qpx o (some hole)) ((i,⟨.none,[],qbu H f ops o⟩)::fps) R k))
   else if qsJ H f o st.E then qsv ops o st R
    (λst=>qiP P H J T O ctx f o st R λst' fp=>qgT ops rest st' (qpx o hole) ((i,⟨fp,qkM H f o st.E,qbu H f ops o⟩)::fps) R k)
    (λst=>qgT ops rest (st.put o.dst (.val undef)) (qpx o hole) ((i,⟨.none,[],qbu H f ops o⟩)::fps) R k)
   else none
def qDr:Operand->Tmp
 |.tmp t=>t
 |_=>0
def qwa(ops:List Oper):List Mask :=
 ops.foldl (λacc o=>acc++[(qaM o).foldl (λm j=>Mask.ins j (m++acc.getD j .empty)) .empty]) []
def qjH(U:List (Nat×Nat))(ops:Array Oper):Bool :=
 let asz:=qwa ops.toList
 (List.range ops.size).all λi =>
  match ops[i]? with
  |none=>false
  |some y=>(qaM y).all (λj=>decide (j<i))&&(List.range i).all λj =>
   (asz.getD i .empty).has j||match ops[j]? with
    |none=>false
    |some x=>qcb ops x y&&(qfJ H f ops x y||U.contains (j,i))
def qkR(draw:Bool)(asz:List Mask)(i c:Nat):Bool:=if draw then (asz.getD c .empty).has i else decide (i<c)
def qpC(draw:Bool)(asz:List Mask)(ops:Array Oper)(lone:Bool)(c:Nat)(oc:Oper):Bool :=
 (!qkX H f oc||(oc.guard.isNone&&(match oc.dst with
   |some d=>!(tmpsOf oc).contains d
   |none=>true)&&(List.range ops.size).all λi=>i==c||qkR draw asz i c||match ops[i]? with
    |some oi=>qku H f oc oi
    |none=>false)) &&
 (!qfr H f oc||(oc.guard.isNone&&(List.range ops.size).all λi=>i==c||qkR draw asz i c||qkR draw asz c i)) &&
 (!(qkX H f oc&&qhC H f oc)||lone) &&
 (!qlg H f oc||(List.range ops.size).any λs=>qkR draw asz c s&&match ops[s]? with
  |some os=>qfr H f os
  |none=>false) &&
 (!qlg H f oc||(List.range ops.size).all λi=>i==c||qkR draw asz i c||qkR draw asz c i||match ops[i]? with
  |some oi=>qjg H f ops c oc oi
  |none=>false)
def qsI(draw:Bool)(ops:Array Oper):Bool :=
 let asz:=qwa ops.toList
 let lone:=decide ((ops.toList.filter (qfr H f)).length<=1)
 (List.range ops.size).all λc=>match ops[c]? with
  |some oc=>qpC H f draw asz ops lone c oc
  |none=>false
noncomputable def qBS:List Tmp->TSt->Option TSt
 |[],st=>some st
 |D,st=>st.clear D
noncomputable def qBF(F:List Int->Option (List Int))(t:Tmp)(d:Option Tmp)(st:TSt)(R:Type)(k:TSt->Option R):Option R :=
 if st.L.isEmpty&&qmK st.B then
  match st.E.get t with
  |.t (.sl (.int .i64)) o xs=>if qa7 o=true then (F xs).bind λys=>k (((st.qbU []).put (some t) (.t (.sl (.int .i64)) o ys)).put d (.any []))else none
  |_=>none
 else none
noncomputable def qCQ(E:Env):Operand->Bool
 |.tmp t=>match E.get t with
  |.t (.int _) _ _=>true
  |_=>false
 |.const v=>match v with
  |.int _ _=>true
  |_=>false
 |_=>false
def qAw(r:Root):TV->Bool
 |.ptr r' _=>decide (r'=r)
 |_=>false
noncomputable def qB6(ops:Array Oper)(E:Env)(r:Root):Bool:=ops.toList.any λo=>(tmpsOf o).any λt=>qDw ops t&&qAw r (E.get t)
noncomputable def qt9(ops:Array Oper)(st:TSt)(o:Oper):Bool:=match o.op with
 |.binOp _ _ x y _=>qCQ st.E x&&qCQ st.E y
 |.load _ (.tmp a)=>match st.E.get a with
  |.ptr r off=>decide (r.slot<16384)&&qB6 ops st.E r&&(match st.box r with
   |some cs=>decide (off<cs.length)
   |none=>false)
  |_=>false
 |_=>true
noncomputable def qpP(ops:Array Oper)(st:TSt):Bool:=ops.toList.all (qt9 ops st)
noncomputable def tx(bid:Nat):Code->TSt->(R:Type)->(Ex->TSt->Option R)->Option R
 |.skip,st,_,k=>k .normal st
 |.region id ops draw,st,R,k=>qu4 (J.join ctx f (.region id)) st (λst R k =>
   match qBS (H.pre f id) st with
   |none=>none
   |some st =>
   match qgC H ops draw with
   |some (F,t,e,d)=>if e<st.E.n then qBF F t d (st.put (some e) (.any [])) R λst=>k .normal st else none
   |none =>
   if qsz H f ops then
    (if (H.perm f id).isEmpty then
    (if qsI H f draw ops&&(!draw||qjH H f (H.pairs f id) ops)then
     qgT P H J T O ctx f ops (List.range ops.size) st none [] R λst fps=>if !draw||qg4 (H.pairs f id) fps then k .normal st else none
    else none)
    else (if draw&&qpR P H f ops (H.perm f id)then
     qgT P H J T O ctx f (qfk ops (H.perm f id)) (List.range (qfk ops (H.perm f id)).size) st none [] R λst _=>if qpP (qfk ops (H.perm f id)) st then k .normal st else none
    else none))
   else if draw then
    (if qjH H f (H.pairs f id) ops then
     match H.pairs f id with
     |[]=>quS P H J T O ctx f ops (List.range ops.size) st R λst=>k .normal st
     |U=>qqN P H J T O ctx f ops (List.range ops.size) st [] R λst fps=>if qg4 U fps then k .normal st else none
    else none)
   else quS P H J T O ctx f ops (List.range ops.size) st R λst=>k .normal st) R k
 |.seq a b,st,R,k=>tx bid a st R λe st=>match e with
  |.normal=>tx bid b st R k
  |e=>k e st
 |.cond c a b,st,R,k=>qu4 (J.join ctx f (.cond (qDr c))) st (λst R k=>match rdT H f default st.E c with
   |.t .bool _ t=>bif t then tx bid a st R k else tx bid b st R k
   |_=>none) R k
 |.block id c,st,R,k=>qu4 (J.join ctx f (.block id)) st (λst R k=>tx id c st R λe st=>match e with
   |.exit i=>if i=id then k .normal st else k (.exit i) st
   |e=>k e st) R k
 |.loop c,st,R,k=>match J.join ctx f (.loop bid)with
  |some j =>
   if st.qkd j then
    (asL j.ps (j.lv.map st.get)).bind λx0 =>
     qaw (λx=>match (st.fresh.qbJ j (ofL j.ps x)).clear (H.clear f bid)with
      |some st1=>tx bid c st1 (denL (j.ps.map (·.1))⊕R) λe st2=>match e with
       |.normal=>(st2.outs st j).map .inl
       |e=>(k e (st2.merge st)).map .inr
      |none=>none) x0
   else none
  |none=>match st.clear (H.clear f bid)with
   |some st=>tx bid c st R λe st=>match e with
    |.normal=>O.code ctx f bid (.loop c) st R k
    |e=>k e st
   |none=>none
 |.rangeFunc g ps asz bo,st,R,k =>
  match rdT H f default st.E g,ps.toList with
  |.fn h first cap,t::ts =>
   if (qV st.B t).isNone&&decide (t<16384)then
    qnX H J T O ctx f t (.fn h first cap) [.yld ⟨st.L.length,t⟩] {st with B:=(t,some [.lp .ready none f (dullL st.E.toL) (t::ts) asz bo])::st.B,Wb:=⟨st.L.length,t⟩::st.Wb} R λ_ s =>
     if qcO st.L.length [t] (qjG (qaG [t] s.B))&&quU (qaG [t] s.B)then
      (match qV s.B t with
      |some (some [.lp .ready none _ _ _ _ _])=>k .normal {s with B:=qaG [t] s.B,Wb:=st.Wb++s.Wb.filter (λq=>!decide (q=⟨st.L.length,t⟩))}
      |some (some [.lp .done (some .ret) _ _ _ _ _])=>k .ret {s with B:=qaG [t] s.B,Wb:=st.Wb++s.Wb.filter (λq=>!decide (q=⟨st.L.length,t⟩))}
      |some (some [.lp .done (some (.exit id)) _ _ _ _ _])=>k (.exit id) {s with B:=qaG [t] s.B,Wb:=st.Wb++s.Wb.filter (λq=>!decide (q=⟨st.L.length,t⟩))}
      |_=>none)
     else none
   else none
  |_,_=>none
 |.exit id,st,_,k=>k (.exit id) st
 |.ret,st,_,k=>k .ret st
 |_,_,_,_=>none
noncomputable def qiM(st:TSt):ResultVar->Option TV
 |.tmp t=>some (st.E.get t)
 |.cell a t=>match st.E.get a with
  |.ptr r off=>match st.box r with
   |some cs=>if r.slot<16384 then qa3 P t (cs.drop off)else none
   |none=>none
  |_=>none
def qeS:List (Option TV)->Option (List TV)
 |[]=>some []
 |some v::l=>(qeS l).map (v::·)
 |none::_=>none
noncomputable def qfG(st:TSt):ResultVar->Option (Bool×Nat×Nat)
 |.tmp t=>some (false,t,0)
 |.cell a _=>match st.E.get a with
  |.ptr r _=>some (true,r.lvl,r.slot)
  |_=>none
def qj3:List (Option (Bool×Nat×Nat))->Option (List (Bool×Nat×Nat))
 |[]=>some []
 |some v::l=>(qj3 l).map (v::·)
 |none::_=>none
def qcK:List TV->TV
 |[r]=>r
 |rs=>.tuple rs
noncomputable def runT(args:List TV)(M:List qC)(R:Type)(k:TV->List qC->List Root->Option R):Option R :=
 if J.lib f then none else
 match P.funcs[f]? with
 |some fn=>match fn.body with
  |some c=>qu4 (J.join ctx f (.inl 0)) {E:=Env.qgB args fn.ntmps,L:=M,B:=[],Wt:=.empty,Wb:=[]}
    (λst R k=>tx P H J T O ctx f 0 c st R λe st=>match e with
     |.normal=>k .normal st
     |.ret=>k .normal st
     |_=>none) R λ_ st =>
   match qeS (fn.results.toList.map (qiM P st)),qj3 (fn.results.toList.map (qfG st))with
   |some rs,some ks=>if knownL rs&&((ptrsTL rs).all λr=>decide (r.lvl<M.length))&&qok M.length ks then k (qcK rs) st.L st.Wb
    else if knownL rs&&M.isEmpty&&qok M.length ks&&!((ptrsTL rs).all λr=>decide (r.lvl<M.length))then (match peekTL st.box rs with
     |some xs=>if knownL xs&&(ptrsTL xs).isEmpty then k (qcK xs) st.L st.Wb else none
     |none=>none)
    else none
   |_,_=>none
  |none=>none
 |none=>none
noncomputable def qwk(args:List TV)(R:Type)(k:TV->TV->Option R):Option R :=
 if J.lib f then none else
 match P.funcs[f]? with
 |some fn=>match fn.body with
  |some c=>tx P H J T O ctx f 0 c {E:=Env.qgB args fn.ntmps,L:=[],B:=[],Wt:=.empty,Wb:=[]} R λe st =>
   match e with
   |.exit _=>none
   |_=>match qeS (fn.results.toList.map (qiM P st))with
    |some rs=>match peekTL st.box rs with
     |some xs=>match ptrsTL xs with
      |[r]=>if r.lvl=0 then (match st.box r with
       |some [.t (.mset τ) o l]=>if knownL xs&&onlyMapsTL xs then k (qcK xs) (.t (.mset τ) o l)else none
       |_=>none)else none
      |_=>none
     |none=>none
    |none=>none
  |none=>none
 |none=>none
end
def TV.qcS:TV->TV
 |.val (.slice none 0 0)=>.empty 1
 |.t (.nsl _) _ _=>.any []
 |v=>v
def dnT(H:Hints)(g:FuncId)(l:List TV):List TV:=bif H.qcS g then l.map TV.qcS else l
mutual
def TV.denilD:TV->TV
 |.val (.slice none 0 0)=>.empty 1
 |.t (.nsl _) _ _=>.any []
 |.t (.pair ..) _ _=>.any []
 |.agg l=>.agg (denilDTL l)
 |.tuple l=>.tuple (denilDTL l)
 |v=>v
def denilDTL:List TV->List TV
 |[]=>[]
 |v::l=>v.denilD::denilDTL l
end
def qC2(H:Hints)(g:FuncId)(r:TV):TV:=bif H.denr g then r.denilD else r
def TV.qbj:TV->TV
 |.val (.slice none 0 0)=>.empty 1000
 |.t (.nsl _) _ _=>.any []
 |v=>v
def qzR(M:List qC)(q:Root)(c:List TV):List qC:=M.modify q.lvl λb=>qtc b q.slot (some c)
noncomputable def qC5(I:IoT)(g:FuncId)(args:List TV)(M:List qC)(R:Type)(k:TV->List qC->List Root->Option R):Option R :=
 match args with
 |.ptr q off::rest=>if decide (off=0)&&decide (q.slot<16384)&&knownL rest&&(ptrsTL rest).isEmpty then (match qtZ M q with
  |some (some c)=>if c.all TV.one&&knownL c&&(ptrsTL c).isEmpty then I g c (rest.map TV.qbj) R λc'=>if c'.all TV.one&&knownL c'&&(ptrsTL c').isEmpty then k (.tuple []) (qzR M q c') [q]else none else none
  |_=>none)else none
 |_=>none
noncomputable def qlr(P:Program)(H:Hints)(J:TH)(T:qoZ):Nat->TOrc
 |0=>{call:=λ_ _ _ _ _ _=>none,code:=λ_ _ _ _ _ _ _=>none,born:=λ_ _ _ _ _=>none}
 |n+1=>{
   call:=λctx g args M R k=>if H.io g then qC5 J.io g args M R k else runT P H J T (qlr P H J T n) ctx g (dnT H g args) M R λr M wb=>k (qC2 H g r) M wb
   code:=λctx f bid c st R k=>tx P H J T (qlr P H J T n) ctx f bid c st R k
   born:=λctx g args R k=>qwk P H J T (qlr P H J T n) ctx g args R k}
def qwg:(rs:List (Ty×Nat))->TV->Option (denL (rs.map (·.1)))
 |[p],r=>asL [p] [r]
 |rs,.tuple l=>asL rs l
 |_,_=>none
noncomputable def fnT(P:Program)(H:Hints)(J:TH)(T:qoZ)(n:Nat)(g:FuncId)(args:List TV)(rs:List (Ty×Nat)):Option (denL (rs.map (·.1))) :=
 (qlr P H J T n).call [] g args [] _ λr M _=>match M with
  |[]=>qwg rs r
  |_=>none
noncomputable def qC4(P:Program)(H:Hints)(J:TH)(T:qoZ)(n:Nat)(g:FuncId)(c args:List TV)(bs:List (Ty×Nat)):Option (denL (bs.map (·.1))) :=
 if c.all TV.one then runT P H J T (qlr P H J T n) [] g (.ptr ⟨0,0⟩ 0::args) [[(0,some c)]] _ λr M _=>match r,M with
  |.tuple [],[[(0,some c')]]=>asL bs c'
  |_,_=>none
 else none
inductive Cp where
 |v (τ:Ty)
 |p (τ:Ty)
@[reducible] def Cp.den:Cp->Type
 |.v τ=>τ.den
 |.p τ=>τ.den
@[reducible] def denC:List Cp->Type
 |[]=>Unit
 |[c]=>c.den
 |c::q::l=>c.den×denC (q::l)
inductive Pm where
 |ty (τ:Ty)
 |ptr (τ:Ty)
 |fn (g:FuncId) (caps:List Cp)
@[reducible] def Pm.den:Pm->Type
 |.ty τ=>τ.den
 |.ptr τ=>τ.den
 |.fn _ cs=>denC cs
@[reducible] def denP:List Pm->Type
 |[]=>Unit
 |[p]=>p.den
 |p::q::l=>p.den×denP (q::l)
def qsf(τ:Ty)(cs:List TV):Option τ.den :=
 if τ.one=true then (match cs with
  |[c]=>qd5 τ 1000 c
  |_=>none)else qd5 τ 1000 (.agg cs)
def qAU:(c:Cp)->TV->Option c.den
 |.v τ,v=>qd5 τ 1000 v
 |.p τ,.cptr true cs=>qsf τ cs
 |.p _,_=>none
def qCq:(c:Cp)->c.den->TV
 |.v τ,x=>ofTy τ 1000 x
 |.p τ,x=>.cptr true (ofTy τ 1000 x).cells
def qqy:(cs:List Cp)->List TV->Option (denC cs)
 |[],[]=>some ()
 |[c],[v]=>qAU c v
 |c::q::ps,v::l=>(qAU c v).bind λx=>(qqy (q::ps) l).bind λy=>some (x,y)
 |_,_=>none
def qzs:(cs:List Cp)->denC cs->List TV
 |[],_=>[]
 |[c],x=>[qCq c x]
 |c::q::ps,x=>qCq c x.1::qzs (q::ps) x.2
def qBO:(p:Pm)->TV->Option p.den
 |.ty τ,v=>qd5 τ 1000 v
 |.ptr τ,v=>qAU (.p τ) v
 |.fn g cs,.fn g' [] cap=>if g=g' then qqy cs cap else none
 |.fn _ _,_=>none
def qCS:(p:Pm)->p.den->TV
 |.ty τ,x=>ofTy τ 1000 x
 |.ptr τ,x=>qCq (.p τ) x
 |.fn g cs,x=>.fn g [] (qzs cs x)
def qqx:(ps:List Pm)->List TV->Option (denP ps)
 |[],[]=>some ()
 |[p],[v]=>qBO p v
 |p::q::ps,v::l=>(qBO p v).bind λx=>(qqx (q::ps) l).bind λy=>some (x,y)
 |_,_=>none
def qaY:(ps:List Pm)->denP ps->List TV
 |[],_=>[]
 |[p],x=>[qCS p x]
 |p::q::ps,x=>qCS p x.1::qaY (q::ps) x.2
structure Entry where
 g:FuncId
 ps:List Pm
 rs:List (Ty×Nat)
 F:denP ps->Option (denL (rs.map (·.1)))
def qpN(rs:List (Ty×Nat))(x:denL (rs.map (·.1))):TV:=qcK (ofL rs x)
structure IoEntry where
 g:FuncId
 bs:List (Ty×Nat)
 ps:List (Ty×Nat)
 F:denL (bs.map (·.1))->denL (ps.map (·.1))->Option (denL (bs.map (·.1)))
def qvI:List IoEntry->IoT
 |[],_,_,_,_,_=>none
 |e::l,g,c,args,R,k=>if e.g=g then (match asL e.bs c,asL e.ps args with
   |some x,some y=>(e.F x y).bind λz=>k (ofL e.bs z)
   |_,_=>none)else qvI l g c args R k
def qec:List Entry->qoZ
 |[],_,_,_,_=>none
 |e::l,g,args,R,k=>if e.g=g then (match qqx e.ps args with
   |some x=>(e.F x).bind λy=>k (qpN e.rs y)
   |none=>qec l g args R k)else qec l g args R k
end
end Go.Tx
end
section
namespace Go.Fl
open Ieee
section
set_option maxRecDepth 100000
def Val(d:Datum)(n:Int):Prop:=∃neg mag place,d=.number neg mag place/\mag*2 ^ place.toNat=n.natAbs*2 ^ (-place).toNat/\(neg=true->n<=0)/\(neg=false->0<=n)
def IsF(w:Nat)(n:Int):Prop:=Val (double.read w) n
theorem qf8:double.leastPlace = -1074:=by decide
theorem qqz:double.binade=2 ^ 52:=rfl
theorem qoh:double.infRung=2047*2 ^ 52:=rfl
theorem qjP:double.signWeight=2 ^ 63:=rfl
theorem qxO(neg:Bool){r:Nat}(h:r<2 ^ 63):(double.word neg r) / 2 ^ 63 % 2=(if neg then 1 else 0)/\(double.word neg r) % 2 ^ 63=r:=by
 unfold Format.word;rw [qjP];cases neg
 ·simp only [qf,if_false]<;>omega
 ·simp only [if_true]<;>omega
theorem qxN(neg:Bool){k e:Nat}(h1:2 ^ 52<=k)(h2:k<2 ^ 53)(he:e<=2000):double.read (double.word neg (e*2 ^ 52+k))=.number neg k (-1074+(e:Int)):=by
 have hr:=qxO neg (r:=e*2 ^ 52+k) (by omega);unfold Format.read;rw [qjP,qqz,qoh,qf8];simp only [hr.1,hr.2];have c1:¬ (e*2 ^ 52+k<2 ^ 52):=by omega
 have c2:e*2 ^ 52+k<2047*2 ^ 52:=by omega
 rw [if_neg c1,if_pos c2];have e1:(e*2 ^ 52+k) % 2 ^ 52=k-2 ^ 52:=by omega
 have e2:(e*2 ^ 52+k) / 2 ^ 52=e+1:=by omega
 rw [e1,e2];have e3:2 ^ 52+(k-2 ^ 52)=k:=by omega
 rw [e3];have e4:e+1-1=e:=by omega
 rw [e4];cases neg<;>rfl
theorem qxP(neg:Bool):double.read (double.word neg 0)=.number neg 0 (-1074):=by
 cases neg<;>decide
theorem qwv(neg:Bool){q d:Nat}(hq:0<q):Toward.even.cut neg (q*2 ^ d) d=q:=by
 unfold Toward.cut;have hl:d<=(q*2 ^ d).log2:=by
  rw [Nat.le_log2 (by have:=Nat.pow_pos (n:=d) (show 0<2 by omega);have:=Nat.mul_pos hq this;omega)];exact Nat.le_mul_of_pos_left _ hq
 have hm:min d ((q*2 ^ d).log2+2)=d:=by omega
 simp only [hm,Nat.one_shiftLeft];have hp:0<2 ^ d:=Nat.pow_pos (by omega);have e1:q*2 ^ d / 2 ^ d=q:=Nat.mul_div_cancel _ hp;have e2:q*2 ^ d % 2 ^ d=0:=Nat.mul_mod_left _ _;rw [e1,e2];have c1:decide (2 ^ d<2*0)=false:=by simp
 have c2:((2 ^ d==2*0)&&(q % 2==1))=false:=by
  have:(2 ^ d==2*0)=false:=by simp
  rw [this];rfl
 simp [c2]
theorem qtY(m k:Nat)(hm:m≠0):(m*2 ^ k).log2=m.log2+k:=by
 have hp:0<2 ^ k:=Nat.pow_pos (by omega);have hne:m*2 ^ k≠0:=by have:=Nat.mul_pos (Nat.pos_of_ne_zero hm) hp;omega
 rw [Nat.log2_eq_iff hne];have h1:=Nat.log2_self_le hm;have h2:=@Nat.lt_log2_self m;constructor
 ·rw [Nat.pow_add];exact Nat.mul_le_mul_right _ h1
 ·have:2 ^ (m.log2+k+1)=2 ^ (m.log2+1)*2 ^ k:=by rw [<- Nat.pow_add];congr 1;omega
  rw [this];exact Nat.mul_lt_mul_of_pos_right h2 hp
theorem qB5(B q k:Nat)(h3:q<=1074*B)(hk:k<2*B):q+k<=2047*B:=by omega
theorem qj0{d:Datum}{n:Int}(h:Val d n)(hn:n.natAbs<2 ^ 53):IsF (double.write d) n:=by
 obtain ⟨neg,mag,place,rfl,hv,hs1,hs2⟩:=h;unfold IsF;show Val (double.read (double.nearest neg mag place)) n;unfold Format.nearest;by_cases h0:mag=0
 ·rw [if_pos h0,qxP];subst h0;have hz:n.natAbs=0:=by
   have hp:0<2 ^ (-place).toNat:=Nat.pow_pos (by omega);rw [Nat.zero_mul]at hv;rcases Nat.mul_eq_zero.1 hv.symm with h|h
   ·exact h
   ·omega
  exact ⟨neg,0,-1074,rfl,by rw [hz,Nat.zero_mul,Nat.zero_mul],hs1,hs2⟩
 rw [if_neg h0];have hnz:n.natAbs≠0:=by
  intro hz;rw [hz,Nat.zero_mul]at hv;have hp:0<2 ^ place.toNat:=Nat.pow_pos (by omega);rcases Nat.mul_eq_zero.1 hv with h|h<;>omega
 have hlog:(mag.log2:Int)+place=n.natAbs.log2:=by
  have h1:=congrArg Nat.log2 hv;rw [qtY _ _ h0,qtY _ _ hnz]at h1;omega
 have hl53:n.natAbs.log2<53:=(Nat.log2_lt hnz).2 hn;generalize hL:n.natAbs.log2=L at *;have hfb:(double.fractionBits:Int)=52:=rfl;have hlast:max (place+(mag.log2:Int)-(double.fractionBits:Int)) double.leastPlace=(L:Int)-52:=by
  rw [qf8,hfb];omega
 simp only [hlast];have hL2:L+1022<=2000:=by omega
 have t2:(-((-1074:Int)+((L+1022:Nat):Int))).toNat=52-L:=by omega
 have t3:((-1074:Int)+((L+1022:Nat):Int)).toNat=0:=by omega
 have hkept:Toward.even.cut neg (mag <<< (place-((L:Int)-52)).toNat) (((L:Int)-52)-place).toNat=n.natAbs*2 ^ (52-L):=by
  have hp52:0<2 ^ (52-L):=Nat.pow_pos (by omega);have hq:0<n.natAbs*2 ^ (52-L):=Nat.mul_pos (Nat.pos_of_ne_zero hnz) hp52;have key:mag <<< (place-((L:Int)-52)).toNat=n.natAbs*2 ^ (52-L)*2 ^ (((L:Int)-52)-place).toNat:=by
   rw [Nat.shiftLeft_eq]
   refine Nat.eq_of_mul_eq_mul_right (Nat.pow_pos (n:=place.toNat+(-place).toNat) (show 0<2 by omega)) ?_;have a1:mag*2 ^ (place-((L:Int)-52)).toNat*2 ^ (place.toNat+(-place).toNat)=(mag*2 ^ place.toNat)*2 ^ ((place-((L:Int)-52)).toNat+(-place).toNat):=by
    rw [Nat.pow_add,Nat.pow_add];ac_rfl
   have a2:n.natAbs*2 ^ (52-L)*2 ^ (((L:Int)-52)-place).toNat*2 ^ (place.toNat+(-place).toNat)=n.natAbs*2 ^ ((52-L)+(((L:Int)-52)-place).toNat+(place.toNat+(-place).toNat)):=by
    rw [Nat.mul_assoc,Nat.mul_assoc,<- Nat.pow_add,<- Nat.pow_add];congr 2
    omega
   rw [a1,hv,a2,Nat.mul_assoc,<- Nat.pow_add];congr 2
   omega
  rw [key,qwv neg hq]
 rw [hkept];have hk1:2 ^ 52<=n.natAbs*2 ^ (52-L):=by
  have h1:2 ^ L<=n.natAbs:=by rw [<- hL];exact Nat.log2_self_le hnz
  have h2:2 ^ 52=2 ^ L*2 ^ (52-L):=by rw [<- Nat.pow_add];congr 1;omega
  rw [h2];exact Nat.mul_le_mul_right _ h1
 have hk2:n.natAbs*2 ^ (52-L)<2 ^ 53:=by
  have h1:n.natAbs<2 ^ (L+1):=by rw [<- hL];exact Nat.lt_log2_self
  have h2:2 ^ 53=2 ^ (L+1)*2 ^ (52-L):=by rw [<- Nat.pow_add];congr 1;omega
  rw [h2];exact Nat.mul_lt_mul_of_pos_right h1 (Nat.pow_pos (by omega))
 have he:(((L:Int)-52)-double.leastPlace).toNat=L+1022:=by rw [qf8];omega
 rw [he,qqz,qoh];have h3:(L+1022)*2 ^ 52<=1074*2 ^ 52:=Nat.mul_le_mul_right _ (by omega);have h5:2 ^ 53=2*2 ^ 52:=by rw [Nat.pow_succ,Nat.mul_comm]
 rw [h5]at hk2;have hmin:min ((L+1022)*2 ^ 52+n.natAbs*2 ^ (52-L)) (2047*2 ^ 52)=(L+1022)*2 ^ 52+n.natAbs*2 ^ (52-L):=Nat.min_eq_left (qB5 _ _ _ h3 hk2);rw [<- h5]at hk2;rw [hmin,qxN neg hk1 hk2 hL2];refine ⟨neg,n.natAbs*2 ^ (52-L),-1074+((L+1022:Nat):Int),rfl,?_,hs1,hs2⟩;rw [t2,t3,Nat.pow_zero,Nat.mul_one]
theorem qAQ{neg:Bool}{mag:Nat}{place base:Int}{n:Int}(hv:mag*2 ^ place.toNat=n.natAbs*2 ^ (-place).toNat)(h1:neg=true->n<=0)(h2:neg=false->0<=n)(hb:base<=place) :
  signed neg mag (place-base).toNat*(2 ^ base.toNat:Nat)=n*(2 ^ (-base).toNat:Nat):=by
 have key:mag*2 ^ (place-base).toNat*2 ^ base.toNat=n.natAbs*2 ^ (-base).toNat:=by
  refine Nat.eq_of_mul_eq_mul_right (Nat.pow_pos (n:=(-place).toNat) (show 0<2 by omega)) ?_;have a1:mag*2 ^ (place-base).toNat*2 ^ base.toNat*2 ^ (-place).toNat=mag*2 ^ place.toNat*2 ^ (-base).toNat:=by
   rw [Nat.mul_assoc,Nat.mul_assoc,Nat.mul_assoc,<- Nat.pow_add,<- Nat.pow_add,<- Nat.pow_add];congr 2;omega
  rw [a1,hv,Nat.mul_assoc,Nat.mul_assoc,Nat.mul_comm (2 ^ (-place).toNat)]
 unfold signed;cases neg with
 |true =>
  have hn:=h1 rfl;have e:n = -(n.natAbs:Int):=by omega
  simp only [if_true,Nat.shiftLeft_eq];rw [Int.neg_mul,<- Int.natCast_mul,key];conv=>rhs;rw [e]
  rw [Int.neg_mul,Int.natCast_mul]
 |false =>
  have hn:=h2 rfl;have e:n=(n.natAbs:Int):=by omega
  simp only [qf,if_false,Nat.shiftLeft_eq];rw [<- Int.natCast_mul,key];conv=>rhs;rw [e]
  rw [Int.natCast_mul]
theorem qyi{x y:Datum}{m n:Int}(hx:Val x m)(hy:Val y n):∃d,x.sum y=some d/\Val d (m+n):=by
 obtain ⟨s,p,i,rfl,hv,h1,h2⟩:=hx;obtain ⟨t,q,j,rfl,hw,h3,h4⟩:=hy;have e1:=qAQ (base:=min i j) hv h1 h2 (by omega);have e2:=qAQ (base:=min i j) hw h3 h4 (by omega);refine ⟨_,rfl,?_⟩;generalize hb:min i j=base at *;generalize hT:signed s p (i-base).toNat+signed t q (j-base).toNat=total;have e3:total*(2 ^ base.toNat:Nat)=(m+n)*(2 ^ (-base).toNat:Nat):=by
  rw [<- hT,Int.add_mul,Int.add_mul,e1,e2]
 have hp:(0:Int)<(2 ^ base.toNat:Nat):=by have:=Nat.pow_pos (n:=base.toNat) (show 0<2 by omega);omega
 have hq:(0:Int)<(2 ^ (-base).toNat:Nat):=by have:=Nat.pow_pos (n:=(-base).toNat) (show 0<2 by omega);omega
 refine ⟨_,_,_,rfl,?_,?_,?_⟩
 ·have:=congrArg Int.natAbs e3;rw [Int.natAbs_mul,Int.natAbs_mul,Int.natAbs_natCast,Int.natAbs_natCast]at this;exact this
 ·intro h;by_cases h0:total=0
  ·rw [h0,Int.zero_mul]at e3;rcases Int.mul_eq_zero.1 e3.symm with h9|h9<;>omega
  ·rw [if_neg h0]at h;have hneg:total<0:=by simpa using h
   have h5:=Int.mul_neg_of_neg_of_pos hneg hp;rw [e3]at h5;rcases Int.lt_or_le 0 (m+n)with h6|h6
   ·have:=Int.mul_pos h6 hq;omega
   ·exact h6
 ·intro h;by_cases h0:total=0
  ·rw [h0,Int.zero_mul]at e3;rcases Int.mul_eq_zero.1 e3.symm with h9|h9<;>omega
  ·rw [if_neg h0]at h;have hpos:0<=total:=by
    have:¬ total<0:=by simpa using h
    omega
   have h5:=Int.mul_nonneg hpos (by omega:(0:Int)<=(2 ^ base.toNat:Nat));rw [e3]at h5;rcases Int.lt_or_le (m+n) 0 with h6|h6
   ·have:=Int.mul_neg_of_neg_of_pos h6 hq;omega
   ·exact h6
theorem qBp{x:Datum}{m:Int}(hx:Val x m):Val x.opposite (-m):=by
 obtain ⟨s,p,i,rfl,hv,h1,h2⟩:=hx;refine ⟨!s,p,i,rfl,by rw [Int.natAbs_neg];exact hv,λh=>?_,λh=>?_⟩
 ·have:=h2 (by cases s<;>simp_all);omega
 ·have:=h1 (by cases s<;>simp_all);omega
theorem qsZ{x y:Datum}{m n:Int}(hx:Val x m)(hy:Val y n):∃d,x.product y=some d/\Val d (m*n):=by
 obtain ⟨s,p,i,rfl,hv,h1,h2⟩:=hx;obtain ⟨t,q,j,rfl,hw,h3,h4⟩:=hy;refine ⟨_,rfl,_,_,_,rfl,?_,λh=>?_,λh=>?_⟩
 ·rw [Int.natAbs_mul];refine Nat.eq_of_mul_eq_mul_right (Nat.pow_pos (n:=(-i).toNat+(-j).toNat) (show 0<2 by omega)) ?_;have a1:p*q*2 ^ (i+j).toNat*2 ^ ((-i).toNat+(-j).toNat)=(p*2 ^ i.toNat)*(q*2 ^ j.toNat)*2 ^ (-(i+j)).toNat:=by
   have b1:p*q*2 ^ (i+j).toNat*2 ^ ((-i).toNat+(-j).toNat)=p*q*2 ^ ((i+j).toNat+((-i).toNat+(-j).toNat)):=by rw [Nat.mul_assoc,<- Nat.pow_add]
   have b2:(p*2 ^ i.toNat)*(q*2 ^ j.toNat)*2 ^ (-(i+j)).toNat=p*q*2 ^ ((i.toNat+j.toNat)+(-(i+j)).toNat):=by
    rw [Nat.pow_add,Nat.pow_add];ac_rfl
   rw [b1,b2];congr 2;omega
  rw [a1,hv,hw];have b3:n.natAbs*2 ^ (-j).toNat=n.natAbs*2 ^ (-j).toNat:=rfl;rw [Nat.pow_add];ac_rfl
 ·cases s<;>cases t<;>simp at h
  ·exact Int.mul_nonpos_of_nonneg_of_nonpos (h2 rfl) (h3 rfl)
  ·exact Int.mul_nonpos_of_nonpos_of_nonneg (h1 rfl) (h4 rfl)
 ·cases s<;>cases t<;>simp at h
  ·exact Int.mul_nonneg (h2 rfl) (h4 rfl)
  ·exact Int.mul_nonneg_of_nonpos_of_nonpos (h1 rfl) (h3 rfl)
theorem qBY{a b:Nat}{m n:Int}(ha:IsF a m)(hb:IsF b n)(h:(m+n).natAbs<2 ^ 53):∃r,double.add a b=some r/\IsF r (m+n):=by
 obtain ⟨d,hd,hv⟩:=qyi ha hb;exact ⟨_,by unfold Format.add;rw [hd];rfl,qj0 hv h⟩
theorem qCF{a b:Nat}{m n:Int}(ha:IsF a m)(hb:IsF b n)(h:(m-n).natAbs<2 ^ 53):∃r,double.sub a b=some r/\IsF r (m-n):=by
 obtain ⟨d,hd,hv⟩:=qyi ha (qBp hb);exact ⟨_,by unfold Format.sub;rw [hd];rfl,qj0 hv h⟩
theorem qCn{a b:Nat}{m n:Int}(ha:IsF a m)(hb:IsF b n)(h:(m*n).natAbs<2 ^ 53):∃r,double.mul a b=some r/\IsF r (m*n):=by
 obtain ⟨d,hd,hv⟩:=qsZ ha hb;exact ⟨_,by unfold Format.mul;rw [hd];rfl,qj0 hv h⟩
theorem qBe(n:Int):Val (.number (n<0) n.natAbs 0) n:=⟨_,_,_,rfl,rfl,λh=>Int.le_of_lt (by simpa using h),λh=>Int.not_lt.1 (by simpa using h)⟩
theorem qt4{n:Int}(h:n.natAbs<2 ^ 53):IsF (double.write (.number (n<0) n.natAbs 0)) n:=qj0 (qBe n) h
theorem qyV(neg:Bool){q d:Nat}:Toward.zero.cut neg (q*2 ^ d) d=q:=by
 unfold Toward.cut;simp only [Nat.one_shiftLeft,Bool.toNat_false,Nat.add_zero];by_cases hq:q=0
 ·rw [hq,Nat.zero_mul,Nat.zero_div]
 have hl:d<=(q*2 ^ d).log2:=by
  have hp:=Nat.mul_pos (Nat.pos_of_ne_zero hq) (Nat.pow_pos (n:=d) (show 0<2 by omega));rw [Nat.le_log2 (by omega)];exact Nat.le_mul_of_pos_left _ (Nat.pos_of_ne_zero hq)
 rw [show min d ((q*2 ^ d).log2+2)=d by omega];exact Nat.mul_div_cancel _ (Nat.pow_pos (by omega))
theorem qAa{d:Datum}{n:Int}(h:Val d n):d.toInt .zero=some n:=by
 obtain ⟨neg,mag,place,rfl,hv,h1,h2⟩:=h;unfold Datum.toInt Datum.integral;simp only
 have hc:Toward.zero.cut neg (mag <<< place.toNat) (-place).toNat=n.natAbs:=by
  rw [Nat.shiftLeft_eq,hv];exact qyV neg
 rw [hc];unfold signed;rw [Nat.shiftLeft_zero];cases neg with
 |true=>have:=h1 rfl;simp only [if_true];congr 1;omega
 |false=>have:=h2 rfl;simp only [qf,if_false];congr 1;omega
end
end Go.Fl
end
section
namespace Go.Fl
open Go Ieee
theorem ql9{a b:Nat}{m n:Int}(ha:IsF a m)(hb:IsF b n)(h:(m+n).natAbs<2 ^ 53):∃r,floatBits .add .f64 a b=some r/\IsF r (m+n):=qBY ha hb h
theorem qwI{a b:Nat}{m n:Int}(ha:IsF a m)(hb:IsF b n)(h:(m-n).natAbs<2 ^ 53):∃r,floatBits .sub .f64 a b=some r/\IsF r (m-n):=qCF ha hb h
theorem qjb{a b:Nat}{m n:Int}(ha:IsF a m)(hb:IsF b n)(h:(m*n).natAbs<2 ^ 53):∃r,floatBits .mul .f64 a b=some r/\IsF r (m*n):=qCn ha hb h
theorem qA2{a b c d:Nat}{x y u v:Int}(ha:IsF a x)(hb:IsF b y)(hc:IsF c u)(hd:IsF d v)(h1:(x+u).natAbs<2 ^ 53)(h2:(y+v).natAbs<2 ^ 53) :
  ∃re im,cSumBits .add .f64 a b c d=some (re,im)/\IsF re (x+u)/\IsF im (y+v):=by
 obtain ⟨re,e1,r1⟩:=ql9 ha hc h1;obtain ⟨im,e2,r2⟩:=ql9 hb hd h2;exact ⟨re,im,by unfold cSumBits;rw [e1,qa,e2,qa],r1,r2⟩
theorem qA0{a b c d:Nat}{x y u v:Int}(ha:IsF a x)(hb:IsF b y)(hc:IsF c u)(hd:IsF d v)
  (h1:(x*u).natAbs<2 ^ 53) (h2:(y*v).natAbs<2 ^ 53) (h3:(x*u-y*v).natAbs<2 ^ 53) (h4:(x*v).natAbs<2 ^ 53) (h5:(y*u).natAbs<2 ^ 53) (h6:(x*v+y*u).natAbs<2 ^ 53) :
  ∃re im,cMulBits a b c d=some (re,im)/\IsF re (x*u-y*v)/\IsF im (x*v+y*u):=by
 obtain ⟨ac,e1,r1⟩:=qjb ha hc h1;obtain ⟨bd,e2,r2⟩:=qjb hb hd h2;obtain ⟨re,e3,r3⟩:=qwI r1 r2 h3;obtain ⟨ad,e4,r4⟩:=qjb ha hd h4;obtain ⟨bc,e5,r5⟩:=qjb hb hc h5;obtain ⟨im,e6,r6⟩:=ql9 r4 r5 h6;exact ⟨re,im,by unfold cMulBits;rw [e1,qa,e2,qa,e3,qa,e4,qa,e5,qa,e6,qa],r3,r6⟩
theorem qpq:IsF 0 0:=by
 have h:=qt4 (n:=0) (by decide);have e:double.write (.number (decide ((0:Int)<0)) (0:Int).natAbs 0)=0:=by decide
 rw [e]at h;exact h
theorem qvd{n:Int}(h:n.natAbs<2 ^ 53):IsF (FloatKind.f64.nearest n) n:=qt4 h
end Go.Fl
end
section
namespace Go.Tx
open Go Go.Ab
section
inductive All2 {α β:Type} (R:α->β->Prop):List α->List β->Prop
 |nil:All2 R [] []
 |cons {a b l l'}:R a b->All2 R l l'->All2 R (a::l) (b::l')
section
variable {α β:Type} {R S:α->β->Prop}
theorem All2.length{l:List α}{l':List β}(h:All2 R l l'):l'.length=l.length:=by
 induction h with
 |nil=>rfl
 |cons _ _ ih=>simp [ih]
theorem All2.mono(hrs:∀a b,R a b->S a b){l:List α}{l':List β}(h:All2 R l l'):All2 S l l':=by
 induction h with
 |nil=>exact .nil
 |cons h1 _ ih=>exact .cons (hrs _ _ h1) ih
theorem All2.append{l m:List α}{l' m':List β}(h:All2 R l l')(h':All2 R m m'):All2 R (l++m) (l'++m'):=by
 induction h with
 |nil=>exact h'
 |cons h1 _ ih=>exact .cons h1 ih
theorem All2.take{l:List α}{l':List β}(h:All2 R l l'):∀n,All2 R (l.take n) (l'.take n):=by
 induction h with
 |nil=>intro n;simp;exact .nil
 |cons h1 _ ih=>intro n;cases n with
  |zero=>exact .nil
  |succ n=>exact .cons h1 (ih n)
theorem All2.drop{l:List α}{l':List β}(h:All2 R l l'):∀n,All2 R (l.drop n) (l'.drop n):=by
 induction h with
 |nil=>intro n;simp;exact .nil
 |cons h1 h2 ih=>intro n;cases n with
  |zero=>exact .cons h1 h2
  |succ n=>exact ih n
theorem All2.get{l:List α}{l':List β}(h:All2 R l l'):∀{i:Nat} {a:α},l[i]?=some a->∃b,l'[i]?=some b/\R a b:=by
 induction h with
 |nil=>intro i a h;simp at h
 |cons h1 h2 ih=>intro i a h;cases i with
  |zero=>simp at h;subst h;exact ⟨_,rfl,h1⟩
  |succ n=>exact ih (by simpa using h)
theorem All2.replicate{a:α}{b:β}(h:R a b):∀n,All2 R (List.replicate n a) (List.replicate n b)
 |0=>.nil
 |n+1=>.cons h (All2.replicate h n)
theorem All2.map{γ:Type}{g:β->γ}{S:α->γ->Prop}(hrs:∀a b,R a b->S a (g b)){l:List α}{l':List β}(h:All2 R l l'):All2 S l (l'.map g):=by
 induction h with
 |nil=>exact .nil
 |cons h1 _ ih=>exact .cons (hrs _ _ h1) ih
theorem All2.all{p:β->Prop}(hp:∀a b,R a b->p b){l:List α}{l':List β}(h:All2 R l l'):∀b∈l',p b:=by
 induction h with
 |nil=>simp
 |cons h1 _ ih =>
          intro b hb;rcases qk.1 hb with rfl|hb
          ·exact hp _ _ h1
          ·exact ih b hb
end
def FlR(o:Nat)(f:Fl):Prop:=(o≠2000->(f=.own↔qa7 o=true))/\(o=1000->f=.shared)
def RTy:(τ:Ty)->Nat->τ.den->V->Prop
 |.int k,_,n,v=>v=.val (.int k n)
 |.bool,_,b,v=>v=.val (.bool b)
 |.str,_,s,v=>v=.val (.string ⟨s.toArray⟩)
 |.flt,_,n,v=>∃b,v=.val (.float .f64 b)/\Fl.IsF b n
 |.cx,_,p,v=>∃a b,v=.val (.complex .f64 a b)/\Fl.IsF a p.1/\Fl.IsF b p.2
 |.err,_,x,v=>(x=true/\v=.val .nilIface)\/(x=false/\∃t,v=.iface t .undef)
 |.mset t,_,l,v=>qgZ t=true/\v=.mp (l.map λx=>(qcn t x,.bool true))
 |.sl t,o,l,v=>∃f c l',v=.sl f c l'/\FlR o f/\All2 (RTy t (nx o)) l l'
 |.nsl t,o,l,v=>(l=[]/\v=.val (.slice none 0 0))\/(l≠[]/\∃f c l',v=.sl f c l'/\FlR o f/\All2 (RTy t (nx o)) l l')
 |.unit,_,_,v=>v=.agg []
 |.pair a b,o,x,v=>∃v1 l,v=.agg (v1::l)/\RTy a o x.1 v1/\RTy b o x.2 (.agg l)
mutual
def RV:TV->V->Prop
 |.any rs,v=>(∀r∈v.qp,r∈rs)/\q6 [v]=false
 |.t τ o x,v=>RTy τ o x v
 |.clp τ x,v=>∃f l',v=.sl f true l'/\f≠.own/\All2 (RTy τ 0) x l'
 |.room a s,v=>(a<2/\∃n,v=.room s n/\(a=0->n=0))\/(2<=a/\(v=.undef\/∃f,f≠.own/\v=.sl f false []))
 |.empty o,v=>∃f c,v=.sl f c []/\FlR o f
 |.val u,v=>v=.val u
 |.agg l,v=>∃l',v=.agg l'/\RVL l l'
 |.tuple l,v=>∃l',v=.tuple l'/\RVL l l'
 |.fn g a b,v=>∃a' b',v=.fn g a' b'/\RVL a a'/\RVL b b'
 |.ptr r o,v=>v=.ptr r o
 |.mref r,v=>v=.mref r
 |.bsl r o n,v=>v=.bsl r o n
 |.yld r,v=>v=.yld r
 |.lp ..,v=>False
 |.cptr s l,v=>∃f l',v=.cptr f l'/\f≠.own/\(s=true->f=.shared)/\RVL l l'
 |.iface t x,v=>∃y,v=.iface t y/\RV x y
def RVL:List TV->List V->Prop
 |[],l=>l=[]
 |x::l,l'=>∃v m,l'=v::m/\RV x v/\RVL l m
end
theorem qv{x:TV}{l:List TV}{v:V}{m:List V}:RVL (x::l) (v::m)↔RV x v/\RVL l m:=by
 simp only [RVL,List.cons.injEq];exact ⟨λ⟨_,_,⟨rfl,rfl⟩,h1,h2⟩=>⟨h1,h2⟩,λ⟨h1,h2⟩=>⟨_,_,⟨rfl,rfl⟩,h1,h2⟩⟩
theorem qaa:RVL [] []:=by simp [RVL]
theorem RVL.length:∀{l:List TV} {l':List V},RVL l l'->l'.length=l.length
 |[],l',h=>by simp only [RVL]at h;simp [h]
 |x::l,l',h=>by simp only [RVL]at h;obtain ⟨v,m,rfl,_,h2⟩:=h;simp [RVL.length h2]
theorem RVL.append:∀{l m:List TV} {l' m':List V},RVL l l'->RVL m m'->RVL (l++m) (l'++m')
 |[],m,l',m',h,h'=>by simp only [RVL]at h;simpa [h]using h'
 |x::l,m,l',m',h,h'=>by
  simp only [RVL]at h;obtain ⟨v,n,rfl,h1,h2⟩:=h;exact qv.2 ⟨h1,RVL.append h2 h'⟩
theorem RVL.take:∀{l:List TV} {l':List V} (n:Nat),RVL l l'->RVL (l.take n) (l'.take n)
 |_,_,0,h=>by simp [RVL]
 |[],l',n+1,h=>by simp only [RVL]at h;simp [h,RVL]
 |x::l,l',n+1,h=>by
  simp only [RVL]at h;obtain ⟨v,m,rfl,h1,h2⟩:=h;exact qv.2 ⟨h1,RVL.take n h2⟩
theorem RVL.drop:∀{l:List TV} {l':List V} (n:Nat),RVL l l'->RVL (l.drop n) (l'.drop n)
 |_,_,0,h=>by simpa using h
 |[],l',n+1,h=>by simp only [RVL]at h;simp [h,RVL]
 |x::l,l',n+1,h=>by
  simp only [RVL]at h;obtain ⟨v,m,rfl,h1,h2⟩:=h;exact RVL.drop n h2
theorem RVL.get:∀{l:List TV} {l':List V} {i:Nat} {x:TV},RVL l l'->l[i]?=some x->∃v,l'[i]?=some v/\RV x v
 |[],l',i,x,h,hi=>by simp at hi
 |y::l,l',0,x,h,hi=>by
  simp only [RVL]at h;obtain ⟨v,m,rfl,h1,h2⟩:=h;simp at hi;subst hi;exact ⟨v,rfl,h1⟩
 |y::l,l',i+1,x,h,hi=>by
  simp only [RVL]at h;obtain ⟨v,m,rfl,h1,h2⟩:=h;have hi':l[i]?=some x:=by simpa using hi
  obtain ⟨u,hu,hr⟩:=RVL.get h2 hi';exact ⟨u,by simpa using hu,hr⟩
theorem RVL.set:∀{l:List TV} {l':List V} (i:Nat) {x:TV} {v:V},RVL l l'->RV x v->RVL (l.set i x) (l'.set i v)
 |[],l',i,x,v,h,hx=>by simp only [RVL]at h;simp [h,RVL]
 |y::l,l',0,x,v,h,hx=>by
  simp only [RVL]at h;obtain ⟨u,m,rfl,h1,h2⟩:=h;exact qv.2 ⟨hx,h2⟩
 |y::l,l',i+1,x,v,h,hx=>by
  simp only [RVL]at h;obtain ⟨u,m,rfl,h1,h2⟩:=h;exact qv.2 ⟨h1,RVL.set i h2 hx⟩
theorem qcj(rs:List Root):RV (.any rs) .undef:=by simp [RV,V.qp,q6]
theorem RVL.getD{l:List TV}{l':List V}(h:RVL l l')(i:Nat):RV (l.getD i (.any [])) (l'.getD i .undef):=by
 cases hi:l[i]? with
 |some x=>obtain ⟨v,hv,hr⟩:=h.get hi;simpa [hi,hv]using hr
 |none =>
  have:l'[i]?=none:=by rw [List.getElem?_eq_none_iff]at hi ⊢;rw [h.length];exact hi
  simp only [List.getD_eq_getElem?_getD,hi,this,Option.getD_none];exact qcj []
theorem RVL.replicate{x:TV}{v:V}(h:RV x v):∀n,RVL (List.replicate n x) (List.replicate n v)
 |0=>by simp [RVL]
 |n+1=>qv.2 ⟨h,RVL.replicate h n⟩
theorem RVL.flatten:∀{n:Nat} {l:List TV} {l':List V},RVL l l'->RVL (List.replicate n l).flatten (List.replicate n l').flatten
 |0,_,_,_=>by simp [RVL]
 |n+1,l,l',h=>by simp only [List.replicate_succ,List.flatten_cons];exact h.append (RVL.flatten h)
theorem RVL.head{l:List TV}{l':List V}{x:TV}(h:RVL l l')(hx:l.head?=some x):∃v,l'.head?=some v/\RV x v:=by
 cases l with
 |nil=>simp at hx
 |cons y l =>
  simp only [RVL]at h;obtain ⟨u,m,rfl,h1,h2⟩:=h;simp at hx;subst hx;exact ⟨u,rfl,h1⟩
theorem qdI{o:Nat}:qa7 o=true↔o≠0/\o≠1000/\o≠2000:=by unfold qa7;simp
theorem qjn{o:Nat}:qa7 o=false↔o=0\/o=1000\/o=2000:=by
 have:=@qdI o;cases h:qa7 o with
 |true=>rw [h]at this;simp at this;simp<;>omega
 |false=>rw [h]at this;simp at this;simp<;>omega
theorem FlR.own{o:Nat}{f:Fl}(h:FlR o f)(ho:qa7 o=true):f=.own:=(h.1 (qdI.1 ho).2.2).2 ho
theorem FlR.not{o:Nat}{f:Fl}(h:FlR o f)(ho:qa7 o=false)(h2:o≠2000):f≠.own:=λe=>by have:=(h.1 h2).1 e;rw [ho]at this;cases this
theorem qeu{o:Nat}(h:qa7 o=true):FlR o .own:=⟨λ_=>by simp [h],λe=>absurd e (qdI.1 h).2.1⟩
theorem qeY{o:Nat}{f:Fl}(ho:qa7 o=false)(hf:f≠.own)(h1:o=1000->f=.shared):FlR o f:=⟨λ_=>by simp [hf,ho],h1⟩
theorem qqI(o:Nat):qa7 (dl o)=false/\dl o≠2000/\nx (dl o)=dl o:=by
 have h1:qa7 (dl o)=false:=by rw [qjn];unfold dl;split<;>simp
 refine ⟨h1,by unfold dl;split<;>simp,by unfold nx;rw [h1];rfl⟩
theorem qbM:∀(τ:Ty) (o:Nat) (x:τ.den) (v:V),RTy τ o x v->v.qp=[]
 |.int _,_,_,v,h=>by simp only [RTy]at h;simp [h,V.qp]
 |.bool,_,_,v,h=>by simp only [RTy]at h;simp [h,V.qp]
 |.str,_,_,v,h=>by simp only [RTy]at h;simp [h,V.qp]
 |.flt,_,_,v,h=>by simp only [RTy]at h;obtain ⟨b9,rfl,h9⟩:=h;simp [V.qp]
 |.cx,_,_,v,h=>by simp only [RTy]at h;obtain ⟨a9,b9,rfl,h8,h9⟩:=h;simp [V.qp]
 |.err,_,_,v,h=>by simp only [RTy]at h;rcases h with ⟨_,rfl⟩|⟨_,t9,rfl⟩<;>simp [V.qp]
 |.mset _,_,_,v,h=>by simp only [RTy]at h;obtain ⟨h8,rfl⟩:=h;simp [V.qp]
 |.sl t,o,l,v,h=>by simp only [RTy]at h;obtain ⟨f,c,l',rfl,_⟩:=h;simp [V.qp]
 |.nsl t,o,l,v,h=>by simp only [RTy]at h;rcases h with ⟨_,rfl⟩|⟨_,f,c,l',rfl,_⟩<;>simp [V.qp]
 |.unit,_,_,v,h=>by simp only [RTy]at h;simp [h,V.qp,ptrsL]
 |.pair a b,o,x,v,h=>by
  simp only [RTy]at h;obtain ⟨v1,l,rfl,h1,h2⟩:=h;have e1:=qbM a o _ _ h1;have e2:=qbM b o _ _ h2;simp only [V.qp]at e2;simp [V.qp,ptrsL,e1,e2]
theorem qmZ{l:List V}{r:Root}:r∈ptrsL l↔∃v∈l,r∈v.qp:=by
 induction l with
 |nil=>simp [ptrsL]
 |cons v l ih=>simp [ptrsL,ih]
mutual
theorem RV.qp:∀(x:TV) (v:V),RV x v->∀r∈v.qp,r∈x.qp
 |.any rs,v,h,r,hr=>by simp only [RV]at h;exact h.1 r hr
 |.t τ o x,v,h,r,hr=>by simp only [RV]at h;rw [qbM τ o x v h]at hr;cases hr
 |.clp τ x,v,h,r,hr=>by simp only [RV]at h;obtain ⟨f,l',rfl,_⟩:=h;simp [V.qp]at hr
 |.room a s,v,h,r,hr=>by simp only [RV]at h;obtain ⟨_,n,rfl,_⟩|⟨_,rfl|⟨f,hf0,rfl⟩⟩:=h<;>simp [V.qp]at hr
 |.empty own,v,h,r,hr=>by simp only [RV]at h;obtain ⟨f,c,rfl,_⟩:=h;simp [V.qp]at hr
 |.val u,v,h,r,hr=>by simp only [RV]at h;simp [h,V.qp]at hr
 |.agg l,v,h,r,hr=>by simp only [RV]at h;obtain ⟨l',rfl,h⟩:=h;simp only [V.qp]at hr;exact RVL.qp l l' h r hr
 |.tuple l,v,h,r,hr=>by simp only [RV]at h;obtain ⟨l',rfl,h⟩:=h;simp only [V.qp]at hr;exact RVL.qp l l' h r hr
 |.fn g a b,v,h,r,hr=>by
  simp only [RV]at h;obtain ⟨a',b',rfl,h1,h2⟩:=h;simp only [V.qp,qj]at hr;simp only [TV.qp,qj];exact hr.imp (RVL.qp a a' h1 r) (RVL.qp b b' h2 r)
 |.ptr q o,v,h,r,hr=>by simp only [RV]at h;rw [h]at hr;simpa [V.qp,TV.qp]using hr
 |.mref q,v,h,r,hr=>by simp only [RV]at h;rw [h]at hr;simpa [V.qp,TV.qp]using hr
 |.bsl q _ _,v,h,r,hr=>by simp only [RV]at h;rw [h]at hr;simpa [V.qp,TV.qp]using hr
 |.yld q,v,h,r,hr=>by simp only [RV]at h;rw [h]at hr;simpa [V.qp,TV.qp]using hr
 |.lp ..,v,h,r,hr=>by simp only [RV]at h
 |.cptr _ l,v,h,r,hr=>by simp only [RV]at h;obtain ⟨_,l',rfl,_,_,h⟩:=h;simp only [V.qp]at hr;exact RVL.qp l l' h r hr
 |.iface t x,v,h,r,hr=>by simp only [RV]at h;obtain ⟨y,rfl,h⟩:=h;simp only [V.qp]at hr;exact RV.qp x y h r hr
theorem RVL.qp:∀(l:List TV) (l':List V),RVL l l'->∀r∈ptrsL l',r∈ptrsTL l
 |[],l',h,r,hr=>by simp only [RVL]at h;simp [h,ptrsL]at hr
 |x::l,l',h,r,hr=>by
  simp only [RVL]at h;obtain ⟨v,m,rfl,h1,h2⟩:=h;simp only [ptrsL,qj]at hr;simp only [ptrsTL,qj];exact hr.imp (RV.qp x v h1 r) (RVL.qp l m h2 r)
end
mutual
theorem RV.ptrs_eq:∀(x:TV) (v:V),x.known=true->RV x v->v.qp=x.qp
 |.any rs,v,hk,h=>by simp [TV.known]at hk
 |.t τ o x,v,_,h=>by simp only [RV]at h;rw [qbM τ o x v h];simp [TV.qp]
 |.clp τ x,v,_,h=>by simp only [RV]at h;obtain ⟨f,l',rfl,_⟩:=h;simp [V.qp,TV.qp]
 |.room a s,v,_,h=>by simp only [RV]at h;obtain ⟨_,n,rfl,_⟩|⟨_,rfl|⟨f,hf0,rfl⟩⟩:=h<;>simp [V.qp,TV.qp]
 |.empty own,v,_,h=>by simp only [RV]at h;obtain ⟨f,c,rfl,_⟩:=h;simp [V.qp,TV.qp]
 |.val u,v,_,h=>by simp only [RV]at h;simp [h,V.qp,TV.qp]
 |.agg l,v,hk,h=>by simp only [RV]at h;obtain ⟨l',rfl,h⟩:=h;simp only [TV.known]at hk;simp only [V.qp,TV.qp];exact RVL.ptrs_eq l l' hk h
 |.tuple l,v,hk,h=>by simp only [RV]at h;obtain ⟨l',rfl,h⟩:=h;simp only [TV.known]at hk;simp only [V.qp,TV.qp];exact RVL.ptrs_eq l l' hk h
 |.fn g a b,v,hk,h=>by
  simp only [RV]at h;obtain ⟨a',b',rfl,h1,h2⟩:=h;simp only [TV.known,qe]at hk;simp only [V.qp,TV.qp,RVL.ptrs_eq a a' hk.1 h1,RVL.ptrs_eq b b' hk.2 h2]
 |.ptr q o,v,_,h=>by simp only [RV]at h;simp [h,V.qp,TV.qp]
 |.mref q,v,_,h=>by simp only [RV]at h;simp [h,V.qp,TV.qp]
 |.bsl q _ _,v,_,h=>by simp only [RV]at h;simp [h,V.qp,TV.qp]
 |.yld q,v,_,h=>by simp only [RV]at h;simp [h,V.qp,TV.qp]
 |.lp ..,v,_,h=>by simp only [RV]at h
 |.cptr _ l,v,hk,h=>by simp only [RV]at h;obtain ⟨_,l',rfl,_,_,h⟩:=h;simp only [TV.known]at hk;simp only [V.qp,TV.qp];exact RVL.ptrs_eq l l' hk h
 |.iface t x,v,hk,h=>by simp [TV.known]at hk
theorem RVL.ptrs_eq:∀(l:List TV) (l':List V),knownL l=true->RVL l l'->ptrsL l'=ptrsTL l
 |[],l',_,h=>by simp only [RVL]at h;simp [h,ptrsL,ptrsTL]
 |x::l,l',hk,h=>by
  simp only [RVL]at h;obtain ⟨v,m,rfl,h1,h2⟩:=h;simp only [knownL,qe]at hk;simp only [ptrsL,ptrsTL,RV.ptrs_eq x v hk.1 h1,RVL.ptrs_eq l m hk.2 h2]
end
theorem qaf(g:Fl->Fl):∀l:List V,reflagL g l=l.map (V.reflag g)
 |[]=>rfl
 |v::l=>by simp [reflagL,qaf g l]
theorem qzr{n:Nat}(h:qa7 (n+1)=true):nx (n+1)=n/\n+1≠1000:=by
 have:=qdI.1 h;refine ⟨by unfold nx;rw [h];simp,this.2.1⟩
theorem qhe:∀(τ:Ty) (o:Nat) (x:τ.den) (v:V),RTy τ (dl o) x v->RTy τ 0 x v
 |.int _,_,_,v,h=>by simpa only [RTy]using h
 |.bool,_,_,v,h=>by simpa only [RTy]using h
 |.str,_,_,v,h=>by simpa only [RTy]using h
 |.flt,_,_,v,h=>by simpa only [RTy]using h
 |.cx,_,_,v,h=>by simpa only [RTy]using h
 |.err,_,_,v,h=>by simpa only [RTy]using h
 |.mset _,_,_,v,h=>by simpa only [RTy]using h
 |.sl t,o,l,v,h=>by
  obtain ⟨hno,h20,hnx⟩:=qqI o;simp only [RTy]at h ⊢;obtain ⟨f,c,l',rfl,h1,h⟩:=h;rw [hnx]at h;exact ⟨f,c,l',rfl,qeY rfl (h1.not hno h20) (λh=>by cases h),h.mono λa b hab=>qhe t o a b hab⟩
 |.nsl t,o,l,v,h=>by
  obtain ⟨hno,h20,hnx⟩:=qqI o;simp only [RTy]at h ⊢;rcases h with h|⟨hne,f,c,l',rfl,h1,h⟩
  ·exact .inl h
  rw [hnx]at h;exact .inr ⟨hne,f,c,l',rfl,qeY rfl (h1.not hno h20) (λh=>by cases h),h.mono λa b hab=>qhe t o a b hab⟩
 |.unit,_,_,v,h=>by simpa only [RTy]using h
 |.pair a b,o,x,v,h=>by
  simp only [RTy]at h ⊢;obtain ⟨v1,l,rfl,h1,h2⟩:=h;exact ⟨v1,l,rfl,qhe a o _ _ h1,qhe b o _ _ h2⟩
theorem qgp{g:Fl->Fl}(hg:∀f,g f≠.own)(hs:g .shared=.shared):∀(τ:Ty) (o:Nat) (x:τ.den) (v:V),RTy τ o x v->RTy τ (dl o) x (v.reflag g)
 |.int _,_,_,v,h=>by simp only [RTy]at h ⊢;simp [h,V.reflag]
 |.bool,_,_,v,h=>by simp only [RTy]at h ⊢;simp [h,V.reflag]
 |.str,_,_,v,h=>by simp only [RTy]at h ⊢;simp [h,V.reflag]
 |.flt,_,_,v,h=>by simp only [RTy]at h ⊢;obtain ⟨b9,rfl,h9⟩:=h;exact ⟨b9,by simp [V.reflag],h9⟩
 |.cx,_,_,v,h=>by simp only [RTy]at h ⊢;obtain ⟨a9,b9,rfl,h8,h9⟩:=h;exact ⟨a9,b9,by simp [V.reflag],h8,h9⟩
 |.err,_,_,v,h=>by simp only [RTy]at h ⊢;rcases h with ⟨hx,rfl⟩|⟨hx,t9,rfl⟩;exact .inl ⟨hx,by simp [V.reflag]⟩;exact .inr ⟨hx,t9,by simp [V.reflag]⟩
 |.mset _,_,_,v,h=>by simp only [RTy]at h ⊢;obtain ⟨h8,rfl⟩:=h;exact ⟨h8,by simp [V.reflag]⟩
 |.sl t,o,l,v,h=>by
  simp only [RTy]at h ⊢;obtain ⟨f,c,l',rfl,h0,h⟩:=h;obtain ⟨hno,h20,hnx⟩:=qqI o;refine ⟨g f,c,reflagL g l',by simp [V.reflag],qeY hno (hg f) (λh1=>?_),?_⟩
  ·have ho:o=1000:=by
    unfold dl at h1;split at h1
    ·assumption
    ·cases h1
   rw [h0.2 ho];exact hs
  ·rw [qaf,hnx];refine h.map λa b hab=>?_;have h3:=qgp hg hs t _ a b hab;by_cases ho:o=1000
   ·subst ho;exact h3
   ·have:dl o=0:=by unfold dl;rw [if_neg ho]
    rw [this];exact qhe t _ a _ h3
 |.nsl t,o,l,v,h=>by
  simp only [RTy]at h ⊢;rcases h with ⟨hx,rfl⟩|⟨hne,f,c,l',rfl,h0,h⟩
  ·exact .inl ⟨hx,by simp [V.reflag]⟩
  obtain ⟨hno,h20,hnx⟩:=qqI o;refine .inr ⟨hne,g f,c,reflagL g l',by simp [V.reflag],qeY hno (hg f) (λh1=>?_),?_⟩
  ·have ho:o=1000:=by
    unfold dl at h1;split at h1
    ·assumption
    ·cases h1
   rw [h0.2 ho];exact hs
  ·rw [qaf,hnx];refine h.map λa b hab=>?_;have h3:=qgp hg hs t _ a b hab;by_cases ho:o=1000
   ·subst ho;exact h3
   ·have:dl o=0:=by unfold dl;rw [if_neg ho]
    rw [this];exact qhe t _ a _ h3
 |.unit,_,_,v,h=>by simp only [RTy]at h ⊢;simp [h,V.reflag,reflagL]
 |.pair a b,o,x,v,h=>by
  simp only [RTy]at h ⊢;obtain ⟨v1,l,rfl,h1,h2⟩:=h;refine ⟨v1.reflag g,reflagL g l,by simp [V.reflag,reflagL],qgp hg hs a o _ _ h1,?_⟩;have:=qgp hg hs b o _ _ h2;simpa only [V.reflag]using this
theorem qhN{g:Fl->Fl}(hg:∀f,g f=.own↔f=.own)(hs:g .shared=.shared):∀(τ:Ty) (o:Nat) (x:τ.den) (v:V),RTy τ o x v->RTy τ o x (v.reflag g)
 |.int _,_,_,v,h=>by simp only [RTy]at h ⊢;simp [h,V.reflag]
 |.bool,_,_,v,h=>by simp only [RTy]at h ⊢;simp [h,V.reflag]
 |.str,_,_,v,h=>by simp only [RTy]at h ⊢;simp [h,V.reflag]
 |.flt,_,_,v,h=>by simp only [RTy]at h ⊢;obtain ⟨b9,rfl,h9⟩:=h;exact ⟨b9,by simp [V.reflag],h9⟩
 |.cx,_,_,v,h=>by simp only [RTy]at h ⊢;obtain ⟨a9,b9,rfl,h8,h9⟩:=h;exact ⟨a9,b9,by simp [V.reflag],h8,h9⟩
 |.err,_,_,v,h=>by simp only [RTy]at h ⊢;rcases h with ⟨hx,rfl⟩|⟨hx,t9,rfl⟩;exact .inl ⟨hx,by simp [V.reflag]⟩;exact .inr ⟨hx,t9,by simp [V.reflag]⟩
 |.mset _,_,_,v,h=>by simp only [RTy]at h ⊢;obtain ⟨h8,rfl⟩:=h;exact ⟨h8,by simp [V.reflag]⟩
 |.sl t,o,l,v,h=>by
  simp only [RTy]at h ⊢;obtain ⟨f,c,l',rfl,ho,h⟩:=h;refine ⟨g f,c,reflagL g l',by simp [V.reflag],⟨λh2=>by rw [hg f];exact ho.1 h2,λh1=>by rw [ho.2 h1];exact hs⟩,?_⟩;rw [qaf];exact h.map λa b hab=>qhN hg hs t _ a b hab
 |.nsl t,o,l,v,h=>by
  simp only [RTy]at h ⊢;rcases h with ⟨hx,rfl⟩|⟨hne,f,c,l',rfl,ho,h⟩
  ·exact .inl ⟨hx,by simp [V.reflag]⟩
  refine .inr ⟨hne,g f,c,reflagL g l',by simp [V.reflag],⟨λh2=>by rw [hg f];exact ho.1 h2,λh1=>by rw [ho.2 h1];exact hs⟩,?_⟩;rw [qaf];exact h.map λa b hab=>qhN hg hs t _ a b hab
 |.unit,_,_,v,h=>by simp only [RTy]at h ⊢;simp [h,V.reflag,reflagL]
 |.pair a b,o,x,v,h=>by
  simp only [RTy]at h ⊢;obtain ⟨v1,l,rfl,h1,h2⟩:=h;refine ⟨v1.reflag g,reflagL g l,by simp [V.reflag,reflagL],qhN hg hs a o _ _ h1,?_⟩;have:=qhN hg hs b o _ _ h2;simpa only [V.reflag]using this
theorem qpr{g:Fl->Fl}{l:List V}(h:q6 l=false):q6 (reflagL g l)=false:=by
 cases l with
 |nil=>rfl
 |cons x l=>cases x with
  |lp=>simp [q6]at h
  |room s n =>
   simp only [reflagL,V.reflag];by_cases h1:g .own=.own
   ·rw [if_pos h1];rfl
   ·rw [if_neg h1];by_cases h2:n=0
    ·rw [if_pos h2];rfl
    ·rw [if_neg h2];rfl
  |_=>rfl
theorem qdu{g:Fl->Fl}{v:V}(h:q6 [v]=false):q6 [v.reflag g]=false:=qpr (g:=g) h
theorem qe7(g:Fl->Fl)(v:V):(v.reflag g).qp=v.qp:=by
 have:=ptrsL_reflag g [v];simpa [reflagL,ptrsL]using this
mutual
theorem RV.dull'{g:Fl->Fl}(hg:∀f,g f≠.own)(hs:g .shared=.shared):∀(x:TV) (v:V),RV x v->RV x.qab (v.reflag g)
 |.any rs,v,h=>by simp only [TV.qab,RV]at h ⊢;rw [qe7];exact ⟨h.1,qdu h.2⟩
 |.t τ o x,v,h=>by simp only [TV.qab,RV]at h ⊢;exact qgp hg hs τ o x v h
 |.clp τ x,v,h=>by
  simp only [TV.qab,RV]at h ⊢;obtain ⟨f,l',rfl,_,h⟩:=h;refine ⟨g f,reflagL g l',by simp [V.reflag],hg f,?_⟩;rw [qaf];exact h.map λa b hab=>qhe τ 0 a _ (qgp hg hs τ _ a b hab)
 |.room a s,v,h=>by
  simp only [RV]at h;rcases a with _|a
  ·obtain ⟨_,n,rfl,h0⟩|⟨h9,_⟩:=h
   ·obtain rfl:=h0 rfl;simp only [TV.qab,RV,V.reflag,if_neg (hg .own),if_true];exact ⟨_,_,rfl,qeY (by decide) (hg .own) (λh1=>by cases h1)⟩
   ·omega
  ·simp only [TV.qab,RV];refine .inr ⟨Nat.le_refl _,?_⟩;obtain ⟨_,n,rfl,_⟩|⟨_,rfl|⟨f,hf0,rfl⟩⟩:=h
   ·simp only [V.reflag,if_neg (hg .own)];split
    ·exact .inr ⟨_,hg _,rfl⟩
    ·exact .inl rfl
   ·exact .inl rfl
   ·exact .inr ⟨g f,hg f,by simp [V.reflag,reflagL]⟩
 |.empty o,v,h=>by
  simp only [TV.qab,RV]at h ⊢;obtain ⟨f,c,rfl,h0⟩:=h;refine ⟨g f,c,by simp [V.reflag,reflagL],qeY (qqI o).1 (hg f) (λh1=>?_)⟩;have ho:o=1000:=by
   unfold dl at h1;split at h1
   ·assumption
   ·cases h1
  rw [h0.2 ho];exact hs
 |.val u,v,h=>by simp only [TV.qab,RV]at h ⊢;simp [h,V.reflag]
 |.agg l,v,h=>by simp only [TV.qab,RV]at h ⊢;obtain ⟨l',rfl,h⟩:=h;exact ⟨_,by simp only [V.reflag],RVL.dull' hg hs l l' h⟩
 |.tuple l,v,h=>by simp only [TV.qab,RV]at h ⊢;obtain ⟨l',rfl,h⟩:=h;exact ⟨_,by simp only [V.reflag],RVL.dull' hg hs l l' h⟩
 |.fn g' a b,v,h=>by simp only [TV.qab,RV]at h ⊢;obtain ⟨a',b',rfl,h1,h2⟩:=h;exact ⟨_,_,by simp only [V.reflag],RVL.dull' hg hs a a' h1,RVL.dull' hg hs b b' h2⟩
 |.ptr q o,v,h=>by simp only [TV.qab,RV]at h ⊢;simp [h,V.reflag]
 |.mref q,v,h=>by simp only [TV.qab,RV]at h ⊢;simp [h,V.reflag]
 |.bsl q _ _,v,h=>by simp only [TV.qab,RV]at h ⊢;simp [h,V.reflag]
 |.yld q,v,h=>by simp only [TV.qab,RV]at h ⊢;simp [h,V.reflag]
 |.lp ..,v,h=>by simp only [RV]at h
 |.cptr s l,v,h=>by simp only [TV.qab,RV]at h ⊢;obtain ⟨f,l',rfl,_,hsh,h⟩:=h;exact ⟨g f,_,by simp only [V.reflag],hg f,λe=>(by rw [hsh e];exact hs),RVL.dull' hg hs l l' h⟩
 |.iface t x,v,h=>by simp only [TV.qab,RV]at h ⊢;obtain ⟨y,rfl,h⟩:=h;exact ⟨_,by simp only [V.reflag],RV.dull' hg hs x y h⟩
theorem RVL.dull'{g:Fl->Fl}(hg:∀f,g f≠.own)(hs:g .shared=.shared):∀(l:List TV) (l':List V),RVL l l'->RVL (dullL l) (reflagL g l')
 |[],l',h=>by simp only [RVL]at h;simp [h,dullL,reflagL,RVL]
 |x::l,l',h=>by
  simp only [RVL]at h;obtain ⟨v,m,rfl,h1,h2⟩:=h;simp only [dullL,reflagL];exact qv.2 ⟨RV.dull' hg hs x v h1,RVL.dull' hg hs l m h2⟩
end
mutual
theorem RV.qnD{g:Fl->Fl}(hg:∀f,g f=.own↔f=.own)(hs:g .shared=.shared):∀(x:TV) (v:V),RV x v->RV x (v.reflag g)
 |.any rs,v,h=>by simp only [RV]at h ⊢;rw [qe7];exact ⟨h.1,qdu h.2⟩
 |.t τ o x,v,h=>by simp only [RV]at h ⊢;exact qhN hg hs τ o x v h
 |.clp τ x,v,h=>by
  simp only [RV]at h ⊢;obtain ⟨f,l',rfl,h0,h⟩:=h;refine ⟨g f,reflagL g l',by simp [V.reflag],λe=>h0 ((hg f).1 e),?_⟩;rw [qaf];exact h.map λa b hab=>qhN hg hs τ _ a b hab
 |.room a s,v,h=>by
  simp only [RV]at h ⊢;obtain ⟨h1,n,rfl,h0⟩|⟨h1,rfl|⟨f,hf0,rfl⟩⟩:=h
  ·exact .inl ⟨h1,n,by simp only [V.reflag,if_pos ((hg .own).2 rfl)],h0⟩
  ·exact .inr ⟨h1,.inl rfl⟩
  ·exact .inr ⟨h1,.inr ⟨g f,λe=>hf0 ((hg f).1 e),by simp [V.reflag,reflagL]⟩⟩
 |.empty o,v,h=>by simp only [RV]at h ⊢;obtain ⟨f,c,rfl,h0⟩:=h;exact ⟨g f,c,by simp [V.reflag,reflagL],⟨λh2=>by rw [hg f];exact h0.1 h2,λh1=>by rw [h0.2 h1];exact hs⟩⟩
 |.val u,v,h=>by simp only [RV]at h ⊢;simp [h,V.reflag]
 |.agg l,v,h=>by simp only [RV]at h ⊢;obtain ⟨l',rfl,h⟩:=h;exact ⟨_,by simp only [V.reflag],RVL.qnD hg hs l l' h⟩
 |.tuple l,v,h=>by simp only [RV]at h ⊢;obtain ⟨l',rfl,h⟩:=h;exact ⟨_,by simp only [V.reflag],RVL.qnD hg hs l l' h⟩
 |.fn g' a b,v,h=>by simp only [RV]at h ⊢;obtain ⟨a',b',rfl,h1,h2⟩:=h;exact ⟨_,_,by simp only [V.reflag],RVL.qnD hg hs a a' h1,RVL.qnD hg hs b b' h2⟩
 |.ptr q o,v,h=>by simp only [RV]at h ⊢;simp [h,V.reflag]
 |.mref q,v,h=>by simp only [RV]at h ⊢;simp [h,V.reflag]
 |.bsl q _ _,v,h=>by simp only [RV]at h ⊢;simp [h,V.reflag]
 |.yld q,v,h=>by simp only [RV]at h ⊢;simp [h,V.reflag]
 |.lp ..,v,h=>by simp only [RV]at h
 |.cptr s l,v,h=>by simp only [RV]at h ⊢;obtain ⟨f,l',rfl,h0,hsh,h⟩:=h;exact ⟨g f,_,by simp only [V.reflag],λe=>h0 ((hg f).1 e),λe=>(by rw [hsh e];exact hs),RVL.qnD hg hs l l' h⟩
 |.iface t x,v,h=>by simp only [RV]at h ⊢;obtain ⟨y,rfl,h⟩:=h;exact ⟨_,by simp only [V.reflag],RV.qnD hg hs x y h⟩
theorem RVL.qnD{g:Fl->Fl}(hg:∀f,g f=.own↔f=.own)(hs:g .shared=.shared):∀(l:List TV) (l':List V),RVL l l'->RVL l (reflagL g l')
 |[],l',h=>by simp only [RVL]at h;simp [h,reflagL,RVL]
 |x::l,l',h=>by
  simp only [RVL]at h;obtain ⟨v,m,rfl,h1,h2⟩:=h;simp only [reflagL];exact qv.2 ⟨RV.qnD hg hs x v h1,RVL.qnD hg hs l m h2⟩
end
theorem qka(f:Fl):qX f≠.own:=by cases f<;>simp [qX]
theorem RV.qab{x:TV}{v:V}(h:RV x v):RV x.qab v.qab:=RV.dull' qka rfl x v h
theorem RVL.qab{l:List TV}{l':List V}(h:RVL l l'):RVL (dullL l) (reflagL qX l'):=RVL.dull' qka rfl l l' h
theorem RVL.qpF{g:Fl->Fl}(hg:∀f,g f≠.own)(hs:g .shared=.shared){l:List TV}{l':List V}(h:RVL l l'):RVL (dullL l) (l'.map (V.reflag g)):=by
 rw [<- qaf];exact RVL.dull' hg hs l l' h
theorem qmQ{l:List V}:ownsL l=true↔∃v∈l,v.owns=true:=by
 induction l with
 |nil=>simp [ownsL]
 |cons v l ih=>simp [ownsL,ih]
theorem qeR{α β:Type}{R:α->β->Prop}{l:List α}{l':List β}(h:All2 R l l'):∀b∈l',∃a∈l,R a b:=by
 induction h with
 |nil=>simp
 |cons h1 _ ih =>
  intro b hb;rcases qk.1 hb with rfl|hb
  ·exact ⟨_,by simp,h1⟩
  ·obtain ⟨a,ha,hr⟩:=ih b hb;exact ⟨a,by simp [ha],hr⟩
theorem qhO:∀(τ:Ty) (o:Nat) (x:τ.den) (v:V),RTy τ o x v->v.owns=true->(qa7 o=true\/o=2000)/\0<τ.depth
 |.int _,_,_,v,h,ho=>by simp only [RTy]at h;simp [h,V.owns]at ho
 |.bool,_,_,v,h,ho=>by simp only [RTy]at h;simp [h,V.owns]at ho
 |.str,_,_,v,h,ho=>by simp only [RTy]at h;simp [h,V.owns]at ho
 |.flt,_,_,v,h,ho=>by simp only [RTy]at h;obtain ⟨b9,rfl,h9⟩:=h;simp [V.owns]at ho
 |.cx,_,_,v,h,ho=>by simp only [RTy]at h;obtain ⟨a9,b9,rfl,h8,h9⟩:=h;simp [V.owns]at ho
 |.err,_,_,v,h,ho=>by simp only [RTy]at h;rcases h with ⟨_,rfl⟩|⟨_,t9,rfl⟩<;>simp [V.owns]at ho
 |.mset _,_,_,v,h,ho=>by simp only [RTy]at h;obtain ⟨h8,rfl⟩:=h;simp [V.owns]at ho
 |.sl t,o,l,v,h,ho=>by
  simp only [RTy]at h;obtain ⟨f,c,l',rfl,hf,h⟩:=h;simp only [V.owns,Bool.or_eq_true,decide_eq_true_eq]at ho;simp only [Ty.depth];refine ⟨?_,by omega⟩;by_cases h2:o=2000
  ·exact .inr h2
  left
  rcases ho with ho|ho
  ·exact (hf.1 h2).1 ho
  ·obtain ⟨b,hb,hbo⟩:=qmQ.1 ho;obtain ⟨a,_,hr⟩:=qeR h b hb;have:=(qhO t _ a b hr hbo).1;cases hno:qa7 o with
   |true=>rfl
   |false =>
    unfold nx at this;rw [hno]at this;simp only [qf,if_false,hno,false_or]at this;exact absurd this h2
 |.nsl t,o,l,v,h,ho=>by
  simp only [RTy]at h;rcases h with ⟨_,rfl⟩|⟨_,f,c,l',rfl,hf,h⟩
  ·simp [V.owns]at ho
  simp only [V.owns,Bool.or_eq_true,decide_eq_true_eq]at ho;simp only [Ty.depth];refine ⟨?_,by omega⟩;by_cases h2:o=2000
  ·exact .inr h2
  left
  rcases ho with ho|ho
  ·exact (hf.1 h2).1 ho
  ·obtain ⟨b,hb,hbo⟩:=qmQ.1 ho;obtain ⟨a,_,hr⟩:=qeR h b hb;have:=(qhO t _ a b hr hbo).1;cases hno:qa7 o with
   |true=>rfl
   |false =>
    unfold nx at this;rw [hno]at this;simp only [qf,if_false,hno,false_or]at this;exact absurd this h2
 |.unit,_,_,v,h,ho=>by simp only [RTy]at h;simp [h,V.owns,ownsL]at ho
 |.pair a b,o,x,v,h,ho=>by
  simp only [RTy]at h;obtain ⟨v1,l,rfl,h1,h2⟩:=h;simp only [V.owns,ownsL,Bool.or_eq_true]at ho;simp only [Ty.depth];rcases ho with ho|ho
  ·have:=qhO a o _ _ h1 ho;exact ⟨this.1,by omega⟩
  ·have:=qhO b o _ _ h2 (by simpa only [V.owns]using ho);exact ⟨this.1,by omega⟩
mutual
theorem RV.owns:∀(x:TV) (v:V),RV x v->v.owns=true->x.owns=true
 |.any rs,v,h,ho=>by simp [TV.owns]
 |.t τ o x,v,h,ho=>by simp only [RV]at h;have:=qhO τ o x v h ho;simpa [TV.owns]using this
 |.clp τ x,v,h,ho=>by
  simp only [RV]at h;obtain ⟨f,l',rfl,hf,h⟩:=h;simp only [V.owns,Bool.or_eq_true,decide_eq_true_eq]at ho;rcases ho with ho|ho
  ·exact absurd ho hf
  ·obtain ⟨b,hb,hbo⟩:=qmQ.1 ho;obtain ⟨a,_,hr⟩:=qeR h b hb;have:=(qhO τ _ a b hr hbo).1;simp [qa7]at this
 |.room a s,v,h,ho=>rfl
 |.empty o,v,h,ho=>by
  simp only [RV]at h;obtain ⟨f,c,rfl,hf⟩:=h;simp only [V.owns,ownsL,Bool.or_false,decide_eq_true_eq]at ho;simp only [TV.owns,Bool.or_eq_true,decide_eq_true_eq];by_cases h2:o=2000
  ·exact .inr h2
  ·exact .inl ((hf.1 h2).1 ho)
 |.val u,v,h,ho=>by simp only [RV]at h;simp [h,V.owns]at ho
 |.agg l,v,h,ho=>by simp only [RV]at h;obtain ⟨l',rfl,h⟩:=h;simp only [V.owns,TV.owns]at ho ⊢;exact RVL.owns l l' h ho
 |.tuple l,v,h,ho=>by simp only [RV]at h;obtain ⟨l',rfl,h⟩:=h;simp only [V.owns,TV.owns]at ho ⊢;exact RVL.owns l l' h ho
 |.fn g a b,v,h,ho=>by
  simp only [RV]at h;obtain ⟨a',b',rfl,h1,h2⟩:=h;simp only [V.owns,TV.owns,Bool.or_eq_true]at ho ⊢;exact ho.imp (RVL.owns a a' h1) (RVL.owns b b' h2)
 |.ptr q o,v,h,ho=>by simp only [RV]at h;simp [h,V.owns]at ho
 |.mref q,v,h,ho=>by simp only [RV]at h;simp [h,V.owns]at ho
 |.bsl q _ _,v,h,ho=>by simp only [RV]at h;simp [h,V.owns]at ho
 |.yld q,v,h,ho=>by simp only [RV]at h;simp [h,V.owns]at ho
 |.lp ..,v,h,ho=>by simp only [RV]at h
 |.cptr _ l,v,h,ho=>by simp only [RV]at h;obtain ⟨f,l',rfl,h0,_,h⟩:=h;simp only [V.owns,TV.owns,h0,decide_false,Bool.false_or]at ho ⊢;exact RVL.owns l l' h ho
 |.iface t x,v,h,ho=>by simp only [RV]at h;obtain ⟨y,rfl,h⟩:=h;simp only [V.owns,TV.owns]at ho ⊢;exact RV.owns x y h ho
theorem RVL.owns:∀(l:List TV) (l':List V),RVL l l'->ownsL l'=true->ownsTL l=true
 |[],l',h,ho=>by simp only [RVL]at h;simp [h,ownsL]at ho
 |x::l,l',h,ho=>by
  simp only [RVL]at h;obtain ⟨v,m,rfl,h1,h2⟩:=h;simp only [ownsL,ownsTL,Bool.or_eq_true]at ho ⊢;exact ho.imp (RV.owns x v h1) (RVL.owns l m h2)
end
theorem qx2{τ:Ty}(h1:τ.one=true){o:Nat}{x:τ.den}{v:V}(h:RTy τ o x v):v.one=true:=by
 cases τ with
 |unit=>simp [Ty.one]at h1
 |pair a b=>simp [Ty.one]at h1
 |sl t=>simp only [RTy]at h;obtain ⟨f,c,l',rfl,_⟩:=h;rfl
 |nsl t=>simp only [RTy]at h;rcases h with ⟨_,rfl⟩|⟨_,f,c,l',rfl,_⟩<;>rfl
 |flt=>simp only [RTy]at h;obtain ⟨b9,rfl,_⟩:=h;rfl
 |cx=>simp only [RTy]at h;obtain ⟨a9,b9,rfl,_⟩:=h;rfl
 |err=>simp only [RTy]at h;rcases h with ⟨_,rfl⟩|⟨_,t9,rfl⟩<;>rfl
 |mset t=>simp [Ty.one]at h1
 |_=>simp only [RTy]at h;subst h;rfl
theorem RV.one{x:TV}{v:V}(h1:x.one=true)(h:RV x v):v.one=true:=by
 cases x with
 |any rs=>simp [TV.one]at h1
 |t τ o x=>simp only [RV]at h;exact qx2 h1 h
 |clp τ x=>simp only [RV]at h;obtain ⟨f,l',rfl,_⟩:=h;rfl
 |room a s=>simp [TV.one]at h1
 |empty own=>simp only [RV]at h;obtain ⟨f,c,rfl,_⟩:=h;rfl
 |val u=>simp only [RV]at h;subst h;exact h1
 |agg l=>simp [TV.one]at h1
 |tuple l=>simp [TV.one]at h1
 |fn g a b=>simp only [RV]at h;obtain ⟨a',b',rfl,_⟩:=h;rfl
 |ptr r o=>simp only [RV]at h;subst h;rfl
 |mref r=>simp only [RV]at h;subst h;rfl
 |bsl r o n=>simp only [RV]at h;subst h;rfl
 |yld r=>simp only [RV]at h;subst h;rfl
 |lp s pe g env ps a b=>simp only [RV]at h
 |cptr _ l=>simp only [RV]at h;obtain ⟨_,l',rfl,_⟩:=h;rfl
 |iface t x=>simp only [RV]at h;obtain ⟨y,rfl,_⟩:=h;rfl
theorem qws{v:V}(h:v.one=true):v.cells=[v]:=by cases v<;>first|rfl|simp [V.one]at h
theorem RVL.qDc:∀{l:List TV} {l':List V},l.all TV.one=true->RVL l l'->l'.all V.one=true
 |[],l',_,h=>by simp only [RVL]at h;simp [h]
 |x::l,l',h1,h=>by
  simp only [RVL]at h;obtain ⟨v,m,rfl,h2,h3⟩:=h;simp only [List.all_cons,qe]at h1 ⊢;exact ⟨RV.one h1.1 h2,RVL.qDc h1.2 h3⟩
theorem RV.cells{x:TV}{v:V}(hk:x.oks=true)(h:RV x v):RVL x.cells v.cells/\v.oks=true:=by
 by_cases hx:∃l,x=.agg l
 ·obtain ⟨l,rfl⟩:=hx;simp only [RV]at h;obtain ⟨l',rfl,h⟩:=h;simp only [TV.oks,TV.cells]at hk;exact ⟨h,RVL.qDc hk h⟩
 ·have hc:x.cells=[x]:=by cases x<;>first|rfl|exact absurd ⟨_,rfl⟩ hx
  have h1:x.one=true:=by simpa [TV.oks,hc]using hk
  have hv:=RV.one h1 h;have hcv:=qws hv;rw [hc,hcv];exact ⟨qv.2 ⟨h,qaa⟩,by simp [V.oks,hcv,hv]⟩
theorem qdk{c:List V}(h1:q6 c=false)(h2:qf0 c=false):qc7 c=false:=by
 cases c with
 |nil=>rfl
 |cons x l=>cases x<;>first|rfl|(simp [q6]at h1;done)|(simp [qf0]at h2)
theorem qaF{l:List TV}{l':List V}(h:RVL l l'):q6 l'=false:=by
 cases l with
 |nil=>simp only [RVL]at h;simp [h,q6]
 |cons x l =>
  simp only [RVL]at h;obtain ⟨v,m,rfl,h1,_⟩:=h;cases v with
  |lp s pe g env ps a b =>
   exfalso
   cases x with
   |any rs=>simp [RV,q6]at h1
   |t τ o x =>
    cases τ<;>simp [RV,RTy]at h1
   |lp=>simp only [RV]at h1
   |_=>simp [RV]at h1
  |_=>rfl
mutual
theorem rv_ofTy:∀(τ:Ty) (o:Nat) (x:τ.den) (v:V),RTy τ o x v->RV (ofTy τ o x) v
 |.int _,_,_,v,h=>by simpa only [ofTy,RV]using h
 |.bool,_,_,v,h=>by simpa only [ofTy,RV]using h
 |.str,_,_,v,h=>by simpa only [ofTy,RV]using h
 |.flt,_,_,v,h=>by simpa only [ofTy,RV]using h
 |.cx,_,_,v,h=>by simpa only [ofTy,RV]using h
 |.err,_,_,v,h=>by simpa only [ofTy,RV]using h
 |.mset _,_,_,v,h=>by simpa only [ofTy,RV]using h
 |.sl t,o,l,v,h=>by simpa only [ofTy,RV]using h
 |.nsl t,o,l,v,h=>by simpa only [ofTy,RV]using h
 |.unit,_,_,v,h=>by simp only [RTy]at h;simp [h,ofTy,RV,RVL]
 |.pair a b,o,x,v,h=>by
  simp only [RTy]at h;obtain ⟨v1,l,rfl,h1,h2⟩:=h;simp only [ofTy,RV];exact ⟨_,rfl,qv.2 ⟨rv_ofTy a o _ _ h1,rv_ofTyC b o _ l h2⟩⟩
theorem rv_ofTyC:∀(τ:Ty) (o:Nat) (x:τ.den) (l:List V),RTy τ o x (.agg l)->RVL (ofTyC τ o x) l
 |.int _,_,_,l,h=>by simp [RTy]at h
 |.bool,_,_,l,h=>by simp [RTy]at h
 |.str,_,_,l,h=>by simp [RTy]at h
 |.flt,_,_,l,h=>by simp [RTy]at h
 |.cx,_,_,l,h=>by simp [RTy]at h
 |.err,_,_,l,h=>by simp [RTy]at h
 |.mset _,_,_,l,h=>by simp [RTy]at h
 |.sl t,o,x,l,h=>by simp [RTy]at h
 |.nsl t,o,x,l,h=>by simp [RTy]at h
 |.unit,_,_,l,h=>by simp only [RTy,V.agg.injEq]at h;simp [h,ofTyC,RVL]
 |.pair a b,o,x,l,h=>by
  simp only [RTy,V.agg.injEq]at h;obtain ⟨v1,m,rfl,h1,h2⟩:=h;simp only [ofTyC];exact qv.2 ⟨rv_ofTy a o _ _ h1,rv_ofTyC b o _ m h2⟩
end
theorem qt6{τ:Ty}(h:τ.one=true)(o:Nat)(x:τ.den):(ofTy τ o x).one=true:=by cases τ<;>first|rfl|simp [Ty.one]at h
theorem qov:∀(τ:Ty),τ.qnj=true->∀(o:Nat) (x:τ.den),(ofTyC τ o x).all TV.one=true
 |.unit,_,o,x=>rfl
 |.pair a b,h,o,x=>by
  simp only [Ty.qnj,qe]at h;simp only [ofTyC,List.all_cons,qe];exact ⟨qt6 h.1 o _,qov b h.2 o _⟩
 |.int _,h,_,_|.bool,h,_,_|.str,h,_,_|.flt,h,_,_|.cx,h,_,_|.err,h,_,_|.mset _,h,_,_|.nsl _,h,_,_|.sl _,h,_,_=>by simp [Ty.qnj]at h
theorem qpI{τ:Ty}(h:τ.qbR=true)(o:Nat)(x:τ.den):(ofTy τ o x).oks=true:=by
 cases τ with
 |unit=>rfl
 |pair a b =>
  simp only [Ty.qbR,qe]at h;simp only [ofTy,TV.oks,TV.cells,List.all_cons,qe];exact ⟨qt6 h.1 o _,qov b h.2 o _⟩
 |mset t=>simp [Ty.qbR]at h
 |_=>rfl
theorem qk1:∀(τ:Ty),τ.qnj=true->∀(o:Nat) (x:τ.den),(ofTyC τ o x).length=τ.qbl
 |.unit,_,o,x=>rfl
 |.pair a b,h,o,x=>by
  simp only [Ty.qnj,qe]at h;simp [ofTyC,Ty.qbl,qk1 b h.2 o x.2]
 |.int _,h,_,_|.bool,h,_,_|.str,h,_,_|.flt,h,_,_|.cx,h,_,_|.err,h,_,_|.mset _,h,_,_|.nsl _,h,_,_|.sl _,h,_,_=>by simp [Ty.qnj]at h
theorem qsR{τ:Ty}(h:τ.qbR=true)(o:Nat)(x:τ.den):(ofTy τ o x).cells.length=τ.qbl:=by
 cases τ with
 |unit=>rfl
 |pair a b =>
  simp only [Ty.qbR,qe]at h;simp [ofTy,TV.cells,Ty.qbl,qk1 b h.2 o x.2]
 |_=>rfl
theorem qkA{τ:Ty}(h:τ.qbR=true){o:Nat}{x:τ.den}{v:V}(hr:RTy τ o x v):v.cells.length=τ.qbl/\v.oks=true:=by
 obtain ⟨h1,h2⟩:=RV.cells (qpI h o x) (rv_ofTy τ o x v hr);exact ⟨by rw [h1.length,qsR h],h2⟩
theorem qsu:∀{d d':Nat} {o' o:Nat},d'<=d->fits d o' o=true->fits d' o' o=true
 |_,0,_,_,_,_=>rfl
 |0,d'+1,_,_,h,_=>by omega
 |d+1,d'+1,o',o,h,hf=>by
  simp only [fits,Bool.or_eq_true,qe]at hf ⊢;exact hf.imp id λhf=>⟨hf.1,qsu (by omega) hf.2⟩
theorem qpk{o' o d:Nat}{f:Fl}(h:fits (d+1) o' o=true)(hf:FlR o' f):FlR o f/\(o=2000\/fits d (nx o') (nx o)=true):=by
 simp only [fits,Bool.or_eq_true,qe,decide_eq_true_eq,beq_iff_eq,Bool.not_eq_true',decide_eq_false_iff_not]at h;rcases h with rfl|⟨⟨⟨h1,h2⟩,h3⟩,h4⟩
 ·exact ⟨⟨λh=>absurd rfl h,λh=>by cases h⟩,.inl rfl⟩
 ·exact ⟨⟨λ_=>by rw [hf.1 h2,h1],λh=>hf.2 (h3.resolve_left λh5=>h5 h)⟩,.inr h4⟩
theorem qmc:∀(d o:Nat),fits d o 2000=true
 |0,_=>rfl
 |d+1,o=>by simp [fits]
theorem qeG:∀(τ:Ty) (o o':Nat) (x:τ.den) (v:V),fits τ.depth o o'=true->RTy τ o x v->RTy τ o' x v
 |.int _,_,_,_,v,_,h=>by simpa only [RTy]using h
 |.bool,_,_,_,v,_,h=>by simpa only [RTy]using h
 |.str,_,_,_,v,_,h=>by simpa only [RTy]using h
 |.flt,_,_,_,v,_,h=>by simpa only [RTy]using h
 |.cx,_,_,_,v,_,h=>by simpa only [RTy]using h
 |.err,_,_,_,v,_,h=>by simpa only [RTy]using h
 |.mset _,_,_,_,v,_,h=>by simpa only [RTy]using h
 |.unit,_,_,_,v,_,h=>by simpa only [RTy]using h
 |.sl t,o,o',l,v,hm,h=>by
  simp only [Ty.depth]at hm;simp only [RTy]at h ⊢;obtain ⟨f,c,l',rfl,hf,h⟩:=h;obtain ⟨h1,h2⟩:=qpk hm hf;refine ⟨f,c,l',rfl,h1,h.mono λa b hab=>qeG t _ _ a b ?_ hab⟩;rcases h2 with rfl|h2
  ·exact qmc _ _
  ·exact h2
 |.nsl t,o,o',l,v,hm,h=>by
  simp only [Ty.depth]at hm;simp only [RTy]at h ⊢;rcases h with h|⟨hne,f,c,l',rfl,hf,h⟩
  ·exact .inl h
  obtain ⟨h1,h2⟩:=qpk hm hf;refine .inr ⟨hne,f,c,l',rfl,h1,h.mono λa b hab=>qeG t _ _ a b ?_ hab⟩;rcases h2 with rfl|h2
  ·exact qmc _ _
  ·exact h2
 |.pair a b,o,o',x,v,hm,h=>by
  simp only [Ty.depth]at hm;simp only [RTy]at h ⊢;obtain ⟨v1,l,rfl,h3,h4⟩:=h;exact ⟨v1,l,rfl,qeG a _ _ _ _ (qsu (by omega) hm) h3,qeG b _ _ _ _ (qsu (by omega) hm) h4⟩
theorem qcT:∀(τ:Ty) (o:Nat) (w:TV) (x:τ.den) (v:V),qd5 τ o w=some x->RV w v->RTy τ o x v:=by
 have dflt:∀(τ:Ty) (o:Nat) (τ':Ty) (o':Nat) (y:τ'.den) (x:τ.den) (v:V),(if h:τ'=τ then (if fits τ.depth o' o=true then some (cast' h y)else none)else none)=some x->RTy τ' o' y v->RTy τ o x v:=by
  intro τ o τ' o' y x v h hr;split at h
  ·rename_i he;split at h
   ·rename_i hm;simp only [qb]at h;subst h;subst he;exact qeG _ _ _ _ _ hm hr
   ·cases h
  ·cases h
 intro τ;induction τ with
 |int k =>
  intro o w x v h hr;cases w<;>simp only [qd5]at h<;>first|cases h|exact dflt _ _ _ _ _ _ _ h (by simpa only [RV]using hr)
 |bool =>
  intro o w x v h hr;cases w<;>simp only [qd5]at h<;>first|cases h|exact dflt _ _ _ _ _ _ _ h (by simpa only [RV]using hr)
 |str =>
  intro o w x v h hr;cases w<;>simp only [qd5]at h<;>first|cases h|exact dflt _ _ _ _ _ _ _ h (by simpa only [RV]using hr)
 |flt =>
  intro o w x v h hr;cases w<;>simp only [qd5]at h<;>first|cases h|exact dflt _ _ _ _ _ _ _ h (by simpa only [RV]using hr)
 |cx =>
  intro o w x v h hr;cases w<;>simp only [qd5]at h<;>first|cases h|exact dflt _ _ _ _ _ _ _ h (by simpa only [RV]using hr)
 |err =>
  intro o w x v h hr;cases w<;>simp only [qd5]at h<;>first|cases h|exact dflt _ _ _ _ _ _ _ h (by simpa only [RV]using hr)
 |mset t =>
  intro o w x v h hr;cases w<;>simp only [qd5]at h<;>first|cases h|exact dflt _ _ _ _ _ _ _ h (by simpa only [RV]using hr)
 |sl t ih =>
  intro o w x v h hr;cases w with
  |empty own =>
   simp only [qd5]at h;split at h
   ·rename_i ho;simp only [qb]at h;subst h;simp only [RV]at hr;obtain ⟨f,c,rfl,hf⟩:=hr;simp only [RTy];exact ⟨f,c,[],rfl,(qpk ho hf).1,.nil⟩
   ·cases h
  |t τ' o' y =>
   cases τ' with
   |nsl t' =>
    simp only [qd5]at h;split at h
    ·rename_i he;subst he;split at h
     ·rename_i hm;have h':nel y=some x:=h;cases y with
      |nil=>cases h'
      |cons a l =>
       simp only [nel,qb]at h';subst h';simp only [RV,RTy]at hr;rcases hr with ⟨h0,_⟩|⟨_,hr⟩
       ·cases h0
       ·have key:=qeG (.sl t') o' o (a::l) v hm (by simpa only [RTy]using hr);exact key
     ·cases h
    ·cases h
   |_=>simp only [qd5]at h;exact dflt _ _ _ _ _ _ _ h (by simpa only [RV]using hr)
  |_=>simp [qd5]at h
 |nsl t ih =>
  intro o w x v h hr;cases w with
  |val u =>
   cases u with
   |slice p a b =>
    cases p with
    |some p=>simp [qd5]at h
    |none =>
     match a,b with
     |0,0 =>
      simp only [qd5,qb]at h;subst h;simp only [RV]at hr;subst hr;simp only [RTy];exact .inl ⟨trivial,trivial⟩
     |_+1,_=>simp [qd5]at h
     |0,_+1=>simp [qd5]at h
   |_=>simp [qd5]at h
  |t τ' o' y =>
   cases τ' with
   |sl t' =>
    simp only [qd5]at h;split at h
    ·rename_i he;subst he;split at h
     ·rename_i hm;have h':nel y=some x:=h;cases y with
      |nil=>cases h'
      |cons a l =>
       simp only [nel,qb]at h';subst h';simp only [RV]at hr;have:=qeG (.sl t') o' o _ _ hm hr;simp only [RTy]at this ⊢;exact .inr ⟨by simp,this⟩
     ·cases h
    ·cases h
   |_=>simp only [qd5]at h;exact dflt _ _ _ _ _ _ _ h (by simpa only [RV]using hr)
  |_=>simp [qd5]at h
 |unit =>
  intro o w x v h hr;cases w with
  |agg l =>
   cases l with
   |nil=>simp only [RV]at hr;obtain ⟨l',rfl,h1⟩:=hr;simp only [RVL]at h1;simp [RTy,h1]
   |cons=>simp [qd5]at h
  |t τ' o' y=>simp only [qd5]at h;exact dflt _ _ _ _ _ _ _ h (by simpa only [RV]using hr)
  |_=>simp [qd5]at h
 |pair a b iha ihb =>
  intro o w x v h hr;cases w with
  |agg l =>
   cases l with
   |nil=>simp [qd5]at h
   |cons u l =>
    simp only [qd5]at h;obtain ⟨y,hy,h⟩:=qd.1 h;obtain ⟨z,hz,h⟩:=qd.1 h;simp only [qb]at h;subst h;simp only [RV]at hr;obtain ⟨l',rfl,hl⟩:=hr;simp only [RVL]at hl;obtain ⟨v1,m,rfl,h1,h2⟩:=hl;simp only [RTy];exact ⟨v1,m,rfl,iha _ _ _ _ hy h1,ihb _ _ _ _ hz (by simp only [RV];exact ⟨m,rfl,h2⟩)⟩
  |t τ' o' y=>simp only [qd5]at h;exact dflt _ _ _ _ _ _ _ h (by simpa only [RV]using hr)
  |_=>simp [qd5]at h
theorem qlU:∀(ps:List (Ty×Nat)) (l:List TV) (x:denL (ps.map (·.1))) (l':List V),asL ps l=some x->RVL l l'->RVL (ofL ps x) l'
 |[],l,x,l',h,hr=>by
  cases l with
  |nil=>simpa [ofL]using hr
  |cons=>simp [asL]at h
 |[(τ,o)],l,x,l',h,hr=>by
  match l,h,hr with
  |[v],h,hr =>
   simp only [asL]at h;simp only [RVL]at hr;obtain ⟨u,m,rfl,h1,rfl⟩:=hr;simp only [ofL];exact qv.2 ⟨rv_ofTy _ _ _ _ (qcT _ _ _ _ _ h h1),qaa⟩
  |[],h,hr=>simp [asL]at h
  |_::_::_,h,hr=>simp [asL]at h
 |(τ,o)::q::ps,l,x,l',h,hr=>by
  match l,h,hr with
  |[],h,hr=>simp [asL]at h
  |v::l,h,hr =>
   simp only [asL]at h;obtain ⟨y,hy,h⟩:=qd.1 h;obtain ⟨z,hz,h⟩:=qd.1 h;simp only [qb]at h;subst h;simp only [RVL]at hr;obtain ⟨u,m,rfl,h1,h2⟩:=hr;simp only [ofL];exact qv.2 ⟨rv_ofTy _ _ _ _ (qcT _ _ _ _ _ hy h1),qlU (q::ps) l _ _ hz h2⟩
theorem qtB{τ:Ty}{o:Nat}:∀(l:List TV) (x:List τ.den) (l':List V),qwe τ o l=some x->RVL l l'->All2 (RTy τ o) x l'
 |[],x,l',h,hr=>by simp only [qwe,qb]at h;simp only [RVL]at hr;subst h;subst hr;exact .nil
 |v::l,x,l',h,hr=>by
  simp only [qwe]at h;obtain ⟨y,hy,h⟩:=qd.1 h;obtain ⟨z,hz,h⟩:=qd.1 h;simp only [qb]at h;subst h;simp only [RVL]at hr;obtain ⟨u,m,rfl,h1,h2⟩:=hr;exact .cons (qcT _ _ _ _ _ hy h1) (qtB l _ _ hz h2)
theorem qpY(p:Bool)(u:Value):RV (qle p u) (qcu p u):=by
 unfold qle qcu;split
 ·simp [RV,RTy]
 ·simp [RV,RTy]
 ·simp [RV,RTy]
 ·simp only [RV,RTy];exact ⟨0,rfl,Fl.qpq⟩
 ·simp only [RV,RTy];exact ⟨0,0,rfl,Fl.qpq,Fl.qpq⟩
 ·cases p
  ·simp only [RV,qd9,qf,if_false];exact ⟨_,_,rfl,qeu rfl⟩
  ·simp [RV,qd9]
 ·rename_i h1 h2 h3 h4 h5 h6;split
  ·exact absurd rfl h6
  ·simp [RV]
theorem qta{g:Value->TV}{h:Value->V}(hr:∀u,RV (g u) (h u)):∀l:List Value,RVL (l.map g) (l.map h)
 |[]=>qaa
 |u::l=>qv.2 ⟨hr u,qta hr l⟩
theorem quj(p:Bool)(u:Value):RV (ql2 p u) (ofConst p u):=by
 have key:=qpY p u;cases u<;>first|exact key|(simp only [ql2,ofConst,RV];exact ⟨_,rfl,qta (qpY p) _⟩)
theorem qeH:∀(τ:Ty) (o:Nat) (x:τ.den) (v:V),RTy τ o x v->RTy τ 1000 x (v.reflag qJ)
 |.int _,_,_,v,h=>by simp only [RTy]at h ⊢;simp [h,V.reflag]
 |.bool,_,_,v,h=>by simp only [RTy]at h ⊢;simp [h,V.reflag]
 |.str,_,_,v,h=>by simp only [RTy]at h ⊢;simp [h,V.reflag]
 |.flt,_,_,v,h=>by simp only [RTy]at h ⊢;obtain ⟨b9,rfl,h9⟩:=h;exact ⟨b9,by simp [V.reflag],h9⟩
 |.cx,_,_,v,h=>by simp only [RTy]at h ⊢;obtain ⟨a9,b9,rfl,h8,h9⟩:=h;exact ⟨a9,b9,by simp [V.reflag],h8,h9⟩
 |.err,_,_,v,h=>by simp only [RTy]at h ⊢;rcases h with ⟨hx,rfl⟩|⟨hx,t9,rfl⟩;exact .inl ⟨hx,by simp [V.reflag]⟩;exact .inr ⟨hx,t9,by simp [V.reflag]⟩
 |.mset _,_,_,v,h=>by simp only [RTy]at h ⊢;obtain ⟨h8,rfl⟩:=h;exact ⟨h8,by simp [V.reflag]⟩
 |.sl t,o,l,v,h=>by
  simp only [RTy]at h ⊢;obtain ⟨f,c,l',rfl,_,h⟩:=h;refine ⟨.shared,c,reflagL qJ l',by simp [V.reflag,qJ],qeY rfl (by simp) (λ_=>rfl),?_⟩;rw [qaf];exact h.map λa b hab=>qeH t _ a b hab
 |.nsl t,o,l,v,h=>by
  simp only [RTy]at h ⊢;rcases h with ⟨hx,rfl⟩|⟨hne,f,c,l',rfl,_,h⟩
  ·exact .inl ⟨hx,by simp [V.reflag]⟩
  refine .inr ⟨hne,.shared,c,reflagL qJ l',by simp [V.reflag,qJ],qeY rfl (by simp) (λ_=>rfl),?_⟩;rw [qaf];exact h.map λa b hab=>qeH t _ a b hab
 |.unit,_,_,v,h=>by simp only [RTy]at h ⊢;simp [h,V.reflag,reflagL]
 |.pair a b,o,x,v,h=>by
  simp only [RTy]at h ⊢;obtain ⟨v1,l,rfl,h1,h2⟩:=h;refine ⟨v1.reflag qJ,reflagL qJ l,by simp [V.reflag,reflagL],qeH a o _ _ h1,?_⟩;have:=qeH b o _ _ h2;simpa only [V.reflag]using this
mutual
theorem RV.share:∀(x:TV) (v:V),RV x v->RV x.share (v.reflag qJ)
 |.any rs,v,h=>by simp only [TV.share,RV]at h ⊢;rw [qe7];exact ⟨h.1,qdu h.2⟩
 |.t τ o x,v,h=>by simp only [TV.share,RV]at h ⊢;exact qeH τ o x v h
 |.clp τ x,v,h=>by
  simp only [TV.share,RV,RTy]at h ⊢;obtain ⟨f,l',rfl,_,h⟩:=h;refine ⟨.shared,true,reflagL qJ l',by simp [V.reflag,qJ],qeY rfl (by simp) (λ_=>rfl),?_⟩;rw [qaf];exact h.map λa b hab=>qeH τ _ a b hab
 |.room a s,v,h=>by
  simp only [RV]at h;rcases a with _|a
  ·obtain ⟨_,n,rfl,h0⟩|⟨h9,_⟩:=h
   ·obtain rfl:=h0 rfl;simp only [TV.share,RV,V.reflag,qJ];exact ⟨.shared,false,by simp,qeY rfl (by simp) (λ_=>rfl)⟩
   ·omega
  ·simp only [TV.share,RV];refine .inr ⟨Nat.le_refl _,?_⟩;obtain ⟨_,n,rfl,_⟩|⟨_,rfl|⟨f,hf0,rfl⟩⟩:=h
   ·by_cases hn:n=0
    ·exact .inr ⟨.shared,by simp,by simp [V.reflag,qJ,hn]⟩
    ·exact .inl (by simp [V.reflag,qJ,hn])
   ·exact .inl rfl
   ·exact .inr ⟨.shared,by simp,by simp [V.reflag,reflagL,qJ]⟩
 |.empty own,v,h=>by simp only [TV.share,RV]at h ⊢;obtain ⟨f,c,rfl,_⟩:=h;exact ⟨.shared,c,by simp [V.reflag,reflagL,qJ],qeY rfl (by simp) (λ_=>rfl)⟩
 |.val u,v,h=>by simp only [TV.share,RV]at h ⊢;simp [h,V.reflag]
 |.agg l,v,h=>by simp only [TV.share,RV]at h ⊢;obtain ⟨l',rfl,h⟩:=h;exact ⟨_,by simp only [V.reflag],RVL.share l l' h⟩
 |.tuple l,v,h=>by simp only [TV.share,RV]at h ⊢;obtain ⟨l',rfl,h⟩:=h;exact ⟨_,by simp only [V.reflag],RVL.share l l' h⟩
 |.fn g' a b,v,h=>by simp only [TV.share,RV]at h ⊢;obtain ⟨a',b',rfl,h1,h2⟩:=h;exact ⟨_,_,by simp only [V.reflag],RVL.share a a' h1,RVL.share b b' h2⟩
 |.ptr q o,v,h=>by simp only [TV.share,RV]at h ⊢;simp [h,V.reflag]
 |.mref q,v,h=>by simp only [TV.share,RV]at h ⊢;simp [h,V.reflag]
 |.bsl q _ _,v,h=>by simp only [TV.share,RV]at h ⊢;simp [h,V.reflag]
 |.yld q,v,h=>by simp only [TV.share,RV]at h ⊢;simp [h,V.reflag]
 |.lp ..,v,h=>by simp only [RV]at h
 |.cptr _ l,v,h=>by simp only [TV.share,RV]at h ⊢;obtain ⟨f,l',rfl,_,_,h⟩:=h;exact ⟨.shared,_,by simp only [V.reflag,qJ],by simp,λ_=>rfl,RVL.share l l' h⟩
 |.iface t x,v,h=>by simp only [TV.share,RV]at h ⊢;obtain ⟨y,rfl,h⟩:=h;exact ⟨_,by simp only [V.reflag],RV.share x y h⟩
theorem RVL.share:∀(l:List TV) (l':List V),RVL l l'->RVL (shareL l) (reflagL qJ l')
 |[],l',h=>by simp only [RVL]at h;simp [h,shareL,reflagL,RVL]
 |x::l,l',h=>by
  simp only [RVL]at h;obtain ⟨v,m,rfl,h1,h2⟩:=h;simp only [shareL,reflagL];exact qv.2 ⟨RV.share x v h1,RVL.share l m h2⟩
end
theorem qtV{o:Nat}:qa7 (lo o)=qa7 o:=by
 rw [Bool.eq_iff_iff,qdI,qdI];unfold lo;split<;>omega
theorem qCp{o:Nat}:nx (lo o)=lo (nx o):=by
 have h1:=@qtV o;unfold nx;rw [h1];cases ho:qa7 o with
 |false=>rfl
 |true =>
  have:=qdI.1 ho;simp only [if_true];unfold lo;split<;>split<;>omega
theorem qBj{o:Nat}:lo o=2000↔o=2000:=by unfold lo;split<;>omega
theorem qwM{g:Fl->Fl}(hg:∀f,g f=.own↔f=.own){o:Nat}{f:Fl}(h:FlR o f):FlR (lo o) (g f) :=
 ⟨λh2=>by rw [hg f,qtV];exact h.1 (λe=>h2 (qBj.2 e)),λh1=>by unfold lo at h1;split at h1<;>omega⟩
theorem qoI{g:Fl->Fl}(hg:∀f,g f=.own↔f=.own):∀(τ:Ty) (o:Nat) (x:τ.den) (v:V),RTy τ o x v->RTy τ (lo o) x (v.reflag g)
 |.int _,_,_,v,h=>by simp only [RTy]at h ⊢;simp [h,V.reflag]
 |.bool,_,_,v,h=>by simp only [RTy]at h ⊢;simp [h,V.reflag]
 |.str,_,_,v,h=>by simp only [RTy]at h ⊢;simp [h,V.reflag]
 |.flt,_,_,v,h=>by simp only [RTy]at h ⊢;obtain ⟨b9,rfl,h9⟩:=h;exact ⟨b9,by simp [V.reflag],h9⟩
 |.cx,_,_,v,h=>by simp only [RTy]at h ⊢;obtain ⟨a9,b9,rfl,h8,h9⟩:=h;exact ⟨a9,b9,by simp [V.reflag],h8,h9⟩
 |.err,_,_,v,h=>by simp only [RTy]at h ⊢;rcases h with ⟨hx,rfl⟩|⟨hx,t9,rfl⟩;exact .inl ⟨hx,by simp [V.reflag]⟩;exact .inr ⟨hx,t9,by simp [V.reflag]⟩
 |.mset _,_,_,v,h=>by simp only [RTy]at h ⊢;obtain ⟨h8,rfl⟩:=h;exact ⟨h8,by simp [V.reflag]⟩
 |.sl t,o,l,v,h=>by
  simp only [RTy]at h ⊢;obtain ⟨f,c,l',rfl,hf,h⟩:=h;refine ⟨g f,c,reflagL g l',by simp [V.reflag],qwM hg hf,?_⟩;rw [qaf,qCp];exact h.map λa b hab=>qoI hg t _ a b hab
 |.nsl t,o,l,v,h=>by
  simp only [RTy]at h ⊢;rcases h with ⟨hx,rfl⟩|⟨hne,f,c,l',rfl,hf,h⟩
  ·exact .inl ⟨hx,by simp [V.reflag]⟩
  refine .inr ⟨hne,g f,c,reflagL g l',by simp [V.reflag],qwM hg hf,?_⟩;rw [qaf,qCp];exact h.map λa b hab=>qoI hg t _ a b hab
 |.unit,_,_,v,h=>by simp only [RTy]at h ⊢;simp [h,V.reflag,reflagL]
 |.pair a b,o,x,v,h=>by
  simp only [RTy]at h ⊢;obtain ⟨v1,l,rfl,h1,h2⟩:=h;refine ⟨v1.reflag g,reflagL g l,by simp [V.reflag,reflagL],qoI hg a o _ _ h1,?_⟩;have:=qoI hg b o _ _ h2;simpa only [V.reflag]using this
theorem qhx{τ:Ty}{o:Nat}{x:τ.den}{v:V}(h:RTy τ o x v):q6 [v]=false:=by
 cases τ with
 |int _=>simp only [RTy]at h;subst h;rfl
 |bool=>simp only [RTy]at h;subst h;rfl
 |str=>simp only [RTy]at h;subst h;rfl
 |flt=>simp only [RTy]at h;obtain ⟨b9,rfl,_⟩:=h;rfl
 |cx=>simp only [RTy]at h;obtain ⟨a9,b9,rfl,_⟩:=h;rfl
 |err=>simp only [RTy]at h;rcases h with ⟨_,rfl⟩|⟨_,t9,rfl⟩<;>rfl
 |mset t=>simp only [RTy]at h;obtain ⟨_,rfl⟩:=h;rfl
 |sl t=>simp only [RTy]at h;obtain ⟨f,c,l',rfl,_⟩:=h;rfl
 |nsl t=>simp only [RTy]at h;rcases h with ⟨_,rfl⟩|⟨_,f,c,l',rfl,_⟩<;>rfl
 |unit=>simp only [RTy]at h;subst h;rfl
 |pair a b=>simp only [RTy]at h;obtain ⟨v1,l,rfl,_⟩:=h;rfl
mutual
theorem RV.lo{g:Fl->Fl}(hg:∀f,g f=.own↔f=.own):∀(x:TV) (v:V),RV x v->RV x.qbd (v.reflag g)
 |.any rs,v,h=>by simp only [TV.qbd,RV]at h ⊢;rw [qe7];exact ⟨h.1,qdu h.2⟩
 |.t τ o x,v,h=>by simp only [TV.qbd,RV]at h ⊢;exact qoI hg τ o x v h
 |.clp τ x,v,h=>by
  simp only [TV.qbd,RV]at h ⊢;obtain ⟨f,l',rfl,h0,h⟩:=h;refine ⟨g f,reflagL g l',by simp [V.reflag],λe=>h0 ((hg f).1 e),?_⟩;rw [qaf];exact h.map λa b hab=>qoI hg τ 0 a b hab
 |.room a s,v,h=>by
  simp only [TV.qbd,RV]at h ⊢;obtain ⟨h1,n,rfl,h0⟩|⟨h1,rfl|⟨f,hf0,rfl⟩⟩:=h
  ·exact .inl ⟨h1,n,by simp only [V.reflag,if_pos ((hg .own).2 rfl)],h0⟩
  ·exact .inr ⟨h1,.inl rfl⟩
  ·exact .inr ⟨h1,.inr ⟨g f,λe=>hf0 ((hg f).1 e),by simp [V.reflag,reflagL]⟩⟩
 |.empty own,v,h=>by simp only [TV.qbd,RV]at h ⊢;obtain ⟨f,c,rfl,h0⟩:=h;exact ⟨g f,c,by simp [V.reflag,reflagL],qwM hg h0⟩
 |.val u,v,h=>by simp only [TV.qbd,RV]at h ⊢;simp [h,V.reflag]
 |.agg l,v,h=>by simp only [TV.qbd,RV]at h ⊢;obtain ⟨l',rfl,h⟩:=h;exact ⟨_,by simp only [V.reflag],RVL.lo hg l l' h⟩
 |.tuple l,v,h=>by simp only [TV.qbd,RV]at h ⊢;obtain ⟨l',rfl,h⟩:=h;exact ⟨_,by simp only [V.reflag],RVL.lo hg l l' h⟩
 |.fn g' a b,v,h=>by simp only [TV.qbd,RV]at h ⊢;obtain ⟨a',b',rfl,h1,h2⟩:=h;exact ⟨_,_,by simp only [V.reflag],RVL.lo hg a a' h1,RVL.lo hg b b' h2⟩
 |.ptr q o,v,h=>by simp only [TV.qbd,RV]at h ⊢;simp [h,V.reflag]
 |.mref q,v,h=>by simp only [TV.qbd,RV]at h ⊢;simp [h,V.reflag]
 |.bsl q _ _,v,h=>by simp only [TV.qbd,RV]at h ⊢;simp [h,V.reflag]
 |.yld q,v,h=>by simp only [TV.qbd,RV]at h ⊢;simp [h,V.reflag]
 |.lp ..,v,h=>by simp only [RV]at h
 |.cptr _ l,v,h=>by simp only [TV.qbd,RV]at h ⊢;obtain ⟨f,l',rfl,h0,_,h⟩:=h;exact ⟨g f,_,by simp only [V.reflag],λe=>h0 ((hg f).1 e),λe=>(by cases e),RVL.lo hg l l' h⟩
 |.iface t x,v,h=>by simp only [TV.qbd,RV]at h ⊢;obtain ⟨y,rfl,h⟩:=h;exact ⟨_,by simp only [V.reflag],RV.lo hg x y h⟩
theorem RVL.lo{g:Fl->Fl}(hg:∀f,g f=.own↔f=.own):∀(l:List TV) (l':List V),RVL l l'->RVL (loosenL l) (reflagL g l')
 |[],l',h=>by simp only [RVL]at h;simp [h,loosenL,reflagL,RVL]
 |x::l,l',h=>by
  simp only [RVL]at h;obtain ⟨v,m,rfl,h1,h2⟩:=h;simp only [loosenL,reflagL];exact qv.2 ⟨RV.lo hg x v h1,RVL.lo hg l m h2⟩
end
mutual
theorem reflag_id:∀v:V,v.reflag (λf=>f)=v
 |.undef|.val _|.ptr .. | .yld _|.mref _|.bsl .. | .mp _|.lp ..=>by simp [V.reflag]
 |.cptr _ l=>by simp only [V.reflag,reflagL_id l]
 |.room ..=>by simp [V.reflag]
 |.sl f c l=>by simp only [V.reflag,reflagL_id l]
 |.fn g a b=>by simp only [V.reflag,reflagL_id a,reflagL_id b]
 |.iface t x=>by simp only [V.reflag,reflag_id x]
 |.agg l=>by simp only [V.reflag,reflagL_id l]
 |.tuple l=>by simp only [V.reflag,reflagL_id l]
theorem reflagL_id:∀l:List V,reflagL (λf=>f) l=l
 |[]=>rfl
 |v::l=>by simp only [reflagL,reflag_id v,reflagL_id l]
end
theorem RV.lo0{x:TV}{v:V}(h:RV x v):RV x.qbd v:=by
 have:=RV.lo (g:=λf=>f) (λf=>Iff.rfl) x v h
 rwa [reflag_id]at this
theorem qyk{o d:Nat}(h:sure o (d+1)=true):sure (nx o) d=true:=by
 unfold nx;cases ho:qa7 o with
 |false =>
  rcases qjn.1 ho with rfl|rfl|rfl
  ·simp [sure]at h
  ·simp [sure]
  ·simp [sure]at h
 |true =>
  have:=qdI.1 ho;simp only [if_true];unfold sure at h ⊢;by_cases h1:o<1000
  ·rw [if_pos h1]at h;rw [if_pos (by omega)];simp only [decide_eq_true_eq]at h ⊢;omega
  ·by_cases h2:o<2000
   ·by_cases h3:o-1<1000
    ·omega
    ·rw [if_neg h3,if_pos (by omega)]
   ·rw [if_neg h1,if_neg h2]at h;simp only [decide_eq_true_eq]at h;rw [if_neg (by omega),if_neg (by omega)];simp only [decide_eq_true_eq]<;>omega
theorem qyj{o d d':Nat}(h:sure o d=true)(hd:d'<=d):sure o d'=true:=by
 unfold sure at h ⊢;by_cases h1:o<1000
 ·rw [if_pos h1]at h ⊢;simp only [decide_eq_true_eq]at h ⊢;omega
 ·by_cases h2:o<2000
  ·rw [if_neg h1,if_pos h2]
  ·rw [if_neg h1,if_neg h2]at h ⊢;simp only [decide_eq_true_eq]at h ⊢;omega
theorem qp5{o d:Nat}{f:Fl}(h:sure o (d+1)=true)(hf:FlR o f):f≠.qab:=by
 cases ho:qa7 o with
 |true=>rw [hf.own ho];simp
 |false =>
  rcases qjn.1 ho with rfl|rfl|rfl
  ·simp [sure]at h
  ·rw [hf.2 rfl];simp
  ·simp [sure]at h
theorem qt0{l:List V}(h:∀x∈l,x.loose=false):looseL l=false:=by
 induction l with
 |nil=>rfl
 |cons a l ih =>
  simp only [looseL,Bool.or_eq_false_iff];exact ⟨h a (by simp),ih λx hx=>h x (by simp [hx])⟩
theorem qfH:∀(τ:Ty) (o:Nat) (x:τ.den) (v:V),sure o τ.depth=true->RTy τ o x v->v.soft=false/\v.loose=false
 |.int _,_,_,v,_,h=>by simp only [RTy]at h;subst h;exact ⟨rfl,rfl⟩
 |.bool,_,_,v,_,h=>by simp only [RTy]at h;subst h;exact ⟨rfl,rfl⟩
 |.str,_,_,v,_,h=>by simp only [RTy]at h;subst h;exact ⟨rfl,rfl⟩
 |.flt,_,_,v,_,h=>by simp only [RTy]at h;obtain ⟨b9,rfl,h9⟩:=h;exact ⟨rfl,rfl⟩
 |.cx,_,_,v,_,h=>by simp only [RTy]at h;obtain ⟨a9,b9,rfl,h8,h9⟩:=h;exact ⟨rfl,rfl⟩
 |.err,_,_,v,_,h=>by simp only [RTy]at h;rcases h with ⟨_,rfl⟩|⟨_,t9,rfl⟩<;>exact ⟨rfl,rfl⟩
 |.mset _,_,_,v,_,h=>by simp only [RTy]at h;obtain ⟨h8,rfl⟩:=h;exact ⟨rfl,rfl⟩
 |.sl t,o,l,v,hf,h=>by
  simp only [RTy]at h;obtain ⟨f,c,l',rfl,ho,h⟩:=h;simp only [Ty.depth]at hf;have hnd:=qp5 hf ho;have hall:∀b∈l',b.soft=false/\b.loose=false:=λb hb=>by
   obtain ⟨a,_,hr⟩:=qeR h b hb;exact qfH t _ a b (qyk hf) hr
  simp only [V.soft,V.loose,Bool.or_eq_false_iff,decide_eq_false_iff_not,Bool.and_eq_false_iff];exact ⟨⟨.inl hnd,qup λb hb=>(hall b hb).1⟩,hnd,qt0 λb hb=>(hall b hb).2⟩
 |.nsl t,o,l,v,hf,h=>by
  simp only [RTy]at h;rcases h with ⟨_,rfl⟩|⟨_,f,c,l',rfl,ho,h⟩
  ·exact ⟨rfl,rfl⟩
  simp only [Ty.depth]at hf;have hnd:=qp5 hf ho;have hall:∀b∈l',b.soft=false/\b.loose=false:=λb hb=>by
   obtain ⟨a,_,hr⟩:=qeR h b hb;exact qfH t _ a b (qyk hf) hr
  simp only [V.soft,V.loose,Bool.or_eq_false_iff,decide_eq_false_iff_not,Bool.and_eq_false_iff];exact ⟨⟨.inl hnd,qup λb hb=>(hall b hb).1⟩,hnd,qt0 λb hb=>(hall b hb).2⟩
 |.unit,_,_,v,_,h=>by simp only [RTy]at h;subst h;exact ⟨rfl,rfl⟩
 |.pair a b,o,x,v,hf,h=>by
  simp only [RTy]at h;obtain ⟨v1,l,rfl,h1,h2⟩:=h;simp only [Ty.depth]at hf;have e1:=qfH a o _ _ (qyj hf (by omega)) h1;have e2:=qfH b o _ _ (qyj hf (by omega)) h2;simp only [V.soft,softL,V.loose,looseL,Bool.or_eq_false_iff]at e2 ⊢;exact ⟨⟨e1.1,e2.1⟩,e1.2,e2.2⟩
mutual
theorem RV.firm:∀(x:TV) (v:V),x.firm=true->RV x v->v.soft=false
 |.any rs,v,hf,h=>by simp [TV.firm]at hf
 |.t τ o x,v,hf,h=>by simp only [TV.firm]at hf;simp only [RV]at h;exact (qfH τ o x v hf h).1
 |.clp τ x,v,hf,h=>by simp [TV.firm]at hf
 |.room a s,v,hf,h=>by simp [TV.firm]at hf
 |.empty own,v,hf,h=>by simp only [RV]at h;obtain ⟨f,c,rfl,_⟩:=h;simp [V.soft,softL]
 |.val u,v,hf,h=>by simp only [RV]at h;subst h;rfl
 |.agg l,v,hf,h=>by simp only [RV]at h;obtain ⟨l',rfl,h⟩:=h;simp only [TV.firm]at hf;simp only [V.soft];exact RVL.firm l l' hf h
 |.tuple l,v,hf,h=>by simp only [RV]at h;obtain ⟨l',rfl,h⟩:=h;simp only [TV.firm]at hf;simp only [V.soft];exact RVL.firm l l' hf h
 |.fn g a b,v,hf,h=>by
  simp only [RV]at h;obtain ⟨a',b',rfl,h1,h2⟩:=h;simp only [TV.firm,qe]at hf;simp only [V.soft,Bool.or_eq_false_iff];exact ⟨RVL.firm a a' hf.1 h1,RVL.firm b b' hf.2 h2⟩
 |.ptr q o,v,hf,h=>by simp only [RV]at h;subst h;rfl
 |.mref q,v,hf,h=>by simp only [RV]at h;subst h;rfl
 |.bsl q _ _,v,hf,h=>by simp only [RV]at h;subst h;rfl
 |.yld q,v,hf,h=>by simp only [RV]at h;subst h;rfl
 |.lp ..,v,hf,h=>by simp only [RV]at h
 |.cptr s l,v,hf,h=>by
  simp only [TV.firm,qe]at hf;simp only [RV]at h;obtain ⟨f,l',rfl,_,hsh,h⟩:=h;have:=hsh hf.1;subst this;simp only [V.soft,RVL.firm l l' hf.2 h]<;>rfl
 |.iface t x,v,hf,h=>by simp only [RV]at h;obtain ⟨y,rfl,h⟩:=h;simp only [TV.firm]at hf;simp only [V.soft];exact RV.firm x y hf h
theorem RVL.firm:∀(l:List TV) (l':List V),firmL l=true->RVL l l'->softL l'=false
 |[],l',hf,h=>by simp only [RVL]at h;subst h;rfl
 |x::l,l',hf,h=>by
  simp only [RVL]at h;obtain ⟨v,m,rfl,h1,h2⟩:=h;simp only [firmL,qe]at hf;simp only [softL,Bool.or_eq_false_iff];exact ⟨RV.firm x v hf.1 h1,RVL.firm l m hf.2 h2⟩
end
mutual
theorem RV.tight:∀(x:TV) (v:V),x.tight=true->RV x v->v.loose=false
 |.any rs,v,hf,h=>by simp [TV.tight]at hf
 |.t τ o x,v,hf,h=>by simp only [TV.tight]at hf;simp only [RV]at h;exact (qfH τ o x v hf h).2
 |.clp τ x,v,hf,h=>by simp [TV.tight]at hf
 |.room a s,v,hf,h=>by simp [TV.tight]at hf
 |.empty o,v,hf,h=>by simp only [TV.tight]at hf;simp only [RV]at h;obtain ⟨f,c,rfl,h0⟩:=h;simp [V.loose,looseL,qp5 hf h0]
 |.val u,v,hf,h=>by simp only [RV]at h;subst h;rfl
 |.agg l,v,hf,h=>by simp only [RV]at h;obtain ⟨l',rfl,h⟩:=h;simp only [TV.tight]at hf;simp only [V.loose];exact RVL.tight l l' hf h
 |.tuple l,v,hf,h=>by simp only [RV]at h;obtain ⟨l',rfl,h⟩:=h;simp only [TV.tight]at hf;simp only [V.loose];exact RVL.tight l l' hf h
 |.fn g a b,v,hf,h=>by
  simp only [RV]at h;obtain ⟨a',b',rfl,h1,h2⟩:=h;simp only [TV.tight,qe]at hf;simp only [V.loose,Bool.or_eq_false_iff];exact ⟨RVL.tight a a' hf.1 h1,RVL.tight b b' hf.2 h2⟩
 |.ptr q o,v,hf,h=>by simp only [RV]at h;subst h;rfl
 |.mref q,v,hf,h=>by simp only [RV]at h;subst h;rfl
 |.bsl q _ _,v,hf,h=>by simp only [RV]at h;subst h;rfl
 |.yld q,v,hf,h=>by simp only [RV]at h;subst h;rfl
 |.lp ..,v,hf,h=>by simp only [RV]at h
 |.cptr s l,v,hf,h=>by
  simp only [TV.tight,qe]at hf;simp only [RV]at h;obtain ⟨f,l',rfl,_,hsh,h⟩:=h;have:=hsh hf.1;subst this;simp only [V.loose,RVL.tight l l' hf.2 h]<;>rfl
 |.iface t x,v,hf,h=>by simp only [RV]at h;obtain ⟨y,rfl,h⟩:=h;simp only [TV.tight]at hf;simp only [V.loose];exact RV.tight x y hf h
theorem RVL.tight:∀(l:List TV) (l':List V),tightL l=true->RVL l l'->looseL l'=false
 |[],l',hf,h=>by simp only [RVL]at h;subst h;rfl
 |x::l,l',hf,h=>by
  simp only [RVL]at h;obtain ⟨v,m,rfl,h1,h2⟩:=h;simp only [tightL,qe]at hf;simp only [looseL,Bool.or_eq_false_iff];exact ⟨RV.tight x v hf.1 h1,RVL.tight l m hf.2 h2⟩
end
theorem qpX{bx:Root->Option (List V)}:∀(τ:Ty) (o:Nat) (x:τ.den) (v:V),τ.isSet=false->RTy τ o x v->peekV bx v=some (v.reflag qJ)
 |.int _,o,x,v,hns,h=>by simp only [RTy]at h;subst h;rfl
 |.bool,o,x,v,hns,h=>by simp only [RTy]at h;subst h;rfl
 |.str,o,x,v,hns,h=>by simp only [RTy]at h;subst h;rfl
 |.flt,o,x,v,hns,h=>by simp only [RTy]at h;obtain ⟨b9,rfl,h9⟩:=h;rfl
 |.cx,o,x,v,hns,h=>by simp only [RTy]at h;obtain ⟨a9,b9,rfl,h8,h9⟩:=h;rfl
 |.err,o,x,v,hns,h=>by simp only [RTy]at h;rcases h with ⟨_,rfl⟩|⟨_,t9,rfl⟩<;>rfl
 |.mset _,o,x,v,hns,h=>by simp [Ty.isSet]at hns
 |.sl _,o,x,v,hns,h=>by simp only [RTy]at h;obtain ⟨f,c,l',rfl,_⟩:=h;rfl
 |.nsl _,o,x,v,hns,h=>by simp only [RTy]at h;rcases h with ⟨_,rfl⟩|⟨_,f,c,l',rfl,_⟩<;>rfl
 |.unit,o,x,v,hns,h=>by simp only [RTy]at h;subst h;rfl
 |.pair a b,o,x,v,hns,h=>by
  simp only [RTy]at h;simp only [Ty.isSet,Bool.or_eq_false_iff]at hns;obtain ⟨v1,l,rfl,h1,h2⟩:=h;have e1:=qpX (bx:=bx) a o x.1 v1 hns.1 h1;have e2:=qpX (bx:=bx) b o x.2 _ hns.2 h2;simp only [peekV,V.reflag]at e2 ⊢;obtain ⟨m,hm,he⟩:=qc.1 e2;simp only [V.agg.injEq]at he;subst he;simp only [peekL,e1,hm,reflagL,qi]
theorem qqw{k:IntKind}:∀{l:List TV} {xs:List Int} {l':List V},qqv k l=some xs->RVL l l'->l'=xs.map λx=>V.val (.int k x)
 |[],xs,l',h,hr=>by
  simp only [qqv,qb]at h;subst h;simp only [RVL]at hr;rw [hr]<;>rfl
 |.t (.int k') o x::l,xs,l',h,hr=>by
  simp only [qqv]at h;split at h
  ·rename_i hk;obtain ⟨m,hm,rfl⟩:=qc.1 h;simp only [RVL]at hr;obtain ⟨v,vs,rfl,h1,h2⟩:=hr;simp only [RV,RTy]at h1;rw [h1,qqw hm h2,hk];rfl
  ·cases h
theorem quX{k:IntKind}(xs:List Int):reflagL qJ (xs.map λx=>V.val (.int k x))=(xs.map λx=>V.val (.int k x))/\(xs.map λx=>V.val (.int k x)).all V.one=true/\ptrsL (xs.map λx=>V.val (.int k x))=[]:=by
 induction xs with
 |nil=>exact ⟨rfl,rfl,rfl⟩
 |cons x xs ih=>simp only [qh,reflagL,V.reflag,List.all_cons,ptrsL,V.qp,ih.1,ih.2.1,ih.2.2];exact ⟨trivial,by simp [V.one],rfl⟩
theorem qqr{k:IntKind}{o:Nat}:∀(xs:List Int),All2 (RTy (.int k) o) xs (xs.map λx=>V.val (.int k x))
 |[]=>.nil
 |x::xs=>.cons (by simp only [RTy]) (qqr xs)
mutual
theorem peekTV_ok{bt:Root->Option (List TV)}{bx:Root->Option (List V)}(hb:∀r c,bt r=some c->∃c',bx r=some c'/\RVL c c'/\(r.slot<16384->qf0 c'=false)):∀(x y:TV) (v:V),peekTV bt x=some y->RV x v->∃u,peekV bx v=some u/\RV y u
 |.any _,y,v,h,hr=>by simp [peekTV]at h
 |.val w,y,v,h,hr=>by
  simp only [peekTV,qb]at h;subst h;simp only [RV]at hr;subst hr;exact ⟨.val w,rfl,by simp [RV]⟩
 |.t τ o x,y,v,h,hr=>by
  simp only [peekTV]at h;cases hs:τ.isSet with
  |true=>rw [hs]at h;cases h
  |false =>
   rw [hs]at h;simp only [cond_false,qb]at h;subst h;simp only [RV]at hr;exact ⟨_,qpX τ o x v hs hr,by simp only [RV];exact qeH τ o x v hr⟩
 |.mref _,y,v,h,hr=>by simp [peekTV]at h
 |.yld _,y,v,h,hr=>by simp [peekTV]at h
 |.lp ..,y,v,h,hr=>by simp [peekTV]at h
 |.bsl r off n,y,v,h,hr=>by
  simp only [peekTV]at h;split at h
  ·rename_i c hc;split at h
   ·rename_i hle;obtain ⟨xs,hxs,rfl⟩:=qc.1 h;simp only [RV]at hr;subst hr;obtain ⟨c',hc',hrc,hmp⟩:=hb r c hc;have hl:=qqw hxs ((hrc.drop off).take n);obtain ⟨e1,e2,e3⟩:=quX (k:=.i64) xs;refine ⟨.sl .shared false (reflagL qJ ((c'.drop off).take n)),?_,?_⟩
    ·simp only [peekV,hc'];rw [if_pos ⟨qdk (qaF hrc) (hmp hle.2),by rw [hrc.length];exact hle.1,by rw [hl,e1];exact e2,by rw [hl];exact e3⟩]
    ·simp only [RV,RTy];refine ⟨.shared,false,_,rfl,⟨λ_=>by simp [qa7],λ_=>rfl⟩,?_⟩;rw [hl,e1];exact qqr (o:=0) xs
   ·cases h
  ·cases h
 |.clp τ x,y,v,h,hr=>by
  simp only [peekTV,qb]at h;subst h;have h2:=RV.share (.clp τ x) v hr;simp only [RV]at hr;obtain ⟨f,l',rfl,_,_⟩:=hr;exact ⟨_,rfl,h2⟩
 |.room a s,y,v,h,hr=>by simp [peekTV]at h
 |.empty o,y,v,h,hr=>by
  simp only [peekTV,qb]at h;subst h;have h2:=RV.share (.empty o) v hr;simp only [RV]at hr;obtain ⟨f,c,rfl,_⟩:=hr;exact ⟨_,rfl,h2⟩
 |.agg l,y,v,h,hr=>by
  simp only [peekTV]at h;obtain ⟨m,hm,rfl⟩:=qc.1 h;simp only [RV]at hr;obtain ⟨l',rfl,hl⟩:=hr;obtain ⟨u,hu,hru⟩:=peekTL_ok hb l m l' hm hl;exact ⟨.agg u,by simp only [peekV,hu,qi],by simp only [RV];exact ⟨u,rfl,hru⟩⟩
 |.tuple l,y,v,h,hr=>by
  simp only [peekTV]at h;obtain ⟨m,hm,rfl⟩:=qc.1 h;simp only [RV]at hr;obtain ⟨l',rfl,hl⟩:=hr;obtain ⟨u,hu,hru⟩:=peekTL_ok hb l m l' hm hl;exact ⟨.tuple u,by simp only [peekV,hu,qi],by simp only [RV];exact ⟨u,rfl,hru⟩⟩
 |.fn g a b,y,v,h,hr=>by
  simp only [peekTV]at h;split at h
  ·rename_i p q hp hq;simp only [qb]at h;subst h;simp only [RV]at hr;obtain ⟨a',b',rfl,h1,h2⟩:=hr;obtain ⟨u,hu,hru⟩:=peekTL_ok hb a p a' hp h1;obtain ⟨w,hw,hrw⟩:=peekTL_ok hb b q b' hq h2;exact ⟨.fn g u w,by simp only [peekV,hu,hw],by simp only [RV];exact ⟨u,w,rfl,hru,hrw⟩⟩
  ·cases h
 |.ptr r off,y,v,h,hr=>by
  simp only [peekTV]at h;split at h
  ·rename_i c hc;split at h
   ·rename_i hle;simp only [qb]at h;subst h;simp only [RV]at hr;subst hr;obtain ⟨c',hc',hrc,hmp⟩:=hb r c hc;refine ⟨.cptr .shared (reflagL qJ (c'.drop off)),?_,?_⟩
    ·simp only [peekV,hc'];rw [if_pos ⟨qdk (qaF hrc) (hmp hle.2),by rw [hrc.length];exact hle.1⟩]
    ·simp only [RV];exact ⟨.shared,_,rfl,by simp,λ_=>rfl,RVL.share _ _ (hrc.drop off)⟩
   ·cases h
  ·cases h
 |.cptr _ cs,y,v,h,hr=>by
  simp only [peekTV,qb]at h;subst h;simp only [RV]at hr;obtain ⟨f,l',rfl,_,_,hl⟩:=hr;refine ⟨.cptr .shared (reflagL qJ l'),rfl,?_⟩;simp only [RV];exact ⟨.shared,_,rfl,by simp,λ_=>rfl,RVL.share _ _ hl⟩
 |.iface t x,y,v,h,hr=>by
  simp only [peekTV]at h;obtain ⟨m,hm,rfl⟩:=qc.1 h;simp only [RV]at hr;obtain ⟨l',rfl,hl⟩:=hr;obtain ⟨u,hu,hru⟩:=peekTV_ok hb x m l' hm hl;exact ⟨.iface t u,by simp only [peekV,hu,qi],by simp only [RV];exact ⟨u,rfl,hru⟩⟩
theorem peekTL_ok{bt:Root->Option (List TV)}{bx:Root->Option (List V)}(hb:∀r c,bt r=some c->∃c',bx r=some c'/\RVL c c'/\(r.slot<16384->qf0 c'=false)):∀(l m:List TV) (l':List V),peekTL bt l=some m->RVL l l'->∃u,peekL bx l'=some u/\RVL m u
 |[],m,l',h,hr=>by
  simp only [peekTL,qb]at h;subst h;simp only [RVL]at hr;subst hr;exact ⟨[],rfl,qaa⟩
 |x::l,m,l',h,hr=>by
  simp only [peekTL]at h;split at h
  ·rename_i p q hp hq;simp only [qb]at h;subst h;simp only [RVL]at hr;obtain ⟨v,vs,rfl,h1,h2⟩:=hr;obtain ⟨u,hu,hru⟩:=peekTV_ok hb x p v hp h1;obtain ⟨w,hw,hrw⟩:=peekTL_ok hb l q vs hq h2;exact ⟨u::w,by simp only [peekL,hu,hw],qv.2 ⟨hru,hrw⟩⟩
  ·cases h
end
theorem qzo{l:List V}(h:∀x∈l,x.qcq=true):mineL l=true:=by
 induction l with
 |nil=>rfl
 |cons x l ih=>simp only [mineL,qe];exact ⟨h x (by simp),ih λy hy=>h y (by simp [hy])⟩
theorem qlM:∀(τ:Ty) (o:Nat) (x:τ.den) (v:V),qqf τ o=true->RTy τ o x v->v.qcq=true
 |.int _,o,x,v,hm,h=>by simp only [RTy]at h;subst h;rfl
 |.bool,o,x,v,hm,h=>by simp only [RTy]at h;subst h;rfl
 |.str,o,x,v,hm,h=>by simp only [RTy]at h;subst h;rfl
 |.flt,o,x,v,hm,h=>by simp only [RTy]at h;obtain ⟨b9,rfl,h9⟩:=h;rfl
 |.cx,o,x,v,hm,h=>by simp only [RTy]at h;obtain ⟨a9,b9,rfl,h8,h9⟩:=h;rfl
 |.err,o,x,v,hm,h=>by simp only [RTy]at h;rcases h with ⟨_,rfl⟩|⟨_,t9,rfl⟩<;>rfl
 |.nsl _,o,x,v,hm,h=>by simp [qqf]at hm
 |.mset _,o,x,v,hm,h=>by simp [qqf]at hm
 |.sl t,o,x,v,hm,h=>by
  simp only [qqf,qe]at hm;simp only [RTy]at h;obtain ⟨f,c,l',rfl,hf,hall⟩:=h;simp only [V.qcq,qe,decide_eq_true_eq];refine ⟨hf.own hm.1,qzo λy hy=>?_⟩;obtain ⟨a,_,ha⟩:=qeR hall y hy;exact qlM t _ a y hm.2 ha
 |.unit,o,x,v,hm,h=>by simp only [RTy]at h;subst h;rfl
 |.pair a b,o,x,v,hm,h=>by
  simp only [qqf,qe]at hm;simp only [RTy]at h;obtain ⟨v1,l,rfl,h1,h2⟩:=h;have e1:=qlM a o x.1 v1 hm.1 h1;have e2:=qlM b o x.2 _ hm.2 h2;simp only [V.qcq]at e2 ⊢;simp only [mineL,qe];exact ⟨e1,e2⟩
mutual
theorem RV.qcq:∀(x:TV) (v:V),x.qcq=true->RV x v->v.qcq=true
 |.any _,v,hm,hr=>by simp [TV.qcq]at hm
 |.val w,v,hm,hr=>by simp only [RV]at hr;subst hr;rfl
 |.t τ o x,v,hm,hr=>by simp only [RV]at hr;exact qlM τ o x v (by simpa only [TV.qcq]using hm) hr
 |.clp τ x,v,hm,hr=>by simp [TV.qcq]at hm
 |.room a s,v,hm,hr=>by simp [TV.qcq]at hm
 |.empty o,v,hm,hr=>by
  simp only [TV.qcq]at hm;simp only [RV]at hr;obtain ⟨f,c,rfl,hf⟩:=hr;simp only [V.qcq,qe,decide_eq_true_eq];exact ⟨hf.own hm,rfl⟩
 |.agg l,v,hm,hr=>by
  simp only [TV.qcq]at hm;simp only [RV]at hr;obtain ⟨l',rfl,hl⟩:=hr;simp only [V.qcq];exact RVL.qcq l l' hm hl
 |.tuple l,v,hm,hr=>by
  simp only [TV.qcq]at hm;simp only [RV]at hr;obtain ⟨l',rfl,hl⟩:=hr;simp only [V.qcq];exact RVL.qcq l l' hm hl
 |.fn g a b,v,hm,hr=>by
  simp only [TV.qcq,qe]at hm;simp only [RV]at hr;obtain ⟨a',b',rfl,h1,h2⟩:=hr;simp only [V.qcq,qe];exact ⟨RVL.qcq a a' hm.1 h1,RVL.qcq b b' hm.2 h2⟩
 |.ptr ..,v,hm,hr=>by simp [TV.qcq]at hm
 |.mref _,v,hm,hr=>by simp [TV.qcq]at hm
 |.bsl ..,v,hm,hr=>by simp [TV.qcq]at hm
 |.yld _,v,hm,hr=>by simp [TV.qcq]at hm
 |.lp ..,v,hm,hr=>by simp [TV.qcq]at hm
 |.cptr ..,v,hm,hr=>by simp [TV.qcq]at hm
 |.iface t x,v,hm,hr=>by
  simp only [TV.qcq]at hm;simp only [RV]at hr;obtain ⟨y,rfl,hy⟩:=hr;simp only [V.qcq];exact RV.qcq x y hm hy
theorem RVL.qcq:∀(l:List TV) (l':List V),mineTL l=true->RVL l l'->mineL l'=true
 |[],l',hm,hr=>by simp only [RVL]at hr;subst hr;rfl
 |x::l,l',hm,hr=>by
  simp only [mineTL,qe]at hm;simp only [RVL]at hr;obtain ⟨v,m,rfl,h1,h2⟩:=hr;simp only [mineL,qe];exact ⟨RV.qcq x v hm.1 h1,RVL.qcq l m hm.2 h2⟩
end
end
section
variable {P:Program} {H:Hints} {f:FuncId}
theorem quJ(p:Bool)(u:Value):RVL (qle p u).cells (qcu p u).cells:=by
 have h:=qpY p u;have h1:(qle p u).cells=[qle p u]:=by unfold qle;split<;>(try split)<;>rfl
 have h2:(qcu p u).cells=[qcu p u]:=by unfold qcu qd9;split<;>(try split)<;>rfl
 rw [h1,h2];exact qv.2 ⟨h,qaa⟩
theorem qsm(p:Bool)(u:Value):RVL (ql2 p u).cells (ofConst p u).cells:=by
 have key:=quJ p u;cases u<;>first|exact key|exact qta (qpY p) _
theorem qhS{t:TypeId}{z:TV}(h:qr9 P H f t=some z):∃z',zeroOf P H f t=some z'/\RV z z'/\RVL z.cells z'.cells:=by
 unfold qr9 at h;obtain ⟨u,hu,rfl⟩:=qc.1 h;exact ⟨ofConst (H.precise f) u,by unfold zeroOf;rw [hu];rfl,quj _ _,qsm _ _⟩
theorem qjS{cs vs:List TV}{cs' vs':List V}{off:Nat}(h:RVL cs cs')(hv:RVL vs vs'):RVL (qkD cs off vs) (qN cs' off vs'):=by
 unfold qkD qN;rw [hv.length];exact ((h.take off).append hv).append (h.drop _)
theorem qlA(place:Nat->Option (Nat×Nat)):∀(is:List Nat) (xs:List TV) (ys:List V) (cs r:List TV) (cs':List V),RVL xs ys->RVL cs cs'->qqR place cs (is.zip xs)=some r ->
  ∃r',qgF place cs' (is.zip ys)=some r'/\RVL r r'
 |[],xs,ys,cs,r,cs',hx,hc,h=>by simp only [List.zip_nil_left,qqR,qb]at h;subst h;exact ⟨cs',by simp [qgF],hc⟩
 |i::is,[],ys,cs,r,cs',hx,hc,h=>by
  simp only [RVL]at hx;subst hx;simp only [List.zip_nil_right,qqR,qb]at h;subst h;exact ⟨cs',by simp [qgF],hc⟩
 |i::is,x::xs,ys,cs,r,cs',hx,hc,h=>by
  simp only [RVL]at hx;obtain ⟨v,m,rfl,h1,h2⟩:=hx;simp only [List.zip_cons_cons,qqR]at h;simp only [List.zip_cons_cons,qgF];split at h
  ·cases h
  ·rename_i off size hp;rw [hp];simp only
   split at h
   ·cases h
   ·rename_i hn;simp only [not_or,Decidable.not_not,Bool.not_eq_false]at hn;obtain ⟨hl,ho,hk⟩:=hn;obtain ⟨hcells,hko⟩:=RV.cells hk h1;rw [if_neg]
    ·exact qlA place is xs m _ r _ h2 (qjS hc hcells) h
    ·rw [hcells.length,hc.length,hko];simp only [not_or,Decidable.not_not,Bool.not_eq_false];exact ⟨hl,ho,trivial⟩
theorem qyr{t:TypeId}{is:List Nat}{xs:List TV}{ys:List V}{x:TV}(hx:RVL xs ys)(h:qyq P H f t (is.zip xs)=some x) :
  ∃v,qoU P H f t (is.zip ys)=some v/\RV x v:=by
 unfold qyq at h;unfold qoU;split at h
 ·rename_i z fields hz hu;obtain ⟨z',hz',_,hcz⟩:=qhS hz;split at h
  ·rename_i places hpl;obtain ⟨l,hl,rfl⟩:=qc.1 h;obtain ⟨l',hl',hr⟩:=qlA _ _ _ _ _ _ _ hx hcz hl;refine ⟨.agg l',?_,by simp only [RV];exact ⟨l',rfl,hr⟩⟩;rw [hz',hu];simp only [hpl,hl',qi]
  ·cases h
 ·rename_i z n elem hz hu;obtain ⟨z',hz',_,hcz⟩:=qhS hz;split at h
  ·rename_i ie hie;obtain ⟨l,hl,rfl⟩:=qc.1 h;obtain ⟨l',hl',hr⟩:=qlA _ _ _ _ _ _ _ hx hcz hl;refine ⟨.agg l',?_,by simp only [RV];exact ⟨l',rfl,hr⟩⟩;rw [hz',hu];simp only [hie,hl',qi]
  ·cases h
 ·cases h
theorem qtF{agg:Bool}{s:Nat}:∀(n:Nat) {cs:List TV} {cs':List V},RVL cs cs'->RVL (qkU agg s n cs) (chunk agg s n cs')
 |0,_,_,_=>by simp [qkU,chunk,RVL]
 |n+1,cs,cs',h=>by
  simp only [qkU,chunk];refine qv.2 ⟨?_,qtF n (h.drop s)⟩;cases agg with
  |true=>simp only [if_true,RV];exact ⟨_,rfl,h.take s⟩
  |false =>
   simp only [qf,if_false];cases cs with
   |nil=>simp only [RVL]at h;subst h;exact qcj []
   |cons y cs=>simp only [RVL]at h;obtain ⟨v,m,rfl,h1,_⟩:=h;exact h1
theorem qnT{t:TypeId}{len:Nat}{is:List Nat}{xs:List TV}{ys:List V}{x:TV}(hx:RVL xs ys)(h:qiR P H f t len (is.zip xs)=some x) :
  ∃v,qds P H f t len (is.zip ys)=some v/\RV x v:=by
 unfold qiR at h;unfold qds;split at h
 ·rename_i elem hu;rw [hu];simp only;split at h
  ·rename_i ie z τ hie hz hτ;obtain ⟨z',hz',_,hcz⟩:=qhS hz;rw [hie,hz'];simp only;split at h
   ·cases h
   ·rename_i hn;simp only [not_or]at hn;rw [if_neg (by rw [hcz.length];simp only [not_or];exact ⟨hn.1,hn.2.1,hn.2.2.1,hn.2.2.2.1⟩)];split at h
    ·rename_i cs hcs;obtain ⟨cs',hcs',hr⟩:=qlA _ _ _ _ _ _ _ hx (RVL.flatten hcz) hcs;rw [hcs'];simp only;split at h
     ·rename_i hc;simp only [qe,List.isEmpty_iff]at hc;obtain ⟨hc,hup⟩:=hc;obtain ⟨hup1,hup2⟩:=qzr hup;obtain ⟨l,hl,rfl⟩:=qc.1 h;have hp:ptrsL cs'=[]:=by
       apply List.eq_nil_iff_forall_not_mem.2;intro r hrr;have:=RVL.qp cs cs' hr r hrr;rw [hc.2]at this;cases this
      rw [if_pos ⟨RVL.qDc hc.1 hr,by rw [hp];rfl⟩];refine ⟨_,rfl,?_⟩;simp only [RV,RTy];exact ⟨.own,false,_,rfl,qeu hup,by rw [hup1];exact qtB _ _ _ hl (qtF _ hr)⟩
     ·cases h
    ·cases h
  ·cases h
 ·cases h
theorem qdp{t:TypeId}{cs:List TV}{cs':List V}{x:TV}(h:qa3 P t cs=some x)(hc:RVL cs cs'):∃v,qad P t cs'=some v/\RV x v:=by
 unfold qa3 at h;unfold qad;split at h
 ·cases h
 ·rename_i d hd;rw [hd];simp only;split at h
  ·rename_i ha;rw [if_pos ha];split at h
   ·rename_i hl;cases h;rw [if_pos (by rw [hc.length];exact hl)];exact ⟨_,rfl,by simp only [RV];exact ⟨_,rfl,hc.take _⟩⟩
   ·cases h
  ·rename_i ha;rw [if_neg ha];obtain ⟨v,hv,hr⟩:=RVL.head hc h;exact ⟨v,hv,hr⟩
theorem qyt{t:TypeId}{x y:TV}{v:V}{fd:Nat}(h:qys P t x fd=some y)(hx:RV x v):∃u,qoV P t v fd=some u/\RV y u:=by
 unfold qys at h;split at h
 ·rename_i fields cs hu;simp only [RV]at hx;obtain ⟨cs',rfl,hc⟩:=hx;unfold qoV;rw [hu];simp only;split at h
  ·rename_i d hd;rw [hd];simp only;exact qdp h (hc.drop _)
  ·cases h
 ·cases h
theorem qqb{t:TypeId}{x y:TV}{v:V}{fd:Nat}(h:qkI P t x fd=some y)(hx:RV x v):∃u,qcm P t v fd=some u/\RV y u:=by
 unfold qkI at h;unfold qcm;split at h
 ·rename_i fields hu;rw [hu];simp only;split at h
  ·rename_i d hd;rw [hd];simp only;split at h
   ·cases h
   ·rename_i h0;rw [if_neg h0];split at h
    ·rename_i r off;cases h;simp only [RV]at hx;subst hx;exact ⟨_,rfl,by simp [RV]⟩
    ·rename_i sh cs;simp only [RV]at hx;obtain ⟨f',cs',rfl,hf0,hsh,hc⟩:=hx;split at h
     ·rename_i hl;cases h;simp only
      rw [if_pos (by rw [hc.length];exact hl)];exact ⟨_,rfl,by simp only [RV];exact ⟨_,_,rfl,hf0,hsh,hc.drop _⟩⟩
     ·cases h
    ·cases h
  ·cases h
 ·cases h
theorem qjX{R:Type}{i:Int}{k:Nat->Option R}{r:R}:∀{n j:Nat},qBG R i k n j=some r->∃m,j<=m/\m<j+n/\i=(m:Int)/\k m=some r
 |0,j,h=>by simp [qBG]at h
 |n+1,j,h=>by
  simp only [qBG]at h;cases hd:decide (i=(j:Int))with
  |true=>rw [hd]at h;exact ⟨j,Nat.le_refl _,by omega,of_decide_eq_true hd,h⟩
  |false =>
   rw [hd]at h;obtain ⟨m,h1,h2,h3,h4⟩:=qjX (n:=n) (j:=j+1) h;exact ⟨m,by omega,by omega,h3,h4⟩
theorem qnv{x:TV}{n:Int}{v:V}(h:qvL x=some n)(hx:RV x v):∃k,v=.val (.int k n):=by
 unfold qvL at h;split at h
 ·rename_i k o m;cases h;simp only [RV,RTy]at hx;exact ⟨k,hx⟩
 ·cases h
theorem qfB{k:IntKind}{n:Int}(h:0<=n):qjD (.val (.int k n))=some n.toNat:=by simp [qjD,h]
theorem qp3{α:Type}{l r:List α}{a b:Int}(h:slc l a b=some r):0<=a/\a<=b/\b<=l.length/\r=(l.take b.toNat).drop a.toNat:=by
 unfold slc at h;split at h
 ·rename_i hc;cases h;exact ⟨hc.1,hc.2.1,hc.2.2,rfl⟩
 ·cases h
theorem qlD{α:Type}{l:List α}{n:Int}{e:α}(h:idx l n=some e):0<=n/\l[n.toNat]?=some e:=by
 unfold idx at h;split at h
 ·rename_i hc;exact ⟨hc,h⟩
 ·cases h
theorem qeU{α:Type}{l l2 r:List α}(h:app l l2=some r):l.length+l2.length<=4294967296/\r=l++l2:=by
 unfold app at h;split at h
 ·rename_i hc;cases h;exact ⟨hc,rfl⟩
 ·cases h
theorem qzp{α:Type}{z:α}{n:Int}{r:List α}(h:mkS z n=some r):0<=n/\n<=4294967296/\r=List.replicate n.toNat z:=by
 unfold mkS at h;split at h
 ·rename_i hc;cases h;exact ⟨hc.1,hc.2,rfl⟩
 ·cases h
theorem qdc{τ:Ty}(he:τ.qbR=true){o:Nat}{l:List τ.den}{l':List V}(h:All2 (RTy τ o) l l'):∀e∈l',e.cells.length=τ.qbl/\e.oks=true/\e.qp=[]:=λe he'=>by
 obtain ⟨a,_,hr⟩:=qeR h e he';obtain ⟨h1,h2⟩:=qkA he hr;exact ⟨h1,h2,qbM _ _ _ _ hr⟩
theorem qv8{τ:Ty}{o:Nat}{l:List τ.den}{l':List V}(h:All2 (RTy τ o) l l'):ptrsL l'=[]:=by
 apply List.eq_nil_iff_forall_not_mem.2;intro r hr;obtain ⟨v,hv,hrv⟩:=qmZ.1 hr;obtain ⟨a,_,h2⟩:=qeR h v hv;rw [qbM _ _ _ _ h2]at hrv;cases hrv
theorem qef{v:V}(h:v.qp=[]):ptrsL v.cells=[]:=by
 cases v<;>first|exact h|(simp only [V.cells,ptrsL,List.append_nil];exact h)
theorem qh9{τ:Ty}{elem:TypeId}{o:Nat}{l:List τ.den}{l':List V}{n:Int}{e:τ.den}{k:IntKind}{t:TypeId}{fl:Fl}{c sh:Bool}(hsh:sh=true->fl=.shared)(hu:P.underlying t=some (.slice elem))(hall:All2 (RTy τ o) l l')(hc:P.cellsOf elem=τ.qbl)(h0:τ.qbl≠0)(he:τ.qbR=true)
  (h:idx l n=some e):∃v,qbi P t (.sl fl c l') (.val (.int k n))=some v/\RV (.cptr sh (ofTy τ (dl o) e).cells) v:=by
 obtain ⟨h1,h2⟩:=qlD h;obtain ⟨b,hb,hr⟩:=hall.get h2;obtain ⟨hl,hk⟩:=qkA he hr;refine ⟨.cptr (qX fl) (reflagL qX b.cells),?_,?_⟩
 ·simp only [qbi,hu];rw [if_pos h1,hb];simp only
  rw [if_pos ⟨by rw [hl,hc],hk,by rw [hc];exact h0,by rw [qef (qbM _ _ _ _ hr)];rfl⟩]
 ·have hd:=qgp qka rfl τ o e b hr;have hcells:=(RV.cells (qpI he (dl o) e) (rv_ofTy τ (dl o) e _ hd)).1;simp only [RV];refine ⟨_,_,rfl,by cases fl<;>simp [qX],λe=>(by rw [hsh e];rfl),?_⟩;have hre:(b.reflag qX).cells=reflagL qX b.cells:=qkT qX b;rw [<- hre];exact hcells
theorem qqc{t:TypeId}{x:TV}{k0:IntKind}{i:Int}{R:Type}{k:TV->Option R}{r:R}{v:V}(h:qkJ P t x i R k=some r)(hx:RV x v) :
  ∃y u,k y=some r/\qbi P t v (.val (.int k0 i))=some u/\RV y u:=by
 unfold qkJ at h;split at h
 ·rename_i len elem q off hu;split at h
  ·cases h
  ·rename_i h0;obtain ⟨m,_,hm,rfl,hk⟩:=qjX h;simp only [RV]at hx;subst hx;refine ⟨_,.ptr q (off+m*P.cellsOf elem),hk,?_,by simp [RV]⟩;simp only [qbi,hu];rw [if_pos ⟨by omega,by omega,h0⟩];simp
 ·rename_i len elem sh cs hu;split at h
  ·cases h
  ·rename_i h0;obtain ⟨m,_,hm,rfl,hk⟩:=qjX h;split at hk
   ·rename_i hl;simp only [RV]at hx;obtain ⟨f',cs',rfl,hf0,hsh,hc⟩:=hx;refine ⟨_,.cptr f' (cs'.drop (m*P.cellsOf elem)),hk,?_,by simp only [RV];exact ⟨_,_,rfl,hf0,hsh,hc.drop _⟩⟩;simp only [qbi,hu];rw [if_pos ⟨by omega,by omega,h0,by rw [hc.length];simpa using hl⟩];simp
   ·cases hk
 ·rename_i elem τ o l hu;split at h
  ·rename_i hc;obtain ⟨e,he,hk⟩:=qd.1 h;simp only [RV,RTy]at hx;obtain ⟨fl,c,l',rfl,hfl,hall⟩:=hx;obtain ⟨u,hu',hr⟩:=qh9 (k:=k0) (fl:=fl) (c:=c) (sh:=decide (o=1000)) (λe=>hfl.2 (of_decide_eq_true e)) hu hall hc.1 hc.2.1 hc.2.2.2 he;exact ⟨_,u,hk,hu',hr⟩
  ·cases h
 ·rename_i elem τ l hu;split at h
  ·rename_i hc;obtain ⟨e,he,hk⟩:=qd.1 h;simp only [RV]at hx;obtain ⟨fl,l',rfl,_,hall⟩:=hx;obtain ⟨u,hu',hr⟩:=qh9 (k:=k0) (fl:=fl) (c:=true) (sh:=false) (λe=>by cases e) hu hall hc.1 hc.2.1 hc.2.2.2 he;exact ⟨_,u,hk,hu',hr⟩
  ·cases h
 ·cases h
theorem qyv{elem t:TypeId}{len:Nat}{cs:List TV}{cs':List V}{k0:IntKind}{i:Int}{R:Type}{k:TV->Option R}{r:R}(hu:P.underlying t=some (.array len elem))(h:qyu P elem len cs i R k=some r)(hc:RVL cs cs') :
  ∃y u,k y=some r/\qnB P t (.agg cs') (.val (.int k0 i))=some u/\RV y u:=by
 unfold qyu at h;split at h
 ·cases h
 ·rename_i h0;obtain ⟨m,_,hm,rfl,hk⟩:=qjX h;split at hk
  ·rename_i v hv;obtain ⟨u,hu',hr⟩:=qdp hv (hc.drop _);refine ⟨_,u,hk,?_,hr⟩;simp only [qnB,hu];rw [if_pos ⟨by omega,by omega,h0⟩];simpa using hu'
  ·cases hk
def RVO:Option TV->Option V->Prop
 |none,none=>True
 |some x,some v=>RV x v
 |_,_=>False
theorem qdx{b:Option V}(h:RVO none b):b=none:=by cases b<;>simp_all [RVO]
theorem qlO{x:TV}{b:Option V}(h:RVO (some x) b):∃v,b=some v/\RV x v:=by
 cases b with
 |none=>simp [RVO]at h
 |some v=>exact ⟨v,rfl,h⟩
theorem qe2{d:Nat}{d0:Int}{lo:Option TV}{lo':Option V}{a:Int}(h:(match lo with|none=>some d0|some v=>qvL v)=some a)(hlo:RVO lo lo')(hd:d0=d)(h0:0<=a):qfh d lo'=some a.toNat:=by
 cases lo with
 |none=>rw [qdx hlo];simp only [qb]at h;subst h;subst hd;simp [qfh]
 |some x =>
  obtain ⟨v,rfl,hr⟩:=qlO hlo;obtain ⟨k,rfl⟩:=qnv h hr;simp [qfh,qfB h0]
theorem qAW{R:Type}{c:Prop}[Decidable c]{x:Option R}{r:R}(h:(bif decide c then x else none)=some r):c/\x=some r:=by
 cases hd:decide c with
 |true=>rw [hd]at h;exact ⟨of_decide_eq_true hd,h⟩
 |false=>rw [hd]at h;cases h
theorem qyA{t:TypeId}{x:TV}{v:V}{lo hi mx:Option TV}{lo' hi' mx':Option V}{R:Type}{k:TV->Option R}{r:R}(hx:RV x v)(hlo:RVO lo lo')(hhi:RVO hi hi')(hmx:RVO mx mx')
  (h:qyz P t x lo hi mx R k=some r):∃y u,k y=some r/\qdO P t v lo' hi' mx'=some u/\RV y u:=by
 unfold qyz at h;simp only at h;split at h
 ·rename_i elem τ oo l hu;simp only [RV,RTy]at hx;obtain ⟨fl,c,l',rfl,hfl,hall⟩:=hx;split at h
  ·cases h
  ·rename_i hn;simp only [not_or,Decidable.not_not,Bool.not_eq_false,Bool.not_eq_true]at hn;obtain ⟨hoo,hoo2,h0,hcl,hok,hel⟩:=hn;have hown:fl≠.own:=hfl.not hoo hoo2;have hnx:nx oo=oo:=by unfold nx;rw [hoo];rfl
   have hcells:l'.all (λe=>decide (e.cells.length=P.cellsOf elem))=true:=by
    rw [List.all_eq_true];intro e he;rw [(qdc hel hall e he).1,hcl];simp
   have hvs:∀(mx:Option V),qdO P t (.sl fl c l') lo' hi' mx=(match qfh 0 lo',qfh l'.length hi' with
     |some a,some b =>
      match mx with
      |none=>if a<=b/\b<=l'.length then some (.sl fl (c&&decide (b=l'.length)) ((l'.take b).drop a))else none
      |some m=>if qjD m=some b/\hi'.isSome/\a<=b/\b<=l'.length then some (.sl fl true ((l'.take b).drop a))else none
     |_,_=>none):=λmx=>by
    unfold qdO;rw [hu];simp only;rw [if_neg (by simp only [not_or,Bool.not_eq_false];exact ⟨hown,h0,hcells⟩)];rfl
   split at h
   ·rename_i a b ha hb;have hfin:∀q,slc l a b=some q->qfh 0 lo'=some a.toNat/\qfh l'.length hi'=some b.toNat/\a.toNat<=b.toNat/\b.toNat<=l'.length/\All2 (RTy τ (nx oo)) q ((l'.take b.toNat).drop a.toNat):=λq hq=>by
     obtain ⟨h1,h2,h3,rfl⟩:=qp3 hq;have hl:=hall.length;refine ⟨qe2 ha hlo rfl h1,qe2 hb hhi (by rw [hl]) (by omega),by omega,by omega,(hall.take _).drop _⟩
    split at h
    ·obtain ⟨q,hq,hk⟩:=qd.1 h;obtain ⟨e1,e2,e3,e4,e5⟩:=hfin q hq;rw [qdx hmx];refine ⟨_,.sl fl (c&&decide (b.toNat=l'.length)) ((l'.take b.toNat).drop a.toNat),hk,?_,?_⟩
     ·rw [hvs,e1,e2];simp only;rw [if_pos ⟨e3,e4⟩]
     ·simp only [RV,RTy];exact ⟨fl,_,_,rfl,hfl,e5⟩
    ·rename_i m;obtain ⟨vm,hvm,hrm⟩:=qlO hmx;split at h
     ·rename_i cc hcc;split at h
      ·rename_i hs;obtain ⟨q,hq,hk⟩:=qd.1 h;obtain ⟨hcb,hk⟩:=qAW hk;obtain ⟨e1,e2,e3,e4,e5⟩:=hfin q hq;obtain ⟨h1,h2,_,_⟩:=qp3 hq;obtain ⟨k3,rfl⟩:=qnv hcc hrm;have hs':hi'.isSome=true:=by
        cases hi with
        |none=>simp at hs
        |some x=>obtain ⟨v,rfl,_⟩:=qlO hhi;rfl
       refine ⟨_,.sl fl true ((l'.take b.toNat).drop a.toNat),hk,?_,?_⟩
       ·rw [hvm,hvs,e1,e2];simp only;rw [if_pos ⟨by rw [hcb];exact qfB (by omega),hs',e3,e4⟩]
       ·simp only [RV];exact ⟨fl,_,rfl,hown,e5.mono λx y hxy=>by
         rw [hnx]at hxy;refine qhe τ oo x y ?_;rcases qjn.1 hoo with h|h|h
         ·subst h;exact hxy
         ·subst h;exact hxy
         ·exact absurd h hoo2⟩
      ·cases h
     ·cases h
   ·cases h
 ·rename_i elem oo hu;simp only [RV]at hx;obtain ⟨fl,c,rfl,hfl⟩:=hx;split at h
  ·cases h
  ·rename_i hn0;simp only [not_or,Bool.not_eq_true]at hn0;obtain ⟨hoo,hoo2,h0⟩:=hn0;have hown:fl≠.own:=hfl.not hoo hoo2;split at h
   ·rename_i a b ha hb;cases hd:(decide (a=0)&&decide (b=0))with
    |false=>rw [hd]at h;cases h
    |true =>
     rw [hd]at h;simp only [qe,decide_eq_true_eq]at hd;obtain ⟨rfl,rfl⟩:=hd;rw [qdx hmx];refine ⟨_,.sl fl (c&&decide (0=([]:List V).length)) [],h,?_,?_⟩
     ·unfold qdO;rw [hu];simp only;rw [if_neg (by simp only [not_or];exact ⟨hown,h0,by simp⟩)];rw [qe2 (d:=0) ha hlo rfl (by omega),qe2 (d:=([]:List V).length) hb hhi rfl (by omega)];simp
     ·simp only [RV];exact ⟨fl,_,rfl,hfl⟩
   ·cases h
 ·rename_i s hu;simp only [RV,RTy]at hx;subst hx;split at h
  ·rename_i a b ha hb;obtain ⟨q,hq,hk⟩:=qd.1 h;obtain ⟨h1,h2,h3,rfl⟩:=qp3 hq;rw [qdx hmx];have hsz:(⟨s.toArray⟩:ByteArray).size=s.length:=by simp [ByteArray.size]
   refine ⟨_,.val (.string ((⟨s.toArray⟩:ByteArray).extract a.toNat b.toNat)),hk,?_,?_⟩
   ·unfold qdO;rw [hu];simp only;rw [qe2 (d:=0) ha hlo rfl h1,qe2 (d:=(⟨s.toArray⟩:ByteArray).size) hb hhi (by rw [hsz]) (by omega)];simp only
    rw [if_pos ⟨rfl,by omega,by rw [hsz];omega⟩]
   ·simp only [RV,RTy,V.val.injEq,Value.string.injEq];apply ByteArray.ext;rw [ByteArray.data_extract];apply Array.ext';simp [List.drop_take]
  ·cases h
 ·cases h
theorem qtw{t elem:TypeId}{s n:Nat}{lo hi mx:Option V}(hu:P.underlying t=some (.slice elem)):qdO P t (.room s n) lo hi mx=none:=by
 unfold qdO;rw [hu]
theorem qvM{t:TypeId}{x:TV}{v:V}{lo hi mx:Option TV}{lo' hi' mx':Option V}{R:Type}{k:TV->Option R}{r:R}(hx:RV x v)(hlo:RVO lo lo')(hhi:RVO hi hi')(hmx:RVO mx mx')
  (h:qtr P t x lo hi mx R k=some r):∃y u,k y=some r/\(qdO P t v lo' hi' mx').or (qiW P t v lo' hi' mx')=some u/\RV y u:=by
 unfold qtr at h;split at h
 ·rename_i elem hu;simp only [RV]at hx;subst hx;split at h
  ·cases h
  ·rename_i h0;split at h
   ·rename_i a b ha hb;cases hd:(decide (a=0)&&decide (b=0))with
    |false=>rw [hd]at h;cases h
    |true =>
     rw [hd]at h;simp only [qe,decide_eq_true_eq]at hd;obtain ⟨rfl,rfl⟩:=hd;rw [qdx hmx];refine ⟨_,.val (.slice none 0 0),h,?_,by simp only [RV]⟩;have e:qdO P t (.val (.slice none 0 0)) lo' hi' none=some (.val (.slice none 0 0)):=by
      unfold qdO;rw [hu];simp only;rw [if_neg h0,qe2 (d:=0) ha hlo rfl (by omega),qe2 (d:=0) hb hhi rfl (by omega)];simp [qfh]
     rw [e];rfl
   ·cases h
 ·rename_i elem a s hu;split at h
  ·cases h
  ·rename_i hcond;simp only [not_or,Nat.not_le]at hcond;obtain ⟨h0,ha⟩:=hcond;simp only [RV]at hx;obtain ⟨_,n,rfl,_⟩|⟨h9,_⟩:=hx
   case inr=>omega
   split at h
   ·rename_i kk oo b;obtain ⟨rfl,hk⟩:=qAW h;rw [qdx hlo,qdx hmx];obtain ⟨w,rfl,hw⟩:=qlO hhi;simp only [RV,RTy]at hw;subst hw;refine ⟨_,.room s 0,hk,?_,by simp [RV]⟩;rw [qtw hu];unfold qiW;rw [hu];simp only;rw [if_pos h0];rfl
   ·cases h
 ·rename_i n elem r' off hu;split at h
  ·rename_i h1;simp only [RV]at hx;subst hx;split at h
   ·rw [qdx hlo,qdx hhi,qdx hmx];refine ⟨_,.bsl r' off n,h,?_,by simp only [RV]⟩;have e:qdO P t (.ptr r' off) none none none=none:=by unfold qdO;rw [hu]
    rw [e];unfold qiW;rw [hu];simp only;rw [if_pos h1];rfl
   ·cases h
  ·cases h
 ·cases h
end
section
variable {P:Program} {H:Hints} {f:FuncId}
theorem qqe{t:TypeId}{len cap:TV}{len' cap':V}{R:Type}{k:TV->Option R}{r:R}(hl:RV len len')(hc:RV cap cap')(h:qkK P H f t len cap R k=some r) :
  ∃y u,k y=some r/\qen P H f t len' cap'=some u/\RV y u:=by
 unfold qkK at h;split at h
 ·rename_i elem hu;split at h
  ·rename_i z τ n c hz hτ hn hcc;obtain ⟨z',hz',hzr,hzc⟩:=qhS hz;obtain ⟨k1,rfl⟩:=qnv hn hl;obtain ⟨k2,rfl⟩:=qnv hcc hc;split at h
   ·rename_i hcond;obtain ⟨h0,hcl,hok,hby,_,_,hup⟩:=hcond;obtain ⟨hup1,hup2⟩:=qzr hup;split at h
    ·rename_i x hx;obtain ⟨q,hq,hk⟩:=qd.1 h;obtain ⟨hcn,hk1⟩:=qAW hk;subst hcn;obtain ⟨h1,h2,rfl⟩:=qzp hq;have hrt:=qcT _ _ _ _ _ hx hzr;refine ⟨_,.sl .own false (List.replicate c.toNat z'),hk1,?_,?_⟩
     ·unfold qen;rw [hu];simp only;rw [hz',qfB h1,qfB h1];simp only
      have hbb:P.bytesOf elem*c.toNat<=8192*4294967296:=Nat.mul_le_mul hby (by omega);rw [if_pos ⟨Nat.le_refl _,λh=>h,h0,by rw [hzc.length];exact hcl,(RV.cells hok hzr).2,by rw [qbM _ _ _ _ hrt];rfl,by omega,by omega⟩]
     ·simp only [RV,RTy];exact ⟨.own,false,_,rfl,qeu hup,by rw [hup1];exact All2.replicate hrt _⟩
    ·cases h
   ·cases h
  ·cases h
 ·cases h
theorem big{s b:Nat}(h1:s<=4294967296)(h2:b<=8192):(s+512)*b<=70368744177664:=by
 have:=Nat.mul_le_mul (Nat.add_le_add_right h1 512) h2;omega
def qz3(yt:TypeDesc)(y:V):Option (List V):=match yt,y with
 |.slice _,.sl _ _ l=>some l
 |.slice _,.val (.slice none 0 0)=>some []
 |.string,.val (.string b)=>some (b.data.toList.map λc=>.val (.int .u8 c.toNat))
 |_,_=>none
theorem qkO{argTypes:Array TypeId}{elem:TypeId}{yt:TypeDesc}{x y:V}(h0:(argTypes[0]?).bind P.underlying=some (.slice elem))(h1:(argTypes[1]?).bind P.underlying=some yt) :
  qcL P argTypes x y=match qz3 yt y with
  |none=>none
  |some l2 =>
   if P.cellsOf elem=0\/((P.info? elem).bind (·.zero)).map (λz=>z.cells.size)≠some (P.cellsOf elem)\/l2.all (λe=>decide (e.cells.length=P.cellsOf elem)&&e.oks)=false\/(ptrsL l2).isEmpty=false then none else
   match x with
   |.val (.slice none 0 0)=>if l2.isEmpty then some x else if (l2.length+512)*P.bytesOf elem<=70368744177664/\l2.length<=70368744177664 then some (.sl .own false l2)else none
   |.sl fl c l =>
    if l.all (λe=>decide (e.cells.length=P.cellsOf elem))=true/\(l.length+l2.length+512)*P.bytesOf elem<=70368744177664/\l.length+l2.length<=70368744177664 then
     (if fl=.own then some (.sl .own false (l++l2))
     else if c then (if l2.isEmpty then some x else some (.sl .own false (l++l2)))
     else none)
    else none
   |_=>none:=by
 unfold qcL;rw [h0,h1];rfl
theorem qym{yt:TypeDesc}{y:TV}{τ:Ty}{o:Nat}{l:List τ.den}{v:V}(h:tail? yt y=some ⟨τ,(o,l)⟩)(hy:RV y v) :
  ∃l',qz3 yt v=some l'/\All2 (RTy τ o) l l':=by
 unfold tail? at h;split at h
 ·split at h
  ·simp only [qb,Sigma.mk.injEq]at h;obtain ⟨rfl,h⟩:=h;obtain ⟨rfl,rfl⟩:=Prod.mk.inj (eq_of_heq h);simp only [RV,RTy]at hy;obtain ⟨f,c,l',rfl,_,hall⟩:=hy;exact ⟨l',rfl,hall⟩
  ·cases h
 ·split at h
  ·simp only [qb,Sigma.mk.injEq]at h;obtain ⟨rfl,h⟩:=h;obtain ⟨rfl,rfl⟩:=Prod.mk.inj (eq_of_heq h);simp only [RV]at hy;obtain ⟨f,l',rfl,_,hall⟩:=hy;exact ⟨l',rfl,hall⟩
  ·cases h
 ·rename_i s;split at h
  ·simp only [qb,Sigma.mk.injEq]at h;obtain ⟨rfl,h⟩:=h;obtain ⟨rfl,rfl⟩:=Prod.mk.inj (eq_of_heq h);simp only [RV,RTy]at hy;subst hy;refine ⟨_,rfl,?_⟩;simp only
   clear h;have:∀s':List UInt8,All2 (RTy (.int .u8) 0) (s'.map λc=>(c.toNat:Int)) (s'.map λc=>V.val (.int .u8 c.toNat)):=λs'=>by
    induction s' with
    |nil=>exact .nil
    |cons c s ih=>exact .cons (by simp [RTy]) ih
   simpa using this s
  ·cases h
 ·cases h
theorem qeK{argTypes:Array TypeId}{elem:TypeId}{yt:TypeDesc}{l l2:List V}{y:V}
  (h0:(argTypes[0]?).bind P.underlying=some (.slice elem)) (h1:(argTypes[1]?).bind P.underlying=some yt)
  (hy:qz3 yt y=some l2)
  (hs0:P.cellsOf elem≠0) (hz:((P.info? elem).bind (·.zero)).map (λz=>z.cells.size)=some (P.cellsOf elem))
  (hl2:∀e∈l2,e.cells.length=P.cellsOf elem/\e.oks=true/\e.qp=[]) (hl:∀e∈l,e.cells.length=P.cellsOf elem)
  (hn:l.length+l2.length<=4294967296) (hb:P.bytesOf elem<=8192) :
  (∀c,qcL P argTypes (.sl .own c l) y=some (.sl .own false (l++l2)))/\(l2≠[]->∀f,f≠.own->qcL P argTypes (.sl f true l) y=some (.sl .own false (l++l2)))/\(l2=[]->∀f,f≠.own->qcL P argTypes (.sl f true l) y=some (.sl f true l)):=by
 have hp:ptrsL l2=[]:=by
  apply List.eq_nil_iff_forall_not_mem.2;intro r hr;obtain ⟨v,hv,hrv⟩:=qmZ.1 hr;rw [(hl2 v hv).2.2]at hrv;cases hrv
 have hall2:l2.all (λe=>decide (e.cells.length=P.cellsOf elem)&&e.oks)=true:=by
  rw [List.all_eq_true];intro e he;simp [(hl2 e he).1,(hl2 e he).2.1]
 have hall:l.all (λe=>decide (e.cells.length=P.cellsOf elem))=true:=by
  rw [List.all_eq_true];intro e he;simp [hl e he]
 have hbig:=big (s:=l.length+l2.length) hn hb;have hun:∀(f:Fl) (c:Bool),qcL P argTypes (.sl f c l) y=if l.all (λe=>decide (e.cells.length=P.cellsOf elem))=true/\(l.length+l2.length+512)*P.bytesOf elem<=70368744177664/\l.length+l2.length<=70368744177664 then
     (if f=.own then some (.sl .own false (l++l2))
     else if c then (if l2.isEmpty then some (.sl f c l)else some (.sl .own false (l++l2)))
     else none)
    else none:=λf c=>by
  rw [qkO h0 h1,hy];simp only;rw [if_neg (by simp only [not_or,Decidable.not_not,Bool.not_eq_false];exact ⟨hs0,hz,hall2,by rw [hp];rfl⟩)]
 refine ⟨λc=>?_,λhne f hf=>?_,λhne f hf=>?_⟩
 ·rw [hun,if_pos ⟨hall,hbig,by omega⟩,if_pos rfl]
 ·rw [hun,if_pos ⟨hall,hbig,by omega⟩,if_neg hf,if_pos rfl,if_neg (by simpa using hne)]
 ·rw [hun,if_pos ⟨hall,hbig,by omega⟩,if_neg hf,if_pos rfl,if_pos (by simp [hne])]
theorem qvJ{argTypes:Array TypeId}{x y:TV}{x' y':V}{R:Type}{k:TV->Option R}{r:R}(hx:RV x x')(hy:RV y y')(h:qtm P argTypes x y R k=some r) :
  ∃z u,k z=some r/\qcL P argTypes x' y'=some u/\RV z u:=by
 unfold qtm at h;split at h
 ·rename_i elem yt h0 h1;split at h
  ·-- nothing is appended
   rename_i ow;simp only [RV]at hy;obtain ⟨fy,cy,rfl,_⟩:=hy;split at h
   ·rename_i e τ o l;split at h
    ·rename_i hc;obtain ⟨ho,hcl,hs0,hz,hb,hok,hel⟩:=hc;obtain ⟨q,hq,hk⟩:=qd.1 h;obtain ⟨hn,rfl⟩:=qeU hq;simp only [RV,RTy]at hx;obtain ⟨fx,cx,l',rfl,hfx,hall⟩:=hx;have hfo:fx=.own:=hfx.own ho;subst hfo;have hv:=(qeK (l:=l') (l2:=[]) (y:=.sl fy cy []) h0 h1 rfl hs0 hz (by simp) (λe he=>by rw [(qdc hel hall e he).1,hcl]) (by rw [hall.length];exact hn) hb).1 cx;refine ⟨_,_,hk,hv,?_⟩;simp only [RV,RTy];exact ⟨.own,false,_,rfl,qeu ho,by simpa using hall⟩
    ·cases h
   ·rename_i e;split at h
    ·rename_i hc;obtain ⟨hoe,hs0,hz,hb⟩:=hc;simp only [RV]at hx;obtain ⟨fx,cx,rfl,hfx⟩:=hx;have hfo:fx=.own:=hfx.own hoe;subst hfo;have hv:=(qeK (l:=[]) (l2:=[]) (y:=.sl fy cy []) h0 h1 rfl hs0 hz (by simp) (by simp) (by simp) hb).1 cx;exact ⟨_,_,h,hv,by simp only [RV];exact ⟨_,_,rfl,hfx⟩⟩
    ·cases h
   ·cases h
  ·split at h
   ·cases h
   ·rename_i τ o2 l2 ht;obtain ⟨l2',hl2',hall2⟩:=qym ht hy;split at h
    ·rename_i hc;obtain ⟨hcl,hs0,hz,hb,hok,hel⟩:=hc;have hc2:∀e∈l2',e.cells.length=P.cellsOf elem/\e.oks=true/\e.qp=[]:=λe he=>by
      obtain ⟨h1,h2,h3⟩:=qdc hel hall2 e he;exact ⟨by rw [h1,hcl],h2,h3⟩
     split at h
     ·rename_i τ' o l;split at h
      ·rename_i he;subst he;split at h
       ·rename_i hoo;obtain ⟨q,hq,hk⟩:=qd.1 h;obtain ⟨hn,rfl⟩:=qeU hq;simp only [RV,RTy]at hx;obtain ⟨fx,cx,l',rfl,hfx,hall⟩:=hx;have hfo:fx=.own:=hfx.own hoo;subst hfo;have hv:=(qeK (l:=l') (l2:=l2') h0 h1 hl2' hs0 hz hc2 (λe he=>by rw [(qdc hel hall e he).1,hcl]) (by rw [hall.length,hall2.length];exact hn) hb).1 cx;refine ⟨_,_,hk,hv,?_⟩;simp only [RV,RTy];split
        ·rename_i hf;exact ⟨.own,false,_,rfl,qeu hoo,hall.append (hall2.mono λa b hab=>qeG _ _ _ _ _ hf hab)⟩
        ·have hall':∀d o',fits d o' (nx 2001)=true:=λd o'=>by cases d<;>rfl
         exact ⟨.own,false,_,rfl,qeu rfl,(hall.mono λa b hab=>qeG _ _ _ _ _ (hall' _ _) hab).append (hall2.mono λa b hab=>qeG _ _ _ _ _ (hall' _ _) hab)⟩
       ·cases h
      ·cases h
     ·split at h
      ·rename_i hup0;obtain ⟨hoe,hup⟩:=hup0;obtain ⟨hup1,hup2⟩:=qzr hup;obtain ⟨q,hq,hk⟩:=qd.1 h;obtain ⟨hn,rfl⟩:=qeU hq;simp only [RV]at hx;obtain ⟨fx,cx,rfl,hfx⟩:=hx;have hfo:fx=.own:=hfx.own hoe;subst hfo;have hv:=(qeK (l:=[]) (l2:=l2') h0 h1 hl2' hs0 hz hc2 (by simp) (by rw [hall2.length];simpa using hn) hb).1 cx;refine ⟨_,_,hk,hv,?_⟩;simp only [RV,RTy];exact ⟨.own,false,_,rfl,qeu hup,by rw [hup1];simpa using hall2⟩
      ·cases h
     ·rename_i τ' l;split at h
      ·rename_i he;subst he;obtain ⟨q,hq,hk⟩:=qd.1 h;obtain ⟨hn,rfl⟩:=qeU hq;simp only [RV]at hx;obtain ⟨fx,l',rfl,hfx,hall⟩:=hx;have hup:∀{o:Nat} {m:List τ'.den} {m':List V},All2 (RTy τ' o) m m'->All2 (RTy τ' (nx 2000)) m m':=λhm=>hm.mono λa b hab=>qeG _ _ _ _ _ (qmc _ _) hab;have hv2:=qeK (l:=l') (l2:=l2') h0 h1 hl2' hs0 hz hc2 (λe he=>by rw [(qdc hel hall e he).1,hcl]) (by rw [hall.length,hall2.length];exact hn) hb;by_cases hne:l2'=[]
       ·refine ⟨_,_,hk,hv2.2.2 hne fx hfx,?_⟩;subst hne;cases hall2;simp only [RV,RTy];exact ⟨fx,true,l',rfl,⟨λe=>absurd rfl e,λe=>by cases e⟩,by simpa [cast']using hup hall⟩
       ·refine ⟨_,_,hk,hv2.2.1 hne fx hfx,?_⟩;simp only [RV,RTy];exact ⟨.own,false,_,rfl,⟨λe=>absurd rfl e,λe=>by cases e⟩,(hup hall).append (hup hall2)⟩
      ·cases h
     ·cases h
    ·cases h
 ·cases h
theorem qal{op:BinOp}{t:TypeId}{xo yo:Operand}{a b u:Value}(h:Ab.valOf P (do eqGuard op t xo yo a b;Go.binOp op t a b)=some u):qkP P op t xo yo (.val a) (.val b)=some (qb1 u):=by
 unfold qkP;simp only [V.toVal,h,qi]
theorem qn{α β:Type}(s:Sem α)(g:α->Sem β):Ab.valOf P (s >>= g)=(Ab.valOf P s).bind λa=>Ab.valOf P (g a):=by
 induction s with
 |pure a=>rfl
 |program k ih=>exact ih P
 |mark m k ih=>exact ih
 |_=>rfl
theorem qR{α:Type}(a:α):Ab.valOf P (pure a)=some a:=rfl
theorem quz{t:TypeId}{xo yo:Operand}{k1 k2:IntKind}{a b n:Int}(h:qDn k1 a b=some n):qkP P .shl t xo yo (.val (.int k1 a)) (.val (.int k2 b))=some (.val (.int k1 n)):=by
 unfold qDn at h;split at h
 ·rename_i h0;cases h;exact qal (u:=.int k1 _) (by simp [eqGuard,Go.binOp,Op.shift,Int.not_lt.2 h0,qR])
 ·cases h
theorem quA{t:TypeId}{xo yo:Operand}{k1 k2:IntKind}{a b n:Int}(h:qDo k1 a b=some n):qkP P .shr t xo yo (.val (.int k1 a)) (.val (.int k2 b))=some (.val (.int k1 n)):=by
 unfold qDo at h;split at h
 ·rename_i h0;cases h;exact qal (u:=.int k1 _) (by simp [eqGuard,Go.binOp,Op.shift,Int.not_lt.2 h0,qR])
 ·cases h
theorem qz7{op:BinOp}{t:TypeId}{xo yo:Operand}{k1:IntKind}{a b:Int}{R:Type}{k:TV->Option R}{r:R}{o1 o2:Nat}(h:qrZ P op t (.t (.int k1) o1 a) (.t (.int k1) o2 b) R k=some r) :
  ∃z u,k z=some r/\qkP P op t xo yo (.val (.int k1 a)) (.val (.int k1 b))=some u/\RV z u:=by
 have hrem:∀{z:TV},(bif decide (b=0)then none else k z)=some r->b≠0/\k z=some r:=λ{z} h=>by
  cases hd:decide (b=0)with
  |true=>rw [hd]at h;cases h
  |false=>rw [hd]at h;exact ⟨of_decide_eq_false hd,h⟩
 cases op<;>simp only [qrZ,if_true]at h<;>try (cases h;done)
 case quo =>
  obtain ⟨h0,h⟩:=hrem h;refine ⟨_,.val (.int k1 (k1.wrap (a.tdiv b))),h,?_,by simp [RV,RTy]⟩;exact qal (u:=.int k1 (k1.wrap (a.tdiv b))) (by simp [eqGuard,Go.binOp,Op.intDiv,h0,qR])
 case rem =>
  obtain ⟨h0,h⟩:=hrem h;refine ⟨_,.val (.int k1 (a.tmod b)),h,?_,by simp [RV,RTy]⟩;exact qal (u:=.int k1 (a.tmod b)) (by simp [eqGuard,Go.binOp,Op.intDiv,h0,qR])
 case add =>
  refine ⟨_,.val (.int k1 (k1.wrap (a+b))),h,?_,by simp [RV,RTy]⟩;exact qal (u:=.int k1 (k1.wrap (a+b))) (by simp [eqGuard,Go.binOp,Op.intArith,qR])
 case sub =>
  refine ⟨_,.val (.int k1 (k1.wrap (a-b))),h,?_,by simp [RV,RTy]⟩;exact qal (u:=.int k1 (k1.wrap (a-b))) (by simp [eqGuard,Go.binOp,Op.intArith,qR])
 case mul =>
  refine ⟨_,.val (.int k1 (k1.wrap (a*b))),h,?_,by simp [RV,RTy]⟩;exact qal (u:=.int k1 (k1.wrap (a*b))) (by simp [eqGuard,Go.binOp,Op.intArith,qR])
 case eql =>
  refine ⟨_,.val (.bool (decide (a=b))),h,?_,by simp [RV,RTy]⟩;exact qal (u:=.bool (decide (a=b))) (by simp [eqGuard,Go.binOp,Op.intCmp,qR];rfl)
 case neq =>
  refine ⟨_,.val (.bool (!decide (a=b))),h,?_,by simp [RV,RTy]⟩;exact qal (u:=.bool (!decide (a=b))) (by simp [eqGuard,Go.binOp,Op.intCmp,qR,bne];rfl)
 case lss =>
  refine ⟨_,.val (.bool (decide (a<b))),h,?_,by simp [RV,RTy]⟩;exact qal (u:=.bool (decide (a<b))) (by simp [eqGuard,Go.binOp,Op.intCmp,qR])
 case leq =>
  refine ⟨_,.val (.bool (decide (a<=b))),h,?_,by simp [RV,RTy]⟩;exact qal (u:=.bool (decide (a<=b))) (by simp [eqGuard,Go.binOp,Op.intCmp,qR])
 case gtr =>
  refine ⟨_,.val (.bool (decide (a > b))),h,?_,by simp [RV,RTy]⟩;exact qal (u:=.bool (decide (a > b))) (by simp [eqGuard,Go.binOp,Op.intCmp,qR])
 case geq =>
  refine ⟨_,.val (.bool (decide (a>=b))),h,?_,by simp [RV,RTy]⟩;exact qal (u:=.bool (decide (a>=b))) (by simp [eqGuard,Go.binOp,Op.intCmp,qR])
 case and =>
  refine ⟨_,.val (.int k1 (qCN k1 a b)),h,?_,by simp [RV,RTy]⟩;exact qal (u:=.int k1 (qCN k1 a b)) (by simp [eqGuard,Go.binOp,Op.intBits,qR,qCN])
 case or =>
  refine ⟨_,.val (.int k1 (orI k1 a b)),h,?_,by simp [RV,RTy]⟩;exact qal (u:=.int k1 (orI k1 a b)) (by simp [eqGuard,Go.binOp,Op.intBits,qR,orI])
 case xor =>
  refine ⟨_,.val (.int k1 (qCV k1 a b)),h,?_,by simp [RV,RTy]⟩;exact qal (u:=.int k1 (qCV k1 a b)) (by simp [eqGuard,Go.binOp,Op.intBits,qR,qCV])
 case andNot =>
  refine ⟨_,.val (.int k1 (qo5 k1 a b)),h,?_,by simp [RV,RTy]⟩;exact qal (u:=.int k1 (qo5 k1 a b)) (by simp [eqGuard,Go.binOp,Op.intBits,qR,qo5])
 case shl =>
  obtain ⟨n,hn,hk⟩:=qd.1 h;exact ⟨_,_,hk,quz hn,by simp [RV,RTy]⟩
 case shr =>
  obtain ⟨n,hn,hk⟩:=qd.1 h;exact ⟨_,_,hk,quA hn,by simp [RV,RTy]⟩
theorem qvK{op:BinOp}(hop:op=.shl\/op=.shr){t:TypeId}{xo yo:Operand}{k1 k2:IntKind}{a b:Int}{R:Type}{k:TV->Option R}{r:R}{o1 o2:Nat}(h:qrZ P op t (.t (.int k1) o1 a) (.t (.int k2) o2 b) R k=some r) :
  ∃z u,k z=some r/\qkP P op t xo yo (.val (.int k1 a)) (.val (.int k2 b))=some u/\RV z u:=by
 rcases hop with rfl|rfl
 ·simp only [qrZ]at h;obtain ⟨n,hn,hk⟩:=qd.1 h;exact ⟨_,_,hk,quz hn,by simp [RV,RTy]⟩
 ·simp only [qrZ]at h;obtain ⟨n,hn,hk⟩:=qd.1 h;exact ⟨_,_,hk,quA hn,by simp [RV,RTy]⟩
theorem qls{op:BinOp}{k:FloatKind}{x y r:Nat}(h:floatBits op k x y=some r):Ab.valOf P (Op.floatArith op k x y)=some (.float k r):=by
 unfold floatBits at h;cases op<;>simp only at h<;>first|(cases h;done)|skip
 all_goals (simp [Op.floatArith,h];rfl)
theorem qbB{op:BinOp}{k:FloatKind}{x y r:Nat}(h:floatBits op k x y=some r):Ab.valOf P (Op.Complex.arith op k x y)=some r:=by
 unfold Op.Complex.arith;rw [qn,qls h];rfl
theorem qvO{t:TypeId}{a b c d re im:Nat}(h:cSumBits .add .f64 a b c d=some (re,im)):Ab.valOf P (Go.binOp .add t (.complex .f64 a b) (.complex .f64 c d))=some (.complex .f64 re im):=by
 unfold cSumBits at h;obtain ⟨x,h1,h⟩:=qd.1 h;obtain ⟨y,h2,h⟩:=qd.1 h;cases h;simp only [Go.binOp,ne_eq,not_true,if_false,Op.complexOp];rw [qn,qbB h1,qa,qn,qbB h2];rfl
theorem qvN{t:TypeId}{a b c d re im:Nat}(h:cMulBits a b c d=some (re,im)):Ab.valOf P (Go.binOp .mul t (.complex .f64 a b) (.complex .f64 c d))=some (.complex .f64 re im):=by
 unfold cMulBits at h;obtain ⟨ac,h1,h⟩:=qd.1 h;obtain ⟨bd,h2,h⟩:=qd.1 h;obtain ⟨x,h3,h⟩:=qd.1 h;obtain ⟨ad,h4,h⟩:=qd.1 h;obtain ⟨bc,h5,h⟩:=qd.1 h;obtain ⟨y,h6,h⟩:=qd.1 h;cases h;have hp:Ab.valOf P (Op.Complex.product a b c d)=some (re,im):=by
  unfold Op.Complex.product Op.Complex.mul Op.Complex.sub Op.Complex.add;rw [qn,qbB h1,qa,qn,qbB h2,qa,qn,qbB h3,qa,qn,qbB h4,qa,qn,qbB h5,qa,qn,qbB h6];rfl
 have hc:∀x,Ab.valOf P (Op.Complex.conv .f64 x .f64)=some x:=λx=>by unfold Op.Complex.conv;simp [qR]
 simp only [Go.binOp,ne_eq,not_true,if_false,Op.complexOp];rw [qn,hc,qa,qn,hc,qa,qn,hc,qa,qn,hc,qa];simp only [beq_self_eq_true,if_true];rw [qn,hp,qa,qn,hc,qa,qn,hc];rfl
theorem qdt{n m:Int}(h:flo n=some m):m=n/\n.natAbs<2 ^ 53:=by
 unfold flo at h;split at h
 ·rename_i h1;cases h;exact ⟨rfl,h1⟩
 ·cases h
theorem qBC{op:BinOp}{t:TypeId}{xo yo:Operand}{a b:Int×Int}{x y:V}{o1 o2:Nat}{R:Type}{k:TV->Option R}{r:R}(hx:RV (.t .cx o1 a) x)(hy:RV (.t .cx o2 b) y)(h:qrZ P op t (.t .cx o1 a) (.t .cx o2 b) R k=some r) :
  ∃z u,k z=some r/\qkP P op t xo yo x y=some u/\RV z u:=by
 simp only [RV,RTy]at hx hy;obtain ⟨b1,b2,rfl,i1,i2⟩:=hx;obtain ⟨c1,c2,rfl,j1,j2⟩:=hy;unfold qrZ at h;simp only at h;split at h
 ·obtain ⟨re,h1,h⟩:=qd.1 h;obtain ⟨im,h2,h⟩:=qd.1 h;obtain ⟨rfl,g1⟩:=qdt h1;obtain ⟨rfl,g2⟩:=qdt h2;obtain ⟨re,im,e,r1,r2⟩:=Fl.qA2 i1 i2 j1 j2 g1 g2;refine ⟨_,.val (.complex .f64 re im),h,qal (u:=.complex .f64 re im) ?_,by simp only [RV,RTy];exact ⟨re,im,rfl,r1,r2⟩⟩;rw [qn];show (some ()).bind (λ_=>Ab.valOf P (Go.binOp .add t (.complex .f64 b1 b2) (.complex .f64 c1 c2)))=_;exact qvO e
 ·obtain ⟨ac,h1,h⟩:=qd.1 h;obtain ⟨bd,h2,h⟩:=qd.1 h;obtain ⟨rfl,g1⟩:=qdt h1;obtain ⟨rfl,g2⟩:=qdt h2;obtain ⟨x,h3,h⟩:=qd.1 h;obtain ⟨rfl,g3⟩:=qdt h3;obtain ⟨ad,h4,h⟩:=qd.1 h;obtain ⟨bc,h5,h⟩:=qd.1 h;obtain ⟨rfl,g4⟩:=qdt h4;obtain ⟨rfl,g5⟩:=qdt h5;obtain ⟨y,h6,h⟩:=qd.1 h;obtain ⟨rfl,g6⟩:=qdt h6;obtain ⟨re,im,e,r1,r2⟩:=Fl.qA0 i1 i2 j1 j2 g1 g2 g3 g4 g5 g6;refine ⟨_,.val (.complex .f64 re im),h,qal (u:=.complex .f64 re im) ?_,by simp only [RV,RTy];exact ⟨re,im,rfl,r1,r2⟩⟩;rw [qn];show (some ()).bind (λ_=>Ab.valOf P (Go.binOp .mul t (.complex .f64 b1 b2) (.complex .f64 c1 c2)))=_;exact qvN e
 ·cases h
theorem qz8{op:BinOp}{t:TypeId}{xo yo:Operand}{a b:List UInt8}{R:Type}{k:TV->Option R}{r:R}{o1 o2:Nat}(h:qrZ P op t (.t .str o1 a) (.t .str o2 b) R k=some r) :
  ∃z u,k z=some r/\qkP P op t xo yo (.val (.string ⟨a.toArray⟩)) (.val (.string ⟨b.toArray⟩))=some u/\RV z u:=by
 cases op<;>simp only [qrZ]at h<;>try (cases h;done)
 case eql =>
  refine ⟨_,.val (.bool (decide (a=b))),h,?_,by simp [RV,RTy]⟩;exact qal (u:=.bool (decide (a=b))) (by simp [eqGuard,binOp_string_eql,qR];rw [Bool.eq_iff_iff];simp)
 case neq =>
  refine ⟨_,.val (.bool (!decide (a=b))),h,?_,by simp [RV,RTy]⟩;exact qal (u:=.bool (!decide (a=b))) (by simp [eqGuard,binOp_string_neq,qR];rw [Bool.eq_iff_iff];simp)
 case lss =>
  refine ⟨_,.val (.bool (Op.bytesLess a b)),h,?_,by simp [RV,RTy]⟩;exact qal (u:=.bool (Op.bytesLess a b)) (by simp [eqGuard,binOp_string_lss,qR])
 case add =>
  obtain ⟨q,hq,hk⟩:=qd.1 h;obtain ⟨hn,rfl⟩:=qeU hq;refine ⟨_,.val (.string ⟨(a++b).toArray⟩),hk,?_,by simp [RV,RTy]⟩;refine qal (u:=.string ⟨(a++b).toArray⟩) ?_;have h1:(⟨a.toArray⟩:ByteArray).size=a.length:=by simp [ByteArray.size]
  have h2:(⟨b.toArray⟩:ByteArray).size=b.length:=by simp [ByteArray.size]
  have h3:(⟨a.toArray⟩++⟨b.toArray⟩:ByteArray)=⟨(a++b).toArray⟩:=by apply ByteArray.ext;simp
  have h4:¬ (((⟨a.toArray⟩:ByteArray).size+(⟨b.toArray⟩:ByteArray).size:Nat):Int) > IntKind.i64.max:=by
   rw [h1,h2];simp only [IntKind.max,IntKind.signed,IntKind.bits,if_true]<;>omega
  have h5:Go.binOp .add t (.string ⟨a.toArray⟩) (.string ⟨b.toArray⟩)=pure (.string ⟨(a++b).toArray⟩):=by
   simp only [Go.binOp,Op.stringOp];rw [if_neg h4,h3]
  simp only [eqGuard];rw [h5];rfl
theorem qt{t:TypeId}{d:TypeDesc}(h:P.underlying t=some d):Ab.valOf P (underlying t)=some d:=by
 unfold Go.underlying;simp only [qn];have h1:Ab.valOf P Go.program=some P:=rfl;simp only [h1,qa,h];rfl
theorem qkV{n:Nat}{t:TypeId}(h:P.underlying t=some .bool)(a b:Bool):Ab.valOf P (Op.equalIn (n+1) t (.bool a) (.bool b))=some (a==b):=by
 unfold Op.equalIn;rw [qn,qt h];rfl
theorem qsr{n:Nat}{t:TypeId}{k0:IntKind}(h:P.underlying t=some (.int k0))(k:IntKind)(a b:Int):Ab.valOf P (Op.equalIn (n+1) t (.int k a) (.int k b))=some (decide (a=b)):=by
 unfold Op.equalIn;rw [qn,qt h];simp only [qa,if_true];rfl
theorem qss{n:Nat}{t:TypeId}(h:P.underlying t=some .string)(a b:List UInt8):Ab.valOf P (Op.equalIn (n+1) t (.string ⟨a.toArray⟩) (.string ⟨b.toArray⟩))=some (decide (a=b)):=by
 unfold Op.equalIn;rw [qn,qt h];simp only [qa];show some ((⟨a.toArray⟩:ByteArray)==⟨b.toArray⟩)=_;rw [qb,Bool.eq_iff_iff];first
 |(show (a.toArray==b.toArray)=true↔decide (a=b)=true;simp)
 |(show decide ((⟨a.toArray⟩:ByteArray)=⟨b.toArray⟩)=true↔decide (a=b)=true;simp)
def qCY(x:TV)(u:Value):Prop:=(qvA x=true/\RV x (.val u))\/∃(l:List TV) (vs:List Value),x=.agg l/\u=.agg vs.toArray/\l.all qvA=true/\RVL l (vs.map .val)
theorem qzP{x:TV}{v:V}(h:qvA x=true)(hr:RV x v):∃u,v=.val u:=by
 cases x with
 |t τ o x=>cases τ<;>simp only [RV,RTy]at hr<;>first|exact ⟨_,hr⟩|simp [qvA]at h
 |_=>simp [qvA]at h
theorem qnn:∀{l:List TV} {l':List V},l.all qvA=true->RVL l l'->∃vs:List Value,l'=vs.map .val
 |[],l',_,h=>by simp only [RVL]at h;exact ⟨[],by simp [h]⟩
 |x::l,l',h1,h=>by
  simp only [RVL]at h;obtain ⟨v,m,rfl,h2,h3⟩:=h;simp only [List.all_cons,qe]at h1;obtain ⟨u,rfl⟩:=qzP h1.1 h2;obtain ⟨vs,rfl⟩:=qnn h1.2 h3;exact ⟨u::vs,rfl⟩
theorem qiU:∀vs:List Value,toValL (vs.map .val)=some vs
 |[]=>rfl
 |u::vs=>by simp [toValL,V.toVal,qiU vs]
theorem qnV{t:TypeId}{i:TypeInfo}(h:P.info? t=some i):Ab.valOf P (typeInfo t)=some i:=by
 unfold typeInfo;simp only [qn];have h1:Ab.valOf P Go.program=some P:=rfl;simp only [h1,qa,h];rfl
theorem qnz{t:TypeId}{d:TypeDesc}(h:P.underlying t=some d):∃i,P.info? t=some i:=by
 unfold Program.underlying at h;cases hi:P.info? t with
 |none=>rw [hi]at h;cases h
 |some i=>exact ⟨i,rfl⟩
theorem qsV{t:TypeId}{xs:List TV}{vs:List Value}{off:Nat}{u:TV}(hs:xs.all qvA=true)(hr:RVL xs (vs.map .val))(h:qa3 P t (xs.drop off)=some u) :
  ∃w,Ab.valOf P (part t vs.toArray off)=some w/\qCY u w:=by
 unfold qa3 at h;split at h
 ·cases h
 ·rename_i d hd;obtain ⟨i,hi⟩:=qnz hd;have hsz:Ab.valOf P (sizeOf t)=some (P.cellsOf t):=by
   unfold sizeOf;rw [qn,qnV hi];simp [Program.cellsOf,hi,qR]
  have hag:Ab.valOf P (isAgg t)=some (qK P t):=by
   unfold isAgg qK;rw [qn,qt hd,hd];cases d<;>rfl
  unfold part;rw [qn,hag];simp only [qa];split at h
  ·rename_i ha;rw [if_pos ha];split at h
   ·rename_i hl;cases h;rw [qn,hsz];refine ⟨_,rfl,.inr ⟨_,(vs.drop off).take (P.cellsOf t),rfl,?_,?_,?_⟩⟩
    ·congr 1
     apply Array.ext';simp [List.take_drop]
    ·rw [List.all_eq_true]at hs ⊢;exact λy hy=>hs y (List.mem_of_mem_drop (List.mem_of_mem_take hy))
    ·rw [List.map_take,List.map_drop];exact (hr.drop off).take _
   ·cases h
  ·rename_i ha;rw [if_neg ha];have hx:xs[off]?=some u:=by simpa [List.head?_drop]using h
   obtain ⟨v,hv,hrv⟩:=hr.get hx;rw [List.getElem?_map]at hv;obtain ⟨w,hw,rfl⟩:=qc.1 hv;have hw':vs.toArray[off]?=some w:=by simpa using hw
   rw [hw'];refine ⟨w,rfl,.inl ⟨?_,hrv⟩⟩;rw [List.all_eq_true]at hs;exact hs u (List.mem_of_getElem? hx)
theorem quu:∀(d:Nat) (t:TypeId) (x y:TV) (b:Bool),teq P d t x y=some b->∀n,d<=n->∀u v,qCY x u->qCY y v->Ab.valOf P (Op.equalIn n t u v)=some b
 |0,t,x,y,b,h,n,hn,u,v,hu,hv=>by simp [teq]at h
 |d+1,t,x,y,b,h,n,hn,u,v,hu,hv=>by
  obtain ⟨n,rfl⟩:∃m,n=m+1:=⟨n-1,by omega⟩
  unfold teq at h;split at h
  ·rename_i k0 k o a k' o' a' ht;split at h
   ·rename_i hk;subst hk;cases h;rcases hu with ⟨_,hu⟩|⟨_,_,hu,_⟩
    ·rcases hv with ⟨_,hv⟩|⟨_,_,hv,_⟩
     ·simp only [RV,RTy,V.val.injEq]at hu hv;subst hu;subst hv;exact qsr ht _ _ _
     ·cases hv
    ·cases hu
   ·cases h
  ·rename_i o a o' a' ht;cases h;rcases hu with ⟨_,hu⟩|⟨_,_,hu,_⟩
   ·rcases hv with ⟨_,hv⟩|⟨_,_,hv,_⟩
    ·simp only [RV,RTy,V.val.injEq]at hu hv;subst hu;subst hv;exact qkV ht _ _
    ·cases hv
   ·cases hu
  ·rename_i o a o' a' ht;cases h;rcases hu with ⟨_,hu⟩|⟨_,_,hu,_⟩
   ·rcases hv with ⟨_,hv⟩|⟨_,_,hv,_⟩
    ·simp only [RV,RTy,V.val.injEq]at hu hv;subst hu;subst hv;exact qss ht _ _
    ·cases hv
   ·cases hu
  ·rename_i fields xs ys ht;split at h
   ·cases h
   ·rename_i hheld;rcases hu with ⟨hu,_⟩|⟨l,vs,hl,rfl,hsx,hrx⟩
    ·simp [qvA]at hu
    ·rcases hv with ⟨hv,_⟩|⟨m,ws,hm,rfl,hsy,hry⟩
     ·simp [qvA]at hv
     ·cases hl;cases hm
      unfold Op.equalIn;rw [qn, qt ht];simp only [qa];rw [qn];have h1 : Ab.valOf P Go.program = some P := rfl;simp only [h1, qa];rw [if_neg hheld, qn, <- Array.forIn_toList];have key : ∀ (fs : List Field) (b : Bool), fs.foldr (fun fd acc => if fd.name = "_" then none else
        match qa3 P fd.type (xs.drop fd.offset),qa3 P fd.type (ys.drop fd.offset),acc with
        |some u,some v,some b=>(teq P d fd.type u v).map λa=>bif a then b else false
        |_,_,_=>none) (some true)=some b ->
        Ab.valOf P (forIn fs ((none:Option Bool),()) λf __s=>(
         if f.name ≠ "_" then do
          let __do_lift <- part f.type vs.toArray f.offset
          let __do_lift_1 <- part f.type ws.toArray f.offset
          let __do_lift <- Op.equalIn n f.type __do_lift __do_lift_1
          if (!__do_lift)=true then pure (ForInStep.done (some false,()))
           else pure (ForInStep.yield (none,()))
         else pure (ForInStep.yield (none,())):Sem _))=some (if b then (none,())else (some false,())):=by
       intro fs;induction fs with
       |nil=>intro b hb;simp only [List.foldr_nil,qb]at hb;subst hb;rfl
       |cons fd fs ih =>
        intro b hb;simp only [List.foldr_cons]at hb;split at hb
        ·cases hb
        ·rename_i qce;split at hb
         ·rename_i u v b' hu hv hacc;obtain ⟨a,ha,rfl⟩:=qc.1 hb;obtain ⟨w1,hw1,hr1⟩:=qsV hsx hrx hu;obtain ⟨w2,hw2,hr2⟩:=qsV hsy hry hv;have he:=quu d fd.type u v a ha n (by omega) w1 w2 hr1 hr2;have ih':=ih b' hacc;rw [List.forIn_cons,qn,if_pos qce,qn,hw1];simp only [qa];rw [qn,hw2];simp only [qa];rw [qn,he];simp only [qa];cases a with
          |true =>
           simp only [Bool.not_true,qf,if_false,qR,qa,cond_true];exact ih'
          |false =>
           simp only [Bool.not_false,if_true,qR,qa,cond_false,qf,if_false]
         ·cases hb
      have hkey:=key fields.toList b h;rw [hkey];simp only [qa];cases b<;>rfl
  ·cases h
theorem qdn:9<=Op.maxDepth:=by unfold Op.maxDepth;omega
theorem qz6{op:BinOp}{t:TypeId}{xo yo:Operand}{l m:List TV}{l' m':List V}{R:Type}{k:TV->Option R}{r:R}(hl:RVL l l')(hm:RVL m m')(h:qrZ P op t (.agg l) (.agg m) R k=some r) :
  ∃z u,k z=some r/\qkP P op t xo yo (.agg l') (.agg m')=some u/\RV z u:=by
 simp only [qrZ]at h;split at h
 ·cases h
 ·rename_i hc;simp only [Bool.or_eq_true,Bool.not_eq_true',not_or,Bool.not_eq_true,Bool.not_eq_false,qe]at hc;obtain ⟨hg,hs1,hs2⟩:=hc;split at h
  ·rename_i b hb;obtain ⟨vs,rfl⟩:=qnn hs1 hl;obtain ⟨ws,rfl⟩:=qnn hs2 hm;have he:=quu 9 t _ _ b hb Op.maxDepth qdn _ _ (.inr ⟨l,vs,rfl,rfl,hs1,hl⟩) (.inr ⟨m,ws,rfl,rfl,hs2,hm⟩);have hv:∀u,Ab.valOf P (do eqGuard op t xo yo (.agg vs.toArray) (.agg ws.toArray);Go.binOp op t (.agg vs.toArray) (.agg ws.toArray))=some u->qkP P op t xo yo (.agg (vs.map .val)) (.agg (ws.map .val))=some (qb1 u):=λu hu=>by
    unfold qkP;simp only [V.toVal,qiU,qi,hu]
   have hguard:∀op,(op=.eql\/op=.neq)->Ab.valOf P (eqGuard op t xo yo (.agg vs.toArray) (.agg ws.toArray))=some ():=λop hop=>by
    have h1:Ab.valOf P Go.program=some P:=rfl;rcases hop with rfl|rfl<;>simp only [eqGuard]<;>(simp only [Bool.not_true,qf,if_false,qn,h1,qa,hg,Bool.not_false,if_true];rfl)
   split at h
   ·refine ⟨_,.val (.bool b),h,?_,by simp [RV,RTy]⟩;refine hv (.bool b) ?_;rw [qn,hguard .eql (.inl rfl)];simp only [qa];show Ab.valOf P (Op.equal t _ _ >>= λx=>(pure (Value.bool x):Sem Value))=_;rw [qn];unfold Op.equal;rw [he];rfl
   ·refine ⟨_,.val (.bool (!b)),h,?_,by simp [RV,RTy]⟩;refine hv (.bool (!b)) ?_;rw [qn,hguard .neq (.inr rfl)];simp only [qa];show Ab.valOf P (Op.equal t _ _ >>= λx=>(pure (Value.bool (!x)):Sem Value))=_;rw [qn];unfold Op.equal;rw [he];rfl
   ·cases h
  ·cases h
theorem qn5{t:TypeId}(h:P.underlying t=some .bool)(a b:Bool):Ab.valOf P (Op.equal t (.bool a) (.bool b))=some (a==b):=by
 unfold Op.equal;obtain ⟨n,hn⟩:∃n,Op.maxDepth=n+1:=⟨Op.maxDepth-1,by have:=qdn;omega⟩
 rw [hn];exact qkV h a b
theorem qyp{op:BinOp}{t:TypeId}{xo yo:Operand}{a b:Bool}{R:Type}{k:TV->Option R}{r:R}{o1 o2:Nat}(h:qrZ P op t (.t .bool o1 a) (.t .bool o2 b) R k=some r) :
  ∃z u,k z=some r/\qkP P op t xo yo (.val (.bool a)) (.val (.bool b))=some u/\RV z u:=by
 simp only [qrZ]at h;split at h
 ·rename_i hu;refine ⟨_,.val (.bool (a==b)),h,?_,by simp [RV,RTy]⟩;refine qal (u:=.bool (a==b)) ?_;show Ab.valOf P (Op.equal t _ _ >>= λx=>(pure (Value.bool x):Sem Value))=_;rw [qn,qn5 hu];rfl
 ·rename_i hu;refine ⟨_,.val (.bool (!(a==b))),h,?_,by simp [RV,RTy]⟩;refine qal (u:=.bool (!(a==b))) ?_;show Ab.valOf P (Op.equal t _ _ >>= λx=>(pure (Value.bool (!x)):Sem Value))=_;rw [qn,qn5 hu];rfl
 ·cases h
theorem qr5{argTypes:Array TypeId}{s n:Nat}{y:V}:qcL P argTypes (.room s n) y=none:=by
 unfold qcL;split
 ·simp only
  split
  ·rfl
  ·split
   ·rfl
   ·rfl
 ·rfl
theorem qqi{argTypes:Array TypeId}{s n:Nat}{y:V}:qed P argTypes (.room s n) y=none:=by
 unfold qed;split
 ·rename_i h;cases h
 ·rfl
theorem qtn{argTypes:Array TypeId}{x y:TV}{x' y':V}{R:Type}{k:TV->Option R}{r:R}(hx:RV x x')(hy:RV y y')(h:qp8 P argTypes x y R k=some r) :
  ∃z u,k z=some r/\(qcL P argTypes x' y').or ((qed P argTypes x' y').or (qgu P argTypes x' y'))=some u/\RV z u:=by
 unfold qp8 at h;split at h
 ·rename_i elem yt h0 h1;split at h
  ·rename_i hc0;obtain ⟨hs0,hz,hb⟩:=hc0;split at h
   ·rename_i ik o n;simp only [RV]at hx;subst hx;simp only [RV,RTy]at hy;subst hy;cases hd:(decide (0<n)&&decide (n<=4294967296))with
    |false=>rw [hd]at h;cases h
    |true =>
     rw [hd]at h;simp only [qe,decide_eq_true_eq]at hd;have key:∀m:Int,0<m->m<=4294967296->m.toNat<=4294967296/\m<=70368744177664:=λm _ _=>by omega
     obtain ⟨key1,key2⟩:=key n hd.1 hd.2;refine ⟨_,.room (P.cellsOf elem) n.toNat,h,?_,by simp [RV]⟩;have e1:qcL P argTypes (.val (.slice none 0 0)) (.val (.int .i64 n))=none:=by
      rw [qkO h0 h1];rfl
     have hbig:n.toNat*P.bytesOf elem<=4294967296*8192:=Nat.mul_le_mul key1 hb;have e2:qed P argTypes (.val (.slice none 0 0)) (.val (.int .i64 n))=some (.room (P.cellsOf elem) n.toNat):=by
      unfold qed;rw [h0,h1];simp only;rw [if_pos ⟨hd.1,key2,hs0,hz,by omega⟩]
     rw [e1,e2];rfl
   ·split at h
    ·cases h
    ·rename_i τ o2 l2 ht;obtain ⟨l2',hl2',hall2⟩:=qym ht hy;split at h
     ·rename_i hc;obtain ⟨hcl,hok,hel,hup⟩:=hc;obtain ⟨hup1,hup2⟩:=qzr hup;have hc2:∀e∈l2',e.cells.length=P.cellsOf elem/\e.oks=true/\e.qp=[]:=λe he=>by
       obtain ⟨h1,h2,h3⟩:=qdc hel hall2 e he;exact ⟨by rw [h1,hcl],h2,h3⟩
      have hp:ptrsL l2'=[]:=by
       apply List.eq_nil_iff_forall_not_mem.2;intro r hr;obtain ⟨v,hv,hrv⟩:=qmZ.1 hr;rw [(hc2 v hv).2.2]at hrv;cases hrv
      have hall2':l2'.all (λe=>decide (e.cells.length=P.cellsOf elem)&&e.oks)=true:=by
       rw [List.all_eq_true];intro e he;simp [(hc2 e he).1,(hc2 e he).2.1]
      have hlen:=hall2.length;split at h
      ·-- behind nil
       simp only [RV]at hx;subst hx;have hv:qcL P argTypes (.val (.slice none 0 0)) y'=if l2'.isEmpty then some (.val (.slice none 0 0))else if (l2'.length+512)*P.bytesOf elem<=70368744177664/\l2'.length<=70368744177664 then some (.sl .own false l2')else none:=by
        rw [qkO h0 h1,hl2'];simp only;rw [if_neg (by simp only [not_or,Decidable.not_not,Bool.not_eq_false];exact ⟨hs0,hz,hall2',by rw [hp];rfl⟩)]
       cases hem:List.isEmpty l2 with
       |true =>
        rw [hem]at h;have hem':l2'.isEmpty=true:=by rw [List.isEmpty_iff]at hem ⊢;subst hem;cases hall2;rfl
        exact ⟨_,.val (.slice none 0 0),h,by rw [hv,if_pos hem'];rfl,by simp only [RV]⟩
       |false =>
        rw [hem]at h;obtain ⟨q,hq,hk⟩:=qd.1 h;obtain ⟨hn,rfl⟩:=qeU hq;have hem':¬ l2'.isEmpty=true:=by
         intro h9;rw [List.isEmpty_iff]at h9;subst h9;cases hall2;cases hem
        have hbig:=big (s:=l2'.length) (by rw [hlen];simpa using hn) hb;refine ⟨_,.sl .own false l2',hk,by rw [hv,if_neg hem',if_pos ⟨hbig,by rw [hlen];simp at hn;omega⟩];rfl,?_⟩;simp only [RV,RTy];exact ⟨.own,false,_,rfl,qeu hup,by rw [hup1];simpa using hall2⟩
      ·rename_i s τ2 o3 y2 _;split at h
       ·rename_i hs;subst hs;split at h
        ·rename_i q0;simp only [RV]at hx;obtain ⟨_,n,rfl,hn0⟩|⟨h9,_⟩:=hx
         case inr=>omega
         obtain rfl:=hn0 trivial;have hy2:∃fl cl,y'=.sl fl cl l2':=by
          cases τ2 with
          |sl t2=>simp only [RV,RTy]at hy;obtain ⟨f,c,l',rfl,_,_⟩:=hy;simp only [qz3]at hl2';exact ⟨f,c,by simpa using hl2'⟩
          |_=>simp [tail?]at ht
         obtain ⟨fl,cl,rfl⟩:=hy2;have hn:l2.length<=4294967296\/List.isEmpty l2=true:=by
          cases hem:List.isEmpty l2 with
          |true=>exact .inr rfl
          |false =>
           rw [hem]at h;obtain ⟨q,hq,hk⟩:=qd.1 h;obtain ⟨hn,rfl⟩:=qeU hq;exact .inl (by simpa using hn)
         have hnl:l2'.length<=4294967296:=by
          rw [hlen];rcases hn with hn|hn
          ·exact hn
          ·rw [List.isEmpty_iff]at hn;rw [hn];simp
         have hbig:l2'.length*P.bytesOf elem<=4294967296*8192:=Nat.mul_le_mul hnl hb;have hv:qgu P argTypes (.room (P.cellsOf elem) 0) (.sl fl cl l2')=if l2'.isEmpty=true then some (.room (P.cellsOf elem) 0)else some (.sl .own false l2'):=by
          unfold qgu;rw [h0,h1];simp only;rw [if_pos ⟨trivial,hz,hall2',by rw [hp];rfl,by omega,by omega⟩]
         rw [qr5,qqi,hv];cases hem:List.isEmpty l2 with
         |true =>
          rw [hem]at h;have hem':l2'.isEmpty=true:=by rw [List.isEmpty_iff]at hem ⊢;subst hem;cases hall2;rfl
          exact ⟨_,.room (P.cellsOf elem) 0,h,by rw [if_pos hem'];rfl,by simp [RV]⟩
         |false =>
          rw [hem]at h;obtain ⟨q,hq,hk⟩:=qd.1 h;obtain ⟨hn,rfl⟩:=qeU hq;have hem':¬ l2'.isEmpty=true:=by
           intro h9;rw [List.isEmpty_iff]at h9;subst h9;cases hall2;cases hem
          refine ⟨_,.sl .own false l2',hk,by rw [if_neg hem'];rfl,?_⟩;simp only [RV,RTy];exact ⟨.own,false,_,rfl,qeu hup,by rw [hup1];simpa using hall2⟩
        ·cases h
       ·cases h
      ·cases h
     ·cases h
  ·cases h
 ·cases h
end
section
variable {P:Program} {H:Hints} {f:FuncId}
theorem qja{t:TypeId}{d:TypeDesc}(hd:P.underlying t=some d){x y:Value}(h:(∃e,d=.slice e/\x=.slice none 0 0/\y=.slice none 0 0)\/(∃e,d=.pointer e/\x=.pointer none/\y=.pointer none)\/(∃a b c,d=.func a b c/\x=.nilFunc/\y=.nilFunc)) :
  Ab.valOf P (Op.equal t x y)=some true:=by
 unfold Op.equal;obtain ⟨n,hn⟩:∃n,Op.maxDepth=n+1:=⟨Op.maxDepth-1,by have:=qdn;omega⟩
 rw [hn];unfold Op.equalIn;rw [qn,qt hd];rcases h with ⟨e,rfl,rfl,rfl⟩|⟨e,rfl,rfl,rfl⟩|⟨a,b,c,rfl,rfl,rfl⟩<;>rfl
theorem quQ{t:TypeId}{ms:_}(hd:P.underlying t=some (.interface ms)):Ab.valOf P (Op.equal t .nilIface .nilIface)=some true:=by
 unfold Op.equal;obtain ⟨n,hn⟩:∃n,Op.maxDepth=n+1:=⟨Op.maxDepth-1,by have:=qdn;omega⟩
 rw [hn];unfold Op.equalIn;rw [qn,qt hd];rfl
theorem qBD{op:BinOp}{t:TypeId}{xo yo:Operand}{x y:TV}{x' y':V}{R:Type}{k:TV->Option R}{r:R}(hx:RV x x')(hy:RV y y')(h:qrZ P op t x y R k=some r) :
  ∃z u,k z=some r/\qkP P op t xo yo x' y'=some u/\RV z u:=by
 by_cases h1:∃k1 o1 a k2 o2 b,x=.t (.int k1) o1 a/\y=.t (.int k2) o2 b
 ·obtain ⟨k1,o1,a,k2,o2,b,rfl,rfl⟩:=h1;simp only [RV,RTy]at hx hy;subst hx;subst hy;by_cases hs:op=.shl\/op=.shr
  ·exact qvK hs h
  by_cases hk:k1=k2
  ·subst hk;exact qz7 h
  ·unfold qrZ at h;cases op<;>first|exact absurd (.inl rfl) hs|exact absurd (.inr rfl) hs|simp [hk]at h
 by_cases h2:∃o1 a o2 b,x=.t .str o1 a/\y=.t .str o2 b
 ·obtain ⟨o1,a,o2,b,rfl,rfl⟩:=h2;simp only [RV,RTy]at hx hy;subst hx;subst hy;exact qz8 h
 by_cases h3:∃o1 a o2 b,x=.t .bool o1 a/\y=.t .bool o2 b
 ·obtain ⟨o1,a,o2,b,rfl,rfl⟩:=h3;simp only [RV,RTy]at hx hy;subst hx;subst hy;exact qyp h
 by_cases h5:∃o1 a o2 b,x=.t .cx o1 a/\y=.t .cx o2 b
 ·obtain ⟨o1,a,o2,b,rfl,rfl⟩:=h5;exact qBC hx hy h
 by_cases h4:∃l m,x=.agg l/\y=.agg m
 ·obtain ⟨l,m,rfl,rfl⟩:=h4;simp only [RV]at hx hy;obtain ⟨l',rfl,hl⟩:=hx;obtain ⟨m',rfl,hm⟩:=hy;exact qz6 hl hm h
 unfold qrZ at h;split at h
 ·exact absurd ⟨_,_,_,_,_,_,rfl,rfl⟩ h1
 ·exact absurd ⟨_,_,_,_,rfl,rfl⟩ h5
 ·exact absurd ⟨_,_,_,_,rfl,rfl⟩ h2
 ·exact absurd ⟨_,_,_,_,rfl,rfl⟩ h3
 ·exact absurd ⟨_,_,rfl,rfl⟩ h4
 ·rename_i τ o l;simp only [RV,RTy]at hx hy;obtain ⟨fx,cx,l',rfl,_,hall⟩:=hx;subst hy;split at h
  ·rename_i el hu;cases hall with
   |nil=>simp at h
   |cons ha hb =>
    simp only [List.isEmpty_cons,cond_false]at h;have hv:∀v m op,qkP P op t xo yo (.sl fx cx (v::m)) (.val (.slice none 0 0))=(match op with
      |.eql=>some (.val (.bool false))
      |.neq=>some (.val (.bool true))
      |_=>none):=λv m op=>by
     unfold qkP;simp only [V.toVal,hu,notNil,if_true];cases op<;>rfl
    split at h
    ·exact ⟨_,_,h,hv _ _ _,by simp [RV,RTy]⟩
    ·exact ⟨_,_,h,hv _ _ _,by simp [RV,RTy]⟩
    ·cases h
  ·cases h
 ·rename_i τ o l;simp only [RV,RTy]at hx hy;subst hy;split at h
  ·rename_i el hu;have hv:∀op,(op=.eql\/op=.neq)->qkP P op t xo yo x' (.val (.slice none 0 0))=some (.val (.bool (if op=.eql then List.isEmpty l else !List.isEmpty l))):=by
    intro op hop;rcases hx with ⟨rfl,rfl⟩|⟨hne,fx,cx,l',rfl,_,hall⟩
    ·have he:=qja hu (.inl ⟨_,rfl,rfl,rfl⟩) (x:=.slice none 0 0) (y:=.slice none 0 0);unfold qkP;simp only [V.toVal];rcases hop with rfl|rfl
     ·show ((Ab.valOf P (Op.equal t (.slice none 0 0) (.slice none 0 0) >>= λb=>(pure (Value.bool b):Sem Value))).map qb1)=_;rw [qn,he];rfl
     ·show ((Ab.valOf P (Op.equal t (.slice none 0 0) (.slice none 0 0) >>= λb=>(pure (Value.bool (!b)):Sem Value))).map qb1)=_;rw [qn,he];rfl
    ·cases hall with
     |nil=>exact absurd rfl hne
     |cons ha hb =>
      unfold qkP;simp only [V.toVal,hu,notNil,if_true];rcases hop with rfl|rfl<;>rfl
   split at h
   ·exact ⟨_,_,h,hv _ (.inl rfl),by simp [RV,RTy]⟩
   ·exact ⟨_,_,h,hv _ (.inr rfl),by simp [RV,RTy]⟩
   ·cases h
  ·cases h
 ·split at h
  ·rename_i d hd;split at h
   ·rename_i hn;have hv:x'.toVal=none/\notNil d x' y'=true:=by
     unfold qxv at hn;split at hn
     ·simp only [RV]at hx hy;subst hx;subst hy;exact ⟨rfl,rfl⟩
     ·simp only [RV]at hx hy;obtain ⟨_,l',rfl,_⟩:=hx;subst hy;exact ⟨rfl,rfl⟩
     ·simp only [RV]at hx hy;obtain ⟨a',b',rfl,_⟩:=hx;subst hy;exact ⟨rfl,rfl⟩
     ·cases hn
    have hv2:∀op,qkP P op t xo yo x' y'=(match op with
      |.eql=>some (.val (.bool false))
      |.neq=>some (.val (.bool true))
      |_=>none):=λop=>by
     unfold qkP;simp only [hv.1,hd,hv.2,if_true];cases op<;>rfl
    split at h
    ·exact ⟨_,_,h,hv2 _,by simp [RV,RTy]⟩
    ·exact ⟨_,_,h,hv2 _,by simp [RV,RTy]⟩
    ·cases h
   ·split at h
    ·rename_i hn;have hv:∃u v,x'=.val u/\y'=.val v/\Ab.valOf P (Op.equal t u v)=some true/\(∀op,op=.eql\/op=.neq->Ab.valOf P (do eqGuard op t xo yo u v;Go.binOp op t u v)=Ab.valOf P (Op.equal t u v >>= λb=>(pure (Value.bool (if op=.eql then b else !b)):Sem Value))):=by
      unfold qAv at hn;split at hn
      ·simp only [RV]at hx hy;subst hx;subst hy;refine ⟨_,_,rfl,rfl,qja hd (.inl ⟨_,rfl,rfl,rfl⟩),?_⟩;rintro op (rfl|rfl)<;>rfl
      ·simp only [RV]at hx hy;subst hx;subst hy;refine ⟨_,_,rfl,rfl,qja hd (.inr (.inl ⟨_,rfl,rfl,rfl⟩)),?_⟩;rintro op (rfl|rfl)<;>rfl
      ·simp only [RV]at hx hy;subst hx;subst hy;refine ⟨_,_,rfl,rfl,qja hd (.inr (.inr ⟨_,_,_,rfl,rfl,rfl⟩)),?_⟩;rintro op (rfl|rfl)<;>rfl
      ·cases hn
     obtain ⟨u,v,rfl,rfl,he,hg⟩:=hv;split at h
     ·refine ⟨_,.val (.bool true),h,?_,by simp [RV,RTy]⟩;refine qal (u:=.bool true) ?_;rw [hg _ (.inl rfl),qn,he];rfl
     ·refine ⟨_,.val (.bool false),h,?_,by simp [RV,RTy]⟩;refine qal (u:=.bool false) ?_;rw [hg _ (.inr rfl),qn,he];rfl
     ·cases h
    ·cases h
  ·cases h
theorem qCH{op:UnOp}{x y:TV}{v:V}(hx:RV x v)(h:tun op x=some y):∃u,v.toVal.bind (λa=>(Ab.valOf P (Go.Op.unary op a)).map qb1)=some u/\RV y u:=by
 unfold tun at h;split at h
 ·cases h;simp only [RV,RTy]at hx;subst hx;exact ⟨_,rfl,by simp [RV,RTy,qb1]⟩
 ·cases h;simp only [RV,RTy]at hx;subst hx;exact ⟨_,rfl,by simp [RV,RTy,qb1]⟩
 ·cases h
theorem qz9{src dst:TypeId}{x:TV}{v:V}{R:Type}{k:TV->Option R}{r:R}(hx:RV x v)(h:qBE P src dst x R k=some r):∃z u,k z=some r/\qqj P src dst v=some u/\RV z u:=by
 unfold qBE at h;split at h
 ·rename_i d1 kk k0 o n h1 h2;simp only [RV,RTy]at hx;subst hx;refine ⟨_,.val (.int kk (kk.wrap n)),h,?_,by simp [RV,RTy]⟩;unfold qqj qgv;simp only [V.toVal];unfold Go.convert;rw [qn,qt h1];simp only [qa];rw [qn,qt h2];rfl
 ·rename_i d1 k0 o n h1 h2;obtain ⟨n',hn',hk'⟩:=qd.1 h;obtain ⟨rfl,hn⟩:=qdt hn';simp only [RV,RTy]at hx;subst hx;refine ⟨_,.val (.float .f64 (FloatKind.f64.nearest n')),hk',?_,by simp only [RV,RTy];exact ⟨_,rfl,Fl.qvd hn⟩⟩;unfold qqj qgv;simp only [V.toVal];unfold Go.convert;rw [qn,qt h1];simp only [qa];rw [qn,qt h2];rfl
 ·rename_i o n h1 h2;obtain ⟨n',hn',hk'⟩:=qd.1 h;obtain ⟨rfl,hn⟩:=qdt hn';simp only [RV,RTy]at hx;obtain ⟨b,rfl,hb⟩:=hx;refine ⟨_,.val (.int .i64 n'),hk',?_,by simp [RV,RTy]⟩;unfold qqj qgv;simp only [V.toVal];unfold Go.convert;rw [qn,qt h1];simp only [qa];rw [qn,qt h2];have h3:(FloatKind.f64.decode b).toInt .zero=some n':=Fl.qAa hb;have h4:IntKind.i64.min<=n'/\n'<=IntKind.i64.max:=by
   simp only [IntKind.min,IntKind.max,IntKind.signed,IntKind.bits,if_true]<;>omega
  show ((Ab.valOf P (Conv.floatToInt .f64 b .i64)).map qb1)=_;unfold Conv.floatToInt;simp only [h3];rw [if_pos h4];rfl
 ·rename_i d1 o s h1 h2;simp only [RV,RTy]at hx;subst hx;refine ⟨_,.val (.string ⟨s.toArray⟩),h,?_,by simp [RV,RTy]⟩;unfold qqj qgv;simp only [V.toVal];unfold Go.convert;rw [qn,qt h1];simp only [qa];rw [qn,qt h2];rfl
 ·rename_i e o l h1 h2;split at h
  ·rename_i he;simp only [RV,RTy]at hx;obtain ⟨f,c,l',rfl,_,hall⟩:=hx;refine ⟨_,.val (.string ⟨(l.map λn=>UInt8.ofNat n.toNat).toArray⟩),h,?_,by simp [RV,RTy]⟩;simp only [qqj,qr6,h1,h2,he];have hb:∀{l:List Int} {l':List V},All2 (λ(n:Int) v=>v=.val (.int .u8 n)) l l'->bytesOf l'=some (l.map λn=>UInt8.ofNat n.toNat):=by
    intro l l' hall;induction hall with
    |nil=>rfl
    |cons h1 _ ih=>subst h1;simp only [bytesOf,ih,qi,qh]
   rw [hb (hall.mono λn v h=>by simpa only [RTy]using h)];rfl
  ·cases h
 ·cases h
theorem qqd{k:IntKind}:∀{xs:List TV} {ys:List V} {l:List Int},qr1 k xs=some l->RVL xs ys->ys=l.map λn=>.val (.int k n)
 |[],ys,l,h,hr=>by simp only [qr1,qb]at h;simp only [RVL]at hr;subst h;subst hr;rfl
 |x::xs,ys,l,h,hr=>by
  simp only [RVL]at hr;obtain ⟨v,m,rfl,h1,h2⟩:=hr;cases x with
  |t τ o x =>
   cases τ with
   |int k' =>
    simp only [qr1]at h;split at h
    ·rename_i hk;subst hk;obtain ⟨l',hl',rfl⟩:=qc.1 h;simp only [RV,RTy]at h1;subst h1;rw [qqd hl' h2];rfl
    ·cases h
   |_=>simp [qr1]at h
  |_=>simp [qr1]at h
theorem qiT(k:IntKind):∀l:List Int,toValL (l.map λn=>V.val (.int k n))=some (l.map λn=>Value.int k n)
 |[]=>rfl
 |n::l=>by simp [toValL,V.toVal,qiT k l]
theorem qxm(k:IntKind):∀(l:List Int) (n:Int),Ab.valOf P ((l.map λn=>Value.int k n).foldlM Go.Builtin.max2 (.int k n))=some (.int k (l.foldl max n))
 |[],n=>rfl
 |m::l,n=>by
  simp only [qh,List.foldlM_cons,List.foldl_cons];rw [qn];have:Ab.valOf P (Go.Builtin.max2 (.int k n) (.int k m))=some (.int k (max n m)):=by
   show some (Value.int k (if m > n then m else n))=_;congr 2;split<;>omega
  rw [this];exact qxm k l _
theorem qxr(k:IntKind):∀(l:List Int) (n:Int),Ab.valOf P ((l.map λn=>Value.int k n).foldlM Go.Builtin.min2 (.int k n))=some (.int k (l.foldl min n))
 |[],n=>rfl
 |m::l,n=>by
  simp only [qh,List.foldlM_cons,List.foldl_cons];rw [qn];have:Ab.valOf P (Go.Builtin.min2 (.int k n) (.int k m))=some (.int k (min n m)):=by
   show some (Value.int k (if m<n then m else n))=_;congr 2;split<;>omega
  rw [this];exact qxr k l _
theorem qtp{b:Builtin}{argTypes:Array TypeId}{ty:TypeId}{xs:List TV}{ys:List V}{R:Type}{k:TV->Option R}{r:R}(hx:RVL xs ys)(h:qqa P b argTypes xs R k=some r) :
  ∃z u,k z=some r/\qdz P b argTypes ty ys=some u/\RV z u:=by
 unfold qqa at h;split at h
 ·rename_i τ o l;simp only [RVL]at hx;obtain ⟨v,m,rfl,h1,rfl⟩:=hx;simp only [RV,RTy]at h1;obtain ⟨fx,c,l',rfl,_,hall⟩:=h1;split at h
  ·rename_i e he;refine ⟨_,.val (.int .i64 l'.length),h,?_,by simp [RV,RTy,hall.length]⟩;simp only [qdz,he]
  ·cases h
 ·rename_i τ l;simp only [RVL]at hx;obtain ⟨v,m,rfl,h1,rfl⟩:=hx;simp only [RV]at h1;obtain ⟨fx,l',rfl,_,hall⟩:=h1;split at h
  ·rename_i e he;refine ⟨_,.val (.int .i64 l'.length),h,?_,by simp [RV,RTy,hall.length]⟩;simp only [qdz,he]
  ·cases h
 ·rename_i ow;simp only [RVL]at hx;obtain ⟨v,m,rfl,h1,rfl⟩:=hx;simp only [RV]at h1;obtain ⟨fx,c,rfl,_⟩:=h1;split at h
  ·rename_i e he;refine ⟨_,.val (.int .i64 ([]:List V).length),h,?_,by simp [RV,RTy]⟩;simp only [qdz,he]
  ·cases h
 ·rename_i o s;simp only [RVL]at hx;obtain ⟨v,m,rfl,h1,rfl⟩:=hx;simp only [RV,RTy]at h1;subst h1;split at h
  ·rename_i he;refine ⟨_,.val (.int .i64 s.length),h,?_,by simp [RV,RTy]⟩;obtain ⟨t,ht,hu⟩:=qd.1 he;have hl:Ab.valOf P (Go.Builtin.len_ argTypes ty #[.string ⟨s.toArray⟩])=some (.int .i64 s.length):=by
    unfold Go.Builtin.len_;have ha:(#[Value.string ⟨s.toArray⟩]:Array Value)[0]?=some (.string ⟨s.toArray⟩):=rfl;simp only [ht,ha];rw [qn,qt hu];simp only [qa];show some (goInt (⟨s.toArray⟩:ByteArray).size)=_;simp [goInt,ByteArray.size]
   show ((toValL [V.val (.string ⟨s.toArray⟩)]).bind λvs=>(Ab.valOf P (Go.Builtin.len_ argTypes ty vs.toArray)).map qb1)=_;simp only [toValL,V.toVal,qa];rw [show [Value.string ⟨s.toArray⟩].toArray=#[Value.string ⟨s.toArray⟩]from rfl,hl];rfl
  ·cases h
 ·simp only [RVL]at hx;obtain ⟨v,m,rfl,h1,rfl⟩:=hx;simp only [RV]at h1;subst h1;split at h
  ·rename_i e he;refine ⟨_,.val (.int .i64 0),h,?_,by simp [RV,RTy]⟩;obtain ⟨t,ht,hu⟩:=qd.1 he;have hl:Ab.valOf P (Go.Builtin.cap_ argTypes ty #[.slice none 0 0])=some (.int .i64 0):=by
    unfold Go.Builtin.cap_;have ha:(#[Value.slice none 0 0]:Array Value)[0]?=some (.slice none 0 0):=rfl;simp only [ht,ha];rw [qn,qt hu];rfl
   show ((toValL [V.val (.slice none 0 0)]).bind λvs=>(Ab.valOf P (Go.Builtin.cap_ argTypes ty vs.toArray)).map qb1)=_;simp only [toValL,V.toVal,qa];rw [show [Value.slice none 0 0].toArray=#[Value.slice none 0 0]from rfl,hl];rfl
  ·cases h
 ·simp only [RVL]at hx;obtain ⟨v,m,rfl,h1,rfl⟩:=hx;simp only [RV]at h1;subst h1;split at h
  ·rename_i e he;refine ⟨_,.val (.int .i64 0),h,?_,by simp [RV,RTy]⟩;obtain ⟨t,ht,hu⟩:=qd.1 he;have hl:Ab.valOf P (Go.Builtin.len_ argTypes ty #[.slice none 0 0])=some (.int .i64 0):=by
    unfold Go.Builtin.len_;have ha:(#[Value.slice none 0 0]:Array Value)[0]?=some (.slice none 0 0):=rfl;simp only [ht,ha];rw [qn,qt hu];rfl
   show ((toValL [V.val (.slice none 0 0)]).bind λvs=>(Ab.valOf P (Go.Builtin.len_ argTypes ty vs.toArray)).map qb1)=_;simp only [toValL,V.toVal,qa];rw [show [Value.slice none 0 0].toArray=#[Value.slice none 0 0]from rfl,hl];rfl
  ·cases h
 ·rename_i x y;simp only [RVL]at hx;obtain ⟨v,m,rfl,h1,v2,m2,rfl,h2,rfl⟩:=hx;split at h
  ·obtain ⟨z,u,hz,hu,hr⟩:=qtn h1 h2 h;exact ⟨z,u,hz,by simp only [qdz,hu],hr⟩
  ·obtain ⟨z,u,hz,hu,hr⟩:=qvJ h1 h2 h;exact ⟨z,u,hz,by simp only [qdz,hu,Option.some_or],hr⟩
 ·rename_i o1 a o2 b;simp only [RVL]at hx;obtain ⟨v,m,rfl,h1,v2,m2,rfl,h2,rfl⟩:=hx;simp only [RV,RTy]at h1 h2;obtain ⟨b1,rfl,i1⟩:=h1;obtain ⟨b2,rfl,i2⟩:=h2;exact ⟨_,.val (.complex .f64 b1 b2),h,rfl,by simp only [RV,RTy];exact ⟨b1,b2,rfl,i1,i2⟩⟩
 ·rename_i o1 a;simp only [RVL]at hx;obtain ⟨v,m,rfl,h1,rfl⟩:=hx;simp only [RV,RTy]at h1;obtain ⟨b1,b2,rfl,i1,i2⟩:=h1;exact ⟨_,.val (.float .f64 b1),h,rfl,by simp only [RV,RTy];exact ⟨b1,rfl,i1⟩⟩
 ·rename_i o1 a;simp only [RVL]at hx;obtain ⟨v,m,rfl,h1,rfl⟩:=hx;simp only [RV,RTy]at h1;obtain ⟨b1,b2,rfl,i1,i2⟩:=h1;exact ⟨_,.val (.float .f64 b2),h,rfl,by simp only [RV,RTy];exact ⟨b2,rfl,i2⟩⟩
 ·rename_i kk o n xs;split at h
  ·rename_i l hl;simp only [RVL]at hx;obtain ⟨v,m,rfl,h1,h2⟩:=hx;simp only [RV,RTy]at h1;subst h1;rw [qqd hl h2];refine ⟨_,.val (.int kk (l.foldl max n)),h,?_,by simp [RV,RTy]⟩;show ((toValL ((n::l).map λn=>V.val (.int kk n))).bind λvs=>(Ab.valOf P (Go.Builtin.max_ argTypes ty vs.toArray)).map qb1)=_;rw [qiT];simp only [qa];have:Ab.valOf P (Go.Builtin.max_ argTypes ty ((n::l).map λn=>Value.int kk n).toArray)=some (.int kk (l.foldl max n)):=qxm kk l n;rw [this];rfl
  ·cases h
 ·rename_i kk o n xs;split at h
  ·rename_i l hl;simp only [RVL]at hx;obtain ⟨v,m,rfl,h1,h2⟩:=hx;simp only [RV,RTy]at h1;subst h1;rw [qqd hl h2];refine ⟨_,.val (.int kk (l.foldl min n)),h,?_,by simp [RV,RTy]⟩;show ((toValL ((n::l).map λn=>V.val (.int kk n))).bind λvs=>(Ab.valOf P (Go.Builtin.min_ argTypes ty vs.toArray)).map qb1)=_;rw [qiT];simp only [qa];have:Ab.valOf P (Go.Builtin.min_ argTypes ty ((n::l).map λn=>Value.int kk n).toArray)=some (.int kk (l.foldl min n)):=qxr kk l n;rw [this];rfl
  ·cases h
 ·cases h
def BxR:Option (List TV)->Option (List V)->Prop
 |none,b=>True
 |some c,b=>∃c',b=some c'/\RVL c c'
def BxO:Option (List TV)->Option (List V)->Prop
 |none,b=>b=none
 |some c,b=>∃c',b=some c'/\RVL c c'
theorem qyo{R:Type}{mk:Int->TV}{l:List Int}{r:R}:∀(n i:Nat) (acc:List TV) (k:List TV->Option R),qCG R mk l n i acc k=some r->i<=l.length->n+i<=l.length/\k (acc++((l.drop i).take n).map mk)=some r
 |0,i,acc,k,h,hi=>⟨by omega,by simpa [qCG]using h⟩
 |n+1,i,acc,k,h,hi=>by
  unfold qCG at h;obtain ⟨e,he,hk⟩:=qd.1 h;rw [show idx l (i:Int)=l[i]? from by simp [idx]]at he;have hlt:=(qm.1 he).1;obtain ⟨h1,h2⟩:=qyo n (i+1) _ k hk (by omega);refine ⟨by omega,?_⟩;have e1:(l.drop i).take (n+1)=e::(l.drop (i+1)).take n:=by
   rw [List.drop_eq_getElem_cons hlt,List.take_succ_cons];rw [(qm.1 he).2]
  rw [e1,qh];simpa using h2
theorem qto{t:TypeId}{x:TV}{R:Type}{k:TV->Option R}{r:R}{v:V}(h:qp9 P t x R k=some r)(hx:RV x v):∃y u,k y=some r/\qhR P t v=some u/\RV y u:=by
 unfold qp9 at h;split at h
 ·rename_i n elem kk o l hu;split at h
  ·cases h
  ·rename_i h0;obtain ⟨h1,h2⟩:=qyo n 0 [] _ h (Nat.zero_le _);simp only [RV,RTy]at hx;obtain ⟨fl,c,l',rfl,hfl,hall⟩:=hx;have hl:=hall.length;have hv:∀{l:List Int} {l':List V},All2 (λ(n:Int) v=>v=.val (.int kk n)) l l'->(qgD l').isSome=true:=by
    intro l l' h;induction h with
    |nil=>rfl
    |cons h1 _ ih=>subst h1;simpa [qgD]using ih
   have hall':=hall.mono λn v (h:RTy (.int kk) (nx o) n v)=>(by simpa only [RTy]using h:v=.val (.int kk n))
   refine ⟨_,.cptr (qX fl) (l'.take n),h2,?_,?_⟩
   ·simp only [qhR,hu];rw [if_pos ⟨by omega,h0,hv hall'⟩]
   ·simp only [RV];refine ⟨_,_,rfl,by cases fl<;>simp [qX],λe=>by rw [hfl.2 (of_decide_eq_true e)];rfl,?_⟩;have ht:∀{l:List Int} {l':List V},All2 (λ(n:Int) v=>v=.val (.int kk n)) l l'->∀n,RVL ((l.take n).map λe=>.t (.int kk) 0 e) (l'.take n):=by
     intro l l' h;induction h with
     |nil=>intro n;simp only [List.take_nil,List.map_nil];exact qaa
     |cons h1 _ ih =>
      intro n;cases n with
      |zero=>simp only [List.take_zero,List.map_nil];exact qaa
      |succ n =>
       subst h1;simp only [List.take_succ_cons,qh];exact qv.2 ⟨by simp only [RV,RTy],ih n⟩
    simpa using ht hall' n
 ·cases h
theorem qr2{tk:Bool}{o:Op}{ty:TypeId}{xs:List TV}{ys:List V}{bx:Option (List TV)}{bx':Option (List V)}{R:Type}{k:TV->Option (List TV)->Option R}{r:R}(hx:RVL xs ys)(hb:BxR bx bx')(hmp:∀c,bx'=some c->qf0 c=false)
  (h:qcz P H f tk o xs bx R k=some r):∃z c u c',k z c=some r/\qaQ P H f tk o ty ys bx'=some (u,c')/\RV z u/\BxO c c':=by
 have fin:∀{x:Option TV} {y:Option V},(match x with|some x=>k x none|none=>none)=some r->(∀z,x=some z->∃u,y=some u/\RV z u)->∃z c u c',k z c=some r/\(y.map λx=>(x,(none:Option (List V))))=some (u,c')/\RV z u/\BxO c c':=by
  intro x y h1 h2;cases x with
  |none=>cases h1
  |some z =>
   obtain ⟨u,hu,hr⟩:=h2 z rfl;exact ⟨z,none,u,none,h1,by rw [hu];rfl,hr,rfl⟩
 have fin2:∀{y:Option V},(∃z u,k z none=some r/\y=some u/\RV z u)->∃z c u c',k z c=some r/\(y.map λx=>(x,(none:Option (List V))))=some (u,c')/\RV z u/\BxO c c':=by
  rintro y ⟨z,u,h1,rfl,hr⟩;exact ⟨z,none,u,none,h1,rfl,hr,rfl⟩
 unfold qcz at h;simp only at h;split at h
 ·simp only [RVL]at hx;obtain ⟨v,m,rfl,h1,rfl⟩:=hx;exact ⟨_,none,v,none,h,rfl,h1,rfl⟩
 ·simp only [RVL]at hx;obtain ⟨v,m,rfl,h1,rfl⟩:=hx;exact ⟨_,none,v,none,h,rfl,h1,rfl⟩
 ·rename_i o' c a b;simp only [RVL]at hx;obtain ⟨v,m,rfl,h1,va,ma,rfl,ha,vb,mb,rfl,hb',rfl⟩:=hx;simp only [RV,RTy]at h1;subst h1;cases c with
  |true=>exact ⟨_,none,va,none,h,rfl,ha,rfl⟩
  |false=>exact ⟨_,none,vb,none,h,rfl,hb',rfl⟩
 ·rename_i t parts xs;exact fin h λz hz=>qyr hx hz
 ·rename_i t len parts xs;exact fin h λz hz=>qnT hx hz
 ·rename_i t a cs;simp only [RVL]at hx;obtain ⟨v,m,rfl,h1,rfl⟩:=hx;simp only [RV]at h1;obtain ⟨_,cs',rfl,_,_,hc⟩:=h1;refine fin h λz hz=>?_;obtain ⟨w,hw,rfl⟩:=qc.1 hz;obtain ⟨u,hu,hr⟩:=qdp hw hc;exact ⟨u.qab,by rw [hu];rfl,hr.qab⟩
 ·rename_i t a q off;simp only [RVL]at hx;obtain ⟨v,m,rfl,h1,rfl⟩:=hx;simp only [RV]at h1;subst h1;split at h
  ·rename_i cs;obtain ⟨cs',rfl,hc⟩:=hb;have hlp:=qdk (qaF hc) (hmp _ rfl);split at h
   ·rename_i htk;split at h
    ·rename_i x hxx;obtain ⟨u,hu,hr⟩:=qdp hxx (hc.drop off);refine ⟨_,_,u,_,h,?_,hr,⟨_,rfl,qjS hc (RVL.qab ((hc.drop off).take _))⟩⟩;simp only [qaQ,hlp,qf,if_false,htk,if_true,hu,qi]
    ·cases h
   ·rename_i htk;obtain ⟨z,c,u,c',h1,h2,h3,h4⟩:=fin (y:=(qad P t (cs'.drop off)).map V.qab) h λz hz=>by
     obtain ⟨w,hw,rfl⟩:=qc.1 hz;obtain ⟨u,hu,hr⟩:=qdp hw (hc.drop off);exact ⟨u.qab,by rw [hu];rfl,hr.qab⟩
    refine ⟨z,c,u,c',h1,?_,h3,h4⟩;simp only [qaQ,hlp,qf,if_false];rw [if_neg htk];exact h2
  ·cases h
 ·rename_i t a b q off x;simp only [RVL]at hx;obtain ⟨v,m,rfl,h1,v2,m2,rfl,h2,rfl⟩:=hx;simp only [RV]at h1;subst h1;split at h
  ·rename_i cs;obtain ⟨cs',rfl,hc⟩:=hb;have hlp:=qdk (qaF hc) (hmp _ rfl);split at h
   ·rename_i hcond;obtain ⟨h0,hl,ho,hk⟩:=hcond;obtain ⟨hcells,hko⟩:=RV.cells hk h2;refine ⟨_,_,.undef,_,h,?_,qcj [],⟨_,rfl,qjS hc hcells⟩⟩;simp only [qaQ];rw [if_pos ⟨hlp,h0,by rw [hcells.length];exact hl,by rw [hcells.length,hc.length];exact ho,hko⟩]
   ·cases h
  ·cases h
 ·simp only [RVL]at hx;obtain ⟨v,m,rfl,h1,rfl⟩:=hx;simp only [RV]at h1;subst h1;exact ⟨_,none,_,none,h,rfl,by simp [RV],rfl⟩
 ·simp only [RVL]at hx;obtain ⟨v,m,rfl,h1,rfl⟩:=hx;have h1':=h1;simp only [RV]at h1;obtain ⟨_,l',rfl,_,h1⟩:=h1;exact ⟨_,none,_,none,h,rfl,h1',rfl⟩
 ·simp only [RVL]at hx;obtain ⟨v,m,rfl,h1,rfl⟩:=hx;have h1':=h1;simp only [RV]at h1;obtain ⟨a',b',rfl,_⟩:=h1;exact ⟨_,none,_,none,h,rfl,h1',rfl⟩
 ·rename_i op' t xo c0 yt o0 b;simp only [RVL]at hx;obtain ⟨v,m,rfl,h1,v2,m2,rfl,h2,rfl⟩:=hx;simp only [RV,RTy]at h1 h2;subst h2;have hv:∀op ms,(op=.eql\/op=.neq)->P.underlying t=some (.interface ms)->qkP P op t xo (.const c0) v (.val .nilIface)=some (.val (.bool (if op=.eql then b else !b))):=by
   intro op ms hop hu;rcases h1 with ⟨rfl,rfl⟩|⟨rfl,t9,rfl⟩
   ·have he:Ab.valOf P (Op.equal t .nilIface .nilIface)=some true:=quQ hu;have hg:∀op,Ab.valOf P (eqGuard op t xo (.const c0) .nilIface .nilIface)=some ():=by
     intro op;unfold eqGuard;cases op<;>cases xo<;>rfl
    unfold qkP;simp only [V.toVal];rcases hop with rfl|rfl
    ·rw [qn,hg];simp only [qa];show ((Ab.valOf P (Op.equal t .nilIface .nilIface >>= λb=>(pure (Value.bool b):Sem Value))).map qb1)=_;rw [qn,he];rfl
    ·rw [qn,hg];simp only [qa];show ((Ab.valOf P (Op.equal t .nilIface .nilIface >>= λb=>(pure (Value.bool (!b)):Sem Value))).map qb1)=_;rw [qn,he];rfl
   ·unfold qkP;simp only [V.toVal,Option.map_none,hu,notNil,if_true];rcases hop with rfl|rfl<;>rfl
  split at h
  ·rename_i ms hu;exact fin2 ⟨_,_,h,hv .eql ms (.inl rfl) hu,by simp [RV,RTy]⟩
  ·rename_i ms hu;exact fin2 ⟨_,_,h,hv .neq ms (.inr rfl) hu,by simp [RV,RTy]⟩
  ·cases h
 ·simp only [RVL]at hx;obtain ⟨v,m,rfl,h1,v2,m2,rfl,h2,rfl⟩:=hx;exact fin2 (qBD h1 h2 h)
 ·simp only [RVL]at hx;obtain ⟨v,m,rfl,h1,rfl⟩:=hx;exact fin h λz hz=>qCH h1 hz
 ·simp only [RVL]at hx;obtain ⟨v,m,rfl,h1,rfl⟩:=hx;exact fin2 (qz9 h1 h)
 ·refine ⟨_,none,_,none,h,rfl,?_,rfl⟩;simp only [RV];exact ⟨_,_,rfl,hx.take _,hx.drop _⟩
 ·simp only [RVL]at hx;obtain ⟨v,m,rfl,h1,v2,m2,rfl,h2,rfl⟩:=hx;exact fin2 (qqe h1 h2 h)
 ·rename_i t a lo hi mx x rest;simp only [RVL]at hx;obtain ⟨v,m,rfl,h1,h2⟩:=hx;have hhead:∀{l:List TV} {l':List V},RVL l l'->RVO l.head? l'.head?:=λ{l l'} h=>by
   cases l with
   |nil=>simp only [RVL]at h;subst h;trivial
   |cons y l=>simp only [RVL]at h;obtain ⟨u,n,rfl,h3,_⟩:=h;exact h3
  have htail:∀{l:List TV} {l':List V},RVL l l'->RVL l.tail l'.tail:=λ{l l'} h=>by
   rw [<- List.drop_one,<- List.drop_one];exact h.drop 1
  have hr1:RVL (if lo.isSome=true then rest.tail else rest) (if lo.isSome=true then m.tail else m):=by
   split
   ·exact htail h2
   ·exact h2
  have hr2:RVL (if hi.isSome=true then (if lo.isSome=true then rest.tail else rest).tail else (if lo.isSome=true then rest.tail else rest)) (if hi.isSome=true then (if lo.isSome=true then m.tail else m).tail else (if lo.isSome=true then m.tail else m)):=by
   split
   ·exact htail hr1
   ·exact hr1
  have ho:∀{q:Bool} {l:List TV} {l':List V},RVL l l'->RVO (if q=true then l.head? else none) (if q=true then l'.head? else none):=λ{q l l'} h=>by
   split
   ·exact hhead h
   ·trivial
  split at h
  ·obtain ⟨y,u,hk,hv,hr⟩:=qvM h1 (ho h2) (ho hr1) (ho hr2) h;exact fin2 ⟨y,u,hk,hv,hr⟩
  ·obtain ⟨y,u,hk,hv,hr⟩:=qyA h1 (ho h2) (ho hr1) (ho hr2) h;exact fin2 ⟨y,u,hk,by rw [hv];rfl,hr⟩
 ·simp only [RVL]at hx;obtain ⟨v,m,rfl,h1,rfl⟩:=hx;exact fin h λz hz=>qqb hz h1
 ·simp only [RVL]at hx;obtain ⟨v,m,rfl,h1,rfl⟩:=hx;exact fin h λz hz=>qyt hz h1
 ·simp only [RVL]at hx;obtain ⟨v,m,rfl,h1,rfl⟩:=hx;obtain ⟨y,u,hk,hu,hr⟩:=qto h h1;exact fin2 ⟨y,u,hk,hu,hr⟩
 ·simp only [RVL]at hx;obtain ⟨v,m,rfl,h1,v2,m2,rfl,h2,rfl⟩:=hx;simp only [RV,RTy]at h2;subst h2;obtain ⟨y,u,hk,hu,hr⟩:=qqc h h1;exact fin2 ⟨y,u,hk,hu,hr⟩
 ·simp only [RVL]at hx;obtain ⟨v,m,rfl,h1,v2,m2,rfl,h2,rfl⟩:=hx;simp only [RV,RTy]at h2;subst h2;split at h
  ·rename_i len elem cs hu;simp only [RV]at h1;obtain ⟨cs',rfl,hc⟩:=h1;obtain ⟨y,u,hk,hv,hr⟩:=qyv hu h hc;exact fin2 ⟨y,u,hk,hv,hr⟩
  ·rename_i o s hu;simp only [RV,RTy]at h1;subst h1;obtain ⟨b,hb',hk⟩:=qd.1 h;obtain ⟨h0,hi⟩:=qlD hb';refine fin2 ⟨_,.val (.int .u8 b.toNat),hk,?_,by simp [RV,RTy]⟩;simp only [qnB,hu];rw [if_pos h0];have key:∀j:Nat,s[j]?=some b->(⟨s.toArray⟩:ByteArray)[j]?=some b:=λj hj=>by
    have hlt:=(qm.1 hj).1;rw [getElem?_pos (⟨s.toArray⟩:ByteArray) j (by simpa [ByteArray.size]using hlt)];have:=(qm.1 hj).2;simp only [qb];rw [<- this];rfl
   rw [key _ hi];rfl
  ·cases h
 ·simp only [RVL]at hx;obtain ⟨v,m,rfl,h1,rfl⟩:=hx;simp only [RV]at h1;obtain ⟨l',rfl,hl⟩:=h1;exact fin h λz hz=>hl.get hz
 ·exact fin2 (qtp hx h)
 ·cases h
end
end Go.Tx
end
