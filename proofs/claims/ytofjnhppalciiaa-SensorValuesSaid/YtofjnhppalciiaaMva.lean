/-
  ONE LAW OF A CHAPTER: its program side is run by an interpreter that is proved sound; what it computes is shown to be what the law says. No conditions. Part 1 of 8.
-/
import Derived.CallsIn
import Derived.Laws.Append
import Derived.Laws.AppendOwn
import Derived.Laws.MakeOwn
import Derived.Laws.World
import Derived.Laws.CopyRow
import Derived.Laws.Cells
import Derived.Laws.Entries
import Derived.Laws.Strings
import Derived.Laws.Tables
import Derived.Great.BuildSlice
import Derived.Laws.Slices
import Derived.Laws.BytesArg
set_option linter.unusedSimpArgs false
set_option linter.unusedVariables false
set_option linter.unnecessarySimpa false
section
theorem qa{α β : Type _}(a : α)(f : α→Option β) : (some a).bind f=f a := rfl
theorem qb{α : Type _}(a b : α) : (some a=some b)=(a=b) := Option.some.injEq a b
theorem qc{α β : Type _}{f : α→β}{x : Option α}{b : β} : x.map f=some b↔∃a, x=some a∧f a=b := Option.map_eq_some_iff
theorem qd{α β : Type _}{b : β}{o : Option α}{f : α→Option β} : o.bind f=some b↔∃a, o=some a∧f a=some b := Option.bind_eq_some_iff
theorem qe(a b : Bool) : ((a&&b)=true)=(a=true∧b=true) := Bool.and_eq_true a b
theorem qf : (false=true)=False := Bool.false_eq_true
theorem qg{α : Type _}{l₁ l₂ : List α}{i : Nat}(hn : i<l₁.length) : (l₁++l₂)[i]?=l₁[i]? := List.getElem?_append_left hn
theorem qh{α β : Type _}{f : α→β}{a : α}{l : List α} : (a::l).map f=f a::l.map f := rfl
theorem qi{α β : Type _}{a : α}{f : α→β} : (some a).map f=some (f a) := rfl
theorem qj{α : Type _}{a : α}{l m : List α} : a∈l++m↔a∈l∨a∈m := List.mem_append
theorem qk{α : Type _}{b a : α}{l : List α} : a∈b::l↔a=b∨a∈l := List.mem_cons
theorem qm{α : Type _}{l : List α}{i : Nat}{a : α} : l[i]?=some a↔∃h : i<l.length, l[i]=a := List.getElem?_eq_some_iff
namespace Go.Ab
open Go
inductive Fl where
 |own|q5|shared
 deriving DecidableEq
structure Root where
 lvl:Nat
 slot:Nat
 deriving DecidableEq
inductive V where
 |undef
 |val (v:Value)
 |ptr (r:Root) (off:Nat)
 |cptr (f:Fl) (cells:List V)
 |sl (f:Fl) (clip:Bool) (l:List V)
 |room (s n:Nat)
 |fn (f:FuncId) (first captured:List V)
 |yld (r:Root)
 |iface (t:TypeId) (v:V)
 |agg (l:List V)
 |tuple (l:List V)
 |mref (r:Root)
 |bsl (r:Root) (off n:Nat)
 |mp (es:List (Value×Value))
 |lp (state:LoopState) (pend:Option Code) (f:FuncId) (env:List V) (params:List Tmp) (assign body:Code)
instance:Inhabited V:=⟨.undef⟩
mutual
def V.reflag(g:Fl->Fl):V->V
 |.undef=>.undef
 |.val v=>.val v
 |.ptr r p=>.ptr r p
 |.cptr f cs=>.cptr (g f) (reflagL g cs)
 |.sl f c l=>.sl (g f) c (reflagL g l)
 |.room s n=>if g .own=.own then .room s n else if n=0 then .sl (g .own) false []else .undef
 |.fn f a b=>.fn f (reflagL g a) (reflagL g b)
 |.yld r=>.yld r
 |.iface t v=>.iface t (v.reflag g)
 |.agg l=>.agg (reflagL g l)
 |.tuple l=>.tuple (reflagL g l)
 |.mref r=>.mref r
 |.bsl r o n=>.bsl r o n
 |.mp es=>.mp es
 |.lp s pe f env ps a b=>.lp s pe f env ps a b
def reflagL(g:Fl->Fl):List V->List V
 |[]=>[]
 |v::l=>v.reflag g::reflagL g l
end
def qW:Fl->Fl
 |.own=>.q5
 |f=>f
def qL:Fl->Fl:=λ_=>.shared
def qhl:Fl->Fl
 |.shared=>.q5
 |f=>f
def qgv:Fl->Fl
 |.own=>.shared
 |f=>f
def qhm:Fl->Fl
 |.q5=>.shared
 |f=>f
def V.q5(v:V):V:=v.reflag qW
def V.share(v:V):V:=v.reflag qL
def V.qba(v:V):V:=v.reflag qhl
def V.hand(v:V):V:=v.reflag qgv
mutual
def V.loose:V->Bool
 |.cptr f l=>decide (f=.q5)||looseL l
 |.sl f _ l=>decide (f=.q5)||looseL l
 |.fn _ a b=>looseL a||looseL b
 |.iface _ v=>v.loose
 |.agg l=>looseL l
 |.tuple l=>looseL l
 |_=>false
def looseL:List V->Bool
 |[]=>false
 |v::l=>v.loose||looseL l
end
mutual
def V.qb9:V->Bool
 |.undef=>true
 |.room ..=>true
 |.val _=>true
 |.sl f _ l=>decide (f=.own)&&mineL l
 |.fn _ a b=>mineL a&&mineL b
 |.iface _ v=>v.qb9
 |.agg l=>mineL l
 |.tuple l=>mineL l
 |_=>false
def mineL:List V->Bool
 |[]=>true
 |v::l=>v.qb9&&mineL l
end
mutual
def V.owns:V->Bool
 |.room ..=>true
 |.cptr f l=>decide (f=.own)||ownsL l
 |.sl f _ l=>decide (f=.own)||ownsL l
 |.fn _ a b=>ownsL a||ownsL b
 |.iface _ v=>v.owns
 |.agg l=>ownsL l
 |.tuple l=>ownsL l
 |_=>false
def ownsL:List V->Bool
 |[]=>false
 |v::l=>v.owns||ownsL l
end
mutual
def V.qq:V->List Root
 |.ptr r _=>[r]
 |.yld r=>[r]
 |.mref r=>[r]
 |.bsl r _ _=>[r]
 |.cptr _ cs=>ptrsL cs
 |.fn _ a b=>ptrsL a++ptrsL b
 |.iface _ v=>v.qq
 |.agg l=>ptrsL l
 |.tuple l=>ptrsL l
 |.lp _ _ _ env _ _ _=>ptrsL env
 |_=>[]
def ptrsL:List V->List Root
 |[]=>[]
 |v::l=>v.qq++ptrsL l
end
def V.cells:V->List V
 |.agg l=>l
 |v=>[v]
def V.one:V->Bool
 |.val u=>match u with
  |.agg _=>false
  |.tuple _=>false
  |_=>true
 |.ptr .. | .cptr .. | .sl .. | .room .. | .fn .. | .yld _|.mref _|.bsl .. | .iface ..=>true
 |_=>false
def V.oks(x:V):Bool:=x.cells.all V.one
mutual
def V.toVal:V->Option Value
 |.val v=>some v
 |.agg l=>(toValL l).map λvs=>.agg vs.toArray
 |.tuple l=>(toValL l).map λvs=>.tuple vs.toArray
 |.iface t v=>v.toVal.map (.iface t)
 |_=>none
def toValL:List V->Option (List Value)
 |[]=>some []
 |v::l=>match v.toVal,toValL l with
  |some x,some xs=>some (x::xs)
  |_,_=>none
end
def qb1:Value->V
 |.agg cs=>.agg (cs.toList.map .val)
 |.tuple vs=>.tuple (vs.toList.map λ| .agg cs=>.agg (cs.toList.map .val)|v=>.val v)
 |v=>.val v
def qef(precise:Bool):V:=if precise then .val (.slice none 0 0)else .sl .own false []
def qcB(precise:Bool):Value->V
 |.slice none 0 0=>qef precise
 |v=>.val v
def ofConst(precise:Bool):Value->V
 |.agg cs=>.agg (cs.toList.map (qcB precise))
 |v=>qcB precise v
def valOf{α:Type}(P:Program):Sem α->Option α
 |.pure a=>some a
 |.program k=>valOf P (k P)
 |.mark _ k=>valOf P k
 |_=>none
abbrev Level:=List (Nat×List V)
structure St where
 E:List V
 L:List Level
 B:Level
structure Hints where
 pairs:FuncId->Nat->List (Nat×Nat):=λ_ _=>[]
 take:FuncId->Tmp->Bool:=λ_ _=>false
 clear:FuncId->Nat->List Tmp:=λ_ _=>[]
 precise:FuncId->Bool:=λ_=>false
 link:FuncId->Tmp->Bool:=λ_ _=>false
 qhw:FuncId->Bool:=λ_=>false
 mapT:TypeId->Bool:=λ_=>false
 born:FuncId->Bool:=λ_=>false
 seq:FuncId->Option FuncId:=λ_=>none
 pre:FuncId->Nat->List Tmp:=λ_ _=>[]
 turn:FuncId->Option (List Int->Option (List Int)):=λ_=>none
 qc0:FuncId->Bool:=λ_=>false
 io:FuncId->Bool:=λ_=>false
 denr:FuncId->Bool:=λ_=>false
 perm:FuncId->Nat->List Nat:=λ_ _=>[]
 own:FuncId->Bool:=λ_=>false
 sp:FuncId->Nat->Nat:=λ_ _=>0
def St.put(st:St)(d:Option Tmp)(v:V):St :=
 match d with
 |some t=>{st with E:=st.E.set t v}
 |none=>st
def qy:Level->Nat->Option (List V)
 |[],_=>none
 |(k,c)::l,s=>if k=s then some c else qy l s
def qb2(k:Nat)(c:List V):Level->Level
 |[]=>[(k,c)]
 |(j,e)::l=>if k<j then (k,c)::(j,e)::l else (j,e)::qb2 k c l
def qdZ:Level->Nat->List V->Level
 |[],_,_=>[]
 |(k,c)::l,s,c'=>if k=s then (k,c')::l else (k,c)::qdZ l s c'
def St.box(st:St)(r:Root):Option (List V) :=
 if r.lvl=st.L.length then qy st.B r.slot else match st.L[r.lvl]? with|some b=>qy b r.slot|none=>none
def St.qo(st:St)(r:Root)(c:List V):St :=
 if r.lvl=st.L.length then {st with B:=qdZ st.B r.slot c}
 else {st with L:=st.L.modify r.lvl λb=>qdZ b r.slot c}
section
variable (P:Program) (H:Hints) (f:FuncId)
def qO(t:TypeId):Bool :=
 match P.underlying t with
 |some (.struct _)|some (.array ..)=>true
 |_=>false
def q8(t:TypeId)(cs:List V):Option V :=
 match P.underlying t with
 |none=>none
 |some _=>if qO P t then (if P.cellsOf t<=cs.length then some (.agg (cs.take (P.cellsOf t)))else none)else cs.head?
def zeroOf(t:TypeId):Option V:=((P.info? t).bind (·.zero)).map (ofConst (H.precise f))
def qP(cs:List V)(off:Nat)(vs:List V):List V:=cs.take off++vs++cs.drop (off+vs.length)
def qgB(place:Nat->Option (Nat×Nat))(cs:List V):List (Nat×V)->Option (List V)
 |[]=>some cs
 |(i,v)::rest =>
  match place i with
  |none=>none
  |some (off,size)=>if v.cells.length≠size\/off+v.cells.length > cs.length\/v.oks=false then none else qgB place (qP cs off v.cells) rest
def qou(t:TypeId)(parts:List (Nat×V)):Option V :=
 match zeroOf P H f t,P.underlying t with
 |some z,some (.struct fields) =>
  match fields.toList.mapM (λf=>(P.info? f.type).map λi=>(f.offset,i.size))with
  |some places=>(qgB (places.toArray[·]?) z.cells parts).map .agg
  |none=>none
 |some z,some (.array _ elem) =>
  match P.info? elem with
  |some ie=>(qgB (λi=>some (i*ie.size,ie.size)) z.cells parts).map .agg
  |none=>none
 |_,_=>none
def chunk(agg:Bool)(s:Nat):Nat->List V->List V
 |0,_=>[]
 |n+1,cs=>(if agg then .agg (cs.take s)else cs.headD .undef)::chunk agg s n (cs.drop s)
def qdE(t:TypeId)(len:Nat)(parts:List (Nat×V)):Option V :=
 match P.underlying t with
 |some (.slice elem) =>
  match P.info? elem,zeroOf P H f elem with
  |some ie,some z =>
   if ie.size=0\/(qO P elem=false/\ie.size≠1)\/z.cells.length≠ie.size\/len*ie.size > 16777216 then none else
   match qgB (λi=>some (i*ie.size,ie.size)) ((List.replicate len z.cells).flatten) parts with
   |some cs=>if cs.all V.one/\(ptrsL cs).isEmpty then some (.sl .own false (chunk (qO P elem) ie.size len cs))else none
   |none=>none
  |_,_=>none
 |_=>none
def qov(t:TypeId)(x:V)(fd:Nat):Option V :=
 match P.underlying t,x with
 |some (.struct fields),.agg cs =>
  match fields[fd]? with
  |some d=>q8 P d.type (cs.drop d.offset)
  |none=>none
 |_,_=>none
def qcv(t:TypeId)(x:V)(fd:Nat):Option V :=
 match P.underlying t with
 |some (.struct fields) =>
  match fields[fd]? with
  |some d=>if P.cellsOf d.type=0 then none else
   match x with
   |.ptr r off=>some (.ptr r (off+d.offset))
   |.cptr fl cs=>if d.offset<=cs.length then some (.cptr fl (cs.drop d.offset))else none
   |_=>none
  |none=>none
 |_=>none
def qbg(t:TypeId)(x i:V):Option V :=
 match i with
 |.val (.int _ n) =>
  match P.underlying t,x with
  |some (.array len elem),.ptr r off=>if 0<=n/\n<len/\P.cellsOf elem≠0 then some (.ptr r (off+n.toNat*P.cellsOf elem))else none
  |some (.array len elem),.cptr fl cs=>if 0<=n/\n<len/\P.cellsOf elem≠0/\n.toNat*P.cellsOf elem<=cs.length then some (.cptr fl (cs.drop (n.toNat*P.cellsOf elem)))else none
  |some (.slice elem),.sl fl _ l=>if 0<=n then
    match l[n.toNat]? with
    |some e=>if e.cells.length=P.cellsOf elem/\e.oks=true/\P.cellsOf elem≠0/\(ptrsL e.cells).isEmpty then some (.cptr (qW fl) (reflagL qW e.cells))else none
    |none=>none
   else none
  |_,_=>none
 |_=>none
def qnf(t:TypeId)(x i:V):Option V :=
 match i,P.underlying t,x with
 |.val (.int _ n),some (.array len elem),.agg cs =>
  if 0<=n/\n<len/\P.cellsOf elem≠0 then q8 P elem (cs.drop (n.toNat*P.cellsOf elem))else none
 |.val (.int _ n),some .string,.val (.string s)=>if 0<=n then (s[n.toNat]?).map λb=>.val (.int .u8 b.toNat)else none
 |_,_,_=>none
def qgz:List V->Option (List Value)
 |[]=>some []
 |.val (.int k n)::l=>(qgz l).map (.int k n::·)
 |_=>none
def qhN(t:TypeId)(x:V):Option V :=
 match P.underlying t,x with
 |some (.array n _),.sl fl _ l=>if n<=l.length/\n≠0/\(qgz l).isSome=true then some (.cptr (qW fl) (l.take n))else none
 |_,_=>none
def qjb:V->Option Nat
 |.val (.int _ n)=>if 0<=n then some n.toNat else none
 |_=>none
def qfm(d:Nat):Option V->Option Nat
 |some v=>qjb v
 |none=>some d
def qdY(t:TypeId)(x:V)(lo hi mx:Option V):Option V :=
 match P.underlying t,x with
 |some (.slice elem),.sl fl c l =>
  if fl=.own\/P.cellsOf elem=0\/l.all (λe=>decide (e.cells.length=P.cellsOf elem))=false then none else
  match qfm 0 lo,qfm l.length hi with
  |some a,some b =>
   match mx with
   |none=>if a<=b/\b<=l.length then some (.sl fl (c&&decide (b=l.length)) ((l.take b).drop a))else none
   |some m=>if qjb m=some b/\hi.isSome/\a<=b/\b<=l.length then some (.sl fl true ((l.take b).drop a))else none
  |_,_=>none
 |some (.slice elem),.val (.slice none 0 0) =>
  if P.cellsOf elem=0 then none else
  match qfm 0 lo,qfm 0 hi,qfm 0 mx with
  |some 0,some 0,some 0=>if mx.isSome/\hi.isNone then none else some (.val (.slice none 0 0))
  |_,_,_=>none
 |some .string,.val (.string s) =>
  match qfm 0 lo,qfm s.size hi with
  |some a,some b=>if mx.isNone/\a<=b/\b<=s.size then some (.val (.string (s.extract a b)))else none
  |_,_=>none
 |_,_=>none
def qev(t:TypeId)(len cap:V):Option V :=
 match P.underlying t with
 |some (.slice elem) =>
  match zeroOf P H f elem,qjb len,qjb cap with
  |some z,some n,some c =>
   if n<=c/\(n=0->c=0)/\P.cellsOf elem≠0/\z.cells.length=P.cellsOf elem/\z.oks/\z.qq.isEmpty/\P.bytesOf elem*c<=70368744177664/\c<=70368744177664 then some (.sl .own false (List.replicate n z))else none
  |_,_,_=>none
 |_=>none
def qcU(argTypes:Array TypeId)(x y:V):Option V :=
 match (argTypes[0]?).bind P.underlying,(argTypes[1]?).bind P.underlying with
 |some (.slice elem),some yt =>
  let s:=P.cellsOf elem
  let ys:Option (List V):=match yt,y with
   |.slice _,.sl _ _ l=>some l
   |.slice _,.val (.slice none 0 0)=>some []
   |.string,.val (.string b)=>some (b.data.toList.map λc=>.val (.int .u8 c.toNat))
   |_,_=>none
  match ys with
  |none=>none
  |some l2 =>
   if s=0\/((P.info? elem).bind (·.zero)).map (λz=>z.cells.size)≠some s\/l2.all (λe=>decide (e.cells.length=s)&&e.oks)=false\/(ptrsL l2).isEmpty=false then none else
   match x with
   |.val (.slice none 0 0)=>if l2.isEmpty then some x else if (l2.length+512)*P.bytesOf elem<=70368744177664/\l2.length<=70368744177664 then some (.sl .own false l2)else none
   |.sl fl c l =>
    if l.all (λe=>decide (e.cells.length=s))=true/\(l.length+l2.length+512)*P.bytesOf elem<=70368744177664/\l.length+l2.length<=70368744177664 then
     (if fl=.own then some (.sl .own false (l++l2))
     else if c then (if l2.isEmpty then some x else some (.sl .own false (l++l2)))
     else none)
    else none
   |_=>none
 |_,_=>none
def qel(argTypes:Array TypeId)(x y:V):Option V :=
 match (argTypes[0]?).bind P.underlying,(argTypes[1]?).bind P.underlying,x,y with
 |some (.slice elem),some (.int _),.val (.slice none 0 0),.val (.int .i64 n) =>
  if 0<n/\n<=70368744177664/\P.cellsOf elem≠0/\((P.info? elem).bind (·.zero)).map (λz=>z.cells.size)=some (P.cellsOf elem)/\n.toNat*P.bytesOf elem<=70368744177664 then some (.room (P.cellsOf elem) n.toNat)else none
 |_,_,_,_=>none
def qgr(argTypes:Array TypeId)(x y:V):Option V :=
 match (argTypes[0]?).bind P.underlying,(argTypes[1]?).bind P.underlying,x,y with
 |some (.slice elem),some (.slice _),.room s 0,.sl _ _ l2 =>
  if s=P.cellsOf elem/\((P.info? elem).bind (·.zero)).map (λz=>z.cells.size)=some s/\l2.all (λe=>decide (e.cells.length=s)&&e.oks)=true/\(ptrsL l2).isEmpty=true/\l2.length*P.bytesOf elem<=70368744177664/\l2.length<=70368744177664 then (if l2.isEmpty=true then some (.room s 0)else some (.sl .own false l2))else none
 |_,_,_,_=>none
def qiA(t:TypeId)(x:V)(lo hi mx:Option V):Option V :=
 match P.underlying t,x,lo,hi,mx with
 |some (.slice elem),.room s _,none,some (.val (.int _ 0)),none=>if P.cellsOf elem≠0 then some (.room s 0)else none
 |some (.array n elem),.ptr r off,none,none,none=>if P.cellsOf elem=1 then some (.bsl r off n)else none
 |_,_,_,_,_=>none
def notNil:TypeDesc->V->V->Bool
 |.slice _,.sl _ _ (_::_),.val (.slice none 0 0)=>true
 |.pointer _,.ptr ..,.val (.pointer none)=>true
 |.pointer _,.cptr ..,.val (.pointer none)=>true
 |.func ..,.fn ..,.val .nilFunc=>true
 |.interface _,.iface ..,.val .nilIface=>true
 |_,_,_=>false
def qko(op:BinOp)(t:TypeId)(xo yo:Operand)(x y:V):Option V :=
 match x.toVal,y.toVal with
 |some a,some b=>(valOf P (do eqGuard op t xo yo a b;Go.binOp op t a b)).map qb1
 |_,_ =>
  match P.underlying t with
  |some d=>if notNil d x y then (match op with
   |.eql=>some (.val (.bool false))
   |.neq=>some (.val (.bool true))
   |_=>none)else none
  |none=>none
def qgs(src dst:TypeId)(x:V):Option V :=
 match x.toVal with
 |some a=>(valOf P (Go.convert src dst a)).map qb1
 |none=>none
def bytesOf:List V->Option (List UInt8)
 |[]=>some []
 |.val (.int .u8 n)::l=>(bytesOf l).map (UInt8.ofNat n.toNat::·)
 |_=>none
def qrV(src dst:TypeId)(l:List V):Option V :=
 match P.underlying src,P.underlying dst with
 |some (.slice e),some .string=>match P.underlying e with
  |some (.int .u8)=>(bytesOf l).map λs=>.val (.string ⟨s.toArray⟩)
  |_=>none
 |_,_=>none
def qp1(src dst:TypeId):V->Option V
 |.sl _ _ l=>qrV P src dst l
 |x=>qgs P src dst x
def qdO(b:Builtin)(argTypes:Array TypeId)(type:TypeId)(xs:List V):Option V :=
 match b,xs with
 |.len,[.sl _ _ l]=>match (argTypes[0]?).bind P.underlying with
  |some (.slice _)=>some (.val (.int .i64 l.length))
  |_=>none
 |.append,[x,y]=>(qcU P argTypes x y).or ((qel P argTypes x y).or (qgr P argTypes x y))
 |.append,_=>none
 |.copy,_=>none
 |.cap,xs=>(toValL xs).bind λvs=>(valOf P (Go.Builtin.cap_ argTypes type vs.toArray)).map qb1
 |.len,xs=>(toValL xs).bind λvs=>(valOf P (Go.Builtin.len_ argTypes type vs.toArray)).map qb1
 |.max,xs=>(toValL xs).bind λvs=>(valOf P (Go.Builtin.max_ argTypes type vs.toArray)).map qb1
 |.min,xs=>(toValL xs).bind λvs=>(valOf P (Go.Builtin.min_ argTypes type vs.toArray)).map qb1
 |.real,xs=>(toValL xs).bind λvs=>(valOf P (Go.Builtin.real_ argTypes type vs.toArray)).map qb1
 |.imag,xs=>(toValL xs).bind λvs=>(valOf P (Go.Builtin.imag_ argTypes type vs.toArray)).map qb1
 |.complex,xs=>(toValL xs).bind λvs=>(valOf P (Go.Builtin.complex_ argTypes type vs.toArray)).map qb1
 |_,_=>none
def q3:List V->Bool
 |.lp ..::_=>true
 |_=>false
def qfP:List V->Bool
 |.mp _::_=>true
 |_=>false
def qc3:List V->Bool
 |.lp ..::_=>true
 |.mp _::_=>true
 |_=>false
def qaG(tk:Bool)(o:Op)(type:TypeId)(xs:List V)(bx:Option (List V)):Option (V×Option (List V)) :=
 let v (x:Option V):Option (V×Option (List V)):=x.map λx=>(x,none)
 match o,xs with
 |.move _,[x]|.assign _,[x]=>some (x,none)
 |.pick ..,[.val (.bool c),a,b]=>some (if c then a else b,none)
 |.build t parts,xs=>v (qou P H f t (parts.toList.map (·.1) |>.zip xs))
 |.buildSlice t len parts,xs=>v (qdE P H f t len (parts.toList.map (·.1) |>.zip xs))
 |.load t _,[.cptr _ cs]=>v ((q8 P t cs).map V.q5)
 |.load t _,[.ptr _ off]=>match bx with
  |some cs=>if qc3 cs then none else if tk then (q8 P t (cs.drop off)).map λx=>(x,some (qP cs off (reflagL qW ((cs.drop off).take (if qO P t then P.cellsOf t else 1)))))
   else v ((q8 P t (cs.drop off)).map V.q5)
  |none=>none
 |.store t _ _,[.ptr _ off,x]=>match bx with
  |some cs=>if qc3 cs=false/\P.cellsOf t≠0/\x.cells.length=P.cellsOf t/\off+x.cells.length<=cs.length/\x.oks=true then some (.undef,some (qP cs off x.cells))else none
  |none=>none
 |.nilCheck _,[.ptr r off]=>some (.ptr r off,none)
 |.nilCheck _,[.cptr fl cs]=>some (.cptr fl cs,none)
 |.nilCheck _,[.fn g a b]=>some (.fn g a b,none)
 |.binOp op t xo yo _,[x,y]=>v (qko P op t xo yo x y)
 |.unOp op _ _,[x]=>v (x.toVal.bind λa=>(valOf P (Go.Op.unary op a)).map qb1)
 |.convert src dst _,[x]=>v (qp1 P src dst x)
 |.makeInterface t _,[x] =>
  match P.underlying t with
  |some (.interface _)|none=>none
  |_=>if x.qq.isEmpty then some (match x.toVal with|some a=>.val (.iface t a)|none=>.iface t x,none)else none
 |.makeFunc (.func g) first _,xs=>some (.fn g (xs.take first.size) (xs.drop first.size),none)
 |.makeSlice t _ _,[l,c]=>v (qev P H f t l c)
 |.slice t _ lo hi mx,x::rest =>
  let r1:=if lo.isSome then rest.tail else rest
  let r2:=if hi.isSome then r1.tail else r1
  v ((qdY P t x (if lo.isSome then rest.head? else none) (if hi.isSome then r1.head? else none) (if mx.isSome then r2.head? else none)).or (qiA P t x (if lo.isSome then rest.head? else none) (if hi.isSome then r1.head? else none) (if mx.isSome then r2.head? else none)))
 |.fieldAddr t _ fd,[x]=>v (qcv P t x fd)
 |.field t _ fd,[x]=>v (qov P t x fd)
 |.sliceToArrayPointer t _,[x]=>v (qhN P t x)
 |.indexAddr t _ _,[x,i]=>v (qbg P t x i)
 |.index t _ _,[x,i]=>v (qnf P t x i)
 |.extract _ i,[.tuple l]=>v l[i]?
 |.call {callee:=.builtin b,argTypes,..},xs=>v (qdO P b argTypes type xs)
 |_,_=>none
def qm6:Op->Bool
 |.call {callee:=.builtin .len,..}=>false
 |.assign _|.store .. | .box .. | .build .. | .buildSlice .. | .makeInterface .. | .pick .. | .makeFunc .. | .call _=>true
 |_=>false
def q7(o:Oper):Bool:=qm6 o.op||(match o.dst with|some t=>H.take f t|none=>false)
def tmpsOf(o:Oper):List Tmp:=o.op.operands.toList.filterMap λ| .tmp t=>some t|_=>none
def qrm:Op->Bool
 |.binOp ..=>true
 |_=>false
def rd(o:Oper)(E:List V):Operand->V
 |.tmp t=>if q7 H f o then E.getD t .undef else (E.getD t .undef).q5
 |.const v=>ofConst (H.precise f||qrm o.op) v
 |.func g=>.fn g [] []
 |.global _=>.undef
def qA(E:List V)(ts:List Tmp):List V:=ts.foldl (λE t=>E.modify t V.q5) E
def rootOf:Op->List V->Option Root
 |.load ..,.ptr r _::_=>some r
 |.store ..,.ptr r _::_=>some r
 |_,_=>none
end
inductive Ex where
 |normal
 |exit (id:Nat)
 |ret
 deriving DecidableEq
structure Orc where
 call:FuncId->List V->List Level->Option (V×List Level)
 code:FuncId->Nat->Code->St->Option (Ex×St)
 qhw:FuncId->Bool:=λ_=>false
 born:FuncId->List V->Option (V×Nat×List (Value×Value)):=λ_ _=>none
 seq:FuncId->Option FuncId:=λ_=>none
 own:FuncId->List V->Option V:=λ_ _=>none
section
variable (bx:Root->Option (List V))
mutual
def peekV:V->Option V
 |.ptr r off=>match bx r with
  |some c=>if qc3 c=false/\off<=c.length then some (.cptr .shared (reflagL qL (c.drop off)))else none
  |none=>none
 |.bsl r off n=>match bx r with
  |some c=>if qc3 c=false/\off+n<=c.length/\(reflagL qL ((c.drop off).take n)).all V.one=true/\ptrsL ((c.drop off).take n)=[]then some (.sl .shared false (reflagL qL ((c.drop off).take n)))else none
  |none=>none
 |.fn f a b=>match peekL a,peekL b with
  |some x,some y=>some (.fn f x y)
  |_,_=>none
 |.iface t v=>(peekV v).map (.iface t)
 |.agg l=>(peekL l).map .agg
 |.tuple l=>(peekL l).map .tuple
 |.mref r=>some (.mref r)
 |.cptr _ cs=>some (.cptr .shared (reflagL qL cs))
 |.sl _ c l=>some (.sl .shared c (reflagL qL l))
 |.undef=>some .undef
 |.val v=>some (.val v)
 |_=>none
def peekL:List V->Option (List V)
 |[]=>some []
 |v::l=>match peekV v,peekL l with
  |some x,some xs=>some (x::xs)
  |_,_=>none
end
end
def qc5:List Level->Option (List Level×Level)
 |[]=>none
 |[b]=>some ([],b)
 |b::c::l=>(qc5 (c::l)).map λ(x,y)=>(b::x,y)
def Ex.code:Ex->Option Code
 |.normal=>none
 |.exit id=>some (.exit id)
 |.ret=>some .ret
section
variable (P:Program) (H:Hints) (O:Orc) (f:FuncId)
def qeX(g:FuncId)(args:List V)(st:St):Option (V×St) :=
 if (ptrsL args).isEmpty then
  match O.call g (args.map V.share) []with
  |some (r,[])=>some (if looseL args then r.qba else r,st)
  |_=>none
 else if O.qhw g then match peekL st.box args with
  |some xs=>if (ptrsL xs).isEmpty then (match O.call g xs []with
   |some (r,[])=>if r.qb9 then some (r,st)else none
   |_=>none)else none
  |none=>none
 else match O.call g (args.map V.hand) (st.L++[st.B])with
 |some (r,M)=>match qc5 M with
  |some (L,B)=>if L.length=st.L.length then some (r,{st with L,B})else none
  |none=>none
 |none=>none
def qeb(E:List V):List Tmp->List V->List V
 |t::ts,v::vs=>qeb (E.set t v) ts vs
 |_,_=>E
def qjx(r:Root)(args:List V)(st:St):Option (V×St) :=
 match st.box r with
 |some [.lp .ready _ g env ps assign body] =>
  if args.length≠ps.length then none else
  match O.code g 0 assign {E:=qeb env ps (args.map V.hand),L:=st.L++[st.B],B:=[]}with
  |some (.normal,s2) =>
   match s2.box r with
   |some [.lp .ready pe2 g2 env2 ps2 as2 bo2] =>
    match O.code g 0 body (s2.qo r [.lp .busy pe2 g2 env2 ps2 as2 bo2])with
    |some (ex,s3) =>
     match s3.box r with
     |some [.lp _ _ g3 env3 ps3 as3 bo3] =>
      match qc5 (s3.qo r [.lp (if (ex.code).isNone then .ready else .done) ex.code g3 env3 ps3 as3 bo3]).L with
      |some (L,B)=>if L.length=st.L.length then some (.val (.bool (ex.code).isNone),{st with L,B})else none
      |none=>none
     |_=>none
    |none=>none
   |_=>none
  |_=>none
 |_=>none
def qgA(fv:V)(args:List V)(st:St):Option (V×St) :=
 match fv with
 |.fn g first cap=>qeX O g (first++args++cap) st
 |.yld r=>qjx O r args st
 |_=>none
def qcb:List Tmp->Bool
 |[]=>true
 |t::l=>!l.contains t&&qcb l
inductive Fp where
 |none
 |root (r:Root) (off len:Nat) (wr:Bool)
 |fresh (r:Root)
 |looks
 |mapw (q:Root)
 |all
 deriving DecidableEq
def qb6(O:Orc):V->Bool
 |.fn g _ _=>O.qhw g
 |_=>false
def qdb:V->List V->Bool
 |.fn _ first cap,args=>(ptrsL (first++args++cap)).isEmpty
 |_,_=>false
def qae:Op->List V->Nat×Nat
 |.load t _,.ptr _ off::_=>(off,if qO P t then P.cellsOf t else 1)
 |.store ..,[.ptr _ off,x]=>(off,x.cells.length)
 |_,_=>(0,0)
def qkZ:Op->List V->List Root
 |.store ..,[_,x]=>x.qq
 |_,_=>[]
def q4(d:Nat):Nat:=d+16384
def qe2(es:List (Value×Value)):List MapEntry:=es.map λe=>⟨e.1,e.2,0⟩
def qkp(t:TypeId)(es:List (Value×Value))(k:V)(ok:Bool):Option V :=
 match P.underlying t,k.toVal with
 |some (.map kt vt),some a =>
  match valOf P (Instr.checkKey es.isEmpty 10000 kt a),valOf P (Instr.findKey kt a (qe2 es)),zeroOf P H f vt with
  |some _,some (some (_,v)),_=>some (if ok then .tuple [qb1 v,.val (.bool true)]else qb1 v)
  |some _,some none,some z=>some (if ok then .tuple [z,.val (.bool false)]else z)
  |_,_,_=>none
 |_,_=>none
def qiB(t:TypeId)(es:List (Value×Value))(k x:V):Option (List (Value×Value)) :=
 match P.underlying t,k.toVal,x.toVal with
 |some (.map kt _),some a,some v =>
  match valOf P (Instr.checkKey false 10000 kt a),valOf P (Instr.findKey kt a (qe2 es))with
  |some _,some (some (i,_))=>match es[i]? with
   |some e=>if Instr.sameBits 10000 e.1 a then some (es.set i (a,v))else none
   |none=>none
  |some _,some none=>some (es++[(a,v)])
  |_,_=>none
 |_,_,_=>none
def qcT:Op->List V->Bool
 |.makeMap ..,_|.lookup ..,_|.mapUpdate ..,_|.insert ..,_=>true
 |.call {callee:=.builtin .len,..},[.mref _]=>true
 |_,_=>false
def qjN:List V->Bool
 |[]=>true
 |[.val (.int _ _)]=>true
 |_=>false
def mapStep(o:Oper)(xs:List V)(st:St):Option (V×St×Fp) :=
 match o.op with
 |.makeMap t _=>match o.dst,P.underlying t with
  |some d,some (.map _ _)=>if (qy st.B (q4 d)).isNone/\qjN xs=true then some (.mref ⟨st.L.length,q4 d⟩,{st with B:=qb2 (q4 d) [.mp []] st.B},.fresh ⟨st.L.length,q4 d⟩)else none
  |_,_=>none
 |.lookup t _ _ ok=>match xs with
  |[.mref r,k]=>match st.box r with
   |some [.mp es]=>(qkp P H f t es k ok).map λv=>(v,st,.looks)
   |_=>none
  |_=>none
 |.mapUpdate t _ _ _|.insert t _ _ _=>match xs with
  |[.mref r,k,x]=>match st.box r with
   |some [.mp es]=>(qiB P t es k x).map λes'=>(.undef,st.qo r [.mp es'],.mapw r)
   |_=>none
  |_=>none
 |.call {callee:=.builtin .len,argTypes,..}=>match xs with
  |[.mref r]=>match st.box r with
   |some [.mp es]=>match (argTypes[0]?).bind P.underlying with
    |some (.map _ _)=>if argTypes.toList.any H.mapT then some (.val (.int .i64 es.length),st,.looks)else none
    |_=>none
   |_=>none
  |_=>none
 |_=>none
mutual
def V.adopt(q:Root):V->V
 |.mref _=>.mref q
 |.cptr f cs=>.cptr f (adoptL q cs)
 |.fn g a b=>.fn g (adoptL q a) (adoptL q b)
 |.agg l=>.agg (adoptL q l)
 |.tuple l=>.tuple (adoptL q l)
 |v=>v
def adoptL(q:Root):List V->List V
 |[]=>[]
 |v::l=>v.adopt q::adoptL q l
end
mutual
def V.onlyMaps:V->Bool
 |.iface _ .undef=>true
 |.ptr .. | .yld _|.bsl .. | .iface .. | .lp ..=>false
 |.cptr _ cs=>onlyMapsL cs
 |.fn _ a b=>onlyMapsL a&&onlyMapsL b
 |.agg l=>onlyMapsL l
 |.tuple l=>onlyMapsL l
 |_=>true
def onlyMapsL:List V->Bool
 |[]=>true
 |v::l=>v.onlyMaps&&onlyMapsL l
end
def qkY(d:Option Tmp)(fv:V)(args:List V)(st:St):Option (V×St×Fp) :=
 match fv,d with
 |.fn g first cap,some d =>
  if (ptrsL (first++args++cap)).isEmpty&&!looseL (first++args++cap)&&(qy st.B (q4 d)).isNone then
   match O.born g ((first++args++cap).map V.share)with
   |some (r,_,es)=>some (r.adopt ⟨st.L.length,q4 d⟩,{st with B:=qb2 (q4 d) [.mp es] st.B},.fresh ⟨st.L.length,q4 d⟩)
   |none=>none
  else none
 |_,_=>none
def qvE(d:Option Tmp)(fv:V)(args:List V)(st:St):Option (V×St×Fp) :=
 match fv,d with
 |.fn g first cap,some d=>match first++args++cap with
  |[.val (.string s),.val (.string sep)]=>match O.seq g with
   |some clos=>if (qy st.B d).isNone then some (.fn clos [] [.cptr .shared [.val (.string sep)],.ptr ⟨st.L.length,d⟩ 0,.cptr .shared [.val (.int .i64 0)]],{st with B:=qb2 d [.val (.string s)] st.B},.fresh ⟨st.L.length,d⟩)else none
   |none=>none
  |_=>none
 |_,_=>none
def qqV(H:Hints):V->Bool
 |.fn g _ _=>(H.seq g).isSome
 |_=>false
def qiT(H:Hints):V->Bool
 |.fn g _ _=>H.born g
 |_=>false
def qgS:V->List V->Option Root
 |.fn _ first cap,args=>match ptrsL (first++args++cap)with
  |q::rest=>if rest.all (λr=>decide (r=q))&&onlyMapsL (first++args++cap)then some q else none
  |[]=>none
 |_,_=>none
def qjK(n:Nat)(q:Root)(c:List V):List Level:=(List.range n).map λl=>if l=q.lvl then [(q.slot,c)]else []
def qv6(M:List Level)(r:Root):Option (List V):=match M[r.lvl]? with
 |some b=>qy b r.slot
 |none=>none
def qfO(g:FuncId)(args:List V)(q:Root)(st:St):Option (V×St) :=
 match st.box q with
 |some [.mp es]=>match O.call g (args.map V.hand) (qjK (st.L.length+1) q [.mp es])with
  |some (r,M)=>if r.qq.isEmpty&&!r.owns then (match qv6 M q with
   |some [.mp es']=>some (r,st.qo q [.mp es'])
   |_=>none)else none
  |none=>none
 |_=>none
def qh5(H:Hints)(fv:V)(args:List V):Bool:=qiT H fv||(qqV H fv||(qgS fv args).isSome)
def qh0(d:Option Tmp)(fv:V)(args:List V)(st:St):Option (V×St×Fp) :=
 if qiT H fv then qkY O d fv args st else if qqV H fv then qvE O d fv args st else match fv,qgS fv args with
  |.fn g first cap,some q=>(qfO O g (first++args++cap) q st).map λ(v,s)=>(v,s,.mapw q)
  |_,_=>none
def qbp(o:Oper)(xs:List V)(st:St):Option (V×St×Fp) :=
 match o.op with
 |.alloc t=>match o.dst,zeroOf P H f t with
  |some d,some z=>if (qy st.B d).isNone then some (.ptr ⟨st.L.length,d⟩ 0,{st with B:=qb2 d z.cells st.B},.fresh ⟨st.L.length,d⟩)else none
  |_,_=>none
 |.box t _=>match o.dst,xs with
  |some d,[x]=>if (qy st.B d).isNone/\x.cells.length=P.cellsOf t/\x.oks=true then some (.ptr ⟨st.L.length,d⟩ 0,{st with B:=qb2 d x.cells st.B},.fresh ⟨st.L.length,d⟩)else none
  |_,_=>none
 |.call {callee:=.value _,..}=>match xs with
  |fv::args=>if qh5 H fv args then qh0 H O o.dst fv args st else (qgA O fv args st).map λ(v,s)=>(v,s,if qdb fv args then .none else if qb6 O fv then .looks else .all)
  |[]=>none
 |op=>if qcT op xs then mapStep P H f o xs st else match rootOf op xs with
  |none=>match qaG P H f (q7 H f o) op o.type xs none with
   |some (v,none)=>some (v,st,.none)
   |_=>none
  |some r=>match qaG P H f (q7 H f o) op o.type xs (st.box r)with
   |some (v,none)=>some (v,st,.root r (qae P op xs).1 (qae P op xs).2 false)
   |some (v,some c)=>if (qkZ op xs).all (λp=>decide (p.lvl<=r.lvl))&&decide ((qae P op xs).1+(qae P op xs).2<=c.length)then some (v,st.qo r c,.root r (qae P op xs).1 (qae P op xs).2 true)else none
   |none=>none
def qd9(o:Oper)(st:St):Option (St×Fp) :=
 if q7 H f o&&!qcb (tmpsOf o)then none else
 (qbp P H O f o (o.op.operands.toList.map (rd H f o st.E)) (if q7 H f o then {st with E:=qA st.E (tmpsOf o)}else st)).map λ(v,s,fp)=>(s.put o.dst v,fp)
def qjt(o:Oper)(st:St):Option St:=(qd9 P H O f o st).map (·.1)
def qcx(ops:Array Oper)(E:List V)(o:Oper):Option Bool :=
 match o.guard with
 |none=>some true
 |some (j,want)=>match (ops[j]?).bind (·.dst)with
  |some t=>match E[t]? with
   |some (.val (.bool b))=>some (b==want)
   |some (.val (.tuple vs))=>if vs.size=0 then some false else none
   |_=>none
  |none=>none
def qfj(ops:Array Oper):List Nat->St->Option St
 |[],st=>some st
 |i::rest,st =>
  match ops[i]? with
  |none=>none
  |some o =>
   match qcx ops st.E o with
   |some true=>match qjt P H O f o st with
    |some st'=>qfj ops rest st'
    |none=>none
   |some false=>qfj ops rest (st.put o.dst (.val undef))
   |none=>none
structure Foot where
 fp:Fp
 took:List Tmp
 looks:List Tmp
def looksAt(ops:Array Oper)(o:Oper):List Tmp :=
 tmpsOf o++(match o.guard with
  |some (g,_)=>((ops[g]?).bind (·.dst)).toList
  |none=>[])
def qbv(ops:Array Oper)(o:Oper):List Tmp :=
 (if q7 H f o then tmpsOf o else [])++(match o.guard with
  |some (g,_)=>((ops[g]?).bind (·.dst)).toList
  |none=>[])
def qff(o:Oper)(E:List V):List Tmp:=if q7 H f o then (tmpsOf o).filter λt=>(E.getD t .undef).owns else []
def qfQ(ops:Array Oper)(i:Nat)(st:St):Option (St×Foot) :=
 match ops[i]? with
 |none=>none
 |some o =>
  match qcx ops st.E o with
  |some true=>(qd9 P H O f o st).map λ(s,fp)=>(s,⟨fp,qff H f o st.E,qbv H f ops o⟩)
  |some false=>some (st.put o.dst (.val undef),⟨.none,[],qbv H f ops o⟩)
  |none=>none
def qf0(ops:Array Oper):List Nat->St->Option (St×List (Nat×Foot))
 |[],st=>some (st,[])
 |i::rest,st =>
  match qfQ P H O f ops i st with
  |some (st',ft)=>(qf0 ops rest st').map λ(s,l)=>(s,(i,ft)::l)
  |none=>none
def Fp.conflict:Fp->Fp->Bool
 |.none,_=>false
 |_,.none=>false
 |.root r o l w,.root r' o' l' w'=>decide (r=r')&&(w||w')&&!(decide (o+l<=o')||decide (o'+l'<=o))
 |.fresh r,.fresh r'=>decide (r=r')
 |.fresh r,.root r' _ _ _=>decide (r=r')
 |.root r' _ _ _,.fresh r=>decide (r=r')
 |.looks,.looks=>false
 |.mapw q,.mapw q'=>decide (q=q')
 |.mapw _,.root ..=>false
 |.root ..,.mapw _=>false
 |.looks,.root _ _ _ w=>w
 |.root _ _ _ w,.looks=>w
 |_,_=>true
def meets(l l':List Tmp):Bool:=l.any λt=>l'.contains t
def Foot.qfX(a b:Foot):Bool:=a.fp.conflict b.fp||meets a.took b.looks||meets b.took a.looks
def qgU(U:List (Nat×Nat))(fps:List (Nat×Foot)):Bool :=
 U.all λ(i,j)=>fps.all λ(k,p)=>k != i||fps.all λ(k',p')=>k' != j||!p.qfX p'
def qaC(o:Oper):List Nat:=(o.after.toList.filter λe=>Region.binds .any e).map (·.on)
def qd7:List Nat->List Nat
 |[]=>[]
 |x::l=>if l.contains x then qd7 l else x::qd7 l
def qd0(ops:List Oper):List (List Nat) :=
 ops.foldl (λacc o=>acc++[qd7 ((qaC o).flatMap λj=>j::acc.getD j [])]) []
def qd5(H:Hints):Op->Bool
 |.alloc _|.box .. | .load .. | .store .. | .call {callee:=.value _,..}|.makeMap .. | .lookup .. | .mapUpdate .. | .insert ..=>false
 |.call {callee:=.builtin .len,argTypes,..}=>!argTypes.toList.any H.mapT
 |_=>true
def qcl(ops:Array Oper)(x y:Oper):Bool :=
 (match x.dst with
  |some d=>!(looksAt ops y).contains d&&y.dst != some d
  |none=>true) &&
 (match y.dst with
  |some d=>!(looksAt ops x).contains d
  |none=>true)
def qfN(ops:Array Oper)(x y:Oper):Bool :=
 (qd5 H x.op||qd5 H y.op)&&(!q7 H f x||(!meets (tmpsOf x) (looksAt ops y)||!meets (tmpsOf x) (qbv H f ops y)))&&(!q7 H f y||(!meets (tmpsOf y) (looksAt ops x)||!meets (tmpsOf y) (qbv H f ops x)))
def qej(U:List (Nat×Nat))(ops:Array Oper):Bool :=
 let asz:=qd0 ops.toList
 (List.range ops.size).all λi =>
  match ops[i]? with
  |none=>false
  |some y=>(qaC y).all (λj=>decide (j<i))&&(List.range i).all λj =>
   (asz.getD i []).contains j||match ops[j]? with
    |none=>false
    |some x=>qcl ops x y&&(qfN H f ops x y||U.contains (j,i))
end
mutual
def V.soft:V->Bool
 |.cptr f l=>decide (f=.q5)||softL l
 |.sl f _ l=>(decide (f=.q5)&&!l.isEmpty)||softL l
 |.fn _ a b=>softL a||softL b
 |.iface _ v=>v.soft
 |.agg l=>softL l
 |.tuple l=>softL l
 |_=>false
def softL:List V->Bool
 |[]=>false
 |v::l=>v.soft||softL l
end
def V.qbx(v:V):V:=if v.soft then .undef else v
def qbN(B:Level):Level:=B.map λp=>(p.1,p.2.map V.qbx)
def qrb(B:Level):Bool:=B.all λp=>!qc3 p.2
def qca(B:Level):Bool:=B.all λp=>!q3 p.2
def qdn(e:V)(cs:List V):V :=
 match e with
 |.agg _=>.agg cs
 |_=>cs.headD .undef
abbrev Path:=List (Nat×Nat×Nat)
def qp4(ys:List V):Path->V->Option V
 |[],_=>none
 |(j,o,s)::p,.sl .own c l =>
  match l[j]? with
  |some e=>if e.cells.length=s/\e.oks=true then
    (match p with
    |[]=>if o+ys.length<=s then some (.sl .own c (l.set j (qdn e (qP e.cells o ys))))else none
    |_::_=>match e.cells[o]? with
     |some z=>(qp4 ys p z).map λz'=>.sl .own c (l.set j (qdn e (e.cells.set o z')))
     |none=>none)
   else none
  |none=>none
 |_,_=>none
def qzh(j o s:Nat):V->Option (V×V)
 |.sl .own c l =>
  match l[j]? with
  |some (.sl .own c' l')=>if o=0/\s=1 then some (.sl .own c' l',.sl .own c (l.set j (V.q5 (.sl .own c' l'))))else none
  |_=>none
 |_=>none
inductive Rt where
 |tmp (t:Tmp)
 |box (r:Root) (off:Nat)
 deriving DecidableEq
section
variable (P:Program) (H:Hints) (f:FuncId)
def qky(o:Oper):Bool:=match o.dst with
 |some d=>H.link f d
 |none=>false
def qfx(o:Oper):Bool:=match o.op with
 |.store _ (.tmp d) _=>H.link f d
 |_=>false
def qsn(ops:Array Oper):Bool:=ops.toList.any (qfx H f)
def qkL(o:Oper):Bool:=match o.op with
 |.call {callee:=.builtin .append,args,..}=>match (args[0]?:Option Operand)with
  |some (.tmp d)=>H.link f d
  |_=>false
 |_=>false
def qnm(ops:Array Oper):Nat->Tmp->Option Nat
 |0,_=>none
 |k+1,d=>if (ops[k]?).bind (·.dst)=some d then some k else qnm ops k d
def idxOf(E:List V):Operand->Option Nat
 |.tmp t=>qjb (E.getD t .undef)
 |.const v=>qjb (.val v)
 |_=>none
def qk5(t:TypeId)(fd:Nat):Option Nat :=
 match P.underlying t with
 |some (.struct fields)=>(fields[fd]?).map (·.offset)
 |_=>none
def qbo(ops:Array Oper)(E:List V):Nat->Nat->Tmp->Option (Rt×Path×Bool)
 |0,_,_=>none
 |n+1,k,d=>if H.link f d=false then some (.tmp d,[],false)else
  match qnm ops k d with
  |none=>none
  |some c=>match (ops[c]?).map Oper.op with
   |some (.move (.tmp a))=>qbo ops E n c a
   |some (.indexAddr t (.tmp a) i) =>
    match qbo ops E n c a,idxOf E i,P.underlying t with
    |some (r,p,false),some j,some (.slice elem)=>some (r,(j,0,P.cellsOf elem)::p,true)
    |_,_,_=>none
   |some (.fieldAddr t (.tmp a) fd) =>
    match qbo ops E n c a,qk5 P t fd with
    |some (r,(j,o,s)::p,true),some o'=>some (r,(j,o+o',s)::p,true)
    |_,_=>none
   |some (.load t (.tmp a)) =>
    if qO P t then none else
    if H.link f a then (match qbo ops E n c a with
     |some (r,p,true)=>some (r,p,false)
     |_=>none)
    else match E.getD a .undef with
     |.ptr r off=>some (.box r off,[],false)
     |_=>none
   |_=>none
def qcz(ops:Array Oper):Nat->Nat->Tmp->List Tmp
 |0,_,_=>[]
 |n+1,k,d=>d::(if H.link f d=false then []else match qnm ops k d with
  |none=>[]
  |some c=>match (ops[c]?).map Oper.op with
   |some (.move (.tmp a))=>qcz ops n c a
   |some (.indexAddr _ (.tmp a) i)=>(match i with
    |.tmp t=>[t]
    |_=>[])++qcz ops n c a
   |some (.fieldAddr _ (.tmp a) _)=>qcz ops n c a
   |some (.load _ (.tmp a))=>a::(if H.link f a then qcz ops n c a else [])
   |_=>[])
def qgw(ops:Array Oper)(s:Nat)(o:Oper)(st:St):Option St :=
 match o.op with
 |.store t (.tmp d) xo =>
  let x:=rd H f o st.E xo
  if st.L.isEmpty&&qrb st.B&&o.dst.isNone&&o.guard.isNone&&qcb (tmpsOf o)&&decide (P.cellsOf t≠0)&&decide (x.cells.length=P.cellsOf t)&&x.oks&&x.qq.isEmpty then
   match qbo P H f ops st.E ops.size s d with
   |some (.tmp r,p,true)=>if (tmpsOf o).contains r then none else
    match qp4 x.cells p.reverse (st.E.getD r .undef)with
    |some y=>if y.soft then none else some {st with E:=((qA st.E (tmpsOf o)).map V.qbx).set r y,B:=qbN st.B}
    |none=>none
   |some (.box q off,p,true)=>match st.box q with
    |some cs=>match cs[off]? with
     |some z=>match qp4 x.cells p.reverse z with
      |some y=>if y.soft then none else some {st with E:=(qA st.E (tmpsOf o)).map V.qbx,B:=qdZ (qbN st.B) q.slot ((cs.map V.qbx).set off y)}
      |none=>none
     |none=>none
    |none=>none
   |_=>none
  else none
 |_=>none
def qdP(ops:Array Oper)(s:Nat)(o:Oper)(st:St):Option St :=
 match o.op with
 |.call {args,..}=>match (args[0]?:Option Operand)with
  |some (.tmp d)=>match qbo P H f ops st.E ops.size s d with
   |some (.tmp r,[(j,c,k)],false)=>if r=d\/st.E.length<=d then none else
    match qzh j c k (st.E.getD r .undef)with
    |some (u,y)=>some {st with E:=(st.E.set r y).set d u}
    |none=>none
   |_=>none
  |_=>none
 |_=>none
def qvA(o:Oper):Option Tmp:=match o.op with
 |.call {args,..}=>match (args[0]?:Option Operand)with
  |some (.tmp d)=>some d
  |_=>none
 |_=>none
def qiR(ops:Array Oper)(c:Nat)(oc oi:Oper):Bool:=match oi.op,oi.dst,qvA oc with
 |.move (.tmp a),some x,some d=>oi.guard.isNone&&!q7 H f oi&&!qfx H f oi&&!qkL H f oi&&decide (a≠d)&&!(qcz H f ops ops.size c d).contains x
 |_,_,_=>false
def qdj:Op->Bool
 |.alloc _|.box .. | .store .. | .call {callee:=.value _,..}|.makeMap .. | .mapUpdate .. | .insert ..=>false
 |_=>true
def qlr(o:Oper):Bool:=match o.op with
 |.load _ (.tmp a)=>!H.link f a
 |_=>false
def qht(o:Oper):Bool:=match o.op with
 |.load _ (.tmp a)=>H.link f a
 |_=>false
def qj5(oc oi:Oper):Bool :=
 (match oi.dst with
  |some d=>!(oc.dst==some d)&&!(tmpsOf oc).contains d
  |none=>true)&&(!qlr H f oc||qdj oi.op||qfx H f oi)
def qib(draw:Bool)(asz:List (List Nat))(i c:Nat):Bool:=if draw then (asz.getD c []).contains i else decide (i<c)
def qme(draw:Bool)(asz:List (List Nat))(ops:Array Oper)(lone:Bool)(c:Nat)(oc:Oper):Bool :=
 (!qky H f oc||(oc.guard.isNone&&(match oc.dst with
   |some d=>!(tmpsOf oc).contains d
   |none=>true)&&(List.range ops.size).all λi=>i==c||qib draw asz i c||match ops[i]? with
    |some oi=>qj5 H f oc oi
    |none=>false)) &&
 (!qfx H f oc||(oc.guard.isNone&&(List.range ops.size).all λi=>i==c||qib draw asz i c||qib draw asz c i)) &&
 (!(qky H f oc&&qht H f oc)||lone) &&
 (!qkL H f oc||(List.range ops.size).any λs=>qib draw asz c s&&match ops[s]? with
  |some os=>qfx H f os
  |none=>false) &&
 (!qkL H f oc||(List.range ops.size).all λi=>i==c||qib draw asz i c||qib draw asz c i||match ops[i]? with
  |some oi=>qiR H f ops c oc oi
  |none=>false)
def qi8(draw:Bool)(ops:Array Oper):Bool :=
 let asz:=qd0 ops.toList
 let lone:=decide ((ops.toList.filter (qfx H f)).length<=1)
 (List.range ops.size).all λc=>match ops[c]? with
  |some oc=>qme H f draw asz ops lone c oc
  |none=>false
end
section
variable (P:Program) (H:Hints) (O:Orc) (f:FuncId)
def qtB:V->Bool
 |.cptr ..=>true
 |_=>false
def qd8(o:Oper)(E:List V):Bool :=
 !qky H f o||((match o.dst with
  |some d=>decide (d<E.length)
  |none=>true)&&(match o.op with
  |.load _ (.tmp a)=>!H.link f a||qtB (E.getD a .undef)
  |_=>true))
def qhZ(ops:Array Oper)(i:Nat)(st:St):Option (St×Foot) :=
 match ops[i]? with
 |none=>none
 |some o=>if qfx H f o then (qgw P H f ops i o st).map λs=>(s,⟨.all,[],looksAt ops o⟩)
  else if qkL H f o then (if qky H f o then none else (qdP P H f ops i o st).bind λs=>qfQ P H O f ops i s)
  else if qd8 H f o st.E then qfQ P H O f ops i st else none
def qd1(ops:Array Oper):List Nat->St->Option (St×List (Nat×Foot))
 |[],st=>some (st,[])
 |i::rest,st =>
  match qhZ P H O f ops i st with
  |some (st',ft)=>(qd1 ops rest st').map λ(s,l)=>(s,(i,ft)::l)
  |none=>none
def qT(D:List Tmp):Level->Level
 |[]=>[]
 |(k,c)::l=>if D.contains k then qT D l else (k,c)::qT D l
def qdm(D:List Tmp)(E:List V):List V:=D.foldl (λE t=>E.set t .undef) E
def qcY(lvl:Nat)(D:List Tmp)(rs:List Root):Bool:=rs.all λr=>r.lvl != lvl||!D.contains r.slot
def qkW:Level->List Root
 |[]=>[]
 |(_,c)::l=>ptrsL c++qkW l
def St.clear(D:List Tmp)(st:St):Option St :=
 let E:=qdm D st.E
 let B:=qT D st.B
 if B.length=st.B.length\/(qcY st.L.length D (ptrsL E)&&qcY st.L.length D (qkW B))then some {st with E,B}else none
def qgy(ops:Array Oper)(draw:Bool):Option ((List Int->Option (List Int))×Tmp×Tmp×Option Tmp) :=
 match draw,ops.toList with
 |false,[m,o]=>match m.op,m.dst,m.guard,o.op,o.guard with
  |.move (.tmp t),some e,none,.call {callee:=.value (.func g),args,..},none=>match args.toList,H.turn g with
   |[.tmp e'],some F=>if e'=e/\t≠e then some (F,t,e,o.dst)else none
   |_,_=>none
  |_,_,_,_,_=>none
 |_,_=>none
def qlO:List V->Option (List Int)
 |[]=>some []
 |.val (.int .i64 n)::l=>(qlO l).map λm=>n::m
 |_::_=>none
def qda(zs:List Int):List V:=zs.map λn=>.val (.int .i64 n)
def qhM(F:List Int->Option (List Int))(t:Tmp)(d:Option Tmp)(st:St):Option St :=
 if st.L.isEmpty&&qca st.B then
  match st.E.getD t .undef with
  |.sl .own c l =>
   match qlO l with
   |some zs=>match F zs with
    |some zs'=>if zs.isEmpty then some (St.put {st with E:=st.E.set t (.sl .own c (qda zs'))} d .undef)else some (St.put {st with E:=(st.E.map V.qbx).set t (.sl .own c (qda zs')),B:=qbN st.B} d .undef)
    |none=>none
   |none=>none
  |.val (.slice none 0 0)=>(F []).map λ_=>st.put d .undef
  |_=>none
 else none
end
section
def qAg(P:Program)(s:TypeId)(f:Nat):Bool:=match P.underlying s with
 |some (.struct fields)=>match fields[f]? with
  |some fd=>match P.info? fd.type with
   |some i=>decide (i.size≠0)
   |none=>false
  |none=>false
 |_=>false
def qg2(P:Program)(o:Oper):Bool:=o.dst.isSome&&(match o.op with
 |.move _|.indexAddr .. | .binOp ..=>true
 |.fieldAddr s _ f=>qAg P s f
 |_=>false)
def qbU(P:Program)(o:Oper):Bool:=o.guard.isNone&&(qg2 P o||(match o.op with
 |.load .. | .store ..=>true
 |_=>false))
def qnn(o y:Oper):Bool:=match o.dst with
 |some d=>(tmpsOf y).contains d
 |none=>false
def qAp(o:Oper):Bool:=match o.op with
 |.store ..=>true
 |_=>false
def qB3(x y:Oper):Bool:=!qnn x y&&!qnn y x&&(x.dst.isNone||x.dst != y.dst)&&!(qAp x&&qAp y)
def qBS(asz:List (List Nat)):List Nat->List Nat->Bool
 |_,[]=>true
 |done,i::l=>(asz.getD i []).all (λj=>done.contains j)&&qBS asz (done++[i]) l
def qtR(P:Program)(ops:Array Oper)(π:List Nat):Bool :=
 let asz:=qd0 ops.toList
 decide (π.Nodup/\π.length<=ops.size)&&(List.range ops.size).all (λk=>π.contains k)&&qBS asz [] π&&(List.range ops.size).all λk=>match ops[k]? with
  |none=>false
  |some o=>qbU P o&&(qaC o).all (λj=>decide (j<k))&&!qnn o o&&(List.range ops.size).all λj=>match ops[j]? with
   |none=>false
   |some x=>(!qnn x o||(asz.getD k []).contains j)&&(j==k||(asz.getD k []).contains j||(asz.getD j []).contains k||qB3 x o)
def qAY(E:List V):Operand->Bool
 |.tmp t=>match E[t]? with
  |some (.val (.int _ _))=>true
  |_=>false
 |.const (.int _ _)=>true
 |_=>false
def qfo(ops:Array Oper)(π:List Nat):Array Oper:=(π.map λi=>ops.getD i default).toArray
def qrN(ops:Array Oper):Bool:=(List.range ops.size).all λi=>match ops[i]? with
 |none=>false
 |some o=>(List.range ops.size).all λk=>decide (k<i)||match ops[k]? with
  |none=>false
  |some x=>!qnn x o
def qeh(P:Program)(H:Hints)(f:FuncId)(o:Oper):Bool:=match o.op with
 |.load t (.tmp _)=>(P.underlying t).isSome&&!qO P t
 |.load ..=>false
 |.store _ (.tmp _) _=>qfx H f o
 |.store ..=>false
 |_=>true
def qpA(P:Program)(H:Hints)(f:FuncId)(ops:Array Oper)(π:List Nat):Bool:=(π.all λi=>decide (i<ops.size))&&qtR P ops π&&(qi8 H f false (qfo ops π)&&(qrN (qfo ops π)&&(qfo ops π).toList.all (qeh P H f)))
def qCy(ops:Array Oper)(t:Tmp):Bool:=ops.toList.all λx=>decide (x.dst≠some t)
def qzF(r:Root):Option V->Bool
 |some (.ptr r' _)=>decide (r'=r)
 |_=>false
def qx9(ops:Array Oper)(E:List V)(r:Root):Bool:=ops.toList.any λo=>(tmpsOf o).any λt=>qCy ops t&&qzF r E[t]?
def qmx(ops:Array Oper)(st:St)(o:Oper):Bool:=match o.op with
 |.binOp _ _ x y _=>qAY st.E x&&qAY st.E y
 |.load _ (.tmp a)=>match st.E[a]? with
  |some (.ptr r off)=>qx9 ops st.E r&&(match st.box r with
   |some cs=>!qc3 cs&&decide (off<cs.length)
   |none=>false)
  |_=>false
 |_=>true
def qpx(ops:Array Oper)(st:St):Bool:=ops.toList.all (qmx ops st)
def qpz(P:Program)(H:Hints)(O:Orc)(f:FuncId)(ops:Array Oper)(π:List Nat)(draw:Bool)(st:St):Option (Ex×St) :=
 if draw&&qpA P H f ops π then
  match qd1 P H O f (qfo ops π) (List.range (qfo ops π).size) st with
  |some (s,_)=>if qpx (qfo ops π) s then some (.normal,s)else none
  |none=>none
 else none
end
section
variable (P:Program) (H:Hints) (O:Orc) (f:FuncId)
def bxH(st:St)(r:Root):Option (List V):=match st.box r with
 |some c=>if qc3 c||softL c then none else some c
 |none=>none
def qsE(r:V):Bool:=r.qb9||(match r with
 |.sl f _ []=>decide (f≠.own)
 |_=>false)
def qri(o:Oper)(st:St):Option St :=
 match o.op with
 |.call {callee:=.value (.func g),args,..}=>match args.toList with
  |.tmp e::_=>if st.L.isEmpty&&qca st.B&&o.guard.isNone&&H.own g&&qcb (tmpsOf o)then
   match o.op.operands.toList.map (rd H f o st.E)with
   |_::.sl .own c l::xs=>if !softL l&&!ownsL l&&!softL xs&&!ownsL xs then
    match peekL (bxH st) xs with
    |some ys=>if (ptrsL ys).isEmpty then
     match O.own g (.sl .own c l::ys)with
     |some r=>if r.qq.isEmpty&&qsE r then some (({st with E:=(st.E.map V.qbx).set e .undef,B:=qbN st.B}:St).put o.dst r)else none
     |none=>none
     else none
    |none=>none
    else none
   |_=>none
   else none
  |_=>none
 |_=>none
def qCw(o:Oper):Bool:=match o.op with
 |.call {callee:=.value (.func g),..}=>H.own g
 |_=>false
def exW(ops:Array Oper):List Nat->St->Option St
 |[],st=>some st
 |i::rest,st=>match ops[i]? with
  |none=>none
  |some o=>if qCw H o then (match qri H O f o st with
   |some st'=>exW ops rest st'
   |none=>none)else match qfQ P H O f ops i st with
   |some (st',_)=>exW ops rest st'
   |none=>none
def qyh(ops:Array Oper):Option (TypeId×Tmp×Tmp×Tmp×Tmp×Tmp×Tmp) :=
 match ops.toList with
 |[m1,m2,s,o]=>match m1.op,m1.dst,m1.guard,m2.op,m2.dst,m2.guard with
  |.move (.tmp t),some a,none,.move (.tmp i),some b,none=>match s.op,s.dst,s.guard,o.op,o.dst,o.guard with
   |.slice ty (.tmp a') none (some (.tmp b')) none,some c,none,.assign (.tmp c'),some d,none =>
    if a'=a/\b'=b/\c'=c/\qcb [t,i,a,b,c]=true/\d≠a/\d≠b/\d≠c/\d≠t/\d≠i then some (ty,t,i,a,b,c,d)else none
   |_,_,_,_,_,_=>none
  |_,_,_,_,_,_=>none
 |_=>none
def qyi(c:Bool)(l:List V)(n:Nat):V:=if n=0 then .sl .q5 false []else if n=l.length then .sl .own c l else .sl .own false (l.take n)
def qjE(ops:Array Oper)(st:St):Option St :=
 match qyh ops with
 |some (ty,t,i,a,b,x,d)=>if st.L.isEmpty&&qca st.B&&decide (a<st.E.length)&&decide (b<st.E.length)&&decide (x<st.E.length)then
  match P.underlying ty,st.E[t]?,st.E[i]? with
  |some (.slice elem),some (.sl .own c l),some (.val (.int _ n)) =>
   if 0<=n/\n.toNat<=l.length/\l.isEmpty=false/\softL l=false/\ownsL l=false/\P.cellsOf elem≠0/\l.all (λe=>decide (e.cells.length=P.cellsOf elem))=true then
    some (({st with E:=((((st.E.set a .undef).set b .undef).set x .undef).map V.qbx).set t .undef,B:=qbN st.B}:St).put (some d) (qyi c l n.toNat))else none
  |_,_,_=>none
  else none
 |none=>none
def qyg(ops:Array Oper):Option (TypeId×TypeId×Tmp×Tmp×Tmp×Tmp×Tmp) :=
 match ops.toList with
 |[m1,m2,s,o]=>match m1.op,m1.dst,m1.guard,m2.op,m2.dst,m2.guard with
  |.move (.tmp t),some a,none,.move (.tmp i),some b,none=>match s.op,s.dst,s.guard,o.op,o.dst,o.guard with
   |.slice ty (.tmp a') (some (.tmp b')) none none,some c,none,.call {callee:=.builtin .clear,args,argTypes,..},none,none=>match args.toList,argTypes.toList with
    |[.tmp c'],[ty2]=>if a'=a/\b'=b/\c'=c/\qcb [t,i,a,b,c]=true then some (ty,ty2,t,i,a,b,c)else none
    |_,_=>none
   |_,_,_,_,_,_=>none
  |_,_,_,_,_,_=>none
 |_=>none
def qjD(ops:Array Oper)(st:St):Option St :=
 match qyg ops with
 |some (ty,ty2,t,i,a,b,x)=>if st.L.isEmpty&&qca st.B&&decide (a<st.E.length)&&decide (b<st.E.length)&&decide (x<st.E.length)then
  match P.underlying ty,P.underlying ty2,st.E[t]?,st.E[i]? with
  |some (.slice elem),some (.slice elem2),some (.sl .own c l),some (.val (.int _ n))=>match ((P.info? elem2).bind (·.zero)),zeroOf P H f elem2 with
   |some z,some zv =>
   if elem2=elem/\0<=n/\n.toNat<=l.length/\l.isEmpty=false/\softL l=false/\ownsL l=false/\P.cellsOf elem≠0/\l.all (λe=>decide (e.cells.length=P.cellsOf elem))=true/\z.cells.size=P.cellsOf elem/\zv.oks=true then
    some {st with E:=((((st.E.set a .undef).set b .undef).set x .undef).map V.qbx).set t (.sl .own c (l.take n.toNat++List.replicate (l.length-n.toNat) zv)),B:=qbN st.B}else none
   |_,_=>none
  |_,_,_,_=>none
  else none
 |none=>none
def qoo(k:Nat)(ops:Array Oper)(draw:Bool)(st:St):Option (Ex×St) :=
 if draw then none else
 match k with
 |1=>(exW P H O f ops (List.range ops.size) st).map λs=>(.normal,s)
 |2=>(qjD P H f ops st).map λs=>(.normal,s)
 |3=>(qjE P ops st).map λs=>(.normal,s)
 |_=>none
def ex(bid:Nat):Code->St->Option (Ex×St)
 |.skip,st=>some (.normal,st)
 |.region id ops draw,st =>
  match st.clear (H.pre f id)with
  |none=>none
  |some st =>
  if H.sp f id=0 then
  (match qgy H ops draw with
  |some (F,t,e,d)=>if e<st.E.length then (qhM F t d (st.put (some e) .undef)).map λs=>(.normal,s)else none
  |none =>
  if qsn H f ops then
   (if (H.perm f id).isEmpty then
   (if qi8 H f draw ops&&(!draw||qej H f (H.pairs f id) ops)then
    match qd1 P H O f ops (List.range ops.size) st with
    |some (s,fps)=>if !draw||qgU (H.pairs f id) fps then some (.normal,s)else none
    |none=>none
   else none)
   else qpz P H O f ops (H.perm f id) draw st)
  else if draw then
   if qej H f (H.pairs f id) ops then
    match H.pairs f id with
    |[]=>(qfj P H O f ops (List.range ops.size) st).map λs=>(.normal,s)
    |U=>match qf0 P H O f ops (List.range ops.size) st with
     |some (s,fps)=>if qgU U fps then some (.normal,s)else none
     |none=>none
   else none
  else (qfj P H O f ops (List.range ops.size) st).map λs=>(.normal,s))
  else qoo P H O f (H.sp f id) ops draw st
 |.seq a b,st=>match ex bid a st with
  |some (.normal,s)=>ex bid b s
  |r=>r
 |.cond c a b,st=>match rd H f default st.E c with
  |.val (.bool t)=>if t then ex bid a st else ex bid b st
  |_=>none
 |.block id c,st=>match ex id c st with
  |some (.exit i,s)=>if i=id then some (.normal,s)else some (.exit i,s)
  |r=>r
 |.loop c,st=>match st.clear (H.clear f bid)with
  |some st=>match ex bid c st with
   |some (.normal,s)=>O.code f bid (.loop c) s
   |r=>r
  |none=>none
 |.rangeFunc g ps assign body,st =>
  match rd H f default st.E g,ps.toList with
  |.fn h first cap,t::ts =>
   if (qy st.B t).isNone then
    match qgA O (.fn h first cap) [.yld ⟨st.L.length,t⟩] {st with B:=(t,[.lp .ready none f (st.E.map V.q5) (t::ts) assign body])::st.B}with
    |some (_,s) =>
     if qcY st.L.length [t] (qkW (qT [t] s.B))then
      match qy s.B t with
      |some [.lp .ready none _ _ _ _ _]=>some (.normal,{st with L:=s.L,B:=qT [t] s.B})
      |some [.lp .done (some .ret) _ _ _ _ _]=>some (.ret,{st with L:=s.L,B:=qT [t] s.B})
      |some [.lp .done (some (.exit id)) _ _ _ _ _]=>some (.exit id,{st with L:=s.L,B:=qT [t] s.B})
      |_=>none
     else none
    |none=>none
   else none
  |_,_=>none
 |.exit id,st=>some (.exit id,st)
 |.ret,st=>some (.ret,st)
 |_,_=>none
def qcL(st:St):ResultVar->Option V
 |.tmp t=>some (st.E.getD t .undef)
 |.cell a t=>match st.E.getD a .undef with
  |.ptr r off=>match st.box r with
   |some cs=>if qc3 cs then none else q8 P t (cs.drop off)
   |none=>none
  |_=>none
def qey:List (Option V)->Option (List V)
 |[]=>some []
 |some v::l=>(qey l).map (v::·)
 |none::_=>none
def qM(st:St):ResultVar->Bool×Nat×Nat
 |.tmp t=>(false,t,0)
 |.cell a _=>match st.E.getD a .undef with
  |.ptr r _=>(true,r.lvl,r.slot)
  |_=>(true,0,0)
def distinct:List (Bool×Nat×Nat)->Bool
 |[]=>true
 |k::l=>!l.contains k&&distinct l
def qh6(n:Nat)(ks:List (Bool×Nat×Nat)):Bool:=distinct ks&&ks.all λk=>!k.1||decide (k.2.1=n)
def packed:List V->V
 |[r]=>r
 |rs=>.tuple rs
def qy4(args:List V)(M:List Level):Option (V×List Level) :=
 match P.funcs[f]? with
 |some fn=>match fn.body with
  |some c=>match ex P H O f 0 c {E:=args++List.replicate (fn.ntmps-args.length) .undef,L:=M,B:=[]}with
   |some (e,st) =>
    if e=.normal\/e=.ret then
     match qey (fn.results.toList.map (qcL P st))with
     |some rs =>
      if ((ptrsL rs).all λr=>decide (r.lvl<M.length))&&qh6 M.length (fn.results.toList.map (qM st))then
       some (packed (if M.isEmpty&&!ownsL rs then reflagL qhm rs else rs),st.L)
      else if M.isEmpty&&qh6 M.length (fn.results.toList.map (qM st))then (match peekL st.box rs with
       |some xs=>if (ptrsL xs).isEmpty then some (packed xs,st.L)else none
       |none=>none)
      else none
     |none=>none
    else none
   |none=>none
  |none=>none
 |none=>none
end
def qBB(P:Program)(H:Hints)(O:Orc)(f:FuncId)(args:List V):Option V :=
 match P.funcs[f]? with
 |some fn=>match fn.body with
  |some c=>match ex P H O f 0 c {E:=args++List.replicate (fn.ntmps-args.length) .undef,L:=[],B:=[]}with
   |some (e,st) =>
    if e=.normal\/e=.ret then
     match qey (fn.results.toList.map (qcL P st))with
     |some rs=>if (ptrsL rs).isEmpty&&qh6 0 (fn.results.toList.map (qM st))then some (packed rs)else none
     |none=>none
    else none
   |none=>none
  |none=>none
 |none=>none
def qv1(P:Program)(H:Hints)(O:Orc)(f:FuncId)(args:List V):Option (V×Nat×List (Value×Value)) :=
 match P.funcs[f]? with
 |some fn=>match fn.body with
  |some c=>match ex P H O f 0 c {E:=args++List.replicate (fn.ntmps-args.length) .undef,L:=[],B:=[]}with
   |some (e,st) =>
    if e=.normal\/e=.ret then
     match qey (fn.results.toList.map (qcL P st))with
     |some rs=>match peekL st.box rs with
      |some xs=>match ptrsL xs with
       |[r]=>if r.lvl=0 then (match st.box r with
        |some [.mp es]=>if onlyMapsL xs then some (packed xs,r.slot,es)else none
        |_=>none)else none
       |_=>none
      |none=>none
     |none=>none
    else none
   |none=>none
  |none=>none
 |none=>none
mutual
def V.denilD:V->V
 |.val (.slice none 0 0)=>.sl .own false []
 |.agg l=>.agg (denilDL l)
 |.tuple l=>.tuple (denilDL l)
 |v=>v
def denilDL:List V->List V
 |[]=>[]
 |v::l=>v.denilD::denilDL l
end
def dnR(H:Hints)(g:FuncId)(r:V):V:=bif H.denr g then r.denilD else r
def V.qbi:V->V
 |.val (.slice none 0 0)=>.sl .shared false []
 |v=>v
def qzN(M:List Level)(q:Root)(c:List V):List Level:=M.modify q.lvl λb=>qdZ b q.slot c
def ioF(run:List V->List Level->Option (V×List Level))(args:List V)(M:List Level):Option (V×List Level) :=
 match args with
 |.ptr q off::rest=>if (ptrsL rest).isEmpty then (match qv6 M q with
  |some c=>if !qc3 c&&(ptrsL c).isEmpty then (match run (.ptr ⟨0,0⟩ off::rest) [[(0,c)]]with
   |some (r,[[(0,c')]])=>if r.qq.isEmpty&&!r.owns&&!qc3 c'&&(ptrsL c').isEmpty then some (r,qzN M q c')else none
   |_=>none)else none
  |none=>none)else none
 |_=>none
def V.qc0:V->V
 |.val (.slice none 0 0)=>.sl .own false []
 |v=>v
def dnA(H:Hints)(g:FuncId)(l:List V):List V:=bif H.qc0 g then l.map V.qc0 else l
def qkV(P:Program)(H:Hints)(lib:FuncId->Option (List V->Option V)):Nat->Orc
 |0=>{call:=λ_ _ _=>none,code:=λ_ _ _ _=>none}
 |n+1=>{
   call:=λg args M=>match lib g with
    |some h=>if M.isEmpty then (h args).map λv=>(v,[])else none
    |none=>if H.io g then ioF (λa M=>qy4 P H (qkV P H lib n) g (a.map V.qbi) M) args M else (qy4 P H (qkV P H lib n) g (dnA H g args) M).map λp=>(dnR H g p.1,p.2)
   code:=λf bid c st=>ex P H (qkV P H lib n) f bid c st
   qhw:=H.qhw
   seq:=H.seq
   own:=λg args=>if H.own g&&(lib g).isNone&&!args.isEmpty&&!ownsL args.tail then qBB P H (qkV P H lib n) g args else none
   born:=λg args=>qv1 P H (qkV P H lib n) g args}
end Go.Ab
end
section
namespace Go.Ab
open Go
structure Cx where
 β:Root->Option Nat
 ω:Nat->Option (Nat×Bool)
def Seg(w:World)(b off:Nat)(vals:List Value):Prop:=∀i v,vals[i]?=some v->w.cell? ⟨b,off+i,none⟩=some v
def qx5(w:World)(b off cap s:Nat):Prop:=∃c t,w.heap[b]?=some (.cells c t (0,0))/\off+cap*s<=c.size
def qiE(w:World)(X:Cx)(f:Fl)(b off n cap s:Nat):Prop :=
 ∃e fz,X.ω b=some (e,fz)/\off+n<=e /\
  match f with
  |.own=>fz=false/\e=off+n/\qx5 w b off cap s/\(n=0->cap=0)
  |.q5=>True
  |.shared=>fz=true
mutual
def Rep(w:World)(X:Cx):V->Value->List Nat->Prop
 |.undef,_,O=>O=[]
 |.val u,v,O=>v=u/\O=[]
 |.ptr r off,v,O=>O=[]/\∃b,X.β r=some b/\v=.pointer (some ⟨b,off,none⟩)
 |.yld r,v,O=>O=[]/\∃b,X.β r=some b/\v=.func (.yield b) #[] #[]
 |.mref r,v,O=>O=[]/\∃b,X.β r=some b/\v=.map (some b)
 |.bsl r off n,v,O=>O=[]/\∃b cap,X.β r=some b/\v=.slice (some ⟨b,off,none⟩) n cap/\n<=cap
 |.mp _,_,_=>False
 |.cptr f cs,v,O=>O=[]/\∃b off vals,v=.pointer (some ⟨b,off,none⟩)/\Seg w b off vals/\(∃e fz,X.ω b=some (e,fz)/\off+vals.length<=e/\(f=.shared->fz=true))/\RepL w X cs vals []/\f≠.own
 |.sl f c l,v,O=>ptrsL l=[] /\
   ((l=[]/\O=[]/\(v=.slice none 0 0\/(f≠.own/\∃a cap,v=.slice (some a) 0 cap/\(c=true->cap=0)))) \/
    ∃b off cap s vals O',v=.slice (some ⟨b,off,none⟩) l.length cap/\l.length<=cap/\(c=true->cap=l.length)/\vals.length=l.length*s/\0<s/\(∀x∈l,x.cells.length=s) /\
    Seg w b off vals/\qiE w X f b off vals.length cap s/\RepE w X s l vals O'/\(f=.own->O=b::O')/\(f≠.own->O=[]/\O'=[]))
 |.room s n,v,O=>∃b cap,v=.slice (some ⟨b,0,none⟩) n cap/\n<=cap/\0<s/\O=[b]/\X.ω b=some (0,false)/\qx5 w b 0 cap s
 |.fn f a c,v,O=>∃va vc O1 O2,v=.func (.func f) va.toArray vc.toArray/\O=O1++O2/\RepL w X a va O1/\RepL w X c vc O2
 |.iface t x,v,O=>∃u,v=.iface t u/\Rep w X x u O
 |.agg l,v,O=>∃vals,v=.agg vals.toArray/\RepL w X l vals O
 |.tuple l,v,O=>∃vals,v=.tuple vals.toArray/\RepL w X l vals O
 |.lp ..,_,_=>False
def RepL(w:World)(X:Cx):List V->List Value->List Nat->Prop
 |[],vals,O=>vals=[]/\O=[]
 |x::l,vals,O=>∃u vs O1 O2,vals=u::vs/\O=O1++O2/\Rep w X x u O1/\RepL w X l vs O2
def RepE(w:World)(X:Cx)(s:Nat):List V->List Value->List Nat->Prop
 |[],vals,O=>vals=[]/\O=[]
 |x::l,vals,O=>∃u vs O1 O2,vals=u.cells.toList++vs/\u.cells.size=s/\O=O1++O2/\Rep w X x u O1/\RepE w X s l vs O2
end
structure Ext (R:List Root) (w:World) (X:Cx) (w':World) (X':Cx) (U:Nat->Prop):Prop where
 β:∀r∈R,X'.β r=X.β r
 ω:∀b e fz,X.ω b=some (e,fz)->∃e' fz',X'.ω b=some (e',fz')/\e<=e'/\(fz=true->fz'=true)/\(¬ U b->e'=e/\fz'=fz)
 cell:∀b e fz i v,X.ω b=some (e,fz)->i<e->w.cell? ⟨b,i,none⟩=some v->w'.cell? ⟨b,i,none⟩=some v
 obj:∀b e fz c t,¬ U b->X.ω b=some (e,fz)->w.heap[b]?=some (.cells c t (0,0))->∃c',w'.heap[b]?=some (.cells c' t (0,0))/\c'.size=c.size
theorem Seg.ext{R:List Root}{w w':World}{X X':Cx}{U:Nat->Prop}(h:Ext R w X w' X' U){b off:Nat}{vals:List Value}{e:Nat}{fz:Bool}(hω:X.ω b=some (e,fz))(he:off+vals.length<=e)
  (hs:Seg w b off vals):Seg w' b off vals:=by
 intro i v hi;have hlt:i<vals.length:=(qm.1 hi).1;exact h.cell b e fz (off+i) v hω (by omega) (hs i v hi)
theorem qiE.ext{R:List Root}{w w':World}{X X':Cx}{U:Nat->Prop}(h:Ext R w X w' X' U){f:Fl}{b off n cap s:Nat}(hU:f=.own->¬ U b)(hf:qiE w X f b off n cap s) :
  qiE w' X' f b off n cap s:=by
 obtain ⟨e,fz,hω,hle,hm⟩:=hf;obtain ⟨e',fz',hω',hle',hfz,he'⟩:=h.ω b e fz hω;refine ⟨e',fz',hω',by omega,?_⟩;cases f with
 |own =>
  obtain ⟨hz,hend,⟨c,t,hc,hsz⟩,h0⟩:=hm;obtain ⟨c',hc',hsz'⟩:=h.obj b e fz c t (hU rfl) hω hc;obtain ⟨he1,he2⟩:=he' (hU rfl);exact ⟨by rw [he2];exact hz,by rw [he1];exact hend,⟨c',t,hc',by omega⟩,h0⟩
 |q5=>trivial
 |shared=>exact hfz hm
mutual
theorem Rep.ext{R:List Root}{w w':World}{X X':Cx}{U:Nat->Prop}(h:Ext R w X w' X' U):∀(x:V) (v:Value) (O:List Nat),(∀r∈x.qq,r∈R)->(∀b∈O,¬ U b)->Rep w X x v O->Rep w' X' x v O
 |.undef,_,_,_,_,hr=>by simpa only [Rep]using hr
 |.val _,_,_,_,_,hr=>by simpa only [Rep]using hr
 |.ptr r off,v,O,hp,_,hr=>by
  simp only [Rep]at hr ⊢;obtain ⟨h0,b,hb,hv⟩:=hr;exact ⟨h0,b,by rw [h.β r (hp r (by simp [V.qq]))];exact hb,hv⟩
 |.yld r,v,O,hp,_,hr=>by
  simp only [Rep]at hr ⊢;obtain ⟨h0,b,hb,hv⟩:=hr;exact ⟨h0,b,by rw [h.β r (hp r (by simp [V.qq]))];exact hb,hv⟩
 |.mref r,v,O,hp,_,hr=>by
  simp only [Rep]at hr ⊢;obtain ⟨h0,b,hb,hv⟩:=hr;exact ⟨h0,b,by rw [h.β r (hp r (by simp [V.qq]))];exact hb,hv⟩
 |.bsl r off n,v,O,hp,_,hr=>by
  simp only [Rep]at hr ⊢;obtain ⟨h0,b,cap,hb,hv⟩:=hr;exact ⟨h0,b,cap,by rw [h.β r (hp r (by simp [V.qq]))];exact hb,hv⟩
 |.cptr f cs,v,O,hp,hU,hr=>by
  simp only [Rep]at hr ⊢;obtain ⟨h0,b,off,vals,hv,hs,⟨e,fz,hω,hle,hsh⟩,hl,hno⟩:=hr;obtain ⟨e',fz',hω',hle',hfz,_⟩:=h.ω b e fz hω;exact ⟨h0,b,off,vals,hv,hs.ext h hω hle,⟨e',fz',hω',by omega,λhf=>hfz (hsh hf)⟩,RepL.ext h cs vals [] (λr hr=>hp r (by simpa [V.qq]using hr)) (by simp) hl,hno⟩
 |.room s n,v,O,hp,hU,hr=>by
  simp only [Rep]at hr ⊢;obtain ⟨b,cap,hv,hn,hs,rfl,hω,c,t,hc,hsz⟩:=hr;have hUb:¬ U b:=hU b (by simp);obtain ⟨e',fz',hω',_,_,hk⟩:=h.ω b 0 false hω;obtain ⟨rfl,rfl⟩:=hk hUb;obtain ⟨c',hc',hsz'⟩:=h.obj b 0 false c t hUb hω hc;exact ⟨b,cap,hv,hn,hs,rfl,hω',c',t,hc',by omega⟩
 |.sl f c l,v,O,hp,hU,hr=>by
  simp only [Rep]at hr ⊢;obtain ⟨hnp,hr⟩:=hr;refine ⟨hnp,?_⟩;rcases hr with hr|⟨b,off,cap,s,vals,O',hv,hcap,hc,hlen,hs0,hxs,hs,hf,he,ho,ho'⟩
  ·exact .inl hr
  ·refine .inr ⟨b,off,cap,s,vals,O',hv,hcap,hc,hlen,hs0,hxs,?_,?_,?_,ho,ho'⟩
   ·obtain ⟨e,fz,hω,hle,_⟩:=hf;exact hs.ext h hω hle
   ·exact hf.ext h (λhown=>hU b (by rw [ho hown];simp))
   ·refine RepE.ext h s l vals O' (λr hr=>by rw [hnp]at hr;cases hr) (λb' hb'=>?_) he;by_cases hown:f=.own
    ·exact hU b' (by rw [ho hown];simp [hb'])
    ·rw [(ho' hown).2]at hb';cases hb'
 |.fn f a c,v,O,hp,hU,hr=>by
  simp only [Rep]at hr ⊢;obtain ⟨va,vc,O1,O2,hv,rfl,h1,h2⟩:=hr;exact ⟨va,vc,O1,O2,hv,rfl,RepL.ext h a va O1 (λr hr=>hp r (by simp [V.qq,hr])) (λb hb=>hU b (by simp [hb])) h1,
   RepL.ext h c vc O2 (λr hr=>hp r (by simp [V.qq,hr])) (λb hb=>hU b (by simp [hb])) h2⟩
 |.iface t x,v,O,hp,hU,hr=>by
  simp only [Rep]at hr ⊢;obtain ⟨u,hv,h1⟩:=hr;exact ⟨u,hv,Rep.ext h x u O (λr hr=>hp r (by simpa [V.qq]using hr)) hU h1⟩
 |.agg l,v,O,hp,hU,hr=>by
  simp only [Rep]at hr ⊢;obtain ⟨vals,hv,h1⟩:=hr;exact ⟨vals,hv,RepL.ext h l vals O (λr hr=>hp r (by simpa [V.qq]using hr)) hU h1⟩
 |.tuple l,v,O,hp,hU,hr=>by
  simp only [Rep]at hr ⊢;obtain ⟨vals,hv,h1⟩:=hr;exact ⟨vals,hv,RepL.ext h l vals O (λr hr=>hp r (by simpa [V.qq]using hr)) hU h1⟩
 |.lp ..,_,_,_,_,hr=>by simp only [Rep]at hr
 |.mp _,_,_,_,_,hr=>by simp only [Rep]at hr
theorem RepL.ext{R:List Root}{w w':World}{X X':Cx}{U:Nat->Prop}(h:Ext R w X w' X' U):∀(l:List V) (vals:List Value) (O:List Nat),(∀r∈ptrsL l,r∈R)->(∀b∈O,¬ U b)->RepL w X l vals O->RepL w' X' l vals O
 |[],_,_,_,_,hr=>by simpa only [RepL]using hr
 |x::l,vals,O,hp,hU,hr=>by
  simp only [RepL]at hr ⊢;obtain ⟨u,vs,O1,O2,hv,rfl,h1,h2⟩:=hr;exact ⟨u,vs,O1,O2,hv,rfl,Rep.ext h x u O1 (λr hr=>hp r (by simp [ptrsL,hr])) (λb hb=>hU b (by simp [hb])) h1,
   RepL.ext h l vs O2 (λr hr=>hp r (by simp [ptrsL,hr])) (λb hb=>hU b (by simp [hb])) h2⟩
theorem RepE.ext{R:List Root}{w w':World}{X X':Cx}{U:Nat->Prop}(h:Ext R w X w' X' U)(s:Nat):∀(l:List V) (vals:List Value) (O:List Nat),(∀r∈ptrsL l,r∈R)->(∀b∈O,¬ U b)->RepE w X s l vals O->RepE w' X' s l vals O
 |[],_,_,_,_,hr=>by simpa only [RepE]using hr
 |x::l,vals,O,hp,hU,hr=>by
  simp only [RepE]at hr ⊢;obtain ⟨u,vs,O1,O2,hv,hsz,rfl,h1,h2⟩:=hr;exact ⟨u,vs,O1,O2,hv,hsz,rfl,Rep.ext h x u O1 (λr hr=>hp r (by simp [ptrsL,hr])) (λb hb=>hU b (by simp [hb])) h1,
   RepE.ext h s l vs O2 (λr hr=>hp r (by simp [ptrsL,hr])) (λb hb=>hU b (by simp [hb])) h2⟩
end
mutual
theorem ptrs_reflag(g:Fl->Fl):∀x:V,(x.reflag g).qq=x.qq
 |.undef|.val _|.ptr .. | .yld _|.mref _|.bsl .. | .mp _|.sl .. | .lp ..=>by simp [V.reflag,V.qq]
 |.room s n=>by
  simp only [V.reflag];by_cases h1:g .own=.own
  ·rw [if_pos h1]
  ·rw [if_neg h1];by_cases h2:n=0
   ·rw [if_pos h2];simp [V.qq]
   ·rw [if_neg h2];simp [V.qq]
 |.cptr _ cs=>by simp [V.reflag,V.qq,ptrsL_reflag g cs]
 |.fn _ a b=>by simp [V.reflag,V.qq,ptrsL_reflag g a,ptrsL_reflag g b]
 |.iface _ x=>by simp [V.reflag,V.qq,ptrs_reflag g x]
 |.agg l=>by simp [V.reflag,V.qq,ptrsL_reflag g l]
 |.tuple l=>by simp [V.reflag,V.qq,ptrsL_reflag g l]
theorem ptrsL_reflag(g:Fl->Fl):∀l:List V,ptrsL (reflagL g l)=ptrsL l
 |[]=>rfl
 |x::l=>by simp [reflagL,ptrsL,ptrs_reflag g x,ptrsL_reflag g l]
end
theorem qR(g:Fl->Fl):∀l:List V,(reflagL g l).length=l.length
 |[]=>rfl
 |x::l=>by simp [reflagL,qR g l]
theorem qG(g:Fl->Fl):∀l:List V,reflagL g l=l.map (V.reflag g)
 |[]=>rfl
 |x::l=>by simp [reflagL,qG g l]
theorem qkt(g:Fl->Fl)(x:V):(x.reflag g).cells=reflagL g x.cells:=by
 cases x with
 |room s n =>
  simp only [V.reflag,V.cells,reflagL];by_cases h1:g .own=.own
  ·simp [h1]
  ·by_cases h2:n=0<;>simp [h1,h2]
 |_=>simp [V.reflag,V.cells,reflagL]
theorem qeC(g:Fl->Fl)(x:V):(x.reflag g).cells.length=x.cells.length:=by rw [qkt,qR]
structure Flags (g:Fl->Fl) (X X':Cx) (S:Nat->Prop) (D:Bool):Prop where
 β:X'.β=X.β
 own:∀f,g f≠.own
 dul:∀f,g f=.q5->D=true
 ω:D=true->∀b e fz,X.ω b=some (e,fz)->∃fz',X'.ω b=some (e,fz')
 sh:∀f b e fz,X.ω b=some (e,fz)->(f=.own->S b)->(f=.shared->fz=true)->(f=.q5->D=true)->g f=.shared->X'.ω b=some (e,true)
mutual
theorem Rep.flags{g:Fl->Fl}{w:World}{X X':Cx}{S:Nat->Prop}{D:Bool}(h:Flags g X X' S D):∀(x:V) (v:Value) (O:List Nat),(∀b∈O,S b)->(x.loose=true->D=true)->Rep w X x v O->Rep w X' (x.reflag g) v []
 |.undef,_,_,_,_,hr=>by simp [V.reflag,Rep]
 |.val _,_,_,_,_,hr=>by simp only [V.reflag,Rep]at hr ⊢;exact ⟨hr.1,trivial⟩
 |.ptr r off,v,O,_,_,hr=>by
  simp only [V.reflag,Rep]at hr ⊢;rw [h.β];exact ⟨trivial,hr.2⟩
 |.yld r,v,O,_,_,hr=>by
  simp only [V.reflag,Rep]at hr ⊢;rw [h.β];exact ⟨trivial,hr.2⟩
 |.mref r,v,O,_,_,hr=>by
  simp only [V.reflag,Rep]at hr ⊢;rw [h.β];exact ⟨trivial,hr.2⟩
 |.bsl r off n,v,O,_,_,hr=>by
  simp only [V.reflag,Rep]at hr ⊢;rw [h.β];exact ⟨trivial,hr.2⟩
 |.cptr f cs,v,O,hS,hD,hr=>by
  simp only [V.reflag,Rep]at hr ⊢;obtain ⟨h0,b,off,vals,hv,hs,⟨e,fz,hω,hle,hsh⟩,hl,hno⟩:=hr;refine ⟨trivial,b,off,vals,hv,hs,?_,RepL.flags h cs vals [] (by simp) (λhl'=>hD (by simp [V.loose,hl'])) hl,h.own f⟩;by_cases hg:g f=.shared
  ·exact ⟨e,true,h.sh f b e fz hω (λe=>absurd e hno) hsh (λe=>hD (by simp [V.loose,e])) hg,hle,λ_=>rfl⟩
  ·have hgd:g f=.q5:=by
    cases hgf:g f with
    |own=>exact absurd hgf (h.own f)
    |q5=>rfl
    |shared=>exact absurd hgf hg
   obtain ⟨fz',hω'⟩:=h.ω (h.dul f hgd) b e fz hω;exact ⟨e,fz',hω',hle,λhh=>absurd hh hg⟩
 |.room s n,v,O,hS,hD,hr=>by
  simp only [V.reflag,Rep]at hr ⊢;rw [if_neg (h.own .own)];obtain ⟨b,cap,hv,hn,hs,rfl,hω,hsp⟩:=hr;by_cases h0:n=0
  ·subst h0;rw [if_pos rfl];simp only [Rep];refine ⟨rfl,.inr ⟨b,0,cap,s,[],[],hv,by simp,by simp,by simp,hs,by simp,λi u hi=>by simp at hi,?_,by simp [RepE],λe=>absurd e (h.own .own),λ_=>⟨trivial,rfl⟩⟩⟩;cases hg:g .own with
   |own=>exact absurd hg (h.own .own)
   |q5 =>
    obtain ⟨fz',hω'⟩:=h.ω (h.dul .own hg) b 0 false hω;exact ⟨0,fz',hω',by simp,trivial⟩
   |shared=>exact ⟨0,true,h.sh .own b 0 false hω (λ_=>hS b (by simp)) (by simp) (by simp) hg,by simp,rfl⟩
  ·rw [if_neg h0];simp [Rep]
 |.sl f c l,v,O,hS,hD,hr=>by
  simp only [V.reflag,Rep]at hr ⊢;obtain ⟨hnp,hr⟩:=hr;refine ⟨by rw [ptrsL_reflag];exact hnp,?_⟩;rcases hr with ⟨rfl,h0,hv⟩|⟨b,off,cap,s,vals,O',hv,hcap,hc,hlen,hs0,hxs,hs,hf,he,ho,ho'⟩
  ·exact .inl ⟨rfl,trivial,hv.imp id λ⟨_,ha⟩=>⟨h.own f,ha⟩⟩
  ·have hO:∀b'∈O',S b':=by
    intro b' hb';by_cases hown:f=.own
    ·exact hS b' (by rw [ho hown];simp [hb'])
    ·rw [(ho' hown).2]at hb';cases hb'
   refine .inr ⟨b,off,cap,s,vals,[],by rw [qR];exact hv,by rw [qR];exact hcap,λhc'=>by rw [qR];exact hc hc',by rw [qR];exact hlen,hs0,?_,hs,?_,?_,λhown=>absurd hown (h.own f),λ_=>⟨trivial,rfl⟩⟩
   ·intro x hx;rw [qG]at hx;obtain ⟨y,hy,rfl⟩:=List.mem_map.1 hx;rw [qeC];exact hxs y hy
   ·obtain ⟨e,fz,hω,hle,hm⟩:=hf;cases hg:g f with
    |own=>exact absurd hg (h.own f)
    |q5=>obtain ⟨fz',hω'⟩:=h.ω (h.dul f hg) b e fz hω;exact ⟨e,fz',hω',hle,trivial⟩
    |shared =>
     refine ⟨e,true,h.sh f b e fz hω (λhown=>hS b (by rw [ho hown];simp)) (λhsh=>?_) (λhd=>hD (by simp [V.loose,hd])) hg,hle,rfl⟩;subst hsh;exact hm
   ·exact RepE.flags h s l vals O' hO (λhl=>hD (by simp [V.loose,hl])) he
 |.fn f a c,v,O,hS,hD,hr=>by
  simp only [V.reflag,Rep]at hr ⊢;obtain ⟨va,vc,O1,O2,hv,rfl,h1,h2⟩:=hr;exact ⟨va,vc,[],[],hv,rfl,RepL.flags h a va O1 (λb hb=>hS b (by simp [hb])) (λhl=>hD (by simp [V.loose,hl])) h1,
   RepL.flags h c vc O2 (λb hb=>hS b (by simp [hb])) (λhl=>hD (by simp [V.loose,hl])) h2⟩
 |.iface t x,v,O,hS,hD,hr=>by
  simp only [V.reflag,Rep]at hr ⊢;obtain ⟨u,hv,h1⟩:=hr;exact ⟨u,hv,Rep.flags h x u O hS (λhl=>hD (by simpa [V.loose]using hl)) h1⟩
 |.agg l,v,O,hS,hD,hr=>by
  simp only [V.reflag,Rep]at hr ⊢;obtain ⟨vals,hv,h1⟩:=hr;exact ⟨vals,hv,RepL.flags h l vals O hS (λhl=>hD (by simpa [V.loose]using hl)) h1⟩
 |.tuple l,v,O,hS,hD,hr=>by
  simp only [V.reflag,Rep]at hr ⊢;obtain ⟨vals,hv,h1⟩:=hr;exact ⟨vals,hv,RepL.flags h l vals O hS (λhl=>hD (by simpa [V.loose]using hl)) h1⟩
 |.lp ..,_,_,_,_,hr=>by simp only [Rep]at hr
 |.mp _,_,_,_,_,hr=>by simp only [Rep]at hr
theorem RepL.flags{g:Fl->Fl}{w:World}{X X':Cx}{S:Nat->Prop}{D:Bool}(h:Flags g X X' S D):∀(l:List V) (vals:List Value) (O:List Nat),(∀b∈O,S b)->(looseL l=true->D=true)->RepL w X l vals O->RepL w X' (reflagL g l) vals []
 |[],_,_,_,_,hr=>by simp only [reflagL,RepL]at hr ⊢;exact ⟨hr.1,trivial⟩
 |x::l,vals,O,hS,hD,hr=>by
  simp only [reflagL,RepL]at hr ⊢;obtain ⟨u,vs,O1,O2,hv,rfl,h1,h2⟩:=hr;exact ⟨u,vs,[],[],hv,rfl,Rep.flags h x u O1 (λb hb=>hS b (by simp [hb])) (λhl=>hD (by simp [looseL,hl])) h1,
   RepL.flags h l vs O2 (λb hb=>hS b (by simp [hb])) (λhl=>hD (by simp [looseL,hl])) h2⟩
theorem RepE.flags{g:Fl->Fl}{w:World}{X X':Cx}{S:Nat->Prop}{D:Bool}(h:Flags g X X' S D)(s:Nat):∀(l:List V) (vals:List Value) (O:List Nat),(∀b∈O,S b)->(looseL l=true->D=true)->RepE w X s l vals O->RepE w X' s (reflagL g l) vals []
 |[],_,_,_,_,hr=>by simp only [reflagL,RepE]at hr ⊢;exact ⟨hr.1,trivial⟩
 |x::l,vals,O,hS,hD,hr=>by
  simp only [reflagL,RepE]at hr ⊢;obtain ⟨u,vs,O1,O2,hv,hsz,rfl,h1,h2⟩:=hr;exact ⟨u,vs,[],[],hv,hsz,rfl,Rep.flags h x u O1 (λb hb=>hS b (by simp [hb])) (λhl=>hD (by simp [looseL,hl])) h1,
   RepE.flags h s l vs O2 (λb hb=>hS b (by simp [hb])) (λhl=>hD (by simp [looseL,hl])) h2⟩
end
structure Flags' (g:Fl->Fl) (X X':Cx) (S:Nat->Prop):Prop where
 β:X'.β=X.β
 own:∀f,g f=.own↔f=.own
 ω:∀b e fz,X.ω b=some (e,fz)->∃fz',X'.ω b=some (e,fz')/\(S b->fz'=fz)
 sh:∀f b e fz,X.ω b=some (e,fz)->(f=.own->S b)->(f=.shared->fz=true)->g f=.shared->X'.ω b=some (e,true)
mutual
theorem Rep.flags'{g:Fl->Fl}{w:World}{X X':Cx}{S:Nat->Prop}(h:Flags' g X X' S):∀(x:V) (v:Value) (O:List Nat),(∀b∈O,S b)->Rep w X x v O->Rep w X' (x.reflag g) v O
 |.undef,_,_,_,hr=>by simpa [V.reflag,Rep]using hr
 |.val _,_,_,_,hr=>by simpa only [V.reflag,Rep]using hr
 |.ptr r off,v,O,_,hr=>by
  simp only [V.reflag,Rep]at hr ⊢;rw [h.β];exact hr
 |.yld r,v,O,_,hr=>by
  simp only [V.reflag,Rep]at hr ⊢;rw [h.β];exact hr
 |.mref r,v,O,_,hr=>by
  simp only [V.reflag,Rep]at hr ⊢;rw [h.β];exact hr
 |.bsl r off n,v,O,_,hr=>by
  simp only [V.reflag,Rep]at hr ⊢;rw [h.β];exact hr
 |.cptr f cs,v,O,hS,hr=>by
  simp only [V.reflag,Rep]at hr ⊢;obtain ⟨h0,b,off,vals,hv,hs,⟨e,fz,hω,hle,hsh⟩,hl,hno⟩:=hr;refine ⟨h0,b,off,vals,hv,hs,?_,RepL.flags' h cs vals [] (by simp) hl,λe=>hno ((h.own f).1 e)⟩;by_cases hg:g f=.shared
  ·exact ⟨e,true,h.sh f b e fz hω (λe=>absurd e hno) hsh hg,hle,λ_=>rfl⟩
  ·obtain ⟨fz',hω',_⟩:=h.ω b e fz hω;exact ⟨e,fz',hω',hle,λhh=>absurd hh hg⟩
 |.room s n,v,O,hS,hr=>by
  simp only [V.reflag,Rep]at hr ⊢;rw [if_pos ((h.own .own).2 rfl)];simp only [Rep];obtain ⟨b,cap,hv,hn,hs,rfl,hω,hsp⟩:=hr;obtain ⟨fz',hω',hk⟩:=h.ω b 0 false hω;have:=hk (hS b (by simp));subst this;exact ⟨b,cap,hv,hn,hs,rfl,hω',hsp⟩
 |.sl f c l,v,O,hS,hr=>by
  simp only [V.reflag,Rep]at hr ⊢;obtain ⟨hnp,hr⟩:=hr;refine ⟨by rw [ptrsL_reflag];exact hnp,?_⟩;rcases hr with ⟨rfl,h0,hv⟩|⟨b,off,cap,s,vals,O',hv,hcap,hc,hlen,hs0,hxs,hs,hf,he,ho,ho'⟩
  ·exact .inl ⟨rfl,h0,hv.imp id λ⟨hf,ha⟩=>⟨λe=>hf ((h.own f).1 e),ha⟩⟩
  ·have hO:∀b'∈O',S b':=by
    intro b' hb';by_cases hown:f=.own
    ·exact hS b' (by rw [ho hown];simp [hb'])
    ·rw [(ho' hown).2]at hb';cases hb'
   refine .inr ⟨b,off,cap,s,vals,O',by rw [qR];exact hv,by rw [qR];exact hcap,λhc'=>by rw [qR];exact hc hc',by rw [qR];exact hlen,hs0,?_,hs,?_,?_,λhown=>ho ((h.own f).1 hown),λhown=>ho' (λhh=>hown ((h.own f).2 hh))⟩
   ·intro x hx;rw [qG]at hx;obtain ⟨y,hy,rfl⟩:=List.mem_map.1 hx;rw [qeC];exact hxs y hy
   ·obtain ⟨e,fz,hω,hle,hm⟩:=hf;cases hg:g f with
    |own =>
     have hown:=(h.own f).1 hg;subst hown;obtain ⟨fz',hω',hz⟩:=h.ω b e fz hω;have:=hz (hS b (by rw [ho rfl];simp));subst this;exact ⟨e,fz',hω',hle,hm⟩
    |q5=>obtain ⟨fz',hω',_⟩:=h.ω b e fz hω;exact ⟨e,fz',hω',hle,trivial⟩
    |shared =>
     refine ⟨e,true,h.sh f b e fz hω (λhown=>hS b (by rw [ho hown];simp)) (λhsh=>?_) hg,hle,rfl⟩;subst hsh;exact hm
   ·exact RepE.flags' h s l vals O' hO he
 |.fn f a c,v,O,hS,hr=>by
  simp only [V.reflag,Rep]at hr ⊢;obtain ⟨va,vc,O1,O2,hv,rfl,h1,h2⟩:=hr;exact ⟨va,vc,O1,O2,hv,rfl,RepL.flags' h a va O1 (λb hb=>hS b (by simp [hb])) h1,RepL.flags' h c vc O2 (λb hb=>hS b (by simp [hb])) h2⟩
 |.iface t x,v,O,hS,hr=>by
  simp only [V.reflag,Rep]at hr ⊢;obtain ⟨u,hv,h1⟩:=hr;exact ⟨u,hv,Rep.flags' h x u O hS h1⟩
 |.agg l,v,O,hS,hr=>by
  simp only [V.reflag,Rep]at hr ⊢;obtain ⟨vals,hv,h1⟩:=hr;exact ⟨vals,hv,RepL.flags' h l vals O hS h1⟩
 |.tuple l,v,O,hS,hr=>by
  simp only [V.reflag,Rep]at hr ⊢;obtain ⟨vals,hv,h1⟩:=hr;exact ⟨vals,hv,RepL.flags' h l vals O hS h1⟩
 |.lp ..,_,_,_,hr=>by simp only [Rep]at hr
 |.mp _,_,_,_,hr=>by simp only [Rep]at hr
theorem RepL.flags'{g:Fl->Fl}{w:World}{X X':Cx}{S:Nat->Prop}(h:Flags' g X X' S):∀(l:List V) (vals:List Value) (O:List Nat),(∀b∈O,S b)->RepL w X l vals O->RepL w X' (reflagL g l) vals O
 |[],_,_,_,hr=>by simpa only [reflagL,RepL]using hr
 |x::l,vals,O,hS,hr=>by
  simp only [reflagL,RepL]at hr ⊢;obtain ⟨u,vs,O1,O2,hv,rfl,h1,h2⟩:=hr;exact ⟨u,vs,O1,O2,hv,rfl,Rep.flags' h x u O1 (λb hb=>hS b (by simp [hb])) h1,RepL.flags' h l vs O2 (λb hb=>hS b (by simp [hb])) h2⟩
theorem RepE.flags'{g:Fl->Fl}{w:World}{X X':Cx}{S:Nat->Prop}(h:Flags' g X X' S)(s:Nat):∀(l:List V) (vals:List Value) (O:List Nat),(∀b∈O,S b)->RepE w X s l vals O->RepE w X' s (reflagL g l) vals O
 |[],_,_,_,hr=>by simpa only [reflagL,RepE]using hr
 |x::l,vals,O,hS,hr=>by
  simp only [reflagL,RepE]at hr ⊢;obtain ⟨u,vs,O1,O2,hv,hsz,rfl,h1,h2⟩:=hr;exact ⟨u,vs,O1,O2,hv,hsz,rfl,Rep.flags' h x u O1 (λb hb=>hS b (by simp [hb])) h1,RepE.flags' h s l vs O2 (λb hb=>hS b (by simp [hb])) h2⟩
end
def Dom(w:World)(X:Cx):Prop:=∀b e fz,X.ω b=some (e,fz)->b<w.heap.size
structure Eff (w:World) (X:Cx) (w':World) (X':Cx) (Oin:List Nat):Prop where
 size:w.heap.size<=w'.heap.size
 kept:∀b,b<w.heap.size->b∉Oin->w'.heap[b]?=w.heap[b]?
 ωk:∀b,b<w.heap.size->b∉Oin->X'.ω b=X.ω b
 own:∀b∈Oin,∀e fz,X.ω b=some (e,fz)->∃e' fz',X'.ω b=some (e',fz')/\e<=e'/\(fz=true->fz'=true) /\
  (∀i v,i<e->w.cell? ⟨b,i,none⟩=some v->w'.cell? ⟨b,i,none⟩=some v) /\
  (∀c t,w.heap[b]?=some (.cells c t (0,0))->∃c',w'.heap[b]?=some (.cells c' t (0,0))/\c'.size=c.size)
 β:X'.β=X.β
 dom:Dom w' X'
 os:w'.os=w.os
 out:w'.output=w.output
 tape:w'.tape=w.tape
theorem Eff.refl{w:World}{X:Cx}(O:List Nat)(h:Dom w X):Eff w X w X O :=
 ⟨Nat.le_refl _,λ_ _ _=>rfl,λ_ _ _=>rfl,λb _ e fz hω=>⟨e,fz,hω,Nat.le_refl _,id,λ_ _ _ h=>h,λc t h=>⟨c,h,rfl⟩⟩,rfl,h,rfl,rfl,rfl⟩
theorem qC{w w':World}{b i:Nat}(h:w'.heap[b]?=w.heap[b]?):w'.cell? ⟨b,i,none⟩=w.cell? ⟨b,i,none⟩:=by
 simp [World.cell?,h]
theorem Eff.ext{w w':World}{X X':Cx}{O:List Nat}(h:Eff w X w' X' O)(hd:Dom w X)(R:List Root):Ext R w X w' X' (λb=>b∈O) where
 β:=λr _=>by rw [h.β]
 ω:=λb e fz hω=>by
  by_cases hb:b∈O
  ·obtain ⟨e',fz',h1,h2,h3,_⟩:=h.own b hb e fz hω;exact ⟨e',fz',h1,h2,h3,λhn=>absurd hb hn⟩
  ·exact ⟨e,fz,by rw [h.ωk b (hd b e fz hω) hb];exact hω,Nat.le_refl _,id,λ_=>⟨rfl,rfl⟩⟩
 cell:=λb e fz i v hω hi hc=>by
  by_cases hb:b∈O
  ·obtain ⟨e',_,_,_,_,h3,_⟩:=h.own b hb e fz hω;exact h3 i v hi hc
  ·rw [qC (h.kept b (hd b e fz hω) hb)];exact hc
 obj:=λb e fz c t hU hω hc=>by
  by_cases hb:b∈O
  ·exact absurd hb hU
  ·exact ⟨c,by rw [h.kept b (hd b e fz hω) hb];exact hc,rfl⟩
def Lin(O:List Nat):Prop:=∀b,O.count b<=1
theorem Lin.nil:Lin []:=λ_=>by simp
theorem Lin.left{A B:List Nat}(h:Lin (A++B)):Lin A:=λb=>by have:=h b;rw [List.count_append]at this;omega
theorem Lin.right{A B:List Nat}(h:Lin (A++B)):Lin B:=λb=>by have:=h b;rw [List.count_append]at this;omega
def qr0(P:Program)(s:Sem Next)(w:World)(X:Cx)(x:V)(Oin:List Nat):Prop :=
 ∃v w' X' O',s.run P w=.ok (.value v) w'/\Eff w X w' X' Oin/\Rep w' X' x v O'/\Lin O'/\(∀b∈O',b∈Oin\/w.heap.size<=b)
theorem qdU{P:Program}{s:Sem Next}{w:World}{X:Cx}{x:V}{Oin O':List Nat}{v:Value}(hd:Dom w X)(hr:s.run P w=.ok (.value v) w)(hx:Rep w X x v O')(hl:Lin O')(hs:∀b∈O',b∈Oin) :
  qr0 P s w X x Oin:=⟨v,w,X,O',hr,Eff.refl _ hd,hx,hl,λb hb=>.inl (hs b hb)⟩
theorem qcD{α:Type}{P:Program}{w:World}:∀{s:Sem α} {a:α},valOf P s=some a->s.run P w=.ok a w:=by
 intro s;induction s with
 |pure b=>intro a h;simp [valOf]at h;simp [h]
 |program k ih=>intro a h;simp only [valOf]at h;simp only [Sem.run];exact ih P h
 |mark m k ih=>intro a h;simp only [valOf]at h;simp only [Sem.run];exact ih h
 |_=>intro a h;simp [valOf]at h
mutual
theorem rep_toVal{w:World}{X:Cx}:∀(x:V) (v:Value) (O:List Nat) (a:Value),x.toVal=some a->Rep w X x v O->v=a/\O=[]
 |.val u,v,O,a,ht,hr=>by simp only [V.toVal,qb]at ht;simp only [Rep]at hr;exact ⟨hr.1.trans ht,hr.2⟩
 |.agg l,v,O,a,ht,hr=>by
  simp only [V.toVal]at ht;simp only [Rep]at hr;obtain ⟨vals,hv,hl⟩:=hr;cases hh:toValL l with
  |none=>simp [hh]at ht
  |some vs=>simp [hh]at ht;obtain ⟨e1,e2⟩:=repL_toVal l vals O vs hh hl;exact ⟨by rw [hv,e1,ht],e2⟩
 |.tuple l,v,O,a,ht,hr=>by
  simp only [V.toVal]at ht;simp only [Rep]at hr;obtain ⟨vals,hv,hl⟩:=hr;cases hh:toValL l with
  |none=>simp [hh]at ht
  |some vs=>simp [hh]at ht;obtain ⟨e1,e2⟩:=repL_toVal l vals O vs hh hl;exact ⟨by rw [hv,e1,ht],e2⟩
 |.iface t x,v,O,a,ht,hr=>by
  simp only [V.toVal]at ht;simp only [Rep]at hr;obtain ⟨u,hv,hl⟩:=hr;cases hh:x.toVal with
  |none=>simp [hh]at ht
  |some y=>simp [hh]at ht;obtain ⟨e1,e2⟩:=rep_toVal x u O y hh hl;exact ⟨by rw [hv,e1,ht],e2⟩
 |.undef,_,_,_,ht,_|.ptr ..,_,_,_,ht,_|.cptr ..,_,_,_,ht,_|.sl ..,_,_,_,ht,_|.room ..,_,_,_,ht,_|.fn ..,_,_,_,ht,_|.yld _,_,_,_,ht,_|.mref _,_,_,_,ht,_|.bsl ..,_,_,_,ht,_|.mp _,_,_,_,ht,_|.lp ..,_,_,_,ht,_=>by simp [V.toVal]at ht
theorem repL_toVal{w:World}{X:Cx}:∀(l:List V) (vals:List Value) (O:List Nat) (vs:List Value),toValL l=some vs->RepL w X l vals O->vals=vs/\O=[]
 |[],vals,O,vs,ht,hr=>by simp only [toValL,qb]at ht;simp only [RepL]at hr;exact ⟨hr.1.trans ht,hr.2⟩
 |x::l,vals,O,vs,ht,hr=>by
  simp only [toValL]at ht;simp only [RepL]at hr;obtain ⟨u,rest,O1,O2,rfl,rfl,h1,h2⟩:=hr;cases hx:x.toVal with
  |none=>simp [hx]at ht
  |some a =>
   cases hl:toValL l with
   |none=>simp [hx,hl]at ht
   |some asz =>
    simp [hx,hl]at ht;obtain ⟨e1,e2⟩:=rep_toVal x u O1 a hx h1;obtain ⟨e3,e4⟩:=repL_toVal l rest O2 asz hl h2;exact ⟨by rw [e1,e3,ht],by rw [e2,e4];rfl⟩
end
theorem qmP{w:World}{X:Cx}:∀(l:List Value),RepL w X (l.map .val) l []
 |[]=>by simp [RepL]
 |v::l=>by simp only [List.map,RepL];exact ⟨v,l,[],[],rfl,rfl,by simp [Rep],qmP l⟩
theorem qpE{w:World}{X:Cx}(g:Value->V)(hg:∀v,Rep w X (g v) v []):∀(l:List Value),RepL w X (l.map g) l []
 |[]=>by simp [RepL]
 |v::l=>by simp only [List.map,RepL];exact ⟨v,l,[],[],rfl,rfl,hg v,qpE g hg l⟩
theorem qfK{w:World}{X:Cx}(u:Value):Rep w X (qb1 u) u []:=by
 unfold qb1;split
 ·rename_i cs;simp only [Rep];exact ⟨cs.toList,by simp,qmP _⟩
 ·rename_i vs;simp only [Rep];refine ⟨vs.toList,by simp,qpE _ (λv=>?_) _⟩;split
  ·rename_i cs;simp only [Rep];exact ⟨cs.toList,by simp,qmP _⟩
  ·simp [Rep]
 ·simp [Rep]
theorem qhE{w:World}{X:Cx}(p:Bool)(u:Value):Rep w X (qcB p u) u []:=by
 unfold qcB;split
 ·unfold qef;cases p<;>simp [Rep,ptrsL]
 ·simp [Rep]
theorem qeS{w:World}{X:Cx}(p:Bool)(u:Value):Rep w X (ofConst p u) u []:=by
 unfold ofConst;split
 ·rename_i cs;simp only [Rep];exact ⟨cs.toList,by simp,qpE _ (qhE p) _⟩
 ·exact qhE p u
theorem qE{w:World}{X:Cx}:∀(l:List V) (vals:List Value) (O:List Nat),RepL w X l vals O->l.length=vals.length
 |[],vals,O,h=>by simp only [RepL]at h;simp [h.1]
 |x::l,vals,O,h=>by
  simp only [RepL]at h;obtain ⟨u,vs,O1,O2,rfl,_,_,h2⟩:=h;simp [qE l vs O2 h2]
theorem qaq{w:World}{X:Cx}:∀{l l':List V} {vals vals':List Value} {O O':List Nat},RepL w X l vals O->RepL w X l' vals' O'->RepL w X (l++l') (vals++vals') (O++O')
 |[],_,vals,_,O,_,h,h'=>by simp only [RepL]at h;simpa [h.1,h.2]using h'
 |x::l,_,vals,_,O,_,h,h'=>by
  simp only [RepL]at h;obtain ⟨u,vs,O1,O2,rfl,rfl,h1,h2⟩:=h;simp only [List.cons_append,RepL];exact ⟨u,vs++_,O1,O2++_,rfl,by simp,h1,qaq h2 h'⟩
theorem qaB{w:World}{X:Cx}:∀(n:Nat) {l:List V} {vals:List Value} {O:List Nat},RepL w X l vals O->∃O1 O2,O=O1++O2/\RepL w X (l.take n) (vals.take n) O1/\RepL w X (l.drop n) (vals.drop n) O2
 |0,l,vals,O,h=>⟨[],O,rfl,by simp [RepL],by simpa using h⟩
 |n+1,[],vals,O,h=>by simp only [RepL]at h;exact ⟨[],[],by simp [h.2],by simp [RepL,h.1],by simp [RepL,h.1]⟩
 |n+1,x::l,vals,O,h=>by
  simp only [RepL]at h;obtain ⟨u,vs,O1,O2,rfl,rfl,h1,h2⟩:=h;obtain ⟨A,B,rfl,hA,hB⟩:=qaB n h2;exact ⟨O1++A,B,by simp,by simp only [List.take_succ_cons,RepL];exact ⟨u,_,O1,A,rfl,rfl,h1,hA⟩,by simpa using hB⟩
theorem qjj{w:World}{X:Cx}:∀{l:List V} {vals:List Value} {O:List Nat} (i:Nat) {x:V},RepL w X l vals O->l[i]?=some x->∃v Oi,vals[i]?=some v/\Rep w X x v Oi/\(∀b,Oi.count b<=O.count b)
 |[],vals,O,i,x,h,hi=>by simp at hi
 |y::l,vals,O,0,x,h,hi=>by
  simp only [RepL]at h;obtain ⟨u,vs,O1,O2,rfl,rfl,h1,h2⟩:=h;simp at hi;subst hi;exact ⟨u,O1,by simp,h1,λb=>by rw [List.count_append];omega⟩
 |y::l,vals,O,i+1,x,h,hi=>by
  simp only [RepL]at h;obtain ⟨u,vs,O1,O2,rfl,rfl,h1,h2⟩:=h;obtain ⟨v,Oi,hv,hr,hc⟩:=qjj (i:=i) h2 (by simpa using hi);exact ⟨v,Oi,by simpa using hv,hr,λb=>by rw [List.count_append];have:=hc b;omega⟩
theorem qfz{O O':List Nat}(h:Lin O)(hc:∀b,O'.count b<=O.count b):Lin O':=λb=>Nat.le_trans (hc b) (h b)
theorem qb8{O O':List Nat}(hc:∀b,O'.count b<=O.count b):∀b∈O',b∈O:=λb hb=>List.count_pos_iff.1 (Nat.lt_of_lt_of_le (List.count_pos_iff.2 hb) (hc b))
theorem qis{w:World}{X:Cx}{x:V}{u:Value}{O:List Nat}(h1:x.one=true)(h:Rep w X x u O):u.oneCell'=true:=by
 cases x with
 |val a=>simp only [Rep]at h;obtain ⟨rfl,_⟩:=h;simp only [V.one]at h1;cases u<;>simp_all [Value.oneCell']
 |ptr r off=>simp only [Rep]at h;obtain ⟨_,b,_,rfl⟩:=h;rfl
 |yld r=>simp only [Rep]at h;obtain ⟨_,b,_,rfl⟩:=h;rfl
 |mref r=>simp only [Rep]at h;obtain ⟨_,b,_,rfl⟩:=h;rfl
 |bsl r off n=>simp only [Rep]at h;obtain ⟨_,b,cap,_,rfl,_⟩:=h;rfl
 |cptr f cs=>simp only [Rep]at h;obtain ⟨_,b,off,vals,rfl,_⟩:=h;rfl
 |room s n=>simp only [Rep]at h;obtain ⟨b,cap,rfl,_⟩:=h;rfl
 |sl f c l =>
  simp only [Rep]at h;rcases h.2 with ⟨_,_,rfl|⟨_,_,_,rfl,_⟩⟩|⟨b,off,cap,s,vals,O',rfl,_⟩<;>rfl
 |fn f a c=>simp only [Rep]at h;obtain ⟨va,vc,O1,O2,rfl,_⟩:=h;rfl
 |iface t y=>simp only [Rep]at h;obtain ⟨u,rfl,_⟩:=h;rfl
 |_=>simp [V.one]at h1
theorem qb3{u:Value}(h:u.oneCell'=true):u.cells=#[u]:=by cases u<;>simp_all [Value.oneCell',Value.cells]
theorem qrx{w:World}{X:Cx}:∀{l:List V} {vals:List Value} {O:List Nat},l.all V.one=true->RepL w X l vals O->∀u∈vals,u.oneCell'=true
 |[],vals,O,_,h=>by simp only [RepL]at h;simp [h.1]
 |x::l,vals,O,ha,h=>by
  simp only [RepL]at h;obtain ⟨u,vs,O1,O2,rfl,_,h1,h2⟩:=h;simp only [List.all_cons,qe]at ha;intro y hy;rcases qk.1 hy with rfl|hy
  ·exact qis ha.1 h1
  ·exact qrx ha.2 h2 y hy
theorem qbb{x:V}(h:∀l,x≠.agg l):x.cells=[x]:=by
 cases x<;>first|rfl|exact absurd rfl (h _)
theorem qcg{w:World}{X:Cx}{x:V}{u:Value}{O:List Nat}(hk:x.oks=true)(h:Rep w X x u O):RepL w X x.cells u.cells.toList O/\∀c∈u.cells.toList,c.oneCell'=true:=by
 by_cases hx:∃l,x=.agg l
 ·obtain ⟨l,rfl⟩:=hx;simp only [Rep]at h;obtain ⟨vals,rfl,hl⟩:=h;simp only [V.oks,V.cells]at hk;simp only [V.cells,Value.cells];exact ⟨by simpa using hl,by simpa using qrx hk hl⟩
 ·have hc:=qbb (x:=x) (λl e=>hx ⟨l,e⟩);have h1:x.one=true:=by simpa [V.oks,hc]using hk
  have hu:=qis h1 h;rw [hc,qb3 hu];refine ⟨?_,by simpa using hu⟩;simp only [RepL];exact ⟨u,[],O,[],rfl,by simp,h,rfl,rfl⟩
section
variable {P:Program} {H:Hints} {f:FuncId} {w:World} {X:Cx}
theorem qbH{x:V}{vals:List Value}{O:List Nat}(h:RepL w X [x] vals O):∃u,vals=[u]/\Rep w X x u O:=by
 simp only [RepL]at h;obtain ⟨u,vs,O1,O2,rfl,rfl,h1,rfl,rfl⟩:=h;exact ⟨u,rfl,by simpa using h1⟩
theorem qjk{x y:V}{vals:List Value}{O:List Nat}(h:RepL w X [x,y] vals O):∃u v O1 O2,vals=[u,v]/\O=O1++O2/\Rep w X x u O1/\Rep w X y v O2:=by
 simp only [RepL]at h;obtain ⟨u,vs,O1,O2,rfl,rfl,h1,v,vs',O3,O4,rfl,rfl,h2,rfl,rfl⟩:=h;exact ⟨u,v,O1,O3,rfl,by simp,h1,h2⟩
theorem qvd{x y z:V}{vals:List Value}{O:List Nat}(h:RepL w X [x,y,z] vals O):∃u v t O1 O2 O3,vals=[u,v,t]/\O=O1++(O2++O3)/\Rep w X x u O1/\Rep w X y v O2/\Rep w X z t O3:=by
 simp only [RepL]at h;obtain ⟨u,vs,O1,O2,rfl,rfl,h1,v,vs',O3,O4,rfl,rfl,h2,t,vs'',O5,O6,rfl,rfl,h3,rfl,rfl⟩:=h;exact ⟨u,v,t,O1,O3,O5,rfl,by simp,h1,h2,h3⟩
theorem qnN(X:Cx):Flags qW X X (λ_=>True) true where
 β:=rfl
 own:=λf=>by cases f<;>simp [qW]
 dul:=λ_ _=>rfl
 ω:=λ_ b e fz h=>⟨fz,h⟩
 sh:=λf b e fz h _ hs _ hg=>by cases f<;>simp [qW]at hg;rw [hs rfl]at h;exact h
theorem qgh{x:V}{v:Value}{O:List Nat}(h:Rep w X x v O):Rep w X x.q5 v []:=Rep.flags (qnN X) x v O (λ_ _=>trivial) (λ_=>rfl) h
theorem qrw{l:List V}{vs:List Value}{O:List Nat}(h:RepL w X l vs O):RepL w X (reflagL qW l) vs []:=RepL.flags (qnN X) l vs O (λ_ _=>trivial) (λ_=>rfl) h
theorem info_of_underlying{t:TypeId}{d:TypeDesc}(h:P.underlying t=some d):∃i,P.info? t=some i:=by
 unfold Program.underlying at h;cases hi:P.info? t with
 |none=>simp [hi]at h
 |some i=>exact ⟨i,rfl⟩
theorem qec{t:TypeId}(h:P.cellsOf t≠0):∃i,P.info? t=some i/\i.size=P.cellsOf t:=by
 unfold Program.cellsOf at h ⊢;cases hi:P.info? t with
 |none=>simp [hi]at h
 |some i=>exact ⟨i,rfl,by simp⟩
theorem qab{t:TypeId}(h:P.cellsOf t≠0):(sizeOf t).run P w=.ok (P.cellsOf t) w:=by
 obtain ⟨i,hi,hs⟩:=qec h;simp [sizeOf,typeInfo,hi,hs]
theorem qg6{t:TypeId}{d:TypeDesc}(h:P.underlying t=some d):(sizeOf t).run P w=.ok (P.cellsOf t) w:=by
 obtain ⟨i,hi⟩:=info_of_underlying h;simp [sizeOf,typeInfo,hi,Program.cellsOf]
theorem qhI{t:TypeId}{d:TypeDesc}(h:P.underlying t=some d):(isAgg t).run P w=.ok (qO P t) w:=by
 simp only [isAgg,Sem.run_bind,run_underlying h,Result.andThen_ok,qO,h];cases d<;>simp
theorem qpK{s:Sem Value}{v:Value}{w':World}(h:s.run P w=.ok v w'):(do pure (Next.value (<- s)):Sem Next).run P w=.ok (.value v) w':=by
 simp [h]
theorem qw0{s:Sem Value}{x:V}{Oin O':List Nat}{v:Value}(hd:Dom w X)(h:s.run P w=.ok v w)(hx:Rep w X x v O')(hl:Lin O')(hs:∀b∈O',b∈Oin):qr0 P (do pure (Next.value (<- s))) w X x Oin :=
 qdU hd (qpK h) hx hl hs
theorem qgi{t:TypeId}{cs:List V}{x:V}{vals:List Value}{O:List Nat}(hx:q8 P t cs=some x)(h:RepL w X cs vals O) :
  ∃v O',Rep w X x v O'/\(∀b,O'.count b<=O.count b)/\(if qO P t then P.cellsOf t<=vals.length/\v=.agg (vals.take (P.cellsOf t)).toArray else vals.head?=some v)/\∃d,P.underlying t=some d:=by
 unfold q8 at hx;cases hu:P.underlying t with
 |none=>simp [hu]at hx
 |some d =>
  simp only [hu]at hx;by_cases ha:qO P t=true
  ·simp only [ha,if_true]at hx ⊢;split at hx
   ·rename_i hle;simp only [qb]at hx;subst hx;obtain ⟨O1,O2,rfl,h1,_⟩:=qaB (P.cellsOf t) h;refine ⟨_,O1,by simp only [Rep];exact ⟨_,rfl,h1⟩,λb=>by rw [List.count_append];omega,⟨by rw [<- qE _ _ _ h];exact hle,rfl⟩,d,rfl⟩
   ·simp at hx
  ·have ha':qO P t=false:=by simpa using ha
   simp only [ha',qf,if_false]at hx ⊢;cases cs with
   |nil=>simp at hx
   |cons y cs =>
    simp at hx;subst hx;simp only [RepL]at h;obtain ⟨u,vs,O1,O2,rfl,rfl,h1,h2⟩:=h;exact ⟨u,O1,h1,λb=>by rw [List.count_append];omega,by simp,d,rfl⟩
theorem qdX{t:TypeId}{b off:Nat}{vals:List Value}{v:Value}{d:TypeDesc}(hu:P.underlying t=some d)(hs:Seg w b off vals)
  (hv:if qO P t then P.cellsOf t<=vals.length/\v=.agg (vals.take (P.cellsOf t)).toArray else vals.head?=some v) :
  (loadVar t ⟨b,off,none⟩).run P w=.ok v w:=by
 simp only [loadVar,Sem.run_bind,qhI hu,Result.andThen_ok];by_cases ha:qO P t=true
 ·simp only [ha,if_true]at hv ⊢;obtain ⟨hle,rfl⟩:=hv;have hl:=run_loadCells_list (P:=P) (w:=w) ⟨b,off,none⟩ (vals.take (P.cellsOf t)) (λj u hj=>by
   rw [Addr.add_lit];rw [List.getElem?_take]at hj;split at hj
   ·exact hs j u hj
   ·simp at hj)
  rw [List.length_take,Nat.min_eq_left hle]at hl;simp [qg6 hu,hl]
 ·have ha':qO P t=false:=by simpa using ha
  simp only [ha',qf,if_false]at hv ⊢;have h0:=hs 0 v (by cases vals<;>simp_all);simp only [Nat.add_zero]at h0;simp [h0]
theorem qt0{s:Nat}:∀{l:List V} {vals:List Value} {O:List Nat} (i:Nat) {x:V},RepE w X s l vals O->l[i]?=some x ->
  ∃u Oi,Rep w X x u Oi/\u.cells.size=s/\(∀j v,u.cells.toList[j]?=some v->vals[i*s+j]?=some v)/\i*s+s<=vals.length/\(∀b,Oi.count b<=O.count b)
 |[],vals,O,i,x,h,hi=>by simp at hi
 |y::l,vals,O,0,x,h,hi=>by
  simp only [RepE]at h;obtain ⟨u,vs,O1,O2,rfl,hs,rfl,h1,h2⟩:=h;simp at hi;subst hi;refine ⟨u,O1,h1,hs,λj v hj=>?_,by simp [hs],λb=>by rw [List.count_append];omega⟩;rw [Nat.zero_mul,Nat.zero_add,qg (qm.1 hj).1];exact hj
 |y::l,vals,O,i+1,x,h,hi=>by
  simp only [RepE]at h;obtain ⟨u,vs,O1,O2,rfl,hs,rfl,h1,h2⟩:=h;obtain ⟨u',Oi,hr,hs',hj,hl,hc⟩:=qt0 (i:=i) h2 (by simpa using hi);have e:u.cells.toList.length=s:=by simpa using hs
  refine ⟨u',Oi,hr,hs',λj v hv=>?_,?_,λb=>by rw [List.count_append];have:=hc b;omega⟩
  ·rw [show (i+1)*s+j=s+(i*s+j) by rw [Nat.succ_mul];omega,List.getElem?_append_right (by omega),e,Nat.add_sub_cancel_left];exact hj j v hv
  ·rw [List.length_append,e,Nat.succ_mul];omega
theorem qqt{f:Fl}{cs:List V}{b off n:Nat}{vals:List Value}(hs:Seg w b off vals)(hω:∃e fz,X.ω b=some (e,fz)/\off+vals.length<=e/\(f=.shared->fz=true))(hl:RepL w X cs vals [])(hno:f≠.own)(hn:n<=cs.length) :
  Rep w X (.cptr f (cs.drop n)) (.pointer (some ⟨b,off+n,none⟩)) []:=by
 obtain ⟨e,fz,hω,hle,hsh⟩:=hω;obtain ⟨O1,O2,hO,_,h2⟩:=qaB n hl;have hO2:O2=[]:=(List.append_eq_nil_iff.1 hO.symm).2;subst hO2;rw [qE _ _ _ hl]at hn;simp only [Rep];refine ⟨trivial,b,off+n,vals.drop n,rfl,λi u hi=>?_,⟨e,fz,hω,by rw [List.length_drop];omega,hsh⟩,h2,hno⟩;rw [List.getElem?_drop]at hi;rw [Nat.add_assoc];exact hs _ u hi
theorem qkC{t:TypeId}{x y:V}{fd:Nat}{v:Value}{O:List Nat}(hy:qcv P t x fd=some y)(h:Rep w X x v O) :
  ∃v',(Instr.fieldAt t v fd).run P w=.ok v' w/\Rep w X y v' []:=by
 unfold qcv at hy;split at hy
 ·rename_i fields hu;split at hy
  ·rename_i g hf;by_cases hz:P.cellsOf g.type=0
   ·simp [hz]at hy
   ·simp only [hz,if_false]at hy;split at hy
    ·rename_i r off;simp only [qb]at hy;subst hy;simp only [Rep]at h;obtain ⟨_,b,hb,rfl⟩:=h;refine ⟨.pointer (some ⟨b,off+g.offset,none⟩),?_,by simp only [Rep];exact ⟨trivial,b,hb,rfl⟩⟩;simp [Instr.fieldAt,run_underlying hu,hf,Instr.sureAddr,fieldPlace,qab hz,hz,Addr.add_lit]
    ·rename_i fl cs;split at hy
     ·rename_i hle;simp only [qb]at hy;subst hy;simp only [Rep]at h;obtain ⟨_,b,off,vals,rfl,hs,hω,hl,hno⟩:=h;refine ⟨.pointer (some ⟨b,off+g.offset,none⟩),?_,qqt hs hω hl hno hle⟩;simp [Instr.fieldAt,run_underlying hu,hf,Instr.sureAddr,fieldPlace,qab hz,hz,Addr.add_lit]
     ·simp at hy
    ·simp at hy
  ·simp at hy
 ·simp at hy
theorem qyQ{t:TypeId}{x y:V}{fd:Nat}{v:Value}{O:List Nat}(hy:qov P t x fd=some y)(h:Rep w X x v O) :
  ∃v' O',(Instr.field t v fd).run P w=.ok v' w/\Rep w X y v' O'/\(∀b,O'.count b<=O.count b):=by
 unfold qov at hy;split at hy
 ·rename_i fields cs hu;split at hy
  ·rename_i g hf;simp only [Rep]at h;obtain ⟨vals,rfl,hl⟩:=h;obtain ⟨O1,O2,rfl,_,h2⟩:=qaB g.offset hl;obtain ⟨v',O',hr,hc,hv,d,hd⟩:=qgi hy h2;refine ⟨v',O',?_,hr,λb=>by have:=hc b;rw [List.count_append];omega⟩;simp only [Instr.field,Sem.run_bind,run_underlying hu,Result.andThen_ok,hf,asAgg,Sem.run_pure,part,qhI hd];by_cases ha:qO P g.type=true
   ·simp only [ha,if_true]at hv ⊢;obtain ⟨hle,rfl⟩:=hv;simp [qg6 hd]
   ·have ha':qO P g.type=false:=by simpa using ha
    simp only [ha',qf,if_false]at hv ⊢;have:vals[g.offset]?=some v':=by
     rw [List.head?_drop]at hv;exact hv
    simp [this]
  ·simp at hy
 ·simp at hy
theorem qkD{t:TypeId}{x i y:V}{v vi:Value}{O Oi:List Nat}(hy:qbg P t x i=some y)(h:Rep w X x v O)(hi:Rep w X i vi Oi) :
  ∃v',(Instr.indexAt t v vi).run P w=.ok v' w/\Rep w X y v' []:=by
 unfold qbg at hy;split at hy
 ·rename_i k n;simp only [Rep]at hi;obtain ⟨rfl,_⟩:=hi;split at hy
  ·rename_i len elem r off hu;split at hy
   ·rename_i hc;obtain ⟨h0,h1,hz⟩:=hc;simp only [qb]at hy;subst hy;simp only [Rep]at h;obtain ⟨_,b,hb,rfl⟩:=h;refine ⟨.pointer (some ⟨b,off+n.toNat*P.cellsOf elem,none⟩),?_,by simp only [Rep];exact ⟨trivial,b,hb,rfl⟩⟩;simp [Instr.indexAt,asIntOf,run_underlying hu,Instr.sureAddr,h0,h1,qab hz,Addr.add_lit]
   ·simp at hy
  ·rename_i len elem fl cs hu;split at hy
   ·rename_i hc;obtain ⟨h0,h1,hz,hle⟩:=hc;simp only [qb]at hy;subst hy;simp only [Rep]at h;obtain ⟨_,b,off,vals,rfl,hs,hω,hl,hno⟩:=h;refine ⟨.pointer (some ⟨b,off+n.toNat*P.cellsOf elem,none⟩),?_,qqt hs hω hl hno hle⟩;simp [Instr.indexAt,asIntOf,run_underlying hu,Instr.sureAddr,h0,h1,qab hz,Addr.add_lit]
   ·simp at hy
  ·rename_i elem fl c l hu;split at hy
   ·rename_i h0;split at hy
    ·rename_i e he;split at hy
     ·rename_i hc;obtain ⟨hlen,hok,hz,_⟩:=hc;simp only [qb]at hy;subst hy;simp only [Rep]at h;obtain ⟨_,h⟩:=h;rcases h with ⟨rfl,_⟩|⟨b,off,cap,s,vals,O',rfl,hcap,_,hvl,hs0,hxs,hs,hf,hE,_⟩
      ·simp at he
      ·have hes:s=P.cellsOf elem:=by rw [<- hlen];exact (hxs e (List.mem_of_getElem? he)).symm
       obtain ⟨u,Oe,hr,husz,hj,hle,_⟩:=qt0 n.toNat hE he;obtain ⟨hcells,_⟩:=qcg hok hr;have hlt:n<(l.length:Int):=by have:=(qm.1 he).1;omega
       refine ⟨.pointer (some ⟨b,off+n.toNat*P.cellsOf elem,none⟩),?_,?_⟩
       ·simp [Instr.indexAt,asIntOf,run_underlying hu,h0,hlt,qab hz,Addr.add_lit]
       ·obtain ⟨e',fz,hω,hle',hm⟩:=hf;simp only [Rep];refine ⟨trivial,b,off+n.toNat*P.cellsOf elem,u.cells.toList,rfl,λj v' hv'=>?_,⟨e',fz,hω,?_,λhh=>?_⟩,qrw hcells,by cases fl<;>simp [qW]⟩
        ·have:=hs _ v' (hj j v' hv');rw [<- hes,Nat.add_assoc];exact this
        ·rw [Array.length_toList,husz,<- hes];omega
        ·cases fl with
         |own=>simp [qW]at hh
         |q5=>simp [qW]at hh
         |shared=>exact hm
     ·simp at hy
    ·simp at hy
   ·simp at hy
  ·simp at hy
 ·simp at hy
theorem qot:∀{l:List V} {s:Nat} {vals us:List Value} {O:List Nat},qgz l=some us->RepE w X s l vals O->vals=us/\us.length=l.length
 |[],s,vals,us,O,hb,hr=>by
  simp only [qgz,qb]at hb;simp only [RepE]at hr;subst hb;exact ⟨hr.1,rfl⟩
 |x::l,s,vals,us,O,hb,hr=>by
  unfold qgz at hb;split at hb
  ·rename_i h;cases h
  ·rename_i k n l' h;cases h;obtain ⟨us',hb',rfl⟩:=qc.1 hb;simp only [RepE,Rep]at hr;obtain ⟨u,vs,O1,O2,rfl,hs,rfl,⟨rfl,rfl⟩,hr⟩:=hr;obtain ⟨h1,h2⟩:=qot hb' hr;rw [h1];exact ⟨by simp [Value.cells],by simp [h2]⟩
  ·cases hb
theorem quf:∀{l:List V} {us:List Value},qgz l=some us->∀n,RepL w X (l.take n) (us.take n) []
 |[],us,hb,n=>by
  simp only [qgz,qb]at hb;subst hb;simp only [List.take_nil,RepL];exact ⟨trivial,trivial⟩
 |x::l,us,hb,n=>by
  unfold qgz at hb;split at hb
  ·rename_i h;cases h
  ·rename_i k m l' h;cases h;obtain ⟨us',hb',rfl⟩:=qc.1 hb;cases n with
   |zero=>simp only [List.take_zero,RepL];exact ⟨trivial,trivial⟩
   |succ n =>
    simp only [List.take_succ_cons,RepL,Rep];exact ⟨_,_,[],[],rfl,rfl,⟨rfl,rfl⟩,quf hb' n⟩
  ·cases hb
theorem qu3{t:TypeId}{x y:V}{v:Value}{O:List Nat}(hy:qhN P t x=some y)(h:Rep w X x v O) :
  ∃v',(Instr.arrayAt t v).run P w=.ok v' w/\Rep w X y v' []:=by
 unfold qhN at hy;split at hy
 ·rename_i n elem fl c l hu;split at hy
  ·rename_i hc;obtain ⟨hn,h0,hi⟩:=hc;obtain ⟨us,hus⟩:=Option.isSome_iff_exists.1 hi;simp only [qb]at hy;subst hy;simp only [Rep]at h;obtain ⟨_,h⟩:=h;rcases h with ⟨rfl,_⟩|⟨b,off,cap,s,vals,O',rfl,hcap,_,hvl,hs0,hxs,hs,hf,hE,_⟩
   ·simp at hn;exact absurd hn h0
   ·obtain ⟨rfl,hul⟩:=qot hus hE;refine ⟨.pointer (some ⟨b,off,none⟩),by simp [Instr.arrayAt,run_underlying hu,Nat.not_lt.2 hn],?_⟩;obtain ⟨e',fz,hω,hle',hm⟩:=hf;simp only [Rep];refine ⟨trivial,b,off,vals.take n,rfl,λj v' hv'=>hs j v' ?_,⟨e',fz,hω,?_,λhh=>?_⟩,quf hus n,by cases fl<;>simp [qW]⟩
    ·rw [List.getElem?_take]at hv';split at hv'
     ·exact hv'
     ·cases hv'
    ·rw [List.length_take];omega
    ·cases fl with
     |own=>simp [qW]at hh
     |q5=>simp [qW]at hh
     |shared=>exact hm
  ·simp at hy
 ·simp at hy
theorem qyR{t:TypeId}{x i y:V}{v vi:Value}{O Oi:List Nat}(hy:qnf P t x i=some y)(h:Rep w X x v O)(hi:Rep w X i vi Oi) :
  ∃v' O',(Instr.index t v vi).run P w=.ok v' w/\Rep w X y v' O'/\(∀b,O'.count b<=O.count b):=by
 unfold qnf at hy;split at hy
 ·rename_i k n len elem cs hu;simp only [Rep]at hi;obtain ⟨rfl,_⟩:=hi;split at hy
  ·rename_i hc;obtain ⟨h0,h1,hz⟩:=hc;simp only [Rep]at h;obtain ⟨vals,rfl,hl⟩:=h;obtain ⟨O1,O2,rfl,_,h2⟩:=qaB (n.toNat*P.cellsOf elem) hl;obtain ⟨v',O',hr,hc,hv,d,hd⟩:=qgi hy h2;refine ⟨v',O',?_,hr,λb=>by have:=hc b;rw [List.count_append];omega⟩;simp only [Instr.index,Sem.run_bind,asIntOf,Sem.run_pure,run_underlying hu,Result.andThen_ok,h0,h1,and_self,if_true,qab hz,part,qhI hd];by_cases ha:qO P elem=true
   ·simp only [ha,if_true]at hv ⊢;obtain ⟨hle,rfl⟩:=hv;simp [qg6 hd]
   ·have ha':qO P elem=false:=by simpa using ha
    simp only [ha',qf,if_false]at hv ⊢;have:vals[n.toNat*P.cellsOf elem]?=some v':=by
     rw [List.head?_drop]at hv;exact hv
    simp [this]
  ·simp at hy
 ·rename_i k n s hu;simp only [Rep]at hi h;obtain ⟨rfl,_⟩:=hi;obtain ⟨rfl,rfl⟩:=h;split at hy
  ·rename_i h0;cases hb:s[n.toNat]? with
   |none=>simp [hb]at hy
   |some c =>
    simp [hb]at hy;subst hy;refine ⟨.int .u8 c.toNat,[],?_,by simp [Rep],λb=>by simp⟩;simp [Instr.index,asIntOf,run_underlying hu,h0,hb]
  ·simp at hy
 ·simp at hy
theorem qu4{l:List V}{i:Nat}{y:V}{v:Value}{O:List Nat}(hy:l[i]?=some y)(h:Rep w X (.tuple l) v O) :
  ∃v' O',(Instr.extract v i).run P w=.ok v' w/\Rep w X y v' O'/\(∀b,O'.count b<=O.count b):=by
 simp only [Rep]at h;obtain ⟨vals,rfl,hl⟩:=h;obtain ⟨v',Oi,hv,hr,hc⟩:=qjj i hl hy;exact ⟨v',Oi,by simp [Instr.extract,hv],hr,hc⟩
theorem quY{d:TypeDesc}{t:TypeId}{x y:V}{u v:Value}{O1 O2:List Nat}(hu:P.underlying t=some d)(hn:notNil d x y=true)(h1:Rep w X x u O1)(h2:Rep w X y v O2)(n:Nat) :
  (Op.equalIn (n+1) t u v).run P w=.ok false w/\(∀op xo yo,(eqGuard op t xo yo u v).run P w=.ok () w) /\
   Go.binOp .eql t u v=(do pure (.bool (<- Op.equal t u v)))/\Go.binOp .neq t u v=(do pure (.bool (!(<- Op.equal t u v)))):=by
 unfold notNil at hn;split at hn
 ·simp only [Rep]at h1 h2;obtain ⟨rfl,_⟩:=h2;rcases h1.2 with ⟨hcons,_⟩|⟨b,off,cap,s,vals,O',rfl,_⟩
  ·simp at hcons
  ·exact ⟨by simp [Op.equalIn,run_underlying hu],λop xo yo=>by unfold eqGuard;split<;>simp,by simp [Go.binOp],by simp [Go.binOp]⟩
 ·simp only [Rep]at h1 h2;obtain ⟨rfl,_⟩:=h2;obtain ⟨_,b,_,rfl⟩:=h1;exact ⟨by simp [Op.equalIn,run_underlying hu],λop xo yo=>by unfold eqGuard;split<;>simp,by simp [Go.binOp],by simp [Go.binOp]⟩
 ·simp only [Rep]at h1 h2;obtain ⟨rfl,_⟩:=h2;obtain ⟨_,b,off,vals,rfl,_⟩:=h1;exact ⟨by simp [Op.equalIn,run_underlying hu],λop xo yo=>by unfold eqGuard;split<;>simp,by simp [Go.binOp],by simp [Go.binOp]⟩
 ·simp only [Rep]at h1 h2;obtain ⟨rfl,_⟩:=h2;obtain ⟨va,vc,O1,O2,rfl,_⟩:=h1;exact ⟨by simp [Op.equalIn,run_underlying hu],λop xo yo=>by unfold eqGuard;split<;>simp,by simp [Go.binOp],by simp [Go.binOp]⟩
 ·simp only [Rep]at h1 h2;obtain ⟨rfl,_⟩:=h2;obtain ⟨u',rfl,_⟩:=h1;exact ⟨by simp [Op.equalIn,run_underlying hu],λop xo yo=>by unfold eqGuard;split<;>simp,by simp [Go.binOp],by simp [Go.binOp]⟩
 ·simp at hn
theorem quD(t:TypeId)(u v:Value):Op.equal t u v=Op.equalIn (9999+1) t u v:=rfl
theorem qBy{op:BinOp}{t:TypeId}{xo yo:Operand}{x y z:V}{u v:Value}{O1 O2:List Nat}(hz:qko P op t xo yo x y=some z)(h1:Rep w X x u O1)(h2:Rep w X y v O2) :
  ∃v',(do eqGuard op t xo yo u v;Go.binOp op t u v:Sem Value).run P w=.ok v' w/\Rep w X z v' []:=by
 unfold qko at hz;split at hz
 ·rename_i a b ha hb;obtain ⟨rfl,rfl⟩:=rep_toVal x u O1 a ha h1;obtain ⟨rfl,rfl⟩:=rep_toVal y v O2 b hb h2;cases hv:valOf P (do eqGuard op t xo yo u v;Go.binOp op t u v:Sem Value)with
  |none=>simp [hv]at hz
  |some r=>simp [hv]at hz;subst hz;exact ⟨r,qcD hv,qfK r⟩
 ·split at hz
  ·rename_i d hu;split at hz
   ·rename_i hn;have key:∃r:Bool,z=.val (.bool r)/\((op=.eql/\r=false)\/(op=.neq/\r=true)):=by
     split at hz
     ·simp only [qb]at hz;exact ⟨false,hz.symm,.inl ⟨rfl,rfl⟩⟩
     ·simp only [qb]at hz;exact ⟨true,hz.symm,.inr ⟨rfl,rfl⟩⟩
     ·simp at hz
    obtain ⟨r,rfl,hr⟩:=key;obtain ⟨he,hg,hb1,hb2⟩:=quY hu hn h1 h2 9999;rw [<- quD]at he;refine ⟨.bool r,?_,by simp [Rep]⟩;simp only [Sem.run_bind,hg,Result.andThen_ok];rcases hr with ⟨rfl,rfl⟩|⟨rfl,rfl⟩
    ·rw [hb1];simp only [Sem.run_bind,he,Result.andThen_ok,Sem.run_pure]
    ·rw [hb2];simp only [Sem.run_bind,he,Result.andThen_ok,Sem.run_pure,Bool.not_false]
   ·simp at hz
  ·simp at hz
end
section
variable {P:Program} {H:Hints} {f:FuncId} {w:World} {X:Cx}
theorem qtv(off:Nat):∀(vs:List Value) (k:Nat) (cells:Array Value),off+k+vs.length<=cells.size ->
  ((vs.zipIdx k).foldl (λcs x=>cs.setIfInBounds (off+x.2) x.1) cells).toList=cells.toList.take (off+k)++vs++cells.toList.drop (off+k+vs.length)
 |[],k,cells,_=>by simp
 |v::vs,k,cells,h=>by
  simp only [List.zipIdx_cons,List.foldl_cons];rw [qtv off vs (k+1) _ (by simp at h ⊢;omega)];have hlt:off+k<cells.toList.length:=by simp at h ⊢;omega
  simp only [Array.toList_setIfInBounds,List.length_cons];have e1:(cells.toList.set (off+k) v).take (off+(k+1))=cells.toList.take (off+k)++[v]:=by
   rw [<- Nat.add_assoc,List.take_succ_eq_append_getElem (by simpa using hlt)];simp [List.take_set_of_le]
  have e2:(cells.toList.set (off+k) v).drop (off+(k+1)+vs.length)=cells.toList.drop (off+k+(vs.length+1)):=by
   rw [List.drop_set_of_lt (by omega)];congr 1;omega
  rw [e1,e2];simp
theorem qwm(off:Nat)(v:Value)(vals:List Value)(h:off+v.cells.toList.length<=vals.length) :
  v.cells.zipIdx.foldl (λcs (x:Value×Nat)=>cs.setIfInBounds (off+x.2) x.1) vals.toArray=(vals.take off++v.cells.toList++vals.drop (off+v.cells.toList.length)).toArray:=by
 have:=qtv off v.cells.toList 0 vals.toArray (by simpa using h);rw [<- Array.foldl_toList,Array.toList_zipIdx];apply Array.ext';simpa using this
theorem qcy(b:Nat)(A B:List Nat):(A++B).count b=A.count b+B.count b:=List.count_append
theorem qir{cs vs:List V}{vals us:List Value}{O Op:List Nat}{off:Nat}(h:RepL w X cs vals O)(hv:RepL w X vs us Op) :
  ∃O',RepL w X (qP cs off vs) (vals.take off++us++vals.drop (off+us.length)) O'/\∀b,O'.count b<=O.count b+Op.count b:=by
 obtain ⟨A,B,rfl,hA,hB⟩:=qaB off h;obtain ⟨E,F,rfl,hE,hF⟩:=qaB us.length hB;have hl:=qE _ _ _ hv;refine ⟨A++Op++F,?_,λb=>by simp only [qcy];omega⟩;unfold qP;rw [hl];refine qaq (qaq hA hv) ?_;simpa [List.drop_drop]using hF
theorem qk7{place:Nat->Option (Nat×Nat)}:∀(is:List Nat) (xs:List V) (us:List Value) (cs cs':List V) (vals:List Value) (O Op:List Nat),is.length=xs.length ->
  qgB place cs (is.zip xs)=some cs'->RepL w X xs us Op->RepL w X cs vals O ->
  ∃vals' O',Instr.fill place vals.toArray (is.zip us)=some vals'.toArray/\RepL w X cs' vals' O'/\(∀b,O'.count b<=O.count b+Op.count b)
 |[],xs,us,cs,cs',vals,O,Op,hl,hf,hx,hc=>by
  simp only [List.zip_nil_left,qgB,qb]at hf;subst hf;exact ⟨vals,O,by simp [Instr.fill],hc,λb=>by omega⟩
 |i::is,[],us,cs,cs',vals,O,Op,hl,hf,hx,hc=>by simp at hl
 |i::is,x::xs,us,cs,cs',vals,O,Op,hl,hf,hx,hc=>by
  simp only [RepL]at hx;obtain ⟨u,us',O1,O2,rfl,rfl,h1,h2⟩:=hx;simp only [List.zip_cons_cons,qgB]at hf;split at hf
  ·simp at hf
  ·rename_i off size hp;split at hf
   ·simp at hf
   ·rename_i hcnd;simp only [not_or,Decidable.not_not,Nat.not_lt,gt_iff_lt]at hcnd;obtain ⟨hsz,hle,hok⟩:=hcnd;have hok':x.oks=true:=by simpa using hok
    obtain ⟨hcells,_⟩:=qcg hok' h1;have hcl:x.cells.length=u.cells.size:=by rw [qE _ _ _ hcells];simp
    have hvl:=qE _ _ _ hc;obtain ⟨O',hr,hcnt⟩:=qir (off:=off) hc hcells;obtain ⟨vals',O'',hfill,hr',hcnt'⟩:=qk7 is xs us' _ cs' _ O' O2 (by simpa using hl) hf h2 hr;refine ⟨vals',O'',?_,hr',λb=>by have:=hcnt b;have:=hcnt' b;rw [qcy];omega⟩;simp only [List.zip_cons_cons,Instr.fill,hp];rw [if_neg (by simp;omega)];rw [qwm off u vals (by simp;omega)];exact hfill
theorem qdk{t:TypeId}{z:V}(hz:zeroOf P H f t=some z):∃i u,P.info? t=some i/\i.zero=some u/\z=ofConst (H.precise f) u:=by
 unfold zeroOf at hz;cases hi:P.info? t with
 |none=>simp [hi]at hz
 |some i =>
  cases hu:i.zero with
  |none=>simp [hi,hu]at hz
  |some u=>simp [hi,hu]at hz;exact ⟨i,u,rfl,hu,hz.symm⟩
theorem qdK(p:Bool)(u:Value):RepL w X (ofConst p u).cells u.cells.toList []:=by
 unfold ofConst;split
 ·rename_i cs;simp only [V.cells,Value.cells];exact qpE _ (qhE p) _
 ·rename_i hne;have h1:(qcB p u).cells=[qcB p u]:=by
   apply qbb;intro l;unfold qcB qef;split
   ·cases p<;>simp
   ·simp
  have h2:u.cells.toList=[u]:=by cases u<;>simp_all [Value.cells]
  rw [h1,h2];simp only [RepL];exact ⟨u,[],[],[],rfl,rfl,qhE p u,rfl,rfl⟩
theorem qyP{t:TypeId}{parts:Array (Nat×Operand)}{xs:List V}{z:V}{ρ:Operand->Value}{O:List Nat}(hz:qou P H f t ((parts.toList.map (·.1)).zip xs)=some z)
  (h:RepL w X xs ((parts.toList.map (·.2)).map ρ) O) :
  ∃v O',(Instr.build t (parts.map λx=>(x.1,ρ x.2))).run P w=.ok v w/\Rep w X z v O'/\(∀b,O'.count b<=O.count b):=by
 have hxl:xs.length=parts.size:=by rw [qE _ _ _ h];simp
 have hzip:(parts.map λx=>(x.1,ρ x.2)).toList=(parts.toList.map (·.1)).zip ((parts.toList.map (·.2)).map ρ):=by
  rw [Array.toList_map,List.map_map,List.zip_map_right,<- List.map_prod_right_eq_zip];simp
 unfold qou at hz;split at hz
 ·rename_i z0 fields hzero hu;obtain ⟨i,u,hi,hiz,rfl⟩:=qdk hzero;split at hz
  ·rename_i places hp;obtain ⟨cs',hfv,rfl⟩:=qc.1 hz;obtain ⟨vals',O',hfill,hr,hc⟩:=qk7 _ xs _ _ cs' u.cells.toList [] O (by simp [hxl]) hfv h (qdK _ u);refine ⟨.agg vals'.toArray,O',run_build w t _ _ ?_,by simp only [Rep];exact ⟨_,rfl,hr⟩,λb=>by have:=hc b;simpa using this⟩;unfold Program.built;simp only [hi,hu,hiz,hp,hzip];simpa using hfill
  ·simp at hz
 ·rename_i z0 len elem hzero hu;obtain ⟨i,u,hi,hiz,rfl⟩:=qdk hzero;split at hz
  ·rename_i ie hie;obtain ⟨cs',hfv,rfl⟩:=qc.1 hz;obtain ⟨vals',O',hfill,hr,hc⟩:=qk7 _ xs _ _ cs' u.cells.toList [] O (by simp [hxl]) hfv h (qdK _ u);refine ⟨.agg vals'.toArray,O',run_build w t _ _ ?_,by simp only [Rep];exact ⟨_,rfl,hr⟩,λb=>by have:=hc b;simpa using this⟩;unfold Program.built;simp only [hi,hu,hiz,hie,hzip];simpa using hfill
  ·simp at hz
 ·simp at hz
theorem heap_alloc_new(w:World)(o:Obj):(w.alloc o).heap[w.heap.size]?=some o:=by
 show (w.heap.push o)[w.heap.size]?=some o;simp
theorem heap_alloc_old(w:World)(o:Obj){b:Nat}(h:b<w.heap.size):(w.alloc o).heap[b]?=w.heap[b]?:=by
 show (w.heap.push o)[b]?=w.heap[b]?;rw [Array.getElem?_push_lt (by simpa using h),Array.getElem?_eq_getElem h]
def Cx.new(X:Cx)(b e:Nat):Cx:={X with ω:=λk=>if k=b then some (e,false)else X.ω k}
structure Alike (w w1:World):Prop where
 heap:w1.heap=w.heap
 os:w1.os=w.os
 out:w1.output=w.output
 tape:w1.tape=w.tape
theorem Alike.refl(w:World):Alike w w:=⟨rfl,rfl,rfl,rfl⟩
theorem Alike.drew(w:World):Alike w w.drew:=⟨rfl,rfl,rfl,rfl⟩
theorem Alike.cell{w w1:World}(h:Alike w w1)(a:Addr):w1.cell? a=w.cell? a:=by simp [World.cell?,h.heap]
theorem qgG{w1:World}(ha:Alike w w1)(hd:Dom w X)(o:Obj)(e:Nat)(O:List Nat):Eff w X (w1.alloc o) (X.new w.heap.size e) O where
 size:=by simp [ha.heap]
 kept:=λb hb _=>by rw [heap_alloc_old _ _ (by rw [ha.heap];exact hb),ha.heap]
 ωk:=λb hb _=>by simp only [Cx.new];rw [if_neg (by omega)]
 own:=λb _ e' fz hω=>by
  have hb:=hd b e' fz hω;refine ⟨e',fz,by simp only [Cx.new];rw [if_neg (by omega)];exact hω,Nat.le_refl _,id,λi v _ hc=>?_,λc t hc=>⟨c,by rw [heap_alloc_old _ _ (by rw [ha.heap];exact hb),ha.heap];exact hc,rfl⟩⟩;rw [World.cell?_alloc_lt _ _ _ (by rw [ha.heap];exact hb),ha.cell];exact hc
 β:=rfl
 dom:=λb e' fz hω=>by
  simp only [Cx.new]at hω;split at hω
  ·rename_i hb;subst hb;simp [ha.heap]
  ·have:=hd b e' fz hω;simp [ha.heap]<;>omega
 os:=ha.os
 out:=ha.out
 tape:=ha.tape
theorem qpD{w':World}{X':Cx}{Oin:List Nat}(he:Eff w X w' X' Oin)(hd:Dom w X){s:Nat}{l:List V}{vals:List Value}{O:List Nat}(hp:ptrsL l=[])(hO:∀b∈O,b∉Oin)(h:RepE w X s l vals O):RepE w' X' s l vals O :=
 RepE.ext (he.ext hd []) s l vals O (by rw [hp];simp) hO h
theorem qxA{w1:World}(ha:Alike w w1)(vals rest:List Value)(t:TypeId):Seg (w1.alloc (.cells (vals++rest).toArray t)) w.heap.size 0 vals:=by
 intro i v hi;rw [<- ha.heap,World.cell?_alloc_new];have hlt:=(qm.1 hi).1;simp only [Nat.zero_add,List.getElem?_toArray];rw [qg hlt];exact hi
theorem qsS{w1:World}(ha:Alike w w1)(hd:Dom w X){s cap:Nat}{l:List V}{vals rest:List Value}{O:List Nat}(t:TypeId)(hp:ptrsL l=[])(hs:0<s)(hl:vals.length=l.length*s)(hxs:∀x∈l,x.cells.length=s)
  (hcap:l.length<=cap) (hsz:cap*s<=(vals++rest).length) (h0:l.length=0->cap=0) (h:RepE w X s l vals O) (hO:∀b∈O,b<w.heap.size) :
  Rep (w1.alloc (.cells (vals++rest).toArray t)) (X.new w.heap.size vals.length) (.sl .own false l) (.slice (some ⟨w.heap.size,0,none⟩) l.length cap) (w.heap.size::O):=by
 have he:=qgG ha hd (.cells (vals++rest).toArray t) vals.length [];simp only [Rep];refine ⟨hp,.inr ⟨w.heap.size,0,cap,s,vals,O,rfl,hcap,by simp,hl,hs,hxs,qxA ha vals rest t,?_,qpD he hd hp (by simp) h,λ_=>rfl,λhn=>absurd rfl hn⟩⟩;refine ⟨vals.length,false,by simp [Cx.new],by simp,rfl,by simp,⟨_,t,by rw [<- ha.heap];exact heap_alloc_new _ _,by simpa using hsz⟩,λhz=>h0 ?_⟩;rw [hl]at hz;rcases Nat.mul_eq_zero.1 hz with h|h<;>omega
mutual
theorem rep_dom(hd:Dom w X):∀(x:V) (v:Value) (O:List Nat),Rep w X x v O->∀b∈O,b<w.heap.size
 |.undef,_,_,h=>by simp only [Rep]at h;simp [h]
 |.val _,_,_,h=>by simp only [Rep]at h;simp [h.2]
 |.ptr ..,_,_,h=>by simp only [Rep]at h;simp [h.1]
 |.yld _,_,_,h=>by simp only [Rep]at h;simp [h.1]
 |.mref _,_,_,h=>by simp only [Rep]at h;simp [h.1]
 |.bsl ..,_,_,h=>by simp only [Rep]at h;simp [h.1]
 |.cptr ..,_,_,h=>by simp only [Rep]at h;simp [h.1]
 |.room s n,v,O,h=>by
  simp only [Rep]at h;obtain ⟨b,cap,_,_,_,rfl,hω,_⟩:=h;intro k hk;rw [show k=b by simpa using hk];exact hd b 0 false hω
 |.sl f c l,v,O,h=>by
  simp only [Rep]at h;obtain ⟨_,h⟩:=h;rcases h with ⟨_,h0,_⟩|⟨b,off,cap,s,vals,O',_,_,_,_,_,_,_,⟨e,fz,hω,_⟩,he,ho,ho'⟩
  ·simp [h0]
  ·have ih:=repE_dom hd s l vals O' he;by_cases hf:f=.own
   ·rw [ho hf];intro b' hb';rcases qk.1 hb' with rfl|hb'
    ·exact hd _ _ _ hω
    ·exact ih _ hb'
   ·simp [(ho' hf).1]
 |.fn f a c,v,O,h=>by
  simp only [Rep]at h;obtain ⟨va,vc,O1,O2,_,rfl,h1,h2⟩:=h;intro b hb;rcases qj.1 hb with hb|hb
  ·exact repL_dom hd a va O1 h1 b hb
  ·exact repL_dom hd c vc O2 h2 b hb
 |.iface t x,v,O,h=>by simp only [Rep]at h;obtain ⟨u,_,h1⟩:=h;exact rep_dom hd x u O h1
 |.agg l,v,O,h=>by simp only [Rep]at h;obtain ⟨vals,_,h1⟩:=h;exact repL_dom hd l vals O h1
 |.tuple l,v,O,h=>by simp only [Rep]at h;obtain ⟨vals,_,h1⟩:=h;exact repL_dom hd l vals O h1
 |.lp ..,_,_,h=>by simp only [Rep]at h
 |.mp _,_,_,h=>by simp only [Rep]at h
theorem repL_dom(hd:Dom w X):∀(l:List V) (vals:List Value) (O:List Nat),RepL w X l vals O->∀b∈O,b<w.heap.size
 |[],_,_,h=>by simp only [RepL]at h;simp [h.2]
 |x::l,vals,O,h=>by
  simp only [RepL]at h;obtain ⟨u,vs,O1,O2,_,rfl,h1,h2⟩:=h;intro b hb;rcases qj.1 hb with hb|hb
  ·exact rep_dom hd x u O1 h1 b hb
  ·exact repL_dom hd l vs O2 h2 b hb
theorem repE_dom(hd:Dom w X)(s:Nat):∀(l:List V) (vals:List Value) (O:List Nat),RepE w X s l vals O->∀b∈O,b<w.heap.size
 |[],_,_,h=>by simp only [RepE]at h;simp [h.2]
 |x::l,vals,O,h=>by
  simp only [RepE]at h;obtain ⟨u,vs,O1,O2,_,_,rfl,h1,h2⟩:=h;intro b hb;rcases qj.1 hb with hb|hb
  ·exact rep_dom hd x u O1 h1 b hb
  ·exact repE_dom hd s l vs O2 h2 b hb
end
theorem qeR{s:Nat}:∀{l l':List V} {vals vals':List Value} {O O':List Nat},RepE w X s l vals O->RepE w X s l' vals' O'->RepE w X s (l++l') (vals++vals') (O++O')
 |[],_,vals,_,O,_,h,h'=>by simp only [RepE]at h;simpa [h.1,h.2]using h'
 |x::l,_,vals,_,O,_,h,h'=>by
  simp only [RepE]at h;obtain ⟨u,vs,O1,O2,rfl,hs,rfl,h1,h2⟩:=h;simp only [List.cons_append,RepE];exact ⟨u,vs++_,O1,O2++_,by simp,hs,by simp,h1,qeR h2 h'⟩
theorem qip{s:Nat}:∀{l:List V} {vals:List Value} {O:List Nat},RepE w X s l vals O->vals.length=l.length*s
 |[],vals,O,h=>by simp only [RepE]at h;simp [h.1]
 |x::l,vals,O,h=>by
  simp only [RepE]at h;obtain ⟨u,vs,O1,O2,rfl,hs,rfl,h1,h2⟩:=h;simp [qip h2,hs,Nat.succ_mul]<;>omega
theorem qji{s:Nat}:∀{l:List V} {vals:List Value} {O:List Nat},(∀x∈l,x.oks=true)->RepE w X s l vals O->∀u∈vals,u.oneCell'=true
 |[],vals,O,_,h=>by simp only [RepE]at h;simp [h.1]
 |x::l,vals,O,ha,h=>by
  simp only [RepE]at h;obtain ⟨u,vs,O1,O2,rfl,hs,rfl,h1,h2⟩:=h;intro y hy;rcases qj.1 hy with hy|hy
  ·exact (qcg (ha x (by simp)) h1).2 y hy
  ·exact qji (λz hz=>ha z (by simp [hz])) h2 y hy
theorem q9:∀(a b:List V),ptrsL (a++b)=ptrsL a++ptrsL b
 |[],b=>rfl
 |x::a,b=>by simp [ptrsL,q9 a b]
theorem qdz(n:Nat)(l:List V)(h:ptrsL l=[]):ptrsL (l.take n)=[]/\ptrsL (l.drop n)=[]:=by
 have e:ptrsL (l.take n++l.drop n)=[]:=by rw [List.take_append_drop];exact h
 rw [q9]at e;exact List.append_eq_nil_iff.1 e
theorem qod{agg:Bool}{s:Nat}(hs:agg=false->s=1):∀(n:Nat) (cs:List V) (vals:List Value) (O:List Nat),cs.length=n*s->cs.all V.one=true->ptrsL cs=[]->RepL w X cs vals O ->
  ∃O',RepE w X s (chunk agg s n cs) vals O'/\(∀b,O'.count b<=O.count b)/\ptrsL (chunk agg s n cs)=[]/\(∀x∈chunk agg s n cs,x.cells.length=s)
 |0,cs,vals,O,hl,_,_,h=>by
  have:cs=[]:=by apply List.eq_nil_of_length_eq_zero;simpa using hl
  subst this;simp only [RepL]at h;exact ⟨[],by simp [chunk,RepE,h.1],λb=>by simp,rfl,by simp [chunk]⟩
 |n+1,cs,vals,O,hl,ho,hp,h=>by
  have hvl:=qE _ _ _ h;obtain ⟨O1,O2,rfl,h1,h2⟩:=qaB s h;rw [Nat.succ_mul]at hl;have hall:∀x∈cs,x.one=true:=by simpa [List.all_eq_true]using ho
  obtain ⟨O2',hE,hc,hp',hx⟩:=qod hs n (cs.drop s) (vals.drop s) O2 (by simp [hl]) (by rw [List.all_eq_true];intro x hx;exact hall x (List.mem_of_mem_drop hx)) (qdz s cs hp).2 h2;have hvs:vals=vals.take s++vals.drop s:=(List.take_append_drop s vals).symm;have htl:(vals.take s).length=s:=by rw [List.length_take,<- hvl,hl];omega
  cases agg with
  |true =>
   refine ⟨O1++O2',?_,λb=>by have:=hc b;simp only [qcy];omega,?_,?_⟩
   ·simp only [chunk,RepE,if_true];refine ⟨.agg (vals.take s).toArray,vals.drop s,O1,O2',by simp [Value.cells],by simpa [Value.cells]using htl,rfl,by simp only [Rep];exact ⟨_,rfl,h1⟩,hE⟩
   ·simp only [chunk,ptrsL,if_true,V.qq,hp',(qdz s cs hp).1,List.append_nil]
   ·simp only [chunk,if_true];intro x hx';rcases qk.1 hx' with rfl|hx'
    ·simp [V.cells,hl]
    ·exact hx x hx'
  |false =>
   have hs1:=hs rfl;subst hs1;cases cs with
   |nil=>simp at hl
   |cons y cs =>
    have hy1:y.one=true:=hall y (by simp);have hyc:y.cells=[y]:=qbb (λl e=>by subst e;simp [V.one]at hy1);simp only [RepL]at h;obtain ⟨u,vs,A,B,rfl,hO,hu,hvs'⟩:=h;have hu1:=qis hy1 hu;simp only [List.take_succ_cons,List.take_zero,RepL]at h1;obtain ⟨u',vs',A',B',he,rfl,hu',hn,hb⟩:=h1;simp at he;obtain ⟨rfl,rfl⟩:=he;refine ⟨A'++O2',?_,λb=>by have:=hc b;simp only [qcy];omega,?_,?_⟩
    ·simp only [chunk,RepE,qf,if_false,List.headD_cons];refine ⟨u,vs,A',O2',by simp [qb3 hu1],by simp [qb3 hu1],rfl,hu',by simpa using hE⟩
    ·simp only [chunk,ptrsL,qf,if_false,List.headD_cons,hp',List.append_nil];have:ptrsL [y]=[]:=by have:=(qdz 1 (y::cs) hp).1;simpa using this
     simpa [ptrsL]using this
    ·simp only [chunk,qf,if_false,List.headD_cons];intro x hx';rcases qk.1 hx' with rfl|hx'
     ·simp [hyc]
     ·exact hx x hx'
theorem cyc(l:List Value)(hl:0<l.length):∀n,((Array.range (n*l.length)).map (l.toArray[· % l.toArray.size]!)).toList=(List.replicate n l).flatten
 |0=>by simp
 |n+1=>by
  have ih:=cyc l hl n;simp only [Array.toList_map,Array.toList_range]at ih ⊢;rw [Nat.succ_mul,Nat.add_comm,List.range_add,List.map_append,List.map_map];rw [List.replicate_succ,List.flatten_cons,<- ih];congr 1
  ·apply List.ext_getElem
   ·simp
   ·intro i h1 h2;simp at h1;simp [Nat.mod_eq_of_lt h1,h1]
  ·apply List.map_congr_left;intro i _;simp [Function.comp]
theorem qh9{cs:List V}{vals:List Value}(h:RepL w X cs vals []):∀n,RepL w X (List.replicate n cs).flatten (List.replicate n vals).flatten []
 |0=>by simp [RepL]
 |n+1=>by
  simp only [List.replicate_succ,List.flatten_cons];exact qaq h (qh9 h n)
theorem qkw{place:Nat->Option (Nat×Nat)}:∀(ps:List (Nat×V)) (cs cs':List V),qgB place cs ps=some cs'->cs'.length=cs.length
 |[],cs,cs',h=>by simp only [qgB,qb]at h;rw [h]
 |(i,v)::ps,cs,cs',h=>by
  simp only [qgB]at h;split at h
  ·simp at h
  ·split at h
   ·simp at h
   ·rename_i hc;simp only [not_or,Decidable.not_not,Nat.not_lt,gt_iff_lt]at hc;rw [qkw ps _ _ h];simp [qP]<;>omega
theorem qpu{t:TypeId}{len:Nat}{parts:Array (Nat×Operand)}{xs:List V}{z:V}{ρ:Operand->Value}{O:List Nat}(hd:Dom w X)(hlin:Lin O)(hz:qdE P H f t len ((parts.toList.map (·.1)).zip xs)=some z)
  (h:RepL w X xs ((parts.toList.map (·.2)).map ρ) O) :
  qr0 P (do pure (Next.value (<- Instr.buildSlice t len (parts.map λx=>(x.1,ρ x.2))))) w X z O:=by
 have hxl:xs.length=parts.size:=by rw [qE _ _ _ h];simp
 have hzip:(parts.map λx=>(x.1,ρ x.2)).toList=(parts.toList.map (·.1)).zip ((parts.toList.map (·.2)).map ρ):=by
  rw [Array.toList_map,List.map_map,List.zip_map_right,<- List.map_prod_right_eq_zip];simp
 unfold qdE at hz;split at hz
 ·rename_i elem hu;split at hz
  ·rename_i ie z0 hie hzero;obtain ⟨i,u,hi,hiz,rfl⟩:=qdk hzero;obtain rfl:i=ie:=by rw [hi]at hie;exact Option.some.inj hie
   split at hz
   ·simp at hz
   ·rename_i hc;simp only [not_or,not_and,Decidable.not_not,Nat.not_lt,gt_iff_lt]at hc;obtain ⟨hs0,hs1,hzl,hsmall⟩:=hc;split at hz
    ·rename_i cs' hfv;split at hz
     ·rename_i hones;obtain ⟨hone,hptr⟩:=hones;simp only [qb]at hz;subst hz;have hcz:=qdK (w:=w) (X:=X) (H.precise f) u;have hul:u.cells.toList.length=i.size:=by rw [<- qE _ _ _ hcz];exact hzl
      obtain ⟨vals',O',hfill,hr,hcnt⟩:=qk7 _ xs _ _ cs' _ [] O (by simp [hxl]) hfv h (qh9 hcz len);have hcl:cs'.length=len*i.size:=by
       rw [qkw _ _ _ hfv];simp [List.length_flatten,hzl]
      have hptr':ptrsL cs'=[]:=by simpa using hptr
      obtain ⟨O'',hE,hc2,hp2,hx2⟩:=qod (agg:=qO P elem) (λhh=>hs1 hh) len cs' vals' O' hcl hone hptr' hr;have hvl:vals'.length=len*i.size:=by rw [<- qE _ _ _ hr];exact hcl
      have hchl:∀(n:Nat) (cs:List V),(chunk (qO P elem) i.size n cs).length=n:=by
       intro n;induction n with
       |zero=>intro cs;rfl
       |succ n ih=>intro cs;simp [chunk,ih]
      have hrun:(Instr.buildSlice t len (parts.map λx=>(x.1,ρ x.2))).run P w=.ok (.slice (some ⟨w.heap.size,0,none⟩) len len) (w.alloc (.cells vals'.toArray elem)):=by
       have hcy:((Array.range (len*i.size)).map (u.cells[· % u.cells.size]!))=(List.replicate len u.cells.toList).flatten.toArray:=by
        apply Array.ext';have:=cyc u.cells.toList (by omega) len;rw [hul]at this;simpa [hul]using this
       by_cases hpos:len*i.size=0
       ·have hlen:len=0:=by rcases Nat.mul_eq_zero.1 hpos with h|h<;>omega
        subst hlen;have hf2:Instr.fill (λj=>some (j*i.size,i.size)) #[] (parts.map λx=>(x.1,ρ x.2)).toList=some vals'.toArray:=by rw [hzip];simpa using hfill
        have e0:Array.range 0=#[]:=by apply Array.ext';simp
        rw [Array.toList_map]at hf2;simp [Instr.buildSlice,run_underlying hu,sizeOf,typeInfo,hi,newRow,e0,hf2]
       ·refine run_buildSlice w t elem len _ _ i u hu hi hiz (by omega) hpos ?_;rw [hcy,hzip];exact hfill
      have hO'':∀b∈O'',b∈O:=λb hb=>by
       have h1:=List.count_pos_iff.2 hb;have h2:=hc2 b;have h3:=hcnt b;simp only [List.count_nil]at h3;exact List.count_pos_iff.1 (by omega)
      have hO:∀b∈O,b<w.heap.size:=repL_dom hd xs _ O h;have hrep:=qsS (rest:=[]) (cap:=len) (Alike.refl w) hd elem hp2 (Nat.pos_of_ne_zero hs0) (by rw [hchl];exact hvl) hx2 (by rw [hchl];exact Nat.le_refl _) (by simp [hvl]) (by rw [hchl];exact id) hE (λb hb=>hO b (hO'' b hb));rw [hchl]at hrep;refine ⟨_,_,_,w.heap.size::O'',qpK hrun,?_,by simpa using hrep,?_,?_⟩
      ·simpa using qgG (Alike.refl w) hd (.cells vals'.toArray elem) vals'.length O
      ·intro b;rw [List.count_cons];have h2:=hc2 b;have h3:=hcnt b;have h4:=hlin b;simp only [List.count_nil]at h3;split
       ·rename_i hb;have hb:w.heap.size=b:=by simpa using hb
        have:O''.count b=0:=by
         apply List.count_eq_zero.2;intro hm;have:=hO b (hO'' b hm);omega
        omega
       ·omega
      ·intro b hb;rcases qk.1 hb with rfl|hb
       ·exact .inr (Nat.le_refl _)
       ·exact .inl (hO'' b hb)
     ·simp at hz
    ·simp at hz
  ·simp at hz
 ·simp at hz
end
section
variable {P:Program} {H:Hints} {f:FuncId} {w:World} {X:Cx}
theorem qmh{x:V}{n:Nat}{v:Value}{O:List Nat}(h:qjb x=some n)(hr:Rep w X x v O):∃k,v=.int k (n:Int):=by
 unfold qjb at h;split at h
 ·rename_i k i;split at h
  ·rename_i h0;simp only [qb]at h;subst h;simp only [Rep]at hr;exact ⟨k,by rw [hr.1];congr 1;omega⟩
  ·simp at h
 ·simp at h
theorem qfp{z:V}{u:Value}{s:Nat}(hs:u.cells.size=s)(hz:Rep w X z u []):∀n,RepE w X s (List.replicate n z) (List.replicate n u.cells.toList).flatten []
 |0=>by simp [RepE]
 |n+1=>by
  simp only [List.replicate_succ,List.flatten_cons,RepE];exact ⟨u,_,[],[],rfl,hs,rfl,hz,qfp hs hz n⟩
theorem qeQ{z:V}(h:z.qq=[]):∀n,ptrsL (List.replicate n z)=[]
 |0=>rfl
 |n+1=>by simp [List.replicate_succ,ptrsL,h,qeQ h n]
theorem qrf{t:TypeId}{l c z:V}{vl vc:Value}{O1 O2:List Nat}(hd:Dom w X)(hz:qev P H f t l c=some z)(h1:Rep w X l vl O1)(h2:Rep w X c vc O2)(O:List Nat) :
  qr0 P (do pure (Next.value (<- Instr.makeSlice t vl vc))) w X z O:=by
 unfold qev at hz;split at hz
 ·rename_i elem hu;split at hz
  ·rename_i z0 n m hzero hn hm;split at hz
   ·rename_i hc;obtain ⟨hnm,hn0,hs0,hzl,hzo,hzp,hb,hmx⟩:=hc;simp only [qb]at hz;subst hz;obtain ⟨i,u,hi,hiz,rfl⟩:=qdk hzero;have hsz:i.size=P.cellsOf elem:=by simp [Program.cellsOf,hi]
    have hby:i.bytes=P.bytesOf elem:=by simp [Program.bytesOf,hi]
    obtain ⟨k1,rfl⟩:=qmh hn h1;obtain ⟨k2,rfl⟩:=qmh hm h2;have hrz:Rep w X (ofConst (H.precise f) u) u []:=qeS _ _;obtain ⟨hcells,_⟩:=qcg hzo hrz;have hul:u.cells.size=P.cellsOf elem:=by have e:=qE _ _ _ hcells;rw [hzl,Array.length_toList]at e;exact e.symm
    have hbm:(P.bytesOf elem:Int)*m<=70368744177664:=by rw [<- Int.natCast_mul];omega
    have hrun:=run_make (P:=P) w t elem i u hu hi hiz k1 k2 n m (by omega) (by omega) (by rw [hby];omega) (by omega);have hmade:madeCells u.cells (m*i.size)=((List.replicate n u.cells.toList).flatten++(List.replicate (m-n) u.cells.toList).flatten).toArray:=by
     apply Array.ext';have:=cyc u.cells.toList (by simp;omega) m;simp only [Array.length_toList,Array.toArray_toList,hul]at this;rw [<- List.flatten_append,List.replicate_append_replicate,show n+(m-n)=m by omega];rw [hsz];simpa [madeCells,hul]using this
    simp only [Int.toNat_natCast]at hrun;rw [hmade]at hrun;have hE:=qfp hul hrz n;have hzp':(ofConst (H.precise f) u).qq=[]:=by simpa using hzp
    have hlen:((List.replicate n u.cells.toList).flatten).length=n*P.cellsOf elem:=by simp [List.length_flatten,hul]
    have hlen2:((List.replicate (m-n) u.cells.toList).flatten).length=(m-n)*P.cellsOf elem:=by simp [List.length_flatten,hul]
    have hrep:=qsS (rest:=(List.replicate (m-n) u.cells.toList).flatten) (cap:=m) (Alike.refl w) hd elem (qeQ hzp' n) (Nat.pos_of_ne_zero hs0) (by simpa using hlen) (λx hx=>by rw [(List.mem_replicate.1 hx).2];exact hzl)
     (by simpa using hnm) (by rw [List.length_append,hlen,hlen2,<- Nat.add_mul];exact Nat.mul_le_mul_right _ (by omega)) (λh=>hn0 (by simpa using h)) hE (by simp)
    simp only [List.length_replicate]at hrep;exact ⟨_,_,_,_,qpK hrun,qgG (Alike.refl w) hd _ _ O,hrep,λb=>by rw [List.count_cons];simp;split<;>omega,λb hb=>by simp at hb;exact .inr (by omega)⟩
   ·simp at hz
  ·simp at hz
 ·simp at hz
theorem qg3{s:Nat}:∀(n:Nat) {l:List V} {vals:List Value} {O:List Nat},RepE w X s l vals O->∃O1 O2,O=O1++O2/\RepE w X s (l.take n) (vals.take (n*s)) O1/\RepE w X s (l.drop n) (vals.drop (n*s)) O2
 |0,l,vals,O,h=>⟨[],O,rfl,by simp [RepE],by simpa using h⟩
 |n+1,[],vals,O,h=>by simp only [RepE]at h;exact ⟨[],[],by simp [h.2],by simp [RepE,h.1],by simp [RepE,h.1]⟩
 |n+1,x::l,vals,O,h=>by
  simp only [RepE]at h;obtain ⟨u,vs,O1,O2,rfl,hs,rfl,h1,h2⟩:=h;obtain ⟨A,B,rfl,hA,hB⟩:=qg3 n h2;have hl:u.cells.toList.length=s:=by simpa using hs
  refine ⟨O1++A,B,by simp,?_,?_⟩
  ·simp only [List.take_succ_cons,RepE];refine ⟨u,_,O1,A,?_,hs,rfl,h1,hA⟩;rw [List.take_append,Nat.succ_mul,hl];rw [(List.take_of_length_le (by omega):u.cells.toList.take (n*s+s)=u.cells.toList),show n*s+s-s=n*s by omega]
  ·simp only [List.drop_succ_cons];rw [Nat.succ_mul,List.drop_append,hl,(List.drop_eq_nil_of_le (by omega):u.cells.toList.drop (n*s+s)=[]),show n*s+s-s=n*s by omega];exact hB
theorem qmV{k:IntKind}{n y:Nat}{code:BoundsCode}(h:n<=y):(Instr.sliceBound (.int k (n:Int)) y code).run P w=.ok n w:=by
 have:=run_sliceBound (P:=P) (w:=w) k (n:Int) y code (by omega) (by omega);simpa using this
theorem qdC{isSlice:Bool}{len cap a b m:Nat}{lo hi mx:Option Value}(hlo:(lo=none/\a=0)\/∃k,lo=some (.int k (a:Int)))(hhi:(hi=none/\mx=none/\b=len)\/∃k,hi=some (.int k (b:Int)))
  (hmx:(mx=none/\m=cap)\/∃k,mx=some (.int k (m:Int))) (h1:a<=b) (h2:b<=m) (h3:m<=cap) :
  (Instr.sliceBounds isSlice len cap lo hi mx).run P w=.ok (a,b,m) w:=by
 have hb (k:IntKind) (code:BoundsCode):=qmV (P:=P) (w:=w) (k:=k) (code:=code) h2;have ha (k:IntKind) (code:BoundsCode):=qmV (P:=P) (w:=w) (k:=k) (code:=code) h1;have hm (k:IntKind) (code:BoundsCode):=qmV (P:=P) (w:=w) (k:=k) (code:=code) h3;rcases hlo with ⟨rfl,rfl⟩|⟨k1,rfl⟩<;>rcases hhi with ⟨rfl,rfl,rfl⟩|⟨k2,rfl⟩<;>(first|(rcases hmx with ⟨rfl,rfl⟩|⟨k3,rfl⟩)|skip) <;>
  simp_all [Instr.sliceBounds]
def qiF(w:World)(X:Cx)(a:Option V)(va:Option Value):Prop:=(a=none/\va=none)\/∃x v O,a=some x/\va=some v/\Rep w X x v O
theorem qiF.nat{a:Option V}{va:Option Value}{d n:Nat}(h:qiF w X a va)(hn:qfm d a=some n):(a=none/\va=none/\n=d)\/∃k,a.isSome=true/\va=some (.int k (n:Int)):=by
 rcases h with ⟨rfl,rfl⟩|⟨x,v,O,rfl,rfl,hr⟩
 ·simp [qfm]at hn;exact .inl ⟨rfl,rfl,hn.symm⟩
 ·obtain ⟨k,rfl⟩:=qmh (by simpa [qfm]using hn) hr;exact .inr ⟨k,rfl,rfl⟩
theorem qyS{t:TypeId}{x z:V}{v:Value}{O:List Nat}{lo hi mx:Option V}{vlo vhi vmx:Option Value}(hz:qdY P t x lo hi mx=some z)(h:Rep w X x v O)
  (h1:qiF w X lo vlo) (h2:qiF w X hi vhi) (h3:qiF w X mx vmx):∃v',(Instr.sliceAt t v vlo vhi vmx).run P w=.ok v' w/\Rep w X z v' []:=by
 unfold qdY at hz;split at hz
 ·rename_i elem fl c l hu;split at hz
  ·simp at hz
  ·rename_i hcnd;simp only [not_or,Bool.not_eq_false]at hcnd;obtain ⟨hown,hs0,hall⟩:=hcnd;have hall':∀e∈l,e.cells.length=P.cellsOf elem:=by simpa [List.all_eq_true]using hall
   split at hz
   ·rename_i a b ha hb;have hlo:=h1.nat ha;have hhi:=h2.nat hb;have hrun:∀(base:Option Addr) (cap m:Nat),l.length<=cap->((mx=none/\m=cap)\/(mx.isSome=true/\qfm 0 mx=some m/\hi.isSome=true))->a<=b->b<=l.length->b<=m->m<=cap ->
      (Instr.sliceAt t (.slice base l.length cap) vlo vhi vmx).run P w=.ok (.slice (if m=a then base else base.map (·.add (a*P.cellsOf elem))) (b-a) (m-a)) w:=by
     intro base cap m hcap hm hab hbl hbm hmc;have hb1:(vlo=none/\a=0)\/∃k,vlo=some (.int k (a:Int)):=by
      rcases hlo with ⟨_,hv,ha⟩|⟨k,_,hv⟩
      ·exact .inl ⟨hv,ha⟩
      ·exact .inr ⟨k,hv⟩
     have hb3:(vmx=none/\m=cap)\/∃k,vmx=some (.int k (m:Int)):=by
      rcases hm with ⟨hm,hmc⟩|⟨hm,hmo,_⟩
      ·rcases h3 with ⟨_,hv⟩|⟨x',v',O',hx',_⟩
       ·exact .inl ⟨hv,hmc⟩
       ·rw [hm]at hx';cases hx'
      ·rcases h3.nat hmo with ⟨hn,_⟩|⟨k,_,hv⟩
       ·rw [hn]at hm;simp at hm
       ·exact .inr ⟨k,hv⟩
     have hb2:(vhi=none/\vmx=none/\b=l.length)\/∃k,vhi=some (.int k (b:Int)):=by
      rcases hhi with ⟨hn,hv,hb⟩|⟨k,_,hv⟩
      ·refine .inl ⟨hv,?_,hb⟩;rcases hm with ⟨hm,_⟩|⟨_,_,hm⟩
       ·rcases h3 with ⟨_,hv⟩|⟨x',v',O',hx',_⟩
        ·exact hv
        ·rw [hm]at hx';cases hx'
       ·rw [hn]at hm;simp at hm
      ·exact .inr ⟨k,hv⟩
     have hbo:=qdC (P:=P) (w:=w) (isSlice:=true) hb1 hb2 hb3 hab hbm hmc;simp [Instr.sliceAt,Instr.slice,run_underlying hu,hbo,qab hs0]
    have hres:∀(m:Nat->Nat) (c':Bool),(∀cap,l.length<=cap->b<=m cap/\m cap<=cap/\((mx=none/\m cap=cap)\/(mx.isSome=true/\qfm 0 mx=some (m cap)/\hi.isSome=true))/\(c'=true->(c=true->cap=l.length)->m cap=b)) ->
      a<=b->b<=l.length->∃v',(Instr.sliceAt t v vlo vhi vmx).run P w=.ok v' w/\Rep w X (.sl fl c' ((l.take b).drop a)) v' []:=by
     intro m c' hm hab hbl;simp only [Rep]at h;obtain ⟨hp,h⟩:=h;have hp':ptrsL ((l.take b).drop a)=[]:=(qdz a _ (qdz b l hp).1).2;rcases h with ⟨rfl,_,hv0⟩|⟨b0,off,cap,s,vals,O',rfl,hcap,hclip,hvl,hsp,hxs,hs,hf,hE,_,ho'⟩
     ·obtain ⟨hm1,hm2,hm3,_⟩:=hm 0 (by simp);have hbl0:b=0:=by simpa using hbl
      have hm0:m 0=0:=by omega
      have ha0:a=0:=by omega
      rcases hv0 with rfl|⟨_,a0,cap0,rfl,hcl0⟩
      ·have hr:=hrun none 0 (m 0) (by simp) hm3 hab hbl hm1 hm2;refine ⟨_,hr,?_⟩;simp only [Rep];refine ⟨hp',.inl ⟨by simp,trivial,.inl ?_⟩⟩;subst hbl0;simp [hm0]
      ·obtain ⟨g1,g2,g3,g4⟩:=hm cap0 (by simp);have hr:=hrun (some a0) cap0 (m cap0) (by simp) g3 hab hbl g1 g2;refine ⟨_,hr,?_⟩;simp only [Rep];subst hbl0;subst ha0;refine ⟨hp',.inl ⟨by simp,trivial,.inr ⟨hown,?_⟩⟩⟩;by_cases hz:m cap0=0
       ·exact ⟨a0,0,by simp [hz],λ_=>rfl⟩
       ·refine ⟨_,m cap0,by simp [hz];rfl,λhc'=>absurd (g4 hc' λhc=>by have:=hcl0 hc;simpa using this) hz⟩
     ·obtain ⟨hm1,hm2,hm3,hm4⟩:=hm cap hcap;have hr:=hrun (some ⟨b0,off,none⟩) cap (m cap) hcap hm3 hab hbl hm1 hm2;obtain ⟨rfl,rfl⟩:=ho' hown;obtain ⟨A,B,hAB,hA,_⟩:=qg3 b hE;obtain ⟨rfl,rfl⟩:=List.append_eq_nil_iff.1 hAB.symm;obtain ⟨C,D,hCD,_,hD⟩:=qg3 a hA;obtain ⟨rfl,rfl⟩:=List.append_eq_nil_iff.1 hCD.symm;have hvlen:((vals.take (b*s)).drop (a*s)).length=(b-a)*s:=by
       rw [List.length_drop,List.length_take,hvl,Nat.min_eq_left (Nat.mul_le_mul_right _ hbl),Nat.sub_mul]
      have hllen:((l.take b).drop a).length=b-a:=by simp<;>omega
      have has:a*s+(b-a)*s<=vals.length:=by rw [hvl,<- Nat.add_mul];exact Nat.mul_le_mul_right _ (by omega)
      obtain ⟨e,fz,hω,hle,hfl⟩:=hf;have hfl':∀off',off'+((vals.take (b*s)).drop (a*s)).length<=e->qiE w X fl b0 off' ((vals.take (b*s)).drop (a*s)).length (m cap-a) s:=by
       intro off' ho;refine ⟨e,fz,hω,ho,?_⟩;cases fl with
       |own=>exact absurd rfl hown
       |q5=>trivial
       |shared=>exact hfl
      have hx':∀x∈(l.take b).drop a,x.cells.length=s:=λx hx=>hxs x (List.mem_of_mem_take (List.mem_of_mem_drop hx));have hsame:l=[]\/s=P.cellsOf elem:=by
       cases l with
       |nil=>exact .inl rfl
       |cons y l=>exact .inr ((hxs y (by simp)).symm.trans (hall' y (by simp)))
      refine ⟨_,hr,?_⟩;simp only [Rep];refine ⟨hp',.inr ?_⟩;by_cases hma:m cap=a
      ·have hba:b=a:=by omega
       refine ⟨b0,off,m cap-a,s,_,[],by rw [if_pos hma,hllen],by rw [hllen];omega,λhc'=>by rw [hllen,hm4 hc' hclip],by rw [hvlen,hllen],hsp,hx',?_,hfl' off (by rw [hvlen,hba];simp;omega),hD,λhh=>absurd hh hown,λ_=>⟨trivial,rfl⟩⟩;intro i u hi;have:=(qm.1 hi).1;rw [hvlen,hba]at this;simp at this
      ·refine ⟨b0,off+a*P.cellsOf elem,m cap-a,s,_,[],by rw [if_neg hma,hllen];simp [Addr.add_lit],by rw [hllen];omega,λhc'=>by rw [hllen,hm4 hc' hclip],by rw [hvlen,hllen],hsp,hx',?_,?_,hD,λhh=>absurd hh hown,λ_=>⟨trivial,rfl⟩⟩
       ·intro i u hi;rw [List.getElem?_drop,List.getElem?_take]at hi;split at hi
        ·rcases hsame with rfl|hse
         ·simp at hvl;subst hvl;simp at hi
         ·rw [<- hse,Nat.add_assoc];exact hs _ u hi
        ·simp at hi
       ·apply hfl';rw [hvlen];rcases hsame with rfl|hse
        ·simp at hbl;subst hbl;simp at hab;subst hab;simp<;>omega
        ·rw [<- hse];omega
    split at hz
    ·rename_i hmx;split at hz
     ·rename_i hc;simp only [qb]at hz;subst hz;refine hres (λcap=>cap) _ (λcap hcap=>⟨by omega,Nat.le_refl _,.inl ⟨rfl,rfl⟩,λhc' hcl=>?_⟩) hc.1 hc.2;simp at hc';rw [hcl hc'.1,hc'.2]
     ·simp at hz
    ·rename_i m hmx;split at hz
     ·rename_i hc;obtain ⟨hmb,hhs,hab,hbl⟩:=hc;simp only [qb]at hz;subst hz;exact hres (λcap=>b) _ (λcap hcap=>⟨Nat.le_refl _,by omega,.inr ⟨rfl,by simpa [qfm]using hmb,hhs⟩,λ_ _=>rfl⟩) hab hbl
     ·simp at hz
   ·simp at hz
 ·rename_i elem hu;split at hz
  ·simp at hz
  ·rename_i hs0;split at hz
   ·rename_i ha hb hm;split at hz
    ·simp at hz
    ·rename_i hnn;simp only [qb]at hz;subst hz;simp only [Rep]at h;obtain ⟨rfl,rfl⟩:=h;refine ⟨.slice none 0 0,?_,by simp [Rep]⟩;have hbo:=qdC (P:=P) (w:=w) (isSlice:=true) (len:=0) (cap:=0) (a:=0) (b:=0) (m:=0) (lo:=vlo) (hi:=vhi) (mx:=vmx)
      (by rcases h1.nat ha with ⟨_,hv,_⟩|⟨k,_,hv⟩;exact .inl ⟨hv,rfl⟩;exact .inr ⟨k,by simpa using hv⟩)
      (by
       rcases h2.nat hb with ⟨hn,hv,_⟩|⟨k,_,hv⟩
       ·refine .inl ⟨hv,?_,rfl⟩;rcases h3 with ⟨_,hv⟩|⟨x',v',O',rfl,_⟩
        ·exact hv
        ·subst hn;simp at hnn
       ·exact .inr ⟨k,by simpa using hv⟩)
      (by rcases h3.nat hm with ⟨_,hv,_⟩|⟨k,_,hv⟩;exact .inl ⟨hv,rfl⟩;exact .inr ⟨k,by simpa using hv⟩) (by simp) (by simp) (by simp)
     simp [Instr.sliceAt,Instr.slice,run_underlying hu,hbo,qab hs0]
   ·simp at hz
 ·rename_i s hu;split at hz
  ·rename_i a b ha hb;split at hz
   ·rename_i hc;obtain ⟨hmn,hab,hbs⟩:=hc;simp only [qb]at hz;subst hz;simp only [Rep]at h;obtain ⟨rfl,rfl⟩:=h;refine ⟨.string (s.extract a b),?_,by simp [Rep]⟩;have hvm:vmx=none:=by
     rcases h3 with ⟨_,hv⟩|⟨x',v',O',rfl,_⟩
     ·exact hv
     ·simp at hmn
    subst hvm;have hbo:=qdC (P:=P) (w:=w) (isSlice:=false) (len:=s.size) (cap:=s.size) (a:=a) (b:=b) (m:=s.size) (lo:=vlo) (hi:=vhi) (mx:=none)
      (by rcases h1.nat ha with ⟨_,hv,ha⟩|⟨k,_,hv⟩;exact .inl ⟨hv,ha⟩;exact .inr ⟨k,hv⟩)
      (by rcases h2.nat hb with ⟨_,hv,hb⟩|⟨k,_,hv⟩;exact .inl ⟨hv,rfl,hb⟩;exact .inr ⟨k,hv⟩)
      (.inl ⟨rfl,rfl⟩) hab hbs (Nat.le_refl _)
    simp [Instr.sliceAt,Instr.slice,run_underlying hu,hbo]
   ·simp at hz
  ·simp at hz
 ·simp at hz
end
section
variable {P:Program} {H:Hints} {f:FuncId} {w:World} {X:Cx}
structure YOk (P:Program) (w:World) (s:Nat) (y:Value) (n:Nat) (news:List Value):Prop where
 len:∀w1,(Builtin.lenOf y).run P w1=.ok n w1
 cells:∀w1,Alike w w1->(Builtin.firstCells s n y).run P w1=.ok news.toArray w1
 size:news.length=n*s
theorem qoH{argTypes:Array TypeId}{ty t u e:TypeId}{i:TypeInfo}(h0:argTypes[0]?=some t)(h1:argTypes[1]?=some u)(ht:P.underlying t=some (.slice e))(hu:(∃q,P.underlying u=some (.slice q))\/P.underlying u=some .string)
  (hi:P.info? e=some i) {y:Value} {news:List Value} (hy:YOk P w i.size y 0 news) (base:Option Addr) (sLen sCap:Nat) (hb:base=none\/∃a,base=some a) (hcap:sLen<=sCap) :
  (Builtin.append_ argTypes ty #[.slice base sLen sCap,y]).run P w=.ok (.slice base sLen sCap) w:=by
 have hn:news=[]:=by have:=hy.size;apply List.eq_nil_of_length_eq_zero;simpa using this
 subst hn;have hc:=hy.cells w (Alike.refl w);rcases hb with rfl|⟨a,rfl⟩
 ·rcases hu with ⟨q,hd⟩|hd<;>simp [Builtin.append_,h0,h1,run_underlying ht,run_underlying hd,sizeOf,typeInfo,hi,hy.len,hcap,hc]
 ·rcases hu with ⟨q,hd⟩|hd<;>simp [Builtin.append_,h0,h1,run_underlying ht,run_underlying hd,sizeOf,typeInfo,hi,hy.len,hcap,hc,storeCells]
theorem qoG{argTypes:Array TypeId}{ty t u e:TypeId}{i:TypeInfo}(h0:argTypes[0]?=some t)(h1:argTypes[1]?=some u)(ht:P.underlying t=some (.slice e))(hu:(∃q,P.underlying u=some (.slice q))\/P.underlying u=some .string)
  (hi:P.info? e=some i) {y:Value} {n:Nat} {news:List Value} (hy:YOk P w i.size y n news) {b off sLen sCap:Nat} {cur:Array Value} {ty':TypeId} (hcur:w.heap[b]?=some (.cells cur ty' (0,0))) (hfit:off+sLen*i.size+news.length<=cur.size)
  (hones:∀v∈news,v.oneCell'=true) (hcap:sLen+n<=sCap) :
  (Builtin.append_ argTypes ty #[.slice (some ⟨b,off,none⟩) sLen sCap,y]).run P w =
   .ok (.slice (some ⟨b,off,none⟩) (sLen+n) sCap) (w.setRow b (cur.toList.take (off+sLen*i.size)++news++cur.toList.drop (off+sLen*i.size+news.length)).toArray):=by
 have hc:=hy.cells w (Alike.refl w);have hst:=run_storeCells_at (P:=P) b (off+sLen*i.size) ty' news 0 cur w hcur (by omega) hones;simp only [Nat.add_zero]at hst;rcases hu with ⟨q,hd⟩|hd<;>simp [Builtin.append_,h0,h1,run_underlying ht,run_underlying hd,sizeOf,typeInfo,hi,hy.len,hcap,hc,Addr.add_lit,hst]
theorem qk1{argTypes:Array TypeId}{ty t u e:TypeId}{i:TypeInfo}{z:Value}(h0:argTypes[0]?=some t)(h1:argTypes[1]?=some u)(ht:P.underlying t=some (.slice e))(hu:(∃q,P.underlying u=some (.slice q))\/P.underlying u=some .string)
  (hi:P.info? e=some i) (hz:i.zero=some z) {y:Value} {n:Nat} {news:List Value} (hy:YOk P w i.size y n news) (base:Option Addr) (sLen sCap:Nat) (olds:List Value)
  (holds:∀w1,Alike w w1->(Builtin.firstCells i.size sLen (.slice base sLen sCap)).run P w1=.ok olds.toArray w1)
  (hg:sCap<sLen+n) (h63:sLen+n<=70368744177664) (hfit:(sLen+n)*i.bytes<=70368744177664) :
  ∃w1 rest,Alike w w1/\(∃nc,sLen+n<=nc/\rest.length=(nc-(sLen+n))*z.cells.size/\(Builtin.append_ argTypes ty #[.slice base sLen sCap,y]).run P w =
   .ok (.slice (some ⟨w.heap.size,0,none⟩) (sLen+n) nc) (w1.alloc (.cells ((olds++news)++rest).toArray e))):=by
 have hn:¬ (sLen+n<=sCap):=by omega
 have h63':¬ (9223372036854775807<((sLen:Int)+(n:Int))):=by omega
 have h48':¬ (281474976710656<Builtin.nextslicecap (sLen+n) sCap*i.bytes):=by
  have:=growslice_fits (bytes:=i.bytes) hg (by omega);omega
 refine ⟨w.drew,(Builtin.zeroCells z.cells (grownCap w (sLen+n) sCap e-(sLen+n))).toList,Alike.drew w,grownCap w (sLen+n) sCap e,grownCap_ge w _ _ _,by simp [size_zeroCells],?_⟩;have hf:=hy.cells w.drew (Alike.drew w);have hfo:=holds w.drew (Alike.drew w);rcases hu with ⟨q,hd⟩|hd
 all_goals
  simp [Builtin.append_,h0,h1,run_underlying ht,run_underlying hd,sizeOf,typeInfo,zeroValue,hi,hz,hy.len,hn,h63',h48',Question.forced,hf,hfo,newRow,grownCap];congr 2
  apply Array.ext';simp
theorem Eff.mono{w':World}{X':Cx}{A B:List Nat}(h:Eff w X w' X' A)(hd:Dom w X)(hs:∀b∈A,b∈B):Eff w X w' X' B where
 size:=h.size
 kept:=λb hb hn=>h.kept b hb (λha=>hn (hs b ha))
 ωk:=λb hb hn=>h.ωk b hb (λha=>hn (hs b ha))
 own:=λb _ e fz hω=>by
  by_cases ha:b∈A
  ·exact h.own b ha e fz hω
  ·have hb:=hd b e fz hω;exact ⟨e,fz,by rw [h.ωk b hb ha];exact hω,Nat.le_refl _,id,λi v _ hc=>by rw [qC (h.kept b hb ha)];exact hc,λc t hc=>⟨c,by rw [h.kept b hb ha];exact hc,rfl⟩⟩
 β:=h.β
 dom:=h.dom
 os:=h.os
 out:=h.out
 tape:=h.tape
def Cx.grow(X:Cx)(b e:Nat):Cx:={X with ω:=λk=>if k=b then some (e,false)else X.ω k}
theorem qsg(hd:Dom w X){b e m:Nat}{cur:Array Value}{ty:TypeId}{news:List Value}(hω:X.ω b=some (e,false))(hcur:w.heap[b]?=some (.cells cur ty (0,0)))(hfit:e+news.length<=cur.size) :
  Eff w X (w.setRow b (cur.toList.take e++news++cur.toList.drop (e+news.length)).toArray) (X.grow b (e+news.length)) [b] where
 size:=by simp
 kept:=λk _ hk=>setRow_other w b k _ (by simpa using hk)
 ωk:=λk _ hk=>by simp only [Cx.grow];rw [if_neg (by simpa using hk)]
 own:=λk hk e' fz hω'=>by
  have:k=b:=by simpa using hk
  subst this;rw [hω]at hω';obtain ⟨rfl,rfl⟩:e=e'/\false=fz:=by simpa using hω'
  refine ⟨e+news.length,false,by simp [Cx.grow],by omega,id,λi v hi hc=>?_,λc t hc=>⟨(cur.toList.take e++news++cur.toList.drop (e+news.length)).toArray,?_,?_⟩⟩
  ·rw [cell_setRow_same w k i cur _ ty _ hcur];simp only [World.cell?,hcur]at hc;simp at hc;simp only [List.getElem?_toArray];rw [List.append_assoc,qg (by simp;omega),List.getElem?_take,if_pos hi];simpa using hc
  ·rw [hcur]at hc;simp at hc;rw [setRow_heap w k cur _ ty _ hcur,hc.2]
  ·rw [hcur]at hc;simp at hc;obtain ⟨rfl,rfl⟩:=hc;simp<;>omega
 β:=rfl
 dom:=λk e' fz hω'=>by
  simp only [Cx.grow]at hω';split at hω'
  ·rename_i hk;subst hk;simp;exact hd _ _ _ hω
  ·simp;exact hd _ _ _ hω'
 os:=rfl
 out:=rfl
 tape:=rfl
theorem qtZ{s s':Nat}{vals:List Value}{O:List Nat}(h:RepE w X s [] vals O):RepE w X s' [] vals O:=by simp only [RepE]at h ⊢;exact h
def qtl(yt:TypeDesc)(y:V):Option (List V) :=
 match yt,y with
 |.slice _,.sl _ _ l=>some l
 |.slice _,.val (.slice none 0 0)=>some []
 |.string,.val (.string b)=>some (b.data.toList.map λc=>.val (.int .u8 c.toNat))
 |_,_=>none
theorem qoc:∀(l:List UInt8),RepE w X 1 (l.map λc=>V.val (.int .u8 c.toNat)) (l.map λc=>Value.int .u8 c.toNat) []
 |[]=>by simp [RepE]
 |c::l=>by
  simp only [List.map,RepE];exact ⟨.int .u8 c.toNat,_,[],[],rfl,rfl,rfl,by simp [Rep],qoc l⟩
theorem qzP{yt:TypeDesc}{y:V}{l2:List V}{vy:Value}{O2:List Nat}{s:Nat}(hs:s≠0)(hy:qtl yt y=some l2)(hl:∀e∈l2,e.cells.length=s)(h:Rep w X y vy O2) :
  ∃news O',YOk P w s vy l2.length news/\RepE w X s l2 news O'/\(∀b,O'.count b<=O2.count b):=by
 unfold qtl at hy;split at hy
 ·rename_i q fl c l;simp only [qb]at hy;subst hy;simp only [Rep]at h;obtain ⟨hp,h⟩:=h;rcases h with ⟨rfl,rfl,rfl|⟨_,a,cap0,rfl,_⟩⟩|⟨b,off,cap,s',vals,O',rfl,hcap,_,hvl,hs0,hxs,hsg,hf,hE,ho,ho'⟩
  rotate_left
  ·exact ⟨[],[],⟨λw1=>by simp [Builtin.lenOf],λw1 _=>by simpa using run_firstCells_some (P:=P) w1 s 0 a 0 cap0 [] (by simp) (λj v hj=>by simp at hj),by simp⟩,by simp [RepE],λb=>by simp⟩
  rotate_left
  ·exact ⟨[],[],⟨λw1=>by simp [Builtin.lenOf],λw1 _=>by simpa using run_firstCells_none (P:=P) (w:=w1) s 0 0 0,by simp⟩,by simp [RepE],λb=>by simp⟩
  ·have hss:l=[]\/s'=s:=by
    cases l with
    |nil=>exact .inl rfl
    |cons z l=>exact .inr ((hxs z (by simp)).symm.trans (hl z (by simp)))
   have hvs:vals.length=l.length*s:=by
    rcases hss with rfl|rfl
    ·simpa using hvl
    ·exact hvl
   have hE':RepE w X s l vals O':=by
    rcases hss with rfl|rfl
    ·exact qtZ hE
    ·exact hE
   refine ⟨vals,O',⟨λw1=>by simp [Builtin.lenOf],λw1 ha=>?_,hvs⟩,hE',λb'=>?_⟩
   ·exact run_firstCells_some (P:=P) w1 s l.length ⟨b,off,none⟩ _ _ vals hvs (λj v hj=>by rw [Addr.add_lit,ha.cell];exact hsg j v hj)
   ·by_cases hown:fl=.own
    ·rw [ho hown,List.count_cons];omega
    ·rw [(ho' hown).2];simp
 ·simp only [qb]at hy;subst hy;simp only [Rep]at h;obtain ⟨rfl,rfl⟩:=h;exact ⟨[],[],⟨λw1=>by simp [Builtin.lenOf],λw1 _=>by simpa using run_firstCells_none (P:=P) (w:=w1) s 0 0 0,by simp⟩,by simp [RepE],λb=>by simp⟩
 ·rename_i b;simp only [qb]at hy;subst hy;simp only [Rep]at h;obtain ⟨rfl,rfl⟩:=h;have hlen:b.data.toList.length=b.size:=by rw [Array.length_toList];rfl
  have hss:b.data.toList=[]\/s=1:=by
   cases hb:b.data.toList with
   |nil=>exact .inl rfl
   |cons z l=>exact .inr ((hl (.val (.int .u8 z.toNat)) (by rw [hb];simp)).symm.trans rfl)
  refine ⟨b.data.toList.map λc=>.int .u8 c.toNat,[],⟨λw1=>by simp only [Builtin.lenOf,List.length_map];rw [Array.length_toList];rfl,λw1 _=>?_,?_⟩,?_,λb=>by simp⟩
  ·simp only [Builtin.firstCells,Sem.run_pure,List.length_map];rw [Array.length_toList];have hx:(b.extract 0 b.data.size).data=b.data:=by
    have:b.data.size=b.size:=rfl;rw [this];simp
   rw [hx];congr 1
   apply Array.ext';simp
  ·rcases hss with hb|rfl
   ·simp [hb]
   ·simp
  ·rcases hss with hb|rfl
   ·simp [hb,RepE]
   ·exact qoc _
 ·simp at hy
theorem qne(argTypes:Array TypeId)(x y:V):qcU P argTypes x y=match (argTypes[0]?).bind P.underlying,(argTypes[1]?).bind P.underlying with
 |some (.slice elem),some yt =>
  match qtl yt y with
  |none=>none
  |some l2 =>
   let s:=P.cellsOf elem
   if s=0\/((P.info? elem).bind (·.zero)).map (λz=>z.cells.size)≠some s\/l2.all (λe=>decide (e.cells.length=s)&&e.oks)=false\/(ptrsL l2).isEmpty=false then none else
   match x with
   |.val (.slice none 0 0)=>if l2.isEmpty then some x else if (l2.length+512)*P.bytesOf elem<=70368744177664/\l2.length<=70368744177664 then some (.sl .own false l2)else none
   |.sl fl c l =>
    if l.all (λe=>decide (e.cells.length=s))=true/\(l.length+l2.length+512)*P.bytesOf elem<=70368744177664/\l.length+l2.length<=70368744177664 then
     (if fl=.own then some (.sl .own false (l++l2))
     else if c then (if l2.isEmpty then some x else some (.sl .own false (l++l2)))
     else none)
    else none
   |_=>none
 |_,_=>none:=rfl
theorem qoF{s:Nat}{l l2:List V}{vals news rest:List Value}{w1:World}{nc:Nat}{A B O:List Nat}{e:TypeId}(hd:Dom w X)(ha:Alike w w1)(hs:0<s)(hp:ptrsL l=[])(hp2:ptrsL l2=[])(hx:∀x∈l,x.cells.length=s)(hx2:∀x∈l2,x.cells.length=s)
  (hE:RepE w X s l vals A) (hE2:RepE w X s l2 news B) (hlin:Lin O) (hc:∀b,(A++B).count b<=O.count b) (hO:∀b∈O,b<w.heap.size) (hnc:l.length+l2.length<=nc) (hr:rest.length=(nc-(l.length+l2.length))*s) (hne:l2≠[]) {sm:Sem Value}
  (hrun:sm.run P w=.ok (.slice (some ⟨w.heap.size,0,none⟩) (l.length+l2.length) nc) (w1.alloc (.cells ((vals++news)++rest).toArray e))) :
  qr0 P (do pure (Next.value (<- sm))) w X (.sl .own false (l++l2)) O:=by
 have hE3:=qeR hE hE2;have hlen:=qip hE3;have hrep:=qsS (rest:=rest) (cap:=nc) ha hd e (by rw [q9,hp,hp2];rfl) hs hlen (λx h=>by rcases qj.1 h with h|h;exact hx x h;exact hx2 x h) (by rw [List.length_append];exact hnc)
  (by rw [List.length_append,hlen,hr,List.length_append,<- Nat.add_mul];exact Nat.mul_le_mul_right _ (by omega)) (λh0=>by rw [List.length_append]at h0;cases l2 with|nil=>exact absurd rfl hne|cons _ _=>simp at h0) hE3 (λb hb=>hO b (qb8 hc b hb))
 rw [show (l++l2).length=l.length+l2.length from List.length_append]at hrep;refine ⟨_,_,_,w.heap.size::(A++B),qpK hrun,qgG ha hd _ _ O,hrep,λb=>?_,λb hb=>?_⟩
 ·rw [List.count_cons];have h1:=hc b;have h2:=hlin b;split
  ·rename_i hb;have hb:w.heap.size=b:=by simpa using hb
   have:(A++B).count b=0:=List.count_eq_zero.2 λhm=>by have:=hO b (qb8 hc b hm);omega
   omega
  ·omega
 ·rcases qk.1 hb with rfl|hb
  ·exact .inr (Nat.le_refl _)
  ·exact .inl (qb8 hc b hb)
theorem qw3{argTypes:Array TypeId}{ty:TypeId}{x y z:V}{vx vy:Value}{O1 O2:List Nat}(hd:Dom w X)(hlin:Lin (O1++O2))(hz:qcU P argTypes x y=some z)(h1:Rep w X x vx O1)(h2:Rep w X y vy O2) :
  qr0 P (do pure (Next.value (<- Builtin.append_ argTypes ty #[vx,vy]))) w X z (O1++O2):=by
 rw [qne]at hz;split at hz
 ·rename_i elem yt ht hu;obtain ⟨t,h0,ht⟩:=qd.1 ht;obtain ⟨u,h1',hu⟩:=qd.1 hu;split at hz
  ·simp at hz
  ·rename_i l2 hsrc;simp only at hz;split at hz
   ·simp at hz
   ·rename_i hcnd;simp only [not_or,Bool.not_eq_false,Decidable.not_not,ne_eq]at hcnd;obtain ⟨hs0,hzero,hall,hptr⟩:=hcnd;obtain ⟨i,hi,hisz⟩:=qec hs0;have hptr':ptrsL l2=[]:=by simpa using hptr
    have hall2:∀e∈l2,e.cells.length=P.cellsOf elem/\e.oks=true:=by simpa [List.all_eq_true]using hall
    obtain ⟨zv,hzv,hzsz⟩:∃zv,i.zero=some zv/\zv.cells.size=P.cellsOf elem:=by
     rw [hi]at hzero;cases hh:i.zero with
     |none=>simp [hh]at hzero
     |some zv=>simp [hh]at hzero;exact ⟨zv,rfl,hzero⟩
    have hbytes:i.bytes=P.bytesOf elem:=by simp [Program.bytesOf,hi]
    obtain ⟨news,B,hy,hE2,hcB⟩:=qzP (P:=P) hs0 hsrc (λe he=>(hall2 e he).1) h2;have hu':(∃q,P.underlying u=some (.slice q))\/P.underlying u=some .string:=by
     unfold qtl at hsrc;split at hsrc
     ·exact .inl ⟨_,hu⟩
     ·exact .inl ⟨_,hu⟩
     ·exact .inr hu
     ·simp at hsrc
    rw [<- hisz]at hy;have hO:∀b∈O1++O2,b<w.heap.size:=λb hb=>by
     rcases qj.1 hb with hb|hb
     ·exact rep_dom hd x vx O1 h1 b hb
     ·exact rep_dom hd y vy O2 h2 b hb
    have hs0':0<P.cellsOf elem:=Nat.pos_of_ne_zero hs0;have hnil:∀c,vx=.slice none 0 0->O1=[]->((l2=[]/\(z=x\/z=.sl .own c []))\/(l2≠[]/\z=.sl .own false l2/\l2.length<=70368744177664/\l2.length*P.bytesOf elem<=70368744177664)) ->
      qr0 P (do pure (Next.value (<- Builtin.append_ argTypes ty #[vx,vy]))) w X z (O1++O2):=by
     rintro c rfl rfl hcase;rcases hcase with ⟨rfl,hzx⟩|⟨hne,rfl,hlen,hb⟩
     ·have hr:=qoH (ty:=ty) h0 h1' ht hu' hi hy none 0 0 (.inl rfl) (Nat.le_refl _);refine qw0 (O':=[]) hd hr ?_ Lin.nil (by simp);rcases hzx with rfl|rfl
      ·exact h1
      ·simp [Rep,ptrsL]
     ·have hg:0<0+l2.length:=by have:=List.length_pos_iff.2 hne;omega
      obtain ⟨w1,rest,ha,nc,hnc,hrest,hr⟩:=qk1 (ty:=ty) h0 h1' ht hu' hi hzv hy none 0 0 [] (λw1 _=>by simpa using run_firstCells_none (P:=P) (w:=w1) i.size 0 0 0) hg (by omega) (by rw [hbytes];simpa using hb);rw [hzsz]at hrest;have:=qoF (l:=[]) (vals:=[]) (A:=[]) hd ha hs0' rfl hptr' (by simp) (λx hx=>(hall2 x hx).1) (by simp [RepE]) hE2 hlin (λb=>by have:=hcB b;simpa using this) hO (by simpa using hnc) (by simpa using hrest) hne (by simpa using hr);simpa using this
    split at hz
    ·simp only [Rep]at h1;obtain ⟨rfl,rfl⟩:=h1;split at hz
     ·rename_i he;simp only [qb]at hz;subst hz;exact hnil false rfl rfl (.inl ⟨by simpa using he,.inl rfl⟩)
     ·rename_i he;split at hz
      ·rename_i hb;simp only [qb]at hz;subst hz;refine hnil false rfl rfl (.inr ⟨by simpa using he,rfl,hb.2,?_⟩);exact Nat.le_trans (Nat.mul_le_mul_right _ (by omega)) hb.1
      ·simp at hz
    ·rename_i fl c l;split at hz
     ·rename_i hb;obtain ⟨hall1,hb1,hb2⟩:=hb;have hall1':∀e∈l,e.cells.length=P.cellsOf elem:=by simpa [List.all_eq_true]using hall1
      have hb1':(l.length+l2.length)*i.bytes<=70368744177664:=by
       rw [hbytes];exact Nat.le_trans (Nat.mul_le_mul_right _ (by omega)) hb1
      have h1s:=h1;simp only [Rep]at h1;obtain ⟨hp,h1⟩:=h1;rcases h1 with ⟨rfl,rfl,rfl|⟨hfl,a0,cap0,rfl,hcl0⟩⟩|⟨b0,off,cap,s,vals,A,rfl,hcap,hclip,hvl,hsp,hxs,hsg,hf,hE,ho,ho'⟩
      rotate_left
      ·-- empty,wherever it lies
       rw [if_neg hfl]at hz;split at hz
       ·rename_i hcT;have hc0:=hcl0 hcT;subst hc0;split at hz
        ·rename_i he;simp only [qb]at hz;subst hz;have he':l2=[]:=by simpa using he
         subst he';have hr:=qoH (ty:=ty) h0 h1' ht hu' hi hy (some a0) 0 0 (.inr ⟨a0,rfl⟩) (Nat.le_refl _);exact qw0 (O':=[]) hd hr h1s Lin.nil (by simp)
        ·rename_i he;simp only [qb]at hz;subst hz;have hne:l2≠[]:=by simpa using he
         have hg:0<0+l2.length:=by have:=List.length_pos_iff.2 hne;omega
         obtain ⟨w1,rest,ha,nc,hnc,hrest,hr⟩:=qk1 (ty:=ty) h0 h1' ht hu' hi hzv hy (some a0) 0 0 [] (λw1 _=>by simpa using run_firstCells_some (P:=P) w1 i.size 0 a0 0 0 [] (by simp) (λj v hj=>by simp at hj)) hg (by simpa using hb2) (by simpa using hb1');rw [hzsz]at hrest;have:=qoF (l:=[]) (vals:=[]) (A:=[]) hd ha hs0' rfl hptr' (by simp) (λx hx=>(hall2 x hx).1) (by simp [RepE]) hE2 hlin (λb=>by have:=hcB b;simpa using this) hO (by simpa using hnc) (by simpa using hrest) hne (by simpa using hr);simpa using this
       ·simp at hz
      rotate_left
      ·-- nil
       refine hnil false rfl rfl ?_;by_cases hne:l2=[]
       ·refine .inl ⟨hne,?_⟩;subst hne;split at hz
        ·simp only [qb]at hz;exact .inr (by rw [<- hz];rfl)
        ·split at hz
         ·simp at hz;exact .inl hz.symm
         ·simp at hz
       ·refine .inr ⟨hne,?_,by simpa using hb2,by rw [<- hbytes];simpa using hb1'⟩;split at hz
        ·simp only [qb]at hz;rw [<- hz]<;>rfl
        ·split at hz
         ·rw [if_neg (by simpa using hne)]at hz;simp only [qb]at hz;rw [<- hz]<;>rfl
         ·simp at hz
      ·have hss:l=[]\/s=P.cellsOf elem:=by
        cases l with
        |nil=>exact .inl rfl
        |cons q l=>exact .inr ((hxs q (by simp)).symm.trans (hall1' q (by simp)))
       have hvs:vals.length=l.length*P.cellsOf elem:=by
        rcases hss with rfl|rfl
        ·simpa using hvl
        ·exact hvl
       have hE':RepE w X (P.cellsOf elem) l vals A:=by
        rcases hss with rfl|rfl
        ·exact qtZ hE
        ·exact hE
       have holds:∀w1,Alike w w1->(Builtin.firstCells i.size l.length (.slice (some ⟨b0,off,none⟩) l.length cap)).run P w1=.ok vals.toArray w1:=λw1 ha =>
        run_firstCells_some (P:=P) w1 i.size l.length ⟨b0,off,none⟩ _ _ vals (by rw [hisz];exact hvs) (λj v hj=>by rw [Addr.add_lit,ha.cell];exact hsg j v hj)
       have hcA:∀b,A.count b<=O1.count b:=λb=>by
        by_cases hown:fl=.own
        ·rw [ho hown,List.count_cons];omega
        ·rw [(ho' hown).2];simp
       have hgrow:cap<l.length+l2.length->z=.sl .own false (l++l2)->qr0 P (do pure (Next.value (<- Builtin.append_ argTypes ty #[.slice (some ⟨b0,off,none⟩) l.length cap,vy]))) w X z (O1++O2):=by
        rintro hg rfl;obtain ⟨w1,rest,ha,nc,hnc,hrest,hr⟩:=qk1 (ty:=ty) h0 h1' ht hu' hi hzv hy (some ⟨b0,off,none⟩) l.length cap vals holds hg hb2 hb1';rw [hzsz]at hrest;exact qoF hd ha hs0' hp hptr' hall1' (λx hx=>(hall2 x hx).1) hE' hE2 hlin (λb=>by have:=hcA b;have:=hcB b;simp only [qcy];omega) hO hnc hrest (by rintro rfl;simp at hg;omega) hr
       have hstay:l2=[]->(z=.sl fl c l\/z=.sl fl false l)->qr0 P (do pure (Next.value (<- Builtin.append_ argTypes ty #[.slice (some ⟨b0,off,none⟩) l.length cap,vy]))) w X z (O1++O2):=by
        rintro rfl hzz;have hr:=qoH (ty:=ty) h0 h1' ht hu' hi hy (some ⟨b0,off,none⟩) l.length cap (.inr ⟨_,rfl⟩) hcap;refine qw0 (O':=O1) hd hr ?_ hlin.left (λb hb=>by simp [hb]);rcases hzz with rfl|rfl
        ·exact h1s
        ·simp only [Rep];exact ⟨hp,.inr ⟨b0,off,cap,s,vals,A,rfl,hcap,by simp,hvl,hsp,hxs,hsg,hf,hE,ho,ho'⟩⟩
       split at hz
       ·rename_i hown;subst hown;simp only [qb]at hz;by_cases hne:l2=[]
        ·exact hstay hne (.inr (by rw [<- hz,hne,List.append_nil]))
        ·by_cases hg:cap<l.length+l2.length
         ·exact hgrow hg hz.symm
         ·-- in place
          subst hz;obtain ⟨e,fz,hω,hle,rfl,hend,⟨cur,ty',hcur,hroom⟩,hcap0⟩:=hf;have hl0:l≠[]:=by
           rintro rfl;simp at hvl;subst hvl;have:=hcap0 rfl;have:=List.length_pos_iff.2 hne;simp at hg;omega
          have hse:s=P.cellsOf elem:=hss.resolve_left hl0;subst hse;have hnl:news.length=l2.length*P.cellsOf elem:=by rw [<- hisz];exact hy.size
          have hfit:off+l.length*i.size+news.length<=cur.size:=by
           rw [hisz,hnl];have:l.length*P.cellsOf elem+l2.length*P.cellsOf elem<=cap*P.cellsOf elem:=by rw [<- Nat.add_mul];exact Nat.mul_le_mul_right _ (by omega)
           omega
          have hr:=qoG (ty:=ty) (sCap:=cap) h0 h1' ht hu' hi hy hcur hfit (qji (λx hx=>(hall2 x hx).2) hE2) (by omega);have hoff:off+l.length*i.size=e:=by rw [hisz,hend,hvs]
          rw [hoff]at hr hfit;have heff:=qsg hd (m:=0) (news:=news) hω hcur hfit;have hO1:=ho rfl;have hlinA:Lin (b0::(A++B)):=λb=>by
           have h1:=hlin b;have h2:=hcB b;rw [hO1]at h1;simp only [qcy,List.count_cons,List.cons_append]at h1 ⊢;omega
          have hnotin:∀b∈A++B,b∉[b0]:=λb hb hbb=>by
           have:b=b0:=by simpa using hbb
           subst this;have:=hlinA b;simp only [List.count_cons,BEq.rfl,if_true]at this;have:=List.count_pos_iff.2 hb;omega
          have hin:∀b∈[b0],b∈O1++O2:=λb hb=>by
           have hbb:b=b0:=by simpa using hb
           rw [hbb,hO1];simp
          refine ⟨_,_,_,b0::(A++B),qpK hr,heff.mono hd hin,?_,hlinA,λb hb=>.inl ?_⟩
          ·have hE3:=qpD heff hd (by rw [q9,hp,hptr'];rfl) hnotin (qeR hE' hE2);simp only [Rep];refine ⟨by rw [q9,hp,hptr'];rfl,.inr ⟨b0,off,cap,P.cellsOf elem,vals++news,A++B,by simp,by simp;omega,by simp,qip hE3,hsp,λx h=>by rcases qj.1 h with h|h;exact hall1' x h;exact (hall2 x h).1,?_,?_,hE3,λ_=>rfl,λhh=>absurd rfl hh⟩⟩
           ·intro j v hj;rw [cell_setRow_same w b0 _ cur _ ty' _ hcur];simp only [List.getElem?_toArray];rw [List.append_assoc];by_cases hlt:j<vals.length
            ·rw [qg hlt]at hj;rw [qg (by simp;omega),List.getElem?_take,if_pos (by omega)];have:=hsg j v hj;simp only [World.cell?,hcur]at this;simpa using this
            ·rw [List.getElem?_append_right (by omega)]at hj;have hjl:=(qm.1 hj).1;have htl:(cur.toList.take e).length=e:=by simp<;>omega
             rw [List.getElem?_append_right (by omega),htl,qg (by omega),show off+j-e=j-vals.length by omega];exact hj
           ·refine ⟨e+news.length,false,by simp [Cx.grow],by simp;omega,rfl,by simp;omega,⟨_,ty',setRow_heap w b0 cur _ ty' _ hcur,by simp;omega⟩,λh0=>?_⟩;exfalso
            have:=List.length_pos_iff.2 hl0;have:0<l.length*P.cellsOf elem:=Nat.mul_pos this hs0';rw [List.length_append,hvs]at h0;omega
          ·rcases qk.1 hb with rfl|hb
           ·rw [hO1];simp
           ·rcases qj.1 hb with hb|hb
            ·rw [hO1];simp [hb]
            ·exact qj.2 (.inr (qb8 hcB b hb))
       ·rename_i hown;split at hz
        ·rename_i hc;split at hz
         ·rename_i he;simp only [qb]at hz;exact hstay (by simpa using he) (.inl hz.symm)
         ·rename_i he;simp only [qb]at hz;have:=List.length_pos_iff.2 (show l2≠[] by simpa using he);exact hgrow (by rw [hclip hc];omega) hz.symm
        ·simp at hz
     ·simp at hz
    ·simp at hz
 ·simp at hz
theorem qvU{argTypes:Array TypeId}{ty t u e:TypeId}{i:TypeInfo}{z:Value}{ik:IntKind}(h0:argTypes[0]?=some t)(h1:argTypes[1]?=some u)(ht:P.underlying t=some (.slice e))(hu:P.underlying u=some (.int ik))
  (hi:P.info? e=some i) (hz:i.zero=some z) (hzs:z.cells.size=i.size) (hs:i.size≠0) {n:Nat} (hn:0<n) (h63:n<=70368744177664) (hfit:n*i.bytes<=70368744177664) :
  ∃w1 cells nc,Alike w w1/\n<=nc/\cells.size=nc*i.size/\(Builtin.append_ argTypes ty #[.slice none 0 0,.int .i64 (n:Int)]).run P w =
   .ok (.slice (some ⟨w.heap.size,0,none⟩) n nc) (w1.alloc (.cells cells e)):=by
 have hwr:IntKind.i64.wrap (n:Int)=n:=by rw [IntKind.wrap_i64];omega
 have hge:=grownCap_ge w n 0 e;have h48:¬ (281474976710656<(n:Int)*(i.bytes:Int)):=by
  have:((n*i.bytes:Nat):Int)<=70368744177664:=by omega
  rw [Int.natCast_mul]at this;omega
 have h48':¬ (281474976710656<Builtin.nextslicecap n 0*i.bytes):=by
  have:=growslice_fits (need:=n) (old:=0) (bytes:=i.bytes) (by omega) (by omega);omega
 have hns:¬ (n*i.size=0):=by
  intro h;rcases Nat.mul_eq_zero.1 h with h|h
  ·omega
  ·exact hs h
 refine ⟨w.drew,#[]++Builtin.zeroCells z.cells n++Builtin.zeroCells z.cells (grownCap w n 0 e-n),grownCap w n 0 e,Alike.drew w,hge,?_,?_⟩
 ·simp only [Array.size_append,size_zeroCells,hzs,Array.size_empty,Nat.zero_add,<- Nat.add_mul];rw [Nat.add_sub_cancel' hge]
 ·have hneg:¬ ((n:Int)<0):=by omega
  have hne:¬ (n=0):=by omega
  have h64:¬ (9223372036854775807<(n:Int)):=by omega
  have h0':¬ (n<=0):=by omega
  simp [Builtin.append_,h0,h1,run_underlying ht,run_underlying hu,sizeOf,typeInfo,zeroValue,hi,hz,hwr,hneg,hne,h48,h48',h64,hns,Question.forced,newRow,grownCap,asInt,asIntOf,Builtin.firstCells]
theorem qu1{argTypes:Array TypeId}{ty:TypeId}{x y z:V}{vx vy:Value}{O1 O2:List Nat}(hd:Dom w X)(hz:qel P argTypes x y=some z)(h1:Rep w X x vx O1)(h2:Rep w X y vy O2) :
  qr0 P (do pure (Next.value (<- Builtin.append_ argTypes ty #[vx,vy]))) w X z (O1++O2):=by
 unfold qel at hz;split at hz
 ·rename_i elem ik n ht hu;split at hz
  ·rename_i hc;obtain ⟨hn,h63,hs0,hzero,hb⟩:=hc;simp only [qb]at hz;subst hz;obtain ⟨t,h0,ht⟩:=qd.1 ht;obtain ⟨u,h1',hu⟩:=qd.1 hu;simp only [Rep]at h1 h2;obtain ⟨rfl,rfl⟩:=h1;obtain ⟨rfl,rfl⟩:=h2;obtain ⟨i,hi,hisz⟩:=qec hs0;obtain ⟨zv,hzv,hzsz⟩:∃zv,i.zero=some zv/\zv.cells.size=P.cellsOf elem:=by
    rw [hi]at hzero;cases hh:i.zero with
    |none=>simp [hh]at hzero
    |some zv=>simp [hh]at hzero;exact ⟨zv,rfl,hzero⟩
   have hbytes:i.bytes=P.bytesOf elem:=by simp [Program.bytesOf,hi]
   obtain ⟨m,rfl⟩:∃m:Nat,n=m:=⟨n.toNat,by omega⟩
   simp only [Int.toNat_natCast]at hb ⊢;obtain ⟨w1,cells,nc,ha,hnc,hcs,hrun⟩:=qvU (ty:=ty) h0 h1' ht hu hi hzv (by rw [hzsz,hisz]) (by rw [hisz];exact hs0) (n:=m) (by omega) (by omega) (by rw [hbytes];exact hb);refine ⟨_,_,X.new w.heap.size 0,[w.heap.size],qpK hrun,qgG ha hd _ 0 _,?_,λb=>?_,λb hb=>?_⟩
   ·simp only [Rep];refine ⟨w.heap.size,nc,rfl,hnc,Nat.pos_of_ne_zero hs0,rfl,by simp [Cx.new],cells,elem,by rw [<- ha.heap];exact heap_alloc_new _ _,?_⟩;rw [hcs,hisz];omega
   ·simp only [List.count_cons,List.count_nil];split<;>omega
   ·rw [show b=w.heap.size by simpa using hb];exact .inr (Nat.le_refl _)
  ·cases hz
 ·cases hz
theorem qu2{argTypes:Array TypeId}{ty:TypeId}{x y z:V}{vx vy:Value}{O1 O2:List Nat}(hd:Dom w X)(hlin:Lin (O1++O2))(hz:qgr P argTypes x y=some z)(h1:Rep w X x vx O1)(h2:Rep w X y vy O2) :
  qr0 P (do pure (Next.value (<- Builtin.append_ argTypes ty #[vx,vy]))) w X z (O1++O2):=by
 unfold qgr at hz;split at hz
 ·rename_i elem e2 s fl cl l2 ht hu;split at hz
  ·rename_i hc;obtain ⟨rfl,hzero,hall,hptr,hb,h63⟩:=hc;obtain ⟨t,h0,ht⟩:=qd.1 ht;obtain ⟨u,h1',hu⟩:=qd.1 hu;have h1s:=h1;simp only [Rep]at h1;obtain ⟨b0,cap,rfl,_,hs0',rfl,hω,cur,ty',hcur,hroom⟩:=h1;have hs0:P.cellsOf elem≠0:=by omega
   obtain ⟨i,hi,hisz⟩:=qec hs0;obtain ⟨zv,hzv,hzsz⟩:∃zv,i.zero=some zv/\zv.cells.size=P.cellsOf elem:=by
    rw [hi]at hzero;cases hh:i.zero with
    |none=>simp [hh]at hzero
    |some zv=>simp [hh]at hzero;exact ⟨zv,rfl,hzero⟩
   have hbytes:i.bytes=P.bytesOf elem:=by simp [Program.bytesOf,hi]
   have hptr':ptrsL l2=[]:=by simpa using hptr
   have hall2:∀e∈l2,e.cells.length=P.cellsOf elem/\e.oks=true:=by simpa [List.all_eq_true]using hall
   obtain ⟨news,B,hy,hE2,hcB⟩:=qzP (P:=P) (yt:=.slice e2) hs0 (y:=.sl fl cl l2) rfl (λe he=>(hall2 e he).1) h2;have hu':(∃q,P.underlying u=some (.slice q))\/P.underlying u=some .string:=.inl ⟨_,hu⟩;rw [<- hisz]at hy;have hO:∀b∈[b0]++O2,b<w.heap.size:=λb hb=>by
    rcases qj.1 hb with hb|hb
    ·exact rep_dom hd _ _ _ h1s b hb
    ·exact rep_dom hd _ vy O2 h2 b hb
   by_cases hne:l2=[]
   ·subst hne;have hz2:V.room (P.cellsOf elem) 0=z:=by simpa using hz
    subst hz2;have hnl:news.length=0:=by have:=hy.size;simpa using this
    have hfit:0+0*i.size+news.length<=cur.size:=by omega
    have hr:=qoG (ty:=ty) (sCap:=cap) h0 h1' ht hu' hi hy hcur hfit (qji (λx hx=>(hall2 x hx).2) hE2) (by simp);have hoff:0+0*i.size=0:=by omega
    rw [hoff]at hr hfit;have heff:=qsg hd (m:=0) (news:=news) hω hcur hfit;refine ⟨_,_,_,[b0],qpK hr,heff.mono hd (λb hb=>by simp at hb;simp [hb]),?_,λb=>?_,λb hb=>.inl ?_⟩
    ·simp only [Rep];refine ⟨b0,cap,by simp,by omega,hs0',rfl,by simp [Cx.grow,hnl],_,ty',setRow_heap w b0 cur _ ty' _ hcur,by simp;omega⟩
    ·simp only [List.count_cons,List.count_nil];split<;>omega
    ·exact qj.2 (.inl hb)
   have hne':l2≠[]:=hne;rw [if_neg (by simpa using hne)]at hz;simp only [qb]at hz;subst hz;by_cases hg:cap<0+l2.length
   ·obtain ⟨w1,rest,ha,nc,hnc,hrest,hr⟩:=qk1 (ty:=ty) h0 h1' ht hu' hi hzv hy (some ⟨b0,0,none⟩) 0 cap [] (λw1 _=>by simpa using run_firstCells_some (P:=P) w1 i.size 0 ⟨b0,0,none⟩ 0 cap [] (by simp) (λj v hj=>by simp at hj)) hg (by omega) (by rw [hbytes];simpa using hb);rw [hzsz]at hrest;have:=qoF (l:=[]) (vals:=[]) (A:=[]) hd ha hs0' rfl hptr' (by simp) (λx hx=>(hall2 x hx).1) (by simp [RepE]) hE2 hlin (λb=>by have:=hcB b;simp only [List.nil_append,qcy];omega) hO (by simpa using hnc) (by simpa using hrest) hne' (by simpa using hr);simpa using this
   ·have hnl:news.length=l2.length*P.cellsOf elem:=by rw [<- hisz];exact hy.size
    have hfit:0+0*i.size+news.length<=cur.size:=by
     have:l2.length*P.cellsOf elem<=cap*P.cellsOf elem:=Nat.mul_le_mul_right _ (by omega);omega
    have hr:=qoG (ty:=ty) (sCap:=cap) h0 h1' ht hu' hi hy hcur hfit (qji (λx hx=>(hall2 x hx).2) hE2) (by omega);have hoff:0+0*i.size=0:=by omega
    rw [hoff]at hr hfit;have heff:=qsg hd (m:=0) (news:=news) hω hcur hfit;have hlinA:Lin (b0::B):=λb=>by
     have h1:=hlin b;have h2:=hcB b;simp only [qcy,List.count_cons,List.count_nil]at h1 ⊢;omega
    have hnotin:∀b∈B,b∉[b0]:=λb hb hbb=>by
     have:b=b0:=by simpa using hbb
     subst this;have:=hlinA b;simp only [List.count_cons,BEq.rfl,if_true]at this;have:=List.count_pos_iff.2 hb;omega
    refine ⟨_,_,_,b0::B,qpK hr,heff.mono hd (λb hb=>by simp at hb;simp [hb]),?_,hlinA,λb hb=>.inl ?_⟩
    ·have hE3:=qpD heff hd hptr' hnotin hE2;simp only [Rep];refine ⟨hptr',.inr ⟨b0,0,cap,P.cellsOf elem,news,B,by simp,by omega,by simp,hnl,hs0',λx h=>(hall2 x h).1,?_,?_,hE3,λ_=>rfl,λhh=>absurd rfl hh⟩⟩
     ·intro j v hj;rw [cell_setRow_same w b0 _ cur _ ty' _ hcur];simp only [List.getElem?_toArray];have hjl:=(qm.1 hj).1;have hj0:0+j=j:=by omega
      rw [List.append_assoc,List.take_zero,List.nil_append,hj0,qg hjl];exact hj
     ·refine ⟨0+news.length,false,by simp [Cx.grow],by omega,rfl,by omega,⟨_,ty',setRow_heap w b0 cur _ ty' _ hcur,by simp;omega⟩,λh0=>?_⟩;exfalso
      have:=List.length_pos_iff.2 hne';have:=Nat.mul_pos this hs0';omega
    ·rcases qk.1 hb with rfl|hb
     ·simp
     ·exact qj.2 (.inr (qb8 hcB b hb))
  ·cases hz
 ·cases hz
theorem qw4{t:TypeId}{x z:V}{v:Value}{O:List Nat}{lo hi mx:Option V}{vlo vhi vmx:Option Value}(hz:qiA P t x lo hi mx=some z)(h:Rep w X x v O)
  (h1:qiF w X lo vlo) (h2:qiF w X hi vhi) (h3:qiF w X mx vmx):∃v',(Instr.sliceAt t v vlo vhi vmx).run P w=.ok v' w/\Rep w X z v' O:=by
 unfold qiA at hz;split at hz
 ·rename_i elem s n k hu;split at hz
  ·rename_i hs0;simp only [qb]at hz;subst hz;simp only [Rep]at h;obtain ⟨b0,cap,rfl,hn,hs,rfl,hω,hsp⟩:=h;have e1:vlo=none:=by
    rcases h1 with ⟨_,h⟩|⟨x',v',O',hx',_⟩
    ·exact h
    ·cases hx'
   have e3:vmx=none:=by
    rcases h3 with ⟨_,h⟩|⟨x',v',O',hx',_⟩
    ·exact h
    ·cases hx'
   have e2:vhi=some (.int k ((0:Nat):Int)):=by
    rcases h2 with ⟨h,_⟩|⟨x',v',O',hx',hv',hr'⟩
    ·cases h
    ·cases hx'
     simp only [Rep]at hr';rw [hv',hr'.1];rfl
   have hbo:=qdC (P:=P) (w:=w) (isSlice:=true) (len:=n) (cap:=cap) (a:=0) (b:=0) (m:=cap) (.inl ⟨e1,rfl⟩) (.inr ⟨k,e2⟩) (.inl ⟨e3,rfl⟩) (Nat.le_refl _) (Nat.zero_le _) (Nat.le_refl _);refine ⟨.slice (some ⟨b0,0,none⟩) 0 cap,?_,?_⟩
   ·simp only [Instr.sliceAt,Instr.slice,Sem.run_bind,run_underlying hu,Result.andThen_ok,hbo,qab hs0];by_cases hc:cap=0
    ·subst hc;simp
    ·simp [hc,Addr.add_lit]
   ·simp only [Rep];exact ⟨b0,cap,rfl,Nat.zero_le _,hs,rfl,hω,hsp⟩
  ·cases hz
 ·rename_i n elem r off hu;split at hz
  ·rename_i hs1;simp only [qb]at hz;subst hz;simp only [Rep]at h;obtain ⟨rfl,b0,hb,rfl⟩:=h;have e1:vlo=none:=by
    rcases h1 with ⟨_,h⟩|⟨x',v',O',hx',_⟩
    ·exact h
    ·cases hx'
   have e2:vhi=none:=by
    rcases h2 with ⟨_,h⟩|⟨x',v',O',hx',_⟩
    ·exact h
    ·cases hx'
   have e3:vmx=none:=by
    rcases h3 with ⟨_,h⟩|⟨x',v',O',hx',_⟩
    ·exact h
    ·cases hx'
   have hbo:=qdC (P:=P) (w:=w) (isSlice:=false) (len:=n) (cap:=n) (a:=0) (b:=n) (m:=n) (.inl ⟨e1,rfl⟩) (.inl ⟨e2,e3,rfl⟩) (.inl ⟨e3,rfl⟩) (Nat.zero_le _) (Nat.le_refl _) (Nat.le_refl _);refine ⟨.slice (some ⟨b0,off,none⟩) n n,?_,?_⟩
   ·simp only [Instr.sliceAt,Instr.sureAddr,Sem.run_bind,Sem.run_pure,run_underlying hu,Result.andThen_ok,hbo,qab (P:=P) (w:=w) (t:=elem) (by omega)];by_cases hc:n=0
    ·subst hc;simp
    ·simp [hc,Addr.add_lit]
   ·simp only [Rep];exact ⟨trivial,b0,n,hb,rfl,Nat.le_refl _⟩
  ·cases hz
 ·cases hz
end
section
variable {P:Program} {H:Hints} {f:FuncId} {w:World} {X:Cx}
theorem qik{argTypes:Array TypeId}{ty:TypeId}{xs:List V}{z:V}{vals:List Value}{O:List Nat}{s:Array TypeId->TypeId->Array Value->Sem Value}
  (hz:((toValL xs).bind λvs=>(valOf P (s argTypes ty vs.toArray)).map qb1)=some z) (h:RepL w X xs vals O):∃v,(s argTypes ty vals.toArray).run P w=.ok v w/\Rep w X z v []:=by
 cases hv:toValL xs with
 |none=>simp [hv]at hz
 |some vs =>
  obtain ⟨rfl,rfl⟩:=repL_toVal xs vals O vs hv h;simp only [hv,qa]at hz;cases hr:valOf P (s argTypes ty vals.toArray)with
  |none=>simp [hr]at hz
  |some r=>simp [hr]at hz;subst hz;exact ⟨r,qcD hr,qfK r⟩
theorem qgY{s:Sem Value}{x:V}{Oin:List Nat}{v:Value}(hd:Dom w X)(h:s.run P w=.ok v w)(hx:Rep w X x v []):qr0 P (do pure (Next.value (<- s))) w X x Oin :=
 qw0 hd h hx Lin.nil (by simp)
theorem qBz{argTypes:Array TypeId}{ty:TypeId}{fl:Fl}{c:Bool}{l:List V}{q:TypeId}{vals:List Value}{O:List Nat}(ht:(argTypes[0]?).bind P.underlying=some (.slice q))(h:RepL w X [.sl fl c l] vals O) :
  (Builtin.len_ argTypes ty vals.toArray).run P w=.ok (.int .i64 l.length) w:=by
 obtain ⟨u,rfl,hr⟩:=qbH h;obtain ⟨t,h0,ht⟩:=qd.1 ht;simp only [Rep]at hr;rcases hr.2 with ⟨rfl,_,rfl|⟨_,a,_,rfl,_⟩⟩|⟨b,off,cap,s,vals,O',rfl,_⟩
 ·simp [Builtin.len_,h0,run_underlying ht,goInt]
 ·simp [Builtin.len_,h0,run_underlying ht,goInt]
 ·simp [Builtin.len_,h0,run_underlying ht,goInt]
theorem qus{b:Builtin}{argTypes:Array TypeId}{type:TypeId}{consts:Array Bool}{xs:List V}{z:V}{vals:List Value}{O:List Nat}(hd:Dom w X)(hl:Lin O)(hz:qdO P b argTypes type xs=some z)(h:RepL w X xs vals O) :
  qr0 P (builtin b argTypes type consts vals.toArray) w X z O:=by
 unfold qdO at hz;split at hz
 ·split at hz
  ·rename_i q ht;simp only [qb]at hz;subst hz;exact qgY hd (qBz (ty:=type) ht h) (by simp [Rep])
  ·simp at hz
 ·obtain ⟨u,v,O1,O2,rfl,rfl,h1,h2⟩:=qjk h;rcases Option.or_eq_some_iff.1 hz with hz|⟨_,hz⟩
  ·exact qw3 hd hl hz h1 h2
  ·rcases Option.or_eq_some_iff.1 hz with hz|⟨_,hz⟩
   ·exact qu1 hd hz h1 h2
   ·exact qu2 hd hl hz h1 h2
 ·simp at hz
 ·simp at hz
 ·obtain ⟨v,hr,hx⟩:=qik (s:=Builtin.cap_) hz h;exact qgY hd hr hx
 ·obtain ⟨v,hr,hx⟩:=qik (s:=Builtin.len_) hz h;exact qgY hd hr hx
 ·obtain ⟨v,hr,hx⟩:=qik (s:=Builtin.max_) hz h;exact qgY hd hr hx
 ·obtain ⟨v,hr,hx⟩:=qik (s:=Builtin.min_) hz h;exact qgY hd hr hx
 ·obtain ⟨v,hr,hx⟩:=qik (s:=Builtin.real_) hz h;exact qgY hd hr hx
 ·obtain ⟨v,hr,hx⟩:=qik (s:=Builtin.imag_) hz h;exact qgY hd hr hx
 ·obtain ⟨v,hr,hx⟩:=qik (s:=Builtin.complex_) hz h;exact qgY hd hr hx
 ·simp at hz
theorem qil{xs:List V}{ops:List Operand}{ρ:Operand->Value}{O:List Nat}{lo:Option Operand}(h:RepL w X xs ((lo.toList++ops).map ρ) O) :
  qiF w X (if lo.isSome then xs.head? else none) (lo.map ρ)/\∃O',RepL w X (if lo.isSome then xs.tail else xs) (ops.map ρ) O':=by
 cases lo with
 |none=>exact ⟨.inl ⟨rfl,rfl⟩,O,by simpa using h⟩
 |some a =>
  cases xs with
  |nil=>simp [RepL]at h
  |cons x xs =>
   simp only [Option.toList_some,List.cons_append,List.nil_append,qh,RepL]at h;obtain ⟨u,vs,O1,O2,he,rfl,h1,h2⟩:=h;simp at he;obtain ⟨rfl,rfl⟩:=he;exact ⟨.inr ⟨x,ρ a,O1,rfl,rfl,h1⟩,O2,by simpa using h2⟩
theorem qtb{t:TypeId}{x:V}{v:Value}{O:List Nat}(h:Rep w X x v O):Rep w X (match x.toVal with|some a=>.val (.iface t a)|none=>.iface t x) (.iface t v) O:=by
 cases hx:x.toVal with
 |none=>simp only [Rep];exact ⟨v,rfl,h⟩
 |some a =>
  obtain ⟨rfl,rfl⟩:=rep_toVal x v O a hx h;simp [Rep]
theorem qls:∀{l:List V} {s:Nat} {vals:List Value} {O:List Nat} {bs:List UInt8},bytesOf l=some bs->RepE w X s l vals O->(∀x∈l,x.cells.length=s)->l≠[] ->
  O=[]/\∃ns:List Int,vals=ns.map (Value.int .u8)/\bs=ns.map λn=>UInt8.ofNat n.toNat
 |[],_,_,_,_,_,_,_,h=>absurd rfl h
 |x::l,s,vals,O,bs,hb,hr,hc,_=>by
  unfold bytesOf at hb;split at hb
  ·rename_i h;cases h
  ·rename_i n l' h;cases h;obtain ⟨bs',hb',rfl⟩:=qc.1 hb;simp only [RepE,Rep]at hr;obtain ⟨u,vs,O1,O2,rfl,hs,rfl,⟨rfl,rfl⟩,hr⟩:=hr;by_cases h0:l=[]
   ·subst h0;simp only [bytesOf,qb]at hb';simp only [RepE]at hr;obtain ⟨rfl,rfl⟩:=hr;subst hb';exact ⟨rfl,[n],by simp [Value.cells],rfl⟩
   ·obtain ⟨rfl,ns,rfl,rfl⟩:=qls hb' hr (λy hy=>hc y (List.mem_cons_of_mem _ hy)) h0;exact ⟨rfl,n::ns,by simp [Value.cells],rfl⟩
  ·cases hb
theorem qye{src dst:TypeId}{fl:Fl}{c:Bool}{l:List V}{z:V}{u:Value}{O:List Nat}(hz:qrV P src dst l=some z)(hr:Rep w X (.sl fl c l) u O) :
  ∃v,z=.val v/\(Go.convert src dst u).run P w=.ok v w:=by
 unfold qrV at hz;split at hz
 ·rename_i e hs hd;split at hz
  ·rename_i he;obtain ⟨bs,hb,rfl⟩:=qc.1 hz;refine ⟨_,rfl,?_⟩;simp only [Rep]at hr;rcases hr.2 with ⟨rfl,_,hv⟩|⟨b,off,cap,s,vals,O',rfl,_,_,hlen,hs0,hall,hseg,_,hE,_⟩
   ·simp only [bytesOf,qb]at hb;subst hb;rcases hv with rfl|⟨_,a,cap0,rfl,_⟩
    ·exact run_convert_bytes_nil w src e hs he 0 0 dst hd
    ·rw [run_convert_bytes_string w src dst e _ 0 cap0 hs he hd,run_bytesToString w a 0 cap0 [] (by have:=run_loadCells_list (P:=P) w a [] (by simp);simpa using this)];rfl
   ·by_cases h0:l=[]
    ·subst h0;simp only [bytesOf,qb]at hb;subst hb;rw [run_convert_bytes_string w src dst e _ _ _ hs he hd];rw [run_bytesToString w _ _ _ [] (by have:=run_loadCells_list (P:=P) w ⟨b,off,none⟩ [] (by simp);simpa using this)];rfl
    ·obtain ⟨_,ns,rfl,rfl⟩:=qls hb hE hall h0;have h1:s=1:=by
      cases l with
      |nil=>exact absurd rfl h0
      |cons x l =>
       have:=hall x List.mem_cons_self;unfold bytesOf at hb;split at hb
       ·rename_i h;cases h
       ·rename_i h;cases h;simpa [V.cells]using this.symm
       ·cases hb
     subst h1;rw [List.length_map,Nat.mul_one]at hlen;exact run_convert_bytes_arg w src e hs he b off l.length cap ns hlen (λi hi=>by
      refine hseg i _ ?_;simp [List.getElem?_eq_getElem (show i<ns.length by omega)]) dst hd
  ·cases hz
 ·cases hz
theorem qtO{o:Oper}{tk:Bool}{xs:List V}{z:V}{ρ:Operand->Value}{O:List Nat}(hd:Dom w X)(hl:Lin O)(hx:qaG P H f tk o.op o.type xs none=some (z,none))(h:RepL w X xs (o.op.operands.toList.map ρ) O) :
  qr0 P (execOp ρ o) w X z O:=by
 obtain ⟨dst,op,type,pos,after,guard⟩:=o;simp only at hx h;unfold qaG at hx;simp only at hx;split at hx
 ·-- move
  obtain rfl:_=z:=by simpa using hx
  obtain ⟨u,hu,hr⟩:=qbH h;simp [Op.operands]at hu;subst hu;exact qdU hd (by simp [execOp]) hr hl (λb hb=>hb)
 ·obtain rfl:_=z:=by simpa using hx
  obtain ⟨u,hu,hr⟩:=qbH h;simp [Op.operands]at hu;subst hu;exact qdU hd (by simp [execOp]) hr hl (λb hb=>hb)
 ·-- pick
  rename_i oc oa ob c a b;obtain rfl:_=z:=by simpa using hx
  obtain ⟨u,v,t,O1,O2,O3,hu,rfl,h1,h2,h3⟩:=qvd h;simp [Op.operands]at hu;obtain ⟨hc,rfl,rfl⟩:=hu;simp only [Rep]at h1;obtain ⟨rfl,rfl⟩:=h1;cases c with
  |true=>exact qdU (O':=O2) hd (by simp [execOp,hc,asBool]) h2 (by simpa using hl.right.left) (λb hb=>by simp [hb])
  |false=>exact qdU (O':=O3) hd (by simp [execOp,hc,asBool]) h3 (by simpa using hl.right.right) (λb hb=>by simp [hb])
 ·-- build
  rename_i xs' t parts;obtain ⟨z',hz,he⟩:=qc.1 hx;obtain rfl:z'=z:=by simpa using he
  have hop:(Op.build t parts).operands.toList=parts.toList.map (·.2):=by simp [Op.operands]
  rw [hop]at h;obtain ⟨v,O',hr,hrep,hc⟩:=qyP hz h;exact qw0 hd (by simpa [execOp]using hr) hrep (qfz hl hc) (qb8 hc)
 ·-- buildSlice
  rename_i xs' t len parts;obtain ⟨z',hz,he⟩:=qc.1 hx;obtain rfl:z'=z:=by simpa using he
  have hop:(Op.buildSlice t len parts).operands.toList=parts.toList.map (·.2):=by simp [Op.operands]
  rw [hop]at h;exact qpu hd hl hz h
 ·-- load from elements
  rename_i t a fl cs;obtain ⟨z',hz,he⟩:=qc.1 hx;obtain rfl:z'=z:=by simpa using he
  obtain ⟨y,hy,rfl⟩:=qc.1 hz;obtain ⟨u,hu,hr⟩:=qbH h;simp [Op.operands]at hu;simp only [Rep]at hr;obtain ⟨rfl,b,off,vals,hv,hs,hω,hl',_⟩:=hr;obtain ⟨v,O',hrep,hc,hvv,d,hud⟩:=qgi hy hl';refine qgY hd (v:=v) ?_ (qgh hrep);rw [show ρ a=.pointer (some ⟨b,off,none⟩) by rw [hu,hv]];simp only [Instr.loadAt,Instr.sureAddr,Sem.run_bind,Sem.run_pure,Result.andThen_ok];exact qdX hud hs hvv
 ·-- load from a box: not here
  simp at hx
 ·simp at hx
 ·-- nilCheck
  obtain rfl:_=z:=by simpa using hx
  obtain ⟨u,hu,hr⟩:=qbH h;simp [Op.operands]at hu;subst hu;have hr':=hr;simp only [Rep]at hr;obtain ⟨_,b,_,he⟩:=hr;exact qdU hd (by simp [execOp,he]) hr' hl (λb hb=>hb)
 ·obtain rfl:_=z:=by simpa using hx
  obtain ⟨u,hu,hr⟩:=qbH h;simp [Op.operands]at hu;subst hu;have hr':=hr;simp only [Rep]at hr;obtain ⟨_,b,off,vals,he,_⟩:=hr;exact qdU hd (by simp [execOp,he]) hr' hl (λb hb=>hb)
 ·obtain rfl:_=z:=by simpa using hx
  obtain ⟨u,hu,hr⟩:=qbH h;simp [Op.operands]at hu;subst hu;have hr':=hr;simp only [Rep]at hr;obtain ⟨va,vc,O1,O2,he,_⟩:=hr;exact qdU hd (by simp [execOp,he]) hr' hl (λb hb=>hb)
 ·-- binOp
  obtain ⟨z',hz,he⟩:=qc.1 hx;obtain rfl:z'=z:=by simpa using he
  obtain ⟨u,v,O1,O2,hu,rfl,h1,h2⟩:=qjk h;simp [Op.operands]at hu;obtain ⟨rfl,rfl⟩:=hu;obtain ⟨v',hr,hrep⟩:=qBy hz h1 h2;exact qgY hd hr hrep
 ·-- unOp
  obtain ⟨z',hz,he⟩:=qc.1 hx;obtain rfl:z'=z:=by simpa using he
  obtain ⟨u,hu,hr⟩:=qbH h;simp [Op.operands]at hu;subst hu;obtain ⟨a,ha,hz⟩:=qd.1 hz;obtain ⟨r,hr',rfl⟩:=qc.1 hz;obtain ⟨he,_⟩:=rep_toVal _ _ _ a ha hr;exact qgY hd (by rw [he];exact qcD hr') (qfK r)
 ·-- convert
  obtain ⟨z',hz,he⟩:=qc.1 hx;obtain rfl:z'=z:=by simpa using he
  obtain ⟨u,hu,hr⟩:=qbH h;simp [Op.operands]at hu;subst hu;unfold qp1 at hz;split at hz
  ·obtain ⟨v',rfl,hrun⟩:=qye hz hr;exact qgY hd hrun (by simp [Rep])
  unfold qgs at hz;split at hz
  ·rename_i a ha;obtain ⟨r,hr',rfl⟩:=qc.1 hz;obtain ⟨he,_⟩:=rep_toVal _ _ _ a ha hr;exact qgY hd (by rw [he];exact qcD hr') (qfK r)
  ·simp at hz
 ·-- makeInterface
  rename_i t _ x;split at hx
  ·simp at hx
  ·simp at hx
  ·rename_i d hni hu;split at hx
   ·rename_i hp;obtain rfl:_=z:=by simpa using hx
    obtain ⟨u,hu',hr⟩:=qbH h;simp [Op.operands]at hu';subst hu';cases hd':P.underlying t with
    |none=>exact absurd hd' hu
    |some d =>
     refine qw0 (O':=O) hd ?_ (qtb hr) hl (λb hb=>hb);have:∀ms,d≠.interface ms:=λms e=>hni ms (by rw [hd',e]);simp only [Instr.makeInterface,Sem.run_bind,run_underlying hd',Result.andThen_ok];cases d<;>first|rfl|exact absurd rfl (this _)
   ·simp at hx
 ·-- makeFunc
  rename_i xs' g first captured;obtain rfl:_=z:=by simpa using hx
  have hop:(Op.makeFunc (.func g) first captured).operands.toList=first.toList++captured.toList:=by simp [Op.operands]
  rw [hop,List.map_append]at h;obtain ⟨O1,O2,rfl,h1,h2⟩:=qaB first.size h;have e1:(first.toList.map ρ++captured.toList.map ρ).take first.size=first.toList.map ρ:=by
   rw [List.take_append_of_le_length (by simp),List.take_of_length_le (by simp)]
  have e2:(first.toList.map ρ++captured.toList.map ρ).drop first.size=captured.toList.map ρ:=by
   rw [List.drop_append_of_le_length (by simp),List.drop_eq_nil_of_le (by simp)];rfl
  rw [e1]at h1;rw [e2]at h2;refine qw0 (O':=O1++O2) (v:=.func (.func g) (first.map ρ) (captured.map ρ)) hd (by simp [Instr.makeFunc]) ?_ hl (λb hb=>hb);simp only [Rep];exact ⟨_,_,O1,O2,by congr 1<;>(apply Array.ext';simp),rfl,h1,h2⟩
 ·-- makeSlice
  obtain ⟨z',hz,he⟩:=qc.1 hx;obtain rfl:z'=z:=by simpa using he
  obtain ⟨u,v,O1,O2,hu,rfl,h1,h2⟩:=qjk h;simp [Op.operands]at hu;obtain ⟨rfl,rfl⟩:=hu;exact qrf hd hz h1 h2 _
 ·-- slice
  rename_i t xo lo hi mx x rest;obtain ⟨z',hz,he⟩:=qc.1 hx;obtain rfl:z'=z:=by simpa using he
  have hop:(Op.slice t xo lo hi mx).operands.toList=xo::(lo.toList++(hi.toList++mx.toList)):=by
   simp [Op.operands]
  rw [hop]at h;simp only [qh,RepL]at h;obtain ⟨u,vs,O1,O2,he',rfl,h1,h2⟩:=h;simp only [List.cons.injEq]at he';obtain ⟨rfl,rfl⟩:=he';obtain ⟨r1,O3,h3⟩:=qil h2;obtain ⟨r2,O4,h4⟩:=qil h3;have h4':RepL w X (if hi.isSome then (if lo.isSome then rest.tail else rest).tail else (if lo.isSome then rest.tail else rest)) ((mx.toList++[]).map ρ) O4:=by simpa using h4
  obtain ⟨r3,_,_⟩:=qil h4';rcases Option.or_eq_some_iff.1 hz with hz|⟨_,hz⟩
  ·obtain ⟨v',hr,hrep⟩:=qyS hz h1 r1 r2 r3;exact qgY hd hr hrep
  ·obtain ⟨v',hr,hrep⟩:=qw4 hz h1 r1 r2 r3;exact qw0 hd hr hrep hl.left (λb hb=>by simp [hb])
 ·-- fieldAddr
  obtain ⟨z',hz,he⟩:=qc.1 hx;obtain rfl:z'=z:=by simpa using he
  obtain ⟨u,hu,hr⟩:=qbH h;simp [Op.operands]at hu;subst hu;obtain ⟨v',hr',hrep⟩:=qkC hz hr;exact qgY hd hr' hrep
 ·-- field
  obtain ⟨z',hz,he⟩:=qc.1 hx;obtain rfl:z'=z:=by simpa using he
  obtain ⟨u,hu,hr⟩:=qbH h;simp [Op.operands]at hu;subst hu;obtain ⟨v',O',hr',hrep,hc⟩:=qyQ hz hr;exact qw0 hd hr' hrep (qfz hl hc) (qb8 hc)
 ·-- sliceToArrayPointer
  obtain ⟨z',hz,he⟩:=qc.1 hx;obtain rfl:z'=z:=by simpa using he
  obtain ⟨u,hu,hr⟩:=qbH h;simp [Op.operands]at hu;subst hu;obtain ⟨v',hr',hrep⟩:=qu3 hz hr;exact qgY hd hr' hrep
 ·-- indexAddr
  obtain ⟨z',hz,he⟩:=qc.1 hx;obtain rfl:z'=z:=by simpa using he
  obtain ⟨u,v,O1,O2,hu,rfl,h1,h2⟩:=qjk h;simp [Op.operands]at hu;obtain ⟨rfl,rfl⟩:=hu;obtain ⟨v',hr,hrep⟩:=qkD hz h1 h2;exact qgY hd hr hrep
 ·-- index
  obtain ⟨z',hz,he⟩:=qc.1 hx;obtain rfl:z'=z:=by simpa using he
  obtain ⟨u,v,O1,O2,hu,rfl,h1,h2⟩:=qjk h;simp [Op.operands]at hu;obtain ⟨rfl,rfl⟩:=hu;obtain ⟨v',O',hr,hrep,hc⟩:=qyR hz h1 h2;exact qw0 hd hr hrep (qfz hl.left hc) (λb hb=>by simp [qb8 hc b hb])
 ·-- extract
  obtain ⟨z',hz,he⟩:=qc.1 hx;obtain rfl:z'=z:=by simpa using he
  obtain ⟨u,hu,hr⟩:=qbH h;simp [Op.operands]at hu;subst hu;obtain ⟨v',O',hr',hrep,hc⟩:=qu4 hz hr;exact qw0 hd hr' hrep (qfz hl hc) (qb8 hc)
 ·-- builtin
  rename_i xs' b args argTypes;obtain ⟨z',hz,he⟩:=qc.1 hx;obtain rfl:z'=z:=by simpa using he
  have hop:(Op.call {callee:=.builtin b,args,argTypes}).operands.toList=args.toList:=by simp [Op.operands,Call.operands]
  rw [hop]at h;have e:(args.toList.map ρ).toArray=args.map ρ:=by apply Array.ext';simp
  show qr0 P (builtin b argTypes type _ (args.map ρ)) w X z' O;rw [<- e];exact qus hd hl hz h
 ·simp at hx
end
section
variable {P:Program} {H:Hints} {f:FuncId}
theorem qD{r:Root}:∀{l:List V},r∈ptrsL l↔∃x∈l,r∈x.qq
 |[]=>by simp [ptrsL]
 |x::l=>by simp [ptrsL,qD (l:=l)]
theorem qeL{r:Root}{x:V}:r∈ptrsL x.cells->r∈x.qq:=by
 cases x<;>simp [V.cells,ptrsL,V.qq]
theorem qld{r:Root}{n:Nat}{l:List V}(h:r∈ptrsL (l.take n)):r∈ptrsL l:=by
 obtain ⟨x,hx,hr⟩:=qD.1 h;exact qD.2 ⟨x,List.mem_of_mem_take hx,hr⟩
theorem qcJ{r:Root}{n:Nat}{l:List V}(h:r∈ptrsL (l.drop n)):r∈ptrsL l:=by
 obtain ⟨x,hx,hr⟩:=qD.1 h;exact qD.2 ⟨x,List.mem_of_mem_drop hx,hr⟩
theorem qwS{r:Root}{a b:List V}:r∈ptrsL (a++b)↔r∈ptrsL a\/r∈ptrsL b:=by rw [q9];exact qj
theorem qj6(u:Value):(qb1 u).qq=[]:=by
 have h0:∀l:List Value,ptrsL (l.map V.val)=[]:=λl=>by induction l<;>simp_all [ptrsL,V.qq]
 unfold qb1;split
 ·simp [V.qq,h0]
 ·rename_i vs;simp only [V.qq];induction vs.toList with
  |nil=>rfl
  |cons v l ih =>
   simp only [qh,ptrsL,ih,List.append_nil];split
   ·simp [V.qq,h0]
   ·rfl
 ·rfl
theorem qmC(p:Bool)(u:Value):(qcB p u).qq=[]:=by
 unfold qcB qef;split
 ·cases p<;>rfl
 ·rfl
theorem qce(p:Bool)(u:Value):(ofConst p u).qq=[]:=by
 unfold ofConst;split
 ·rename_i cs;simp only [V.qq];induction cs.toList with
  |nil=>rfl
  |cons v l ih=>simp [ptrsL,qmC,ih]
 ·exact qmC p u
theorem qg0(x:V):x.q5.qq=x.qq:=ptrs_reflag _ x
theorem qbA{t:TypeId}{cs:List V}{x:V}(h:q8 P t cs=some x):∀r∈x.qq,r∈ptrsL cs:=by
 unfold q8 at h;split at h
 ·simp at h
 ·split at h
  ·split at h
   ·simp only [qb]at h;subst h;intro r hr;simp only [V.qq]at hr;exact qld hr
   ·simp at h
  ·cases cs with
   |nil=>simp at h
   |cons y cs=>simp at h;subst h;intro r hr;simp [ptrsL,hr]
theorem qgf{cs vs:List V}{off:Nat}:∀r∈ptrsL (qP cs off vs),r∈ptrsL cs\/r∈ptrsL vs:=by
 intro r hr;unfold qP at hr;rcases qwS.1 hr with hr|hr
 ·rcases qwS.1 hr with hr|hr
  ·exact .inl (qld hr)
  ·exact .inr hr
 ·exact .inl (qcJ hr)
theorem qmB{place:Nat->Option (Nat×Nat)}:∀(is:List Nat) (xs cs cs':List V),qgB place cs (is.zip xs)=some cs'->∀r∈ptrsL cs',r∈ptrsL cs\/r∈ptrsL xs
 |[],xs,cs,cs',h=>by simp only [List.zip_nil_left,qgB,qb]at h;subst h;exact λr hr=>.inl hr
 |i::is,[],cs,cs',h=>by simp only [List.zip_nil_right,qgB,qb]at h;subst h;exact λr hr=>.inl hr
 |i::is,x::xs,cs,cs',h=>by
  simp only [List.zip_cons_cons,qgB]at h;split at h
  ·simp at h
  ·split at h
   ·simp at h
   ·intro r hr;rcases qmB is xs _ cs' h r hr with hr|hr
    ·rcases qgf r hr with hr|hr
     ·exact .inl hr
     ·exact .inr (by simp [ptrsL,qeL hr])
    ·exact .inr (by simp [ptrsL,hr])
theorem qu7{t:TypeId}{x z:V}{lo hi mx:Option V}(hz:qdY P t x lo hi mx=some z):z.qq=[]:=by
 unfold qdY at hz;split at hz
 ·split at hz
  ·simp at hz
  ·split at hz
   ·split at hz
    ·split at hz
     ·simp only [qb]at hz;subst hz;rfl
     ·simp at hz
    ·split at hz
     ·simp only [qb]at hz;subst hz;rfl
     ·simp at hz
   ·simp at hz
 ·split at hz
  ·simp at hz
  ·split at hz
   ·split at hz
    ·simp at hz
    ·simp only [qb]at hz;subst hz;rfl
   ·simp at hz
 ·split at hz
  ·split at hz
   ·simp only [qb]at hz;subst hz;rfl
   ·simp at hz
  ·simp at hz
 ·simp at hz
theorem qu0{o:Op}{type:TypeId}{tk:Bool}{xs:List V}{bx:Option (List V)}{z:V}{c:Option (List V)}(hx:qaG P H f tk o type xs bx=some (z,c)):∀r∈z.qq,r∈ptrsL xs\/∃cs,bx=some cs/\r∈ptrsL cs:=by
 have hval:∀{s:Sem Value} {z':V},(valOf P s).map qb1=some z'->z'.qq=[]:=λh=>by
  obtain ⟨v,_,rfl⟩:=qc.1 h;exact qj6 v
 unfold qaG at hx;simp only at hx;split at hx
 ·obtain ⟨rfl,_⟩:=Prod.mk.inj (Option.some.inj hx);intro r hr;exact .inl (by simp [ptrsL,hr])
 ·obtain ⟨rfl,_⟩:=Prod.mk.inj (Option.some.inj hx);intro r hr;exact .inl (by simp [ptrsL,hr])
 ·obtain ⟨rfl,_⟩:=Prod.mk.inj (Option.some.inj hx);intro r hr;left;split at hr<;>simp [ptrsL,hr]
 ·obtain ⟨z',hz,he⟩:=qc.1 hx;obtain ⟨rfl,_⟩:=Prod.mk.inj he;unfold qou at hz;intro r hr;split at hz
  ·rename_i z0 fields hzero hu;obtain ⟨i,u,hi,hiz,rfl⟩:=qdk hzero;split at hz
   ·obtain ⟨cs',hfv,rfl⟩:=qc.1 hz;simp only [V.qq]at hr;rcases qmB _ _ _ _ hfv r hr with hr|hr
    ·have:=qeL hr;rw [qce]at this;simp at this
    ·exact .inl hr
   ·simp at hz
  ·rename_i z0 len elem hzero hu;obtain ⟨i,u,hi,hiz,rfl⟩:=qdk hzero;split at hz
   ·obtain ⟨cs',hfv,rfl⟩:=qc.1 hz;simp only [V.qq]at hr;rcases qmB _ _ _ _ hfv r hr with hr|hr
    ·have:=qeL hr;rw [qce]at this;simp at this
    ·exact .inl hr
   ·simp at hz
  ·simp at hz
 ·obtain ⟨z',hz,he⟩:=qc.1 hx;obtain ⟨rfl,_⟩:=Prod.mk.inj he;unfold qdE at hz;intro r hr;split at hz
  ·split at hz
   ·split at hz
    ·simp at hz
    ·split at hz
     ·split at hz
      ·simp only [qb]at hz;subst hz;simp [V.qq]at hr
      ·simp at hz
     ·simp at hz
   ·simp at hz
  ·simp at hz
 ·obtain ⟨z',hz,he⟩:=qc.1 hx;obtain ⟨rfl,_⟩:=Prod.mk.inj he;obtain ⟨y,hy,rfl⟩:=qc.1 hz;intro r hr;rw [qg0]at hr;exact .inl (by simpa [ptrsL,V.qq]using qbA hy r hr)
 ·split at hx
  ·rename_i cs;split at hx
   ·simp at hx
   split at hx
   ·obtain ⟨y,hy,he⟩:=qc.1 hx;obtain ⟨rfl,_⟩:=Prod.mk.inj he;intro r hr;exact .inr ⟨cs,rfl,qcJ (qbA hy r hr)⟩
   ·obtain ⟨z',hz,he⟩:=qc.1 hx;obtain ⟨rfl,_⟩:=Prod.mk.inj he;obtain ⟨y,hy,rfl⟩:=qc.1 hz;intro r hr;rw [qg0]at hr;exact .inr ⟨cs,rfl,qcJ (qbA hy r hr)⟩
  ·simp at hx
 ·split at hx
  ·split at hx
   ·obtain ⟨rfl,_⟩:=Prod.mk.inj (Option.some.inj hx);intro r hr;simp [V.qq]at hr
   ·simp at hx
  ·simp at hx
 ·obtain ⟨rfl,_⟩:=Prod.mk.inj (Option.some.inj hx);intro r hr;exact .inl (by simp [ptrsL,hr])
 ·obtain ⟨rfl,_⟩:=Prod.mk.inj (Option.some.inj hx);intro r hr;exact .inl (by simp [ptrsL,hr])
 ·obtain ⟨rfl,_⟩:=Prod.mk.inj (Option.some.inj hx);intro r hr;exact .inl (by simp [ptrsL,hr])
 ·obtain ⟨z',hz,he⟩:=qc.1 hx;obtain ⟨rfl,_⟩:=Prod.mk.inj he;unfold qko at hz;intro r hr;split at hz
  ·rw [hval hz]at hr;simp at hr
  ·split at hz
   ·split at hz
    ·split at hz
     ·simp only [qb]at hz;subst hz;simp [V.qq]at hr
     ·simp only [qb]at hz;subst hz;simp [V.qq]at hr
     ·simp at hz
    ·simp at hz
   ·simp at hz
 ·obtain ⟨z',hz,he⟩:=qc.1 hx;obtain ⟨rfl,_⟩:=Prod.mk.inj he;obtain ⟨a,ha,hz⟩:=qd.1 hz;intro r hr;rw [hval hz]at hr;simp at hr
 ·obtain ⟨z',hz,he⟩:=qc.1 hx;obtain ⟨rfl,_⟩:=Prod.mk.inj he;unfold qp1 at hz;intro r hr;split at hz
  ·unfold qrV at hz;split at hz
   ·split at hz
    ·obtain ⟨_,_,rfl⟩:=qc.1 hz;simp [V.qq]at hr
    ·simp at hz
   ·simp at hz
  unfold qgs at hz;split at hz
  ·rw [hval hz]at hr;simp at hr
  ·simp at hz
 ·rename_i t _ x;split at hx
  ·simp at hx
  ·simp at hx
  ·split at hx
   ·rename_i hp;obtain ⟨rfl,_⟩:=Prod.mk.inj (Option.some.inj hx);intro r hr;split at hr
    ·simp [V.qq]at hr
    ·simp only [V.qq]at hr;rw [show x.qq=[] by simpa using hp]at hr;simp at hr
   ·simp at hx
 ·obtain ⟨rfl,_⟩:=Prod.mk.inj (Option.some.inj hx);intro r hr;simp only [V.qq,qj]at hr;rcases hr with hr|hr
  ·exact .inl (qld hr)
  ·exact .inl (qcJ hr)
 ·obtain ⟨z',hz,he⟩:=qc.1 hx;obtain ⟨rfl,_⟩:=Prod.mk.inj he;unfold qev at hz;intro r hr;split at hz
  ·split at hz
   ·split at hz
    ·simp only [qb]at hz;subst hz;simp [V.qq]at hr
    ·simp at hz
   ·simp at hz
  ·simp at hz
 ·obtain ⟨z',hz,he⟩:=qc.1 hx;obtain ⟨rfl,_⟩:=Prod.mk.inj he;intro r hr;rcases Option.or_eq_some_iff.1 hz with hz|⟨_,hz⟩
  ·rw [qu7 hz]at hr;simp at hr
  ·unfold qiA at hz;split at hz
   ·split at hz
    ·simp only [qb]at hz;subst hz;simp [V.qq]at hr
    ·cases hz
   ·split at hz
    ·simp only [qb]at hz;subst hz;left;simp only [V.qq,List.mem_singleton]at hr;simp [ptrsL,V.qq,hr]
    ·cases hz
   ·cases hz
 ·obtain ⟨z',hz,he⟩:=qc.1 hx;obtain ⟨rfl,_⟩:=Prod.mk.inj he;unfold qcv at hz;intro r hr;split at hz
  ·split at hz
   ·split at hz
    ·simp at hz
    ·split at hz
     ·simp only [qb]at hz;subst hz;left;simpa [ptrsL,V.qq]using hr
     ·split at hz
      ·simp only [qb]at hz;subst hz;left;simp only [V.qq]at hr;simpa [ptrsL,V.qq]using qcJ hr
      ·simp at hz
     ·simp at hz
   ·simp at hz
  ·simp at hz
 ·obtain ⟨z',hz,he⟩:=qc.1 hx;obtain ⟨rfl,_⟩:=Prod.mk.inj he;unfold qov at hz;intro r hr;split at hz
  ·split at hz
   ·left;simpa [ptrsL,V.qq]using qcJ (qbA hz r hr)
   ·simp at hz
  ·simp at hz
 ·obtain ⟨z',hz,he⟩:=qc.1 hx;obtain ⟨rfl,_⟩:=Prod.mk.inj he;unfold qhN at hz;intro r hr;split at hz
  ·split at hz
   ·rename_i n elem fl c l hu hc;simp only [qb]at hz;subst hz;exfalso
    simp only [V.qq]at hr;have:∀{l:List V},(qgz l).isSome=true->ptrsL l=[]:=by
     intro l;induction l with
     |nil=>intro _;rfl
     |cons x l ih =>
      intro h;unfold qgz at h;split at h
      ·rename_i h';cases h'
      ·rename_i h';cases h';simp only [ptrsL,V.qq,List.nil_append];exact ih (by simpa using h)
      ·cases h
    have h1:=this hc.2.2;have h2:r∈ptrsL l:=qD.2 (by
     obtain ⟨x,hx,hr'⟩:=qD.1 hr;exact ⟨x,List.mem_of_mem_take hx,hr'⟩)
    rw [h1]at h2;simp at h2
   ·simp at hz
  ·simp at hz
 ·obtain ⟨z',hz,he⟩:=qc.1 hx;obtain ⟨rfl,_⟩:=Prod.mk.inj he;unfold qbg at hz;intro r hr;split at hz
  ·split at hz
   ·split at hz
    ·simp only [qb]at hz;subst hz;left;simp only [ptrsL,V.qq]at hr ⊢;simpa using hr
    ·simp at hz
   ·split at hz
    ·simp only [qb]at hz;subst hz;left;simp only [V.qq]at hr;simpa [ptrsL,V.qq]using qcJ hr
    ·simp at hz
   ·split at hz
    ·split at hz
     ·split at hz
      ·rename_i hc;simp only [qb]at hz;subst hz;exfalso
       simp only [V.qq,ptrsL_reflag]at hr;rw [show ptrsL _=[] by simpa using hc.2.2.2]at hr;simp at hr
      ·simp at hz
     ·simp at hz
    ·simp at hz
   ·simp at hz
  ·simp at hz
 ·obtain ⟨z',hz,he⟩:=qc.1 hx;obtain ⟨rfl,_⟩:=Prod.mk.inj he;unfold qnf at hz;intro r hr;split at hz
  ·split at hz
   ·left;simpa [ptrsL,V.qq]using qcJ (qbA hz r hr)
   ·simp at hz
  ·split at hz
   ·obtain ⟨b,_,rfl⟩:=qc.1 hz;simp [V.qq]at hr
   ·simp at hz
  ·simp at hz
 ·obtain ⟨z',hz,he⟩:=qc.1 hx;obtain ⟨rfl,_⟩:=Prod.mk.inj he;intro r hr;left;simp only [ptrsL,V.qq,List.append_nil];exact qD.2 ⟨_,List.mem_of_getElem? hz,hr⟩
 ·obtain ⟨z',hz,he⟩:=qc.1 hx;obtain ⟨rfl,_⟩:=Prod.mk.inj he;have hvl:∀{xs:List V} {s:Array Value->Sem Value} {z':V},((toValL xs).bind λvs=>(valOf P (s vs.toArray)).map qb1)=some z'->z'.qq=[]:=λh=>by
   obtain ⟨vs,_,h⟩:=qd.1 h;exact hval h
  unfold qdO at hz;intro r hr;split at hz
  ·split at hz
   ·simp only [qb]at hz;subst hz;simp [V.qq]at hr
   ·simp at hz
  ·rename_i x y;rcases Option.or_eq_some_iff.1 hz with hz|⟨_,hz⟩
   rotate_left
   ·rcases Option.or_eq_some_iff.1 hz with hz|⟨_,hz⟩
    ·unfold qel at hz;split at hz
     ·split at hz
      ·simp only [qb]at hz;subst hz;simp [V.qq]at hr
      ·cases hz
     ·cases hz
    ·unfold qgr at hz;split at hz
     ·split at hz
      ·split at hz<;>(simp only [qb]at hz;subst hz;simp [V.qq]at hr)
      ·cases hz
     ·cases hz
   rw [qne]at hz;split at hz
   ·split at hz
    ·simp at hz
    ·simp only at hz;split at hz
     ·simp at hz
     ·split at hz
      ·split at hz
       ·simp only [qb]at hz;subst hz;simp [V.qq]at hr
       ·split at hz
        ·simp only [qb]at hz;subst hz;simp [V.qq]at hr
        ·simp at hz
      ·split at hz
       ·split at hz
        ·simp only [qb]at hz;subst hz;simp [V.qq]at hr
        ·split at hz
         ·split at hz
          ·simp only [qb]at hz;subst hz;simp [V.qq]at hr
          ·simp only [qb]at hz;subst hz;simp [V.qq]at hr
         ·simp at hz
       ·simp at hz
      ·simp at hz
   ·simp at hz
  ·simp at hz
  ·simp at hz
  ·rw [hvl (s:=Builtin.cap_ _ _) hz]at hr;simp at hr
  ·rw [hvl (s:=Builtin.len_ _ _) hz]at hr;simp at hr
  ·rw [hvl (s:=Builtin.max_ _ _) hz]at hr;simp at hr
  ·rw [hvl (s:=Builtin.min_ _ _) hz]at hr;simp at hr
  ·rw [hvl (s:=Builtin.real_ _ _) hz]at hr;simp at hr
  ·rw [hvl (s:=Builtin.imag_ _ _) hz]at hr;simp at hr
  ·rw [hvl (s:=Builtin.complex_ _ _) hz]at hr;simp at hr
  ·simp at hz
 ·simp at hx
end
def qAX:List (Nat×(Array Value->Prop)):=[]
section
inductive Pl where
 |tmp (t:Nat)
 |box (r:Root)
 deriving DecidableEq
abbrev kv(e:MapEntry):Value×Value:=(e.key,e.val)
def qnk(w:World)(X:Cx)(b:Nat)(c:List V)(O:List Nat):Prop :=
 (∃cs t,w.heap[b]?=some (.cells cs t (0,0))/\RepL w X c cs.toList O) \/
 (∃s pe g env ps asg body lo,c=[.lp s pe g env ps asg body]/\w.heap[b]?=some (.loop lo)/\lo.state=s/\lo.pending=pe/\g=g/\lo.params.toList=ps/\lo.assign=asg/\lo.body=body /\
  RepL w X env lo.tmps.toList []/\O=[]) \/
 (∃es ents clock,c=[.mp es]/\w.heap[b]?=some (.map ents clock)/\ents.toList.map kv=es/\O=[])
structure Rel (st:St) (tmps:Array Value) (w:World) (X:Cx) (O:Pl->List Nat):Prop where
 size:tmps.size=st.E.length
 env:∀t x,st.E[t]?=some x->∃v,tmps[t]?=some v/\Rep w X x v (O (.tmp t))
 envD:∀t,st.E.length<=t->O (.tmp t)=[]
 box:∀r c,st.box r=some c->∃b,X.β r=some b/\b<w.heap.size/\X.ω b=none/\qnk w X b c (O (.box r))
 boxD:∀r,st.box r=none->O (.box r)=[]
 inj:∀r r' b,(st.box r).isSome=true->(st.box r').isSome=true->X.β r=some b->X.β r'=some b->r=r'
 lin:∀p,Lin (O p)
 dis:∀p q,p≠q->∀b∈O p,b∉O q
 ptrE:∀r∈ptrsL st.E,(st.box r).isSome=true
 ptrB:∀r c,st.box r=some c->∀r'∈ptrsL c,(st.box r').isSome=true
 up:∀r c,st.box r=some c->∀r'∈ptrsL c,r'.lvl<=r.lvl
 dom:Dom w X
structure Md where
 may:Nat->Prop
 kind:Root->Option Bool
instance:CoeFun Md (λ_=>Nat->Prop):=⟨Md.may⟩
def qlo(w:World)(X:Cx):Prop:=∀x∈qAX,(∃e,X.ω x.1=some (e,true))/\∃arr t fr,w.heap[x.1]?=some (.cells arr t fr)/\x.2 arr
theorem qlo.of{w w':World}{X X':Cx}(h:qlo w X)(hg:∀x∈qAX,∀e,X.ω x.1=some (e,true)->(∃e',X'.ω x.1=some (e',true))/\w'.heap[x.1]?=w.heap[x.1]?):qlo w' X':=λx hx=>by
 obtain ⟨⟨e,h1⟩,arr,t,fr,h2,h3⟩:=h x hx;obtain ⟨g1,g2⟩:=hg x hx e h1;exact ⟨g1,arr,t,fr,by rw [g2];exact h2,h3⟩
theorem qlo.lt{w:World}{X:Cx}(h:qlo w X){x:Nat×(Array Value->Prop)}(hx:x∈qAX):x.1<w.heap.size:=by
 obtain ⟨_,arr,t,fr,h2,_⟩:=h x hx;exact (Array.getElem?_eq_some_iff.1 h2).1
structure Fr (w0:World) (X0:Cx) (M:Md) (n:Nat) (st:St) (w:World) (X:Cx) (O:Pl->List Nat):Prop where
 size:w0.heap.size<=w.heap.size
 kept:∀b,b<w0.heap.size->¬ M b->w.heap[b]?=w0.heap[b]?/\X.ω b=X0.ω b
 grew:∀b e fz,X0.ω b=some (e,fz)->∃e' fz',X.ω b=some (e',fz')/\e<=e'/\(fz=true->fz'=true)/\∀i v,i<e->w0.cell? ⟨b,i,none⟩=some v->w.cell? ⟨b,i,none⟩=some v
 β:∀r,r.lvl<n->X.β r=X0.β r
 own:∀p,∀b∈O p,w0.heap.size<=b\/M b
 boxM:∀r b,(st.box r).isSome=true->X.β r=some b->w0.heap.size<=b\/M b
 lev:st.L.length=n
 live:∀r,r.lvl<n->(st.box r).map q3=M.kind r
 os:w.os=w0.os
 out:w.output=w0.output
 tape:w.tape=w0.tape
 gl:qlo w0 X0
 gm:∀x∈qAX,¬ M.may x.1
theorem Fr.now{w0:World}{X0:Cx}{M:Md}{n:Nat}{st:St}{w:World}{X:Cx}{O:Pl->List Nat}(h:Fr w0 X0 M n st w X O):qlo w X:=h.gl.of λx hx e hω=>by
 obtain ⟨h1,h2⟩:=h.kept x.1 (h.gl.lt hx) (h.gm x hx);exact ⟨⟨e,by rw [h2];exact hω⟩,h1⟩
variable {P:Program} {H:Hints} {f:FuncId} {w:World} {X:Cx}
mutual
theorem rep_own:∀(x:V) (v:Value) (O:List Nat),Rep w X x v O->∀b∈O,∃e,X.ω b=some (e,false)
 |.undef,_,_,h=>by simp only [Rep]at h;simp [h]
 |.val _,_,_,h=>by simp only [Rep]at h;simp [h.2]
 |.ptr ..,_,_,h=>by simp only [Rep]at h;simp [h.1]
 |.yld _,_,_,h=>by simp only [Rep]at h;simp [h.1]
 |.mref _,_,_,h=>by simp only [Rep]at h;simp [h.1]
 |.bsl ..,_,_,h=>by simp only [Rep]at h;simp [h.1]
 |.cptr ..,_,_,h=>by simp only [Rep]at h;simp [h.1]
 |.room s n,v,O,h=>by
  simp only [Rep]at h;obtain ⟨b,cap,_,_,_,rfl,hω,_⟩:=h;intro k hk;rw [show k=b by simpa using hk];exact ⟨0,hω⟩
 |.sl f c l,v,O,h=>by
  simp only [Rep]at h;obtain ⟨_,h⟩:=h;rcases h with ⟨_,h0,_⟩|⟨b,off,cap,s,vals,O',_,_,_,_,_,_,_,⟨e,fz,hω,_,hf⟩,he,ho,ho'⟩
  ·simp [h0]
  ·have ih:=repE_own s l vals O' he;by_cases hown:f=.own
   ·subst hown;rw [ho rfl];intro b' hb';rcases qk.1 hb' with rfl|hb'
    ·obtain ⟨rfl,_⟩:=hf;exact ⟨e,hω⟩
    ·exact ih _ hb'
   ·simp [(ho' hown).1]
 |.fn f a c,v,O,h=>by
  simp only [Rep]at h;obtain ⟨va,vc,O1,O2,_,rfl,h1,h2⟩:=h;intro b hb;rcases qj.1 hb with hb|hb
  ·exact repL_own a va O1 h1 b hb
  ·exact repL_own c vc O2 h2 b hb
 |.iface t x,v,O,h=>by simp only [Rep]at h;obtain ⟨u,_,h1⟩:=h;exact rep_own x u O h1
 |.agg l,v,O,h=>by simp only [Rep]at h;obtain ⟨vals,_,h1⟩:=h;exact repL_own l vals O h1
 |.tuple l,v,O,h=>by simp only [Rep]at h;obtain ⟨vals,_,h1⟩:=h;exact repL_own l vals O h1
 |.lp ..,_,_,h=>by simp only [Rep]at h
 |.mp _,_,_,h=>by simp only [Rep]at h
theorem repL_own:∀(l:List V) (vals:List Value) (O:List Nat),RepL w X l vals O->∀b∈O,∃e,X.ω b=some (e,false)
 |[],_,_,h=>by simp only [RepL]at h;simp [h.2]
 |x::l,vals,O,h=>by
  simp only [RepL]at h;obtain ⟨u,vs,O1,O2,_,rfl,h1,h2⟩:=h;intro b hb;rcases qj.1 hb with hb|hb
  ·exact rep_own x u O1 h1 b hb
  ·exact repL_own l vs O2 h2 b hb
theorem repE_own(s:Nat):∀(l:List V) (vals:List Value) (O:List Nat),RepE w X s l vals O->∀b∈O,∃e,X.ω b=some (e,false)
 |[],_,_,h=>by simp only [RepE]at h;simp [h.2]
 |x::l,vals,O,h=>by
  simp only [RepE]at h;obtain ⟨u,vs,O1,O2,_,_,rfl,h1,h2⟩:=h;intro b hb;rcases qj.1 hb with hb|hb
  ·exact rep_own x u O1 h1 b hb
  ·exact repE_own s l vs O2 h2 b hb
end
theorem qnk.own{b:Nat}{c:List V}{O:List Nat}(h:qnk w X b c O):∀k∈O,∃e,X.ω k=some (e,false):=by
 rcases h with ⟨cs,t,_,h⟩|⟨s,pe,g,env,ps,asg,body,lo,_,_,_,_,_,_,_,_,_,rfl⟩|⟨es,ents,ck,_,_,_,rfl⟩
 ·exact repL_own c _ O h
 ·simp
 ·simp
theorem Rel.ownω{st:St}{tmps:Array Value}{O:Pl->List Nat}(h:Rel st tmps w X O):∀p,∀b∈O p,∃e,X.ω b=some (e,false):=by
 intro p b hb;cases p with
 |tmp t =>
  by_cases hlt:t<st.E.length
  ·obtain ⟨v,_,hr⟩:=h.env t _ (List.getElem?_eq_getElem hlt);exact rep_own _ _ _ hr b hb
  ·rw [h.envD t (by omega)]at hb;simp at hb
 |box r =>
  cases hr:st.box r with
  |none=>rw [h.boxD r hr]at hb;simp at hb
  |some c=>obtain ⟨k,_,_,_,hbx⟩:=h.box r c hr;exact hbx.own b hb
theorem Rel.qyV{st:St}{tmps:Array Value}{O:Pl->List Nat}(h:Rel st tmps w X O):∀p,∀b∈O p,b<w.heap.size:=λp b hb=>by
 obtain ⟨e,he⟩:=h.ownω p b hb;exact h.dom _ _ _ he
theorem qaN:∀(T:List Tmp) (E:List V),(qA E T).length=E.length
 |[],E=>rfl
 |t::T,E=>by simp only [qA,List.foldl_cons];rw [show (T.foldl (λE t=>E.modify t V.q5) (E.modify t V.q5))=qA (E.modify t V.q5) T from rfl,qaN T];simp
theorem qjF:∀(T:List Tmp) (E:List V) (t:Nat) (x':V),(qA E T)[t]?=some x' ->
  ∃x,E[t]?=some x/\x'.qq=x.qq/\((t∉T/\x'=x)\/(t∈T/\∀(w:World) (X:Cx) v O,Rep w X x v O->Rep w X x' v []))
 |[],E,t,x',h=>⟨x',by simpa [qA]using h,rfl,.inl ⟨by simp,rfl⟩⟩
 |s::T,E,t,x',h=>by
  have h':(qA (E.modify s V.q5) T)[t]?=some x':=h;obtain ⟨y,hy,hp,hc⟩:=qjF T _ t x' h';rw [List.getElem?_modify]at hy;by_cases hst:s=t
  ·subst hst;simp only [if_true]at hy;cases hE:E[s]? with
   |none=>simp [hE]at hy
   |some x =>
    simp [hE]at hy;subst hy;refine ⟨x,rfl,by rw [hp,qg0],.inr ⟨by simp,λw X v O hr=>?_⟩⟩;rcases hc with ⟨_,rfl⟩|⟨_,hd⟩
    ·exact qgh hr
    ·exact hd w X v [] (qgh hr)
  ·simp only [hst,if_false,Option.map_eq_map]at hy;refine ⟨y,by simpa using hy,hp,?_⟩;rcases hc with ⟨h1,h2⟩|⟨h1,h2⟩
   ·exact .inl ⟨by simp [h1,Ne.symm hst],h2⟩
   ·exact .inr ⟨by simp [h1],h2⟩
theorem mem_set{r:Root}{l:List V}{d:Nat}{z:V}(h:r∈ptrsL (l.set d z)):r∈ptrsL l\/r∈z.qq:=by
 obtain ⟨x,hx,hr⟩:=qD.1 h;rcases List.mem_or_eq_of_mem_set hx with hx|rfl
 ·exact .inl (qD.2 ⟨x,hx,hr⟩)
 ·exact .inr hr
theorem qn1{r:Root}{E:List V}{T:List Tmp}(h:r∈ptrsL (qA E T)):r∈ptrsL E:=by
 obtain ⟨x,hx,hr⟩:=qD.1 h;obtain ⟨t,ht,hx⟩:=List.mem_iff_getElem.1 hx;obtain ⟨y,hy,hp,_⟩:=qjF T E t x (by rw [List.getElem?_eq_getElem ht,hx]);exact qD.2 ⟨y,List.mem_of_getElem? hy,by rw [<- hp];exact hr⟩
def qg1(O:Pl->List Nat)(T:List Tmp)(d:Option Tmp)(len:Nat)(O':List Nat):Pl->List Nat
 |.tmp t=>if d=some t/\t<len then O' else if t∈T then []else O (.tmp t)
 |.box r=>O (.box r)
theorem qfi(st:St)(d:Option Tmp)(z:V)(r:Root):(st.put d z).box r=st.box r:=by
 cases d<;>rfl
theorem qnk.qgM{w':World}{X':Cx}{b:Nat}{c:List V}{O:List Nat}(h:qnk w X b c O)(hb:w'.heap[b]?=w.heap[b]?)(hr:∀l vals O',(∀r∈ptrsL l,r∈ptrsL c)->(∀k∈O',k∈O)->RepL w X l vals O'->RepL w' X' l vals O'):qnk w' X' b c O:=by
 rcases h with ⟨cs,t,h1,h2⟩|⟨s,pe,g,env,ps,asg,body,lo,rfl,h1,h2,h3,h4,h5,h6,h7,h8,rfl⟩|⟨es,ents,ck,rfl,h1,h2,rfl⟩
 ·exact .inl ⟨cs,t,by rw [hb];exact h1,hr _ _ _ (λ_ h=>h) (λ_ h=>h) h2⟩
 ·exact .inr (.inl ⟨s,pe,g,env,ps,asg,body,lo,rfl,by rw [hb];exact h1,h2,h3,h4,h5,h6,h7,hr _ _ _ (λr hr=>by simpa [ptrsL,V.qq]using hr) (λ_ h=>h) h8,rfl⟩)
 ·exact .inr (.inr ⟨es,ents,ck,rfl,by rw [hb];exact h1,h2,rfl⟩)
def qmG(tmps:Array Value)(d:Option Tmp)(v:Value):Array Value:=match d with|some d=>tmps.setIfInBounds d v|none=>tmps
theorem Rel.put{st:St}{tmps:Array Value}{O:Pl->List Nat}(h:Rel st tmps w X O){T:List Tmp}{Oin O':List Nat}{w':World}{X':Cx}{z:V}{v:Value}(d:Option Tmp)
  (hin:∀b∈Oin,∃t∈T,b∈O (.tmp t)) (he:Eff w X w' X' Oin) (hz:Rep w' X' z v O') (hl:Lin O') (hfree:∀b∈O',∀q,(∀t∈T,q≠.tmp t)->b∉O q) (hp:∀r∈z.qq,(st.box r).isSome=true) :
  Rel (({st with E:=qA st.E T}:St).put d z) (qmG tmps d v) w' X' (qg1 O T d st.E.length O'):=by
 have hext:∀{l:List V} {vals:List Value} {A:List Nat},(∀b∈A,b∉Oin)->RepL w X l vals A->RepL w' X' l vals A:=λhA hr=>RepL.ext (he.ext h.dom (ptrsL _)) _ _ _ (λ_ h=>h) hA hr;have hext1:∀{x:V} {u:Value} {A:List Nat},(∀b∈A,b∉Oin)->Rep w X x u A->Rep w' X' x u A:=λhA hr=>Rep.ext (he.ext h.dom (V.qq _)) _ _ _ (λ_ h=>h) hA hr;have hnotin:∀p,(∀t∈T,p≠.tmp t)->∀b∈O p,b∉Oin:=λp hp b hb hbi=>by
  obtain ⟨t,ht,hbt⟩:=hin b hbi;exact h.dis p (.tmp t) (hp t ht) b hb hbt
 have henv1:∀t x,(qA st.E T)[t]?=some x->∃u,tmps[t]?=some u/\Rep w' X' x u (if t∈T then []else O (.tmp t)):=by
  intro t x hx;obtain ⟨y,hy,_,hc⟩:=qjF T st.E t x hx;obtain ⟨u,hu,hr⟩:=h.env t y hy;refine ⟨u,hu,?_⟩;rcases hc with ⟨hn,rfl⟩|⟨hm,hd⟩
  ·rw [if_neg hn];exact hext1 (hnotin (.tmp t) (λs hs e=>hn (by cases e;exact hs))) hr
  ·rw [if_pos hm];exact hext1 (by simp) (hd w X u _ hr)
 have hlenE:(({st with E:=qA st.E T}:St).put d z).E.length=st.E.length:=by cases d<;>simp [St.put,qaN]
 refine {size:=?_,env:=?_,envD:=?_,box:=?_,boxD:=?_,inj:=?_,lin:=?_,dis:=?_,ptrE:=?_,ptrB:=?_,up:=λr c hr=>by rw [qfi]at hr;exact h.up r c hr,dom:=he.dom}
 ·rw [hlenE,<- h.size];cases d<;>simp [qmG]
 ·intro t x hx;cases d with
  |none =>
   obtain ⟨u,hu,hr⟩:=henv1 t x (by simpa [St.put]using hx);exact ⟨u,by simpa [qmG]using hu,by simpa [qg1]using hr⟩
  |some d =>
   have hx':((qA st.E T).set d z)[t]?=some x:=hx;have hlt:t<st.E.length:=by have:=(qm.1 hx').1;simpa [qaN]using this
   by_cases hdt:d=t
   ·subst hdt;rw [List.getElem?_set_self (by rw [qaN];exact hlt)]at hx';cases hx'
    refine ⟨v,by simp [qmG,h.size,hlt],by simpa [qg1,hlt]using hz⟩
   ·rw [List.getElem?_set_ne hdt]at hx';obtain ⟨u,hu,hr⟩:=henv1 t x hx';refine ⟨u,by simp [qmG,hdt,hu],by simpa [qg1,hdt]using hr⟩
 ·intro t ht;rw [hlenE]at ht;simp only [qg1];rw [if_neg (by omega)];split
  ·rfl
  ·exact h.envD t ht
 ·intro r c hr;rw [qfi]at hr;obtain ⟨b,hb,hlt,hω,hbx⟩:=h.box r c hr;have hnb:b∉Oin:=λhbi=>by
   obtain ⟨t,_,hbt⟩:=hin b hbi;obtain ⟨e,he⟩:=h.ownω _ b hbt;rw [hω]at he;cases he
  refine ⟨b,by rw [he.β];exact hb,Nat.lt_of_lt_of_le hlt he.size,by rw [he.ωk b hlt hnb];exact hω,hbx.qgM (he.kept b hlt hnb) (λl vals A _ hA hr=>hext (λk hk=>hnotin (.box r) (λt _ e=>by cases e) k (hA k hk)) hr)⟩
 ·intro r hr;rw [qfi]at hr;exact h.boxD r hr
 ·intro r r' b h1 h2 h3 h4;rw [qfi]at h1 h2;rw [he.β]at h3 h4;exact h.inj r r' b h1 h2 h3 h4
 ·intro p;cases p with
  |tmp t=>simp only [qg1];split;exact hl;split;exact Lin.nil;exact h.lin _
  |box r=>exact h.lin _
 ·have key:∀t,d=some t->t<st.E.length->∀b∈O',∀q,q≠.tmp t->b∉qg1 O T d st.E.length O' q:=by
   intro t hd hlt b hb q hq hbq;have hbO:(∀s∈T,q≠.tmp s)/\b∈O q:=by
    cases q with
    |tmp s =>
     simp only [qg1]at hbq;rw [if_neg (by rintro ⟨e,_⟩;rw [hd]at e;cases e;exact hq rfl)]at hbq;split at hbq
     ·simp at hbq
     ·rename_i hn;exact ⟨λs' hs' e=>by cases e;exact hn hs',hbq⟩
    |box r=>exact ⟨λ_ _ e=>(by cases e),hbq⟩
   exact hfree b hb q hbO.1 hbO.2
  have hsub:∀p b,b∈qg1 O T d st.E.length O' p->(∃t,p=.tmp t/\d=some t/\t<st.E.length/\b∈O')\/b∈O p:=by
   intro p b hb;cases p with
   |tmp t =>
    simp only [qg1]at hb;split at hb
    ·rename_i hc;exact .inl ⟨t,rfl,hc.1,hc.2,hb⟩
    ·split at hb
     ·simp at hb
     ·exact .inr hb
   |box r=>exact .inr hb
  intro p q hpq b hb hbq;rcases hsub p b hb with ⟨t,rfl,hd,hlt,hbO⟩|hbp
  ·exact key t hd hlt b hbO q (Ne.symm hpq) hbq
  ·rcases hsub q b hbq with ⟨t,rfl,hd,hlt,hbO⟩|hbq'
   ·exact key t hd hlt b hbO p hpq hb
   ·exact h.dis p q hpq b hbp hbq'
 ·intro r hr;rw [qfi];cases d with
  |none=>exact h.ptrE r (qn1 hr)
  |some d =>
   rcases mem_set (l:=qA st.E T) hr with hr|hr
   ·exact h.ptrE r (qn1 hr)
   ·exact hp r hr
 ·intro r c hr r' hr';rw [qfi]at hr ⊢;exact h.ptrB r c hr r' hr'
theorem Rel.free{st:St}{tmps:Array Value}{O:Pl->List Nat}(h:Rel st tmps w X O){T:List Tmp}{Oin O':List Nat}(hin:∀b∈Oin,∃t∈T,b∈O (.tmp t))(hO':∀b∈O',b∈Oin\/w.heap.size<=b) :
  ∀b∈O',∀q,(∀t∈T,q≠.tmp t)->b∉O q:=λb hb q hq hbq=>by
 rcases hO' b hb with h1|h1
 ·obtain ⟨t,ht,hbt⟩:=hin b h1;exact h.dis q (.tmp t) (hq t ht) b hbq hbt
 ·have:=h.qyV q b hbq;omega
theorem Fr.put{w0:World}{X0:Cx}{M:Md}{n:Nat}{st:St}{tmps:Array Value}{O:Pl->List Nat}(h:Rel st tmps w X O)(hF:Fr w0 X0 M n st w X O){T:List Tmp}{Oin O':List Nat}{w':World}{X':Cx}{z:V}(d:Option Tmp)
  (hin:∀b∈Oin,∃t∈T,b∈O (.tmp t)) (he:Eff w X w' X' Oin) (hO':∀b∈O',b∈Oin\/w.heap.size<=b) :
  Fr w0 X0 M n (({st with E:=qA st.E T}:St).put d z) w' X' (qg1 O T d st.E.length O') where
 size:=Nat.le_trans hF.size he.size
 kept:=λb hb hM=>by
  have hnb:b∉Oin:=λhbi=>by
   obtain ⟨t,_,hbt⟩:=hin b hbi;rcases hF.own _ b hbt with h1|h1
   ·omega
   ·exact hM h1
  have hlt:=Nat.lt_of_lt_of_le hb hF.size;obtain ⟨h1,h2⟩:=hF.kept b hb hM;exact ⟨by rw [he.kept b hlt hnb,h1],by rw [he.ωk b hlt hnb,h2]⟩
 grew:=λb e fz hω=>by
  obtain ⟨e1,fz1,h1,h2,h3,h4⟩:=hF.grew b e fz hω;by_cases hb:b∈Oin
  ·obtain ⟨e2,fz2,h5,h6,h6',h7,_⟩:=he.own b hb e1 fz1 h1;exact ⟨e2,fz2,h5,by omega,λhz=>h6' (h3 hz),λi v hi hc=>h7 i v (by omega) (h4 i v hi hc)⟩
  ·have hlt:=h.dom b e1 fz1 h1;exact ⟨e1,fz1,by rw [he.ωk b hlt hb];exact h1,h2,h3,λi v hi hc=>by rw [qC (he.kept b hlt hb)];exact h4 i v hi hc⟩
 β:=λr hr=>by rw [he.β];exact hF.β r hr
 own:=λp b hb=>by
  have hO:b∈O'\/b∈O p:=by
   cases p with
   |tmp t =>
    simp only [qg1]at hb;split at hb
    ·exact .inl hb
    ·split at hb
     ·simp at hb
     ·exact .inr hb
   |box r=>exact .inr hb
  rcases hO with hb|hb
  ·rcases hO' b hb with h1|h1
   ·obtain ⟨t,_,hbt⟩:=hin b h1;exact hF.own _ b hbt
   ·exact .inl (Nat.le_trans hF.size h1)
  ·exact hF.own p b hb
 boxM:=λr b hr hb=>by rw [qfi]at hr;rw [he.β]at hb;exact hF.boxM r b hr hb
 lev:=by cases d<;>exact hF.lev
 live:=λr hr=>by rw [qfi];exact hF.live r hr
 os:=by rw [he.os,hF.os]
 out:=by rw [he.out,hF.out]
 tape:=by rw [he.tape,hF.tape]
 gl:=hF.gl
 gm:=hF.gm
end
section
variable {P:Program} {H:Hints} {f:FuncId} {w:World} {X:Cx}
def qfq(l:List Operand):List Tmp:=l.filterMap λ| .tmp t=>some t|_=>none
theorem qmk{t:Tmp}{l:List Tmp}(h:qcb (t::l)=true):t∉l/\qcb l=true:=by
 simp only [qcb,qe,Bool.not_eq_true']at h;exact ⟨by simpa using h.1,h.2⟩
theorem qbj{st:St}{a:Act}{O:Pl->List Nat}(h:Rel st a.tmps w X O)(o:Oper):∀(l:List Operand),(q7 H f o=true->qcb (qfq l)=true) ->
  ∃Oin,RepL w X (l.map (rd H f o st.E)) (l.map a.eval) Oin/\(∀b∈Oin,q7 H f o=true/\∃t∈qfq l,b∈O (.tmp t))/\Lin Oin
 |[],_=>⟨[],by simp [RepL],by simp,Lin.nil⟩
 |x::l,hn=>by
  have hrec:q7 H f o=true->qcb (qfq l)=true:=λht=>by
   have:=hn ht;cases x with
   |tmp t=>exact (qmk (by simpa [qfq]using this)).2
   |_=>simpa [qfq]using this
  obtain ⟨A,hA,hAs,hAl⟩:=qbj h o l hrec;have hsub:∀t,t∈qfq l->t∈qfq (x::l):=λt ht=>by
   cases x<;>simp_all [qfq]
  cases x with
  |tmp t =>
   have hv:∃B,Rep w X (rd H f o st.E (.tmp t)) (a.eval (.tmp t)) B/\(∀b∈B,q7 H f o=true/\b∈O (.tmp t))/\Lin B:=by
    by_cases hlt:t<st.E.length
    ·obtain ⟨v,hv,hr⟩:=h.env t _ (List.getElem?_eq_getElem hlt);have e1:a.eval (.tmp t)=v:=by
      simp only [Act.eval];rw [Array.getD_eq_getD_getElem?,hv];rfl
     have e2:st.E.getD t .undef=st.E[t]:=by simp [hlt]
     by_cases htk:q7 H f o=true
     ·exact ⟨O (.tmp t),by rw [e1];simp only [rd,htk,if_true,e2];exact hr,λb hb=>⟨htk,hb⟩,h.lin _⟩
     ·exact ⟨[],by rw [e1];simp only [rd,htk,e2];exact qgh hr,by simp,Lin.nil⟩
    ·have e2:st.E.getD t .undef=.undef:=by simp [List.getElem?_eq_none (Nat.not_lt.1 hlt)]
     refine ⟨[],?_,by simp,Lin.nil⟩;simp only [rd,e2];split<;>simp [Rep,V.q5,V.reflag]
   obtain ⟨B,hB,hBs,hBl⟩:=hv;refine ⟨B++A,by simp only [qh,RepL];exact ⟨_,_,B,A,rfl,rfl,hB,hA⟩,λb hb=>?_,λb=>?_⟩
   ·rcases qj.1 hb with hb|hb
    ·exact ⟨(hBs b hb).1,t,by simp [qfq],(hBs b hb).2⟩
    ·obtain ⟨h1,s,hs,hb⟩:=hAs b hb;exact ⟨h1,s,hsub s hs,hb⟩
   ·rw [List.count_append];have h1:=hBl b;have h2:=hAl b;by_cases hb:b∈B
    ·have:A.count b=0:=List.count_eq_zero.2 λhbA=>by
      obtain ⟨htk,s,hs,hbs⟩:=hAs b hbA;have hts:t≠s:=λe=>(qmk (by simpa [qfq]using hn htk)).1 (by subst e;exact hs);exact h.dis (.tmp t) (.tmp s) (λe=>hts (by cases e;rfl)) b (hBs b hb).2 hbs
     omega
    ·have:B.count b=0:=List.count_eq_zero.2 hb;omega
  |const v =>
   refine ⟨A,by simp only [qh,RepL];exact ⟨_,_,[],A,rfl,rfl,by simp only [rd,Act.eval];exact qeS _ _,hA⟩,λb hb=>?_,hAl⟩;obtain ⟨h1,s,hs,hb⟩:=hAs b hb;exact ⟨h1,s,hsub s hs,hb⟩
  |func g =>
   refine ⟨A,by simp only [qh,RepL];exact ⟨_,_,[],A,rfl,rfl,by simp only [rd,Act.eval,Rep];exact ⟨[],[],[],[],rfl,rfl,by simp [RepL],by simp [RepL]⟩,hA⟩,λb hb=>?_,hAl⟩;obtain ⟨h1,s,hs,hb⟩:=hAs b hb;exact ⟨h1,s,hsub s hs,hb⟩
  |global g =>
   refine ⟨A,by simp only [qh,RepL];exact ⟨_,_,[],A,rfl,rfl,by simp [rd,Rep],hA⟩,λb hb=>?_,hAl⟩;obtain ⟨h1,s,hs,hb⟩:=hAs b hb;exact ⟨h1,s,hsub s hs,hb⟩
theorem qlL{E:List V}{t:Nat}{r:Root}(h:r∈(E.getD t .undef).qq):r∈ptrsL E:=by
 by_cases hlt:t<E.length
 ·have e2:E.getD t .undef=E[t]:=by simp [hlt]
  rw [e2]at h;exact qD.2 ⟨_,List.getElem_mem hlt,h⟩
 ·have e2:E.getD t .undef=.undef:=by simp [List.getElem?_eq_none (by omega:E.length<=t)]
  rw [e2]at h;simp [V.qq]at h
theorem qmI{o:Oper}{E:List V}{x:Operand}{r:Root}(h:r∈(rd H f o E x).qq):r∈ptrsL E:=by
 cases x with
 |tmp t =>
  simp only [rd]at h;split at h
  ·exact qlL h
  ·rw [qg0]at h;exact qlL h
 |const v=>simp only [rd]at h;rw [qce]at h;simp at h
 |func g=>simp [rd,V.qq,ptrsL]at h
 |global g=>simp [rd,V.qq]at h
theorem qtX{o:Oper}{E:List V}{l:List Operand}{r:Root}(h:r∈ptrsL (l.map (rd H f o E))):r∈ptrsL E:=by
 obtain ⟨x,hx,hr⟩:=qD.1 h;obtain ⟨y,_,rfl⟩:=List.mem_map.1 hx;exact qmI hr
def Sim(w0:World)(X0:Cx)(M:Md)(n:Nat)(st:St)(tmps:Array Value)(w:World):Prop:=∃X O,Rel st tmps w X O/\Fr w0 X0 M n st w X O
theorem qnJ(E:List V):qA E []=E:=rfl
theorem qvn{w0:World}{X0:Cx}{M:Md}{n:Nat}{st:St}{a:Act}{O:Pl->List Nat}{o:Oper}{z:V}(h:Rel st a.tmps w X O)(hF:Fr w0 X0 M n st w X O)
  (hn:q7 H f o=true->qcb (tmpsOf o)=true) (hx:qaG P H f (q7 H f o) o.op o.type (o.op.operands.toList.map (rd H f o st.E)) none=some (z,none)) :
  ∃v w',(execOp a.eval o).run P w=.ok (.value v) w'/\Sim w0 X0 M n ((if q7 H f o then {st with E:=qA st.E (tmpsOf o)}else st).put o.dst z) (a.put o.dst v).tmps w':=by
 obtain ⟨Oin,hrep,hs,hlin⟩:=qbj h o _ hn;obtain ⟨v,w',X',O',hrun,heff,hz,hl,hO'⟩:=qtO h.dom hlin hx hrep;refine ⟨v,w',hrun,X',?_⟩;have hp:∀r∈z.qq,(st.box r).isSome=true:=λr hr=>by
  rcases qu0 hx r hr with h1|⟨cs,h1,_⟩
  ·exact h.ptrE r (qtX h1)
  ·simp at h1
 have hput:(a.put o.dst v).tmps=qmG a.tmps o.dst v:=by cases o.dst<;>rfl
 rw [hput];by_cases ht:q7 H f o=true
 ·rw [if_pos ht];exact ⟨_,h.put (T:=tmpsOf o) o.dst (λb hb=>(hs b hb).2) heff hz hl (h.free (λb hb=>(hs b hb).2) hO') hp,Fr.put h hF (T:=tmpsOf o) o.dst (λb hb=>(hs b hb).2) heff hO'⟩
 ·rw [if_neg ht];have hnil:Oin=[]:=by
   cases Oin with
   |nil=>rfl
   |cons b l=>exact absurd (hs b (by simp)).1 ht
  subst hnil;exact ⟨_,h.put (T:=[]) (Oin:=[]) o.dst (by simp) heff hz hl (h.free (Oin:=[]) (T:=[]) (by simp) hO') hp,Fr.put h hF (T:=[]) o.dst (by simp) heff hO'⟩
theorem qq2{B:Level}{s s':Nat}{c:List V}:qy (qdZ B s c) s'=if s'=s then (qy B s).map (λ_=>c)else qy B s':=by
 induction B with
 |nil=>simp [qdZ,qy]
 |cons p B ih =>
  obtain ⟨k,c0⟩:=p;simp only [qdZ];by_cases hk:k=s
  ·subst hk;by_cases hs:s'=k
   ·subst hs;simp [qy]
   ·simp [qy,hs,Ne.symm hs]
  ·simp only [hk,if_false,qy];by_cases hs:s'=s
   ·subst hs;simp [hk,ih]
   ·by_cases hks:k=s'
    ·simp [hks,hs]
    ·simp [hks,hs,ih]
theorem qV(st:St)(r r':Root)(c:List V):(st.qo r c).box r'=if r'=r then (st.box r).map (λ_=>c)else st.box r':=by
 obtain ⟨lvl,slot⟩:=r;obtain ⟨lvl',slot'⟩:=r';unfold St.qo St.box;by_cases h1:lvl=st.L.length
 ·simp only [h1,if_true];by_cases h2:lvl'=st.L.length
  ·subst h2;simp only [if_true,qq2,Root.mk.injEq,true_and]
  ·simp only [h2,if_false,Root.mk.injEq,false_and]
 ·simp only [h1,if_false,List.length_modify];by_cases h2:lvl'=st.L.length
  ·subst h2;simp only [if_true,Root.mk.injEq];rw [if_neg (by rintro ⟨h,_⟩;exact h1 h.symm)]
  ·simp only [h2,if_false,List.getElem?_modify,Root.mk.injEq];by_cases h3:lvl=lvl'
   ·subst h3;simp only [if_true,true_and];cases hl:st.L[lvl]? with
    |none=>simp
    |some b=>simp [qq2]
   ·simp only [h3,if_false,Ne.symm h3,false_and];cases st.L[lvl']?<;>simp
theorem qy7(st:St)(r:Root)(c:List V):(st.qo r c).L.length=st.L.length:=by
 unfold St.qo;split<;>simp
theorem qdN(st:St)(r:Root)(c:List V):(st.qo r c).E=st.E:=by
 unfold St.qo;split<;>rfl
theorem qk2(st:St)(d:Nat)(c:List V)(r:Root):({st with B:=(d,c)::st.B}:St).box r=if r=⟨st.L.length,d⟩then some c else st.box r:=by
 obtain ⟨lvl,slot⟩:=r;unfold St.box;by_cases h1:lvl=st.L.length
 ·subst h1;simp only [if_true,qy,Root.mk.injEq,true_and];by_cases h2:d=slot
  ·simp [h2]
  ·simp [h2,Ne.symm h2]
 ·simp only [h1,if_false,Root.mk.injEq,false_and]
theorem qhr{d:Nat}{c:List V}:∀{B:Level},qy B d=none->∀s,qy (qb2 d c B) s=if d=s then some c else qy B s
 |[],_,s=>rfl
 |(j,e)::l,h,s=>by
  simp only [qy]at h;split at h
  ·cases h
  ·rename_i hj;simp only [qb2];split
   ·simp only [qy]
   ·simp only [qy];rw [qhr h s];by_cases h1:j=s
    ·rw [if_pos h1,if_pos h1,if_neg (λe=>hj (by rw [h1,e]))]
    ·rw [if_neg h1,if_neg h1]
theorem qbF{d:Nat}{c:List V}{s:Nat}(hs:d≠s):∀B:Level,qy (qb2 d c B) s=qy B s
 |[]=>by simp only [qb2,qy,if_neg hs]
 |(j,e)::l=>by
  simp only [qb2];split
  ·simp only [qy,if_neg hs]
  ·simp only [qy];rw [qbF hs l]
theorem qqP{k k':Nat}{c c':List V}(hk:k≠k'):∀B:Level,qb2 k c (qb2 k' c' B)=qb2 k' c' (qb2 k c B)
 |[]=>by
  simp only [qb2];by_cases h:k<k'
  ·rw [if_pos h,if_neg (by omega)]
  ·rw [if_neg h,if_pos (by omega)]
 |(j,e)::l=>by
  simp only [qb2];by_cases h1:k<j
  ·by_cases h2:k'<j
   ·rw [if_pos h1,if_pos h2];simp only [qb2];by_cases h:k<k'
    ·rw [if_pos h,if_neg (by omega),if_pos h2]
    ·rw [if_neg h,if_pos h1,if_pos (by omega)]
   ·rw [if_pos h1,if_neg h2];simp only [qb2];rw [if_pos h1,if_neg (by omega),if_neg h2]
  ·by_cases h2:k'<j
   ·rw [if_neg h1,if_pos h2];simp only [qb2];rw [if_neg (by omega),if_neg h1,if_pos h2]
   ·rw [if_neg h1,if_neg h2];simp only [qb2];rw [if_neg h1,if_neg h2,qqP hk l]
theorem qrF{d s:Nat}{c e:List V}(hs:d≠s):∀B:Level,qdZ (qb2 d c B) s e=qb2 d c (qdZ B s e)
 |[]=>by simp only [qb2,qdZ,if_neg hs]
 |(j,x)::l=>by
  by_cases h1:d<j
  ·have e1:qb2 d c ((j,x)::l)=(d,c)::(j,x)::l:=by simp only [qb2,if_pos h1]
   rw [e1];by_cases h2:j=s
   ·simp only [qdZ,if_neg hs,if_pos h2,qb2,if_pos h1]
   ·simp only [qdZ,if_neg hs,if_neg h2,qb2,if_pos h1]
  ·have e1:qb2 d c ((j,x)::l)=(j,x)::qb2 d c l:=by simp only [qb2,if_neg h1]
   rw [e1];by_cases h2:j=s
   ·simp only [qdZ,if_pos h2,qb2,if_neg h1]
   ·simp only [qdZ,if_neg h2,qb2,if_neg h1];rw [qrF hs l]
theorem qqQ{d:Nat}{c:List V}:∀B:Level,∀k,k∈(qb2 d c B).map (·.1)↔k=d\/k∈B.map (·.1)
 |[],k=>by simp [qb2]
 |(j,e)::l,k=>by
  simp only [qb2];split
  ·simp
  ·simp only [qh,qk,qqQ l k];constructor
   ·rintro (h|h|h)<;>simp [h]
   ·rintro (h|h|h)<;>simp [h]
theorem qnV{d:Nat}{c:List V}:∀{B:Level},qy B d=none->(B.map (·.1)).Nodup->((qb2 d c B).map (·.1)).Nodup
 |[],_,_=>by simp [qb2]
 |(j,e)::l,h,hn=>by
  simp only [qy]at h;split at h
  ·cases h
  ·rename_i hj;simp only [qb2];have hd:d∉l.map (·.1):=λhm=>by
    clear hn;induction l with
    |nil=>simp at hm
    |cons x l ih =>
     obtain ⟨k,y⟩:=x;simp only [qy]at h;split at h
     ·cases h
     ·rename_i hk;simp only [qh,qk]at hm;rcases hm with hm|hm
      ·exact hk hm.symm
      ·exact ih h hm
   split
   ·simp only [qh,List.nodup_cons,qk,not_or]at hn ⊢;exact ⟨⟨λe=>hj e.symm,hd⟩,hn⟩
   ·simp only [qh,List.nodup_cons]at hn ⊢;refine ⟨λhm=>?_,qnV h hn.2⟩;rcases (qqQ l j).1 hm with h1|h1
    ·exact hj h1
    ·exact hn.1 h1
theorem qfV(st:St)(d:Nat)(c:List V)(hn:qy st.B d=none)(r:Root):({st with B:=qb2 d c st.B}:St).box r=if r=⟨st.L.length,d⟩then some c else st.box r:=by
 obtain ⟨lvl,slot⟩:=r;unfold St.box;by_cases h1:lvl=st.L.length
 ·subst h1;simp only [if_true,qhr hn,Root.mk.injEq,true_and];by_cases h2:d=slot
  ·simp [h2]
  ·simp [h2,Ne.symm h2]
 ·simp only [h1,if_false,Root.mk.injEq,false_and]
end
end Go.Ab
end
