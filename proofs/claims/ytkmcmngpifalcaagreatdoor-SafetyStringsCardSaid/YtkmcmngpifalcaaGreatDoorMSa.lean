/-
  ONE LAW OF A CHAPTER: its program side is run by an interpreter that is proved sound; what it computes is shown to be what the law says. No conditions. Part 1 of 8.
-/
import Derived.CallsIn
import Derived.Laws.Append
import Derived.Laws.AppendOwn
import Derived.Laws.MakeOwn
import Derived.Laws.World
import Derived.Laws.CopyRow
import Derived.Laws.Cells
import Derived.Laws.Entries
import Derived.Laws.Strings
import Derived.Laws.Tables
import Derived.Great.BuildSlice
import Derived.Laws.Slices
import Derived.Laws.BytesArg
import Derived.Lib.ItoaNum
set_option linter.unusedSimpArgs false
set_option linter.unusedVariables false
set_option linter.unnecessarySimpa false
section
theorem qa{α β : Type _}(a : α)(f : α→Option β) : (some a).bind f=f a := rfl
theorem qb{α : Type _}(a b : α) : (some a=some b)=(a=b) := Option.some.injEq a b
theorem qc{α β : Type _}{f : α→β}{x : Option α}{b : β} : x.map f=some b↔∃a, x=some a∧f a=b := Option.map_eq_some_iff
theorem qd{α β : Type _}{b : β}{o : Option α}{f : α→Option β} : o.bind f=some b↔∃a, o=some a∧f a=some b := Option.bind_eq_some_iff
theorem qe(a b : Bool) : ((a&&b)=true)=(a=true∧b=true) := Bool.and_eq_true a b
theorem qf : (false=true)=False := Bool.false_eq_true
theorem qg{α : Type _}{l₁ l₂ : List α}{i : Nat}(hn : i<l₁.length) : (l₁++l₂)[i]?=l₁[i]? := List.getElem?_append_left hn
theorem qh{α β : Type _}{f : α→β}{a : α}{l : List α} : (a::l).map f=f a::l.map f := rfl
theorem qi{α β : Type _}{a : α}{f : α→β} : (some a).map f=some (f a) := rfl
theorem qj{α : Type _}{a : α}{l m : List α} : a∈l++m↔a∈l∨a∈m := List.mem_append
theorem qk{α : Type _}{b a : α}{l : List α} : a∈b::l↔a=b∨a∈l := List.mem_cons
theorem qm{α : Type _}{l : List α}{i : Nat}{a : α} : l[i]?=some a↔∃h : i<l.length, l[i]=a := List.getElem?_eq_some_iff
namespace Go.Ab
open Go
inductive Fl where
 |own|q6|shared
 deriving DecidableEq
structure Root where
 lvl:Nat
 slot:Nat
 deriving DecidableEq
inductive V where
 |undef
 |val (v:Value)
 |ptr (r:Root) (off:Nat)
 |cptr (f:Fl) (cells:List V)
 |sl (f:Fl) (clip:Bool) (l:List V)
 |room (s n:Nat)
 |fn (f:FuncId) (first captured:List V)
 |yld (r:Root)
 |iface (t:TypeId) (v:V)
 |agg (l:List V)
 |tuple (l:List V)
 |mref (r:Root)
 |bsl (r:Root) (off n:Nat)
 |mp (es:List (Value×Value))
 |lp (state:LoopState) (pend:Option Code) (f:FuncId) (env:List V) (params:List Tmp) (assign body:Code)
instance:Inhabited V:=⟨.undef⟩
mutual
def V.reflag(g:Fl->Fl):V->V
 |.undef=>.undef
 |.val v=>.val v
 |.ptr r p=>.ptr r p
 |.cptr f cs=>.cptr (g f) (reflagL g cs)
 |.sl f c l=>.sl (g f) c (reflagL g l)
 |.room s n=>if g .own=.own then .room s n else if n=0 then .sl (g .own) false []else .undef
 |.fn f a b=>.fn f (reflagL g a) (reflagL g b)
 |.yld r=>.yld r
 |.iface t v=>.iface t (v.reflag g)
 |.agg l=>.agg (reflagL g l)
 |.tuple l=>.tuple (reflagL g l)
 |.mref r=>.mref r
 |.bsl r o n=>.bsl r o n
 |.mp es=>.mp es
 |.lp s pe f env ps a b=>.lp s pe f env ps a b
def reflagL(g:Fl->Fl):List V->List V
 |[]=>[]
 |v::l=>v.reflag g::reflagL g l
end
def qV:Fl->Fl
 |.own=>.q6
 |f=>f
def qK:Fl->Fl:=λ_=>.shared
def qis:Fl->Fl
 |.shared=>.q6
 |f=>f
def qha:Fl->Fl
 |.own=>.shared
 |f=>f
def qit:Fl->Fl
 |.q6=>.shared
 |f=>f
def V.q6(v:V):V:=v.reflag qV
def V.share(v:V):V:=v.reflag qK
def V.qa9(v:V):V:=v.reflag qis
def V.hand(v:V):V:=v.reflag qha
mutual
def V.loose:V->Bool
 |.cptr f l=>decide (f=.q6)||looseL l
 |.sl f _ l=>decide (f=.q6)||looseL l
 |.fn _ a b=>looseL a||looseL b
 |.iface _ v=>v.loose
 |.agg l=>looseL l
 |.tuple l=>looseL l
 |_=>false
def looseL:List V->Bool
 |[]=>false
 |v::l=>v.loose||looseL l
end
mutual
def V.qcB:V->Bool
 |.undef=>true
 |.room ..=>true
 |.val _=>true
 |.sl f _ l=>decide (f=.own)&&mineL l
 |.fn _ a b=>mineL a&&mineL b
 |.iface _ v=>v.qcB
 |.agg l=>mineL l
 |.tuple l=>mineL l
 |_=>false
def mineL:List V->Bool
 |[]=>true
 |v::l=>v.qcB&&mineL l
end
mutual
def V.owns:V->Bool
 |.room ..=>true
 |.cptr f l=>decide (f=.own)||ownsL l
 |.sl f _ l=>decide (f=.own)||ownsL l
 |.fn _ a b=>ownsL a||ownsL b
 |.iface _ v=>v.owns
 |.agg l=>ownsL l
 |.tuple l=>ownsL l
 |_=>false
def ownsL:List V->Bool
 |[]=>false
 |v::l=>v.owns||ownsL l
end
mutual
def V.qq:V->List Root
 |.ptr r _=>[r]
 |.yld r=>[r]
 |.mref r=>[r]
 |.bsl r _ _=>[r]
 |.cptr _ cs=>ptrsL cs
 |.fn _ a b=>ptrsL a++ptrsL b
 |.iface _ v=>v.qq
 |.agg l=>ptrsL l
 |.tuple l=>ptrsL l
 |.lp _ _ _ env _ _ _=>ptrsL env
 |_=>[]
def ptrsL:List V->List Root
 |[]=>[]
 |v::l=>v.qq++ptrsL l
end
def V.cells:V->List V
 |.agg l=>l
 |v=>[v]
def V.one:V->Bool
 |.val u=>match u with
  |.agg _=>false
  |.tuple _=>false
  |_=>true
 |.ptr .. | .cptr .. | .sl .. | .room .. | .fn .. | .yld _|.mref _|.bsl .. | .iface ..=>true
 |_=>false
def V.oks(x:V):Bool:=x.cells.all V.one
mutual
def V.toVal:V->Option Value
 |.val v=>some v
 |.agg l=>(toValL l).map λvs=>.agg vs.toArray
 |.tuple l=>(toValL l).map λvs=>.tuple vs.toArray
 |.iface t v=>v.toVal.map (.iface t)
 |_=>none
def toValL:List V->Option (List Value)
 |[]=>some []
 |v::l=>match v.toVal,toValL l with
  |some x,some xs=>some (x::xs)
  |_,_=>none
end
def qcl:Value->V
 |.agg cs=>.agg (cs.toList.map .val)
 |.tuple vs=>.tuple (vs.toList.map λ| .agg cs=>.agg (cs.toList.map .val)|v=>.val v)
 |v=>.val v
def qeR(precise:Bool):V:=if precise then .val (.slice none 0 0)else .sl .own false []
def qcJ(precise:Bool):Value->V
 |.slice none 0 0=>qeR precise
 |v=>.val v
def ofConst(precise:Bool):Value->V
 |.agg cs=>.agg (cs.toList.map (qcJ precise))
 |v=>qcJ precise v
def valOf{α:Type}(P:Program):Sem α->Option α
 |.pure a=>some a
 |.program k=>valOf P (k P)
 |.mark _ k=>valOf P k
 |_=>none
abbrev Level:=List (Nat×List V)
structure St where
 E:List V
 L:List Level
 B:Level
structure Hints where
 pairs:FuncId->Nat->List (Nat×Nat):=λ_ _=>[]
 take:FuncId->Tmp->Bool:=λ_ _=>false
 clear:FuncId->Nat->List Tmp:=λ_ _=>[]
 precise:FuncId->Bool:=λ_=>false
 link:FuncId->Tmp->Bool:=λ_ _=>false
 qjn:FuncId->Bool:=λ_=>false
 mapT:TypeId->Bool:=λ_=>false
 born:FuncId->Bool:=λ_=>false
 seq:FuncId->Option FuncId:=λ_=>none
 pre:FuncId->Nat->List Tmp:=λ_ _=>[]
 turn:FuncId->Option (List Int->Option (List Int)):=λ_=>none
 qep:FuncId->Bool:=λ_=>false
def St.put(st:St)(d:Option Tmp)(v:V):St :=
 match d with
 |some t=>{st with E:=st.E.set t v}
 |none=>st
def qw:Level->Nat->Option (List V)
 |[],_=>none
 |(k,c)::l,s=>if k=s then some c else qw l s
def qb3(k:Nat)(c:List V):Level->Level
 |[]=>[(k,c)]
 |(j,e)::l=>if k<j then (k,c)::(j,e)::l else (j,e)::qb3 k c l
def qeW:Level->Nat->List V->Level
 |[],_,_=>[]
 |(k,c)::l,s,c'=>if k=s then (k,c')::l else (k,c)::qeW l s c'
def St.box(st:St)(r:Root):Option (List V) :=
 if r.lvl=st.L.length then qw st.B r.slot else match st.L[r.lvl]? with|some b=>qw b r.slot|none=>none
def St.qp(st:St)(r:Root)(c:List V):St :=
 if r.lvl=st.L.length then {st with B:=qeW st.B r.slot c}
 else {st with L:=st.L.modify r.lvl λb=>qeW b r.slot c}
section
variable (P:Program) (H:Hints) (f:FuncId)
def qN(t:TypeId):Bool :=
 match P.underlying t with
 |some (.struct _)|some (.array ..)=>true
 |_=>false
def q4(t:TypeId)(cs:List V):Option V :=
 match P.underlying t with
 |none=>none
 |some _=>if qN P t then (if P.cellsOf t<=cs.length then some (.agg (cs.take (P.cellsOf t)))else none)else cs.head?
def zeroOf(t:TypeId):Option V:=((P.info? t).bind (·.zero)).map (ofConst (H.precise f))
def qJ(cs:List V)(off:Nat)(vs:List V):List V:=cs.take off++vs++cs.drop (off+vs.length)
def qhj(place:Nat->Option (Nat×Nat))(cs:List V):List (Nat×V)->Option (List V)
 |[]=>some cs
 |(i,v)::rest =>
  match place i with
  |none=>none
  |some (off,size)=>if v.cells.length≠size\/off+v.cells.length > cs.length\/v.oks=false then none else qhj place (qJ cs off v.cells) rest
def qrc(t:TypeId)(parts:List (Nat×V)):Option V :=
 match zeroOf P H f t,P.underlying t with
 |some z,some (.struct fields) =>
  match fields.toList.mapM (λf=>(P.info? f.type).map λi=>(f.offset,i.size))with
  |some places=>(qhj (places.toArray[·]?) z.cells parts).map .agg
  |none=>none
 |some z,some (.array _ elem) =>
  match P.info? elem with
  |some ie=>(qhj (λi=>some (i*ie.size,ie.size)) z.cells parts).map .agg
  |none=>none
 |_,_=>none
def chunk(agg:Bool)(s:Nat):Nat->List V->List V
 |0,_=>[]
 |n+1,cs=>(if agg then .agg (cs.take s)else cs.headD .undef)::chunk agg s n (cs.drop s)
def qdR(t:TypeId)(len:Nat)(parts:List (Nat×V)):Option V :=
 match P.underlying t with
 |some (.slice elem) =>
  match P.info? elem,zeroOf P H f elem with
  |some ie,some z =>
   if ie.size=0\/(qN P elem=false/\ie.size≠1)\/z.cells.length≠ie.size\/len*ie.size > 16777216 then none else
   match qhj (λi=>some (i*ie.size,ie.size)) ((List.replicate len z.cells).flatten) parts with
   |some cs=>if cs.all V.one/\(ptrsL cs).isEmpty then some (.sl .own false (chunk (qN P elem) ie.size len cs))else none
   |none=>none
  |_,_=>none
 |_=>none
def qrd(t:TypeId)(x:V)(fd:Nat):Option V :=
 match P.underlying t,x with
 |some (.struct fields),.agg cs =>
  match fields[fd]? with
  |some d=>q4 P d.type (cs.drop d.offset)
  |none=>none
 |_,_=>none
def qcq(t:TypeId)(x:V)(fd:Nat):Option V :=
 match P.underlying t with
 |some (.struct fields) =>
  match fields[fd]? with
  |some d=>if P.cellsOf d.type=0 then none else
   match x with
   |.ptr r off=>some (.ptr r (off+d.offset))
   |.cptr fl cs=>if d.offset<=cs.length then some (.cptr fl (cs.drop d.offset))else none
   |_=>none
  |none=>none
 |_=>none
def qa4(t:TypeId)(x i:V):Option V :=
 match i with
 |.val (.int _ n) =>
  match P.underlying t,x with
  |some (.array len elem),.ptr r off=>if 0<=n/\n<len/\P.cellsOf elem≠0 then some (.ptr r (off+n.toNat*P.cellsOf elem))else none
  |some (.array len elem),.cptr fl cs=>if 0<=n/\n<len/\P.cellsOf elem≠0/\n.toNat*P.cellsOf elem<=cs.length then some (.cptr fl (cs.drop (n.toNat*P.cellsOf elem)))else none
  |some (.slice elem),.sl fl _ l=>if 0<=n then
    match l[n.toNat]? with
    |some e=>if e.cells.length=P.cellsOf elem/\e.oks=true/\P.cellsOf elem≠0/\(ptrsL e.cells).isEmpty then some (.cptr (qV fl) (reflagL qV e.cells))else none
    |none=>none
   else none
  |_,_=>none
 |_=>none
def qpL(t:TypeId)(x i:V):Option V :=
 match i,P.underlying t,x with
 |.val (.int _ n),some (.array len elem),.agg cs =>
  if 0<=n/\n<len/\P.cellsOf elem≠0 then q4 P elem (cs.drop (n.toNat*P.cellsOf elem))else none
 |.val (.int _ n),some .string,.val (.string s)=>if 0<=n then (s[n.toNat]?).map λb=>.val (.int .u8 b.toNat)else none
 |_,_,_=>none
def qhg:List V->Option (List Value)
 |[]=>some []
 |.val (.int k n)::l=>(qhg l).map (.int k n::·)
 |_=>none
def qiP(t:TypeId)(x:V):Option V :=
 match P.underlying t,x with
 |some (.array n _),.sl fl _ l=>if n<=l.length/\n≠0/\(qhg l).isSome=true then some (.cptr (qV fl) (l.take n))else none
 |_,_=>none
def qkS:V->Option Nat
 |.val (.int _ n)=>if 0<=n then some n.toNat else none
 |_=>none
def qfY(d:Nat):Option V->Option Nat
 |some v=>qkS v
 |none=>some d
def qeo(t:TypeId)(x:V)(lo hi mx:Option V):Option V :=
 match P.underlying t,x with
 |some (.slice elem),.sl fl c l =>
  if fl=.own\/P.cellsOf elem=0\/l.all (λe=>decide (e.cells.length=P.cellsOf elem))=false then none else
  match qfY 0 lo,qfY l.length hi with
  |some a,some b =>
   match mx with
   |none=>if a<=b/\b<=l.length then some (.sl fl (c&&decide (b=l.length)) ((l.take b).drop a))else none
   |some m=>if qkS m=some b/\hi.isSome/\a<=b/\b<=l.length then some (.sl fl true ((l.take b).drop a))else none
  |_,_=>none
 |some (.slice elem),.val (.slice none 0 0) =>
  if P.cellsOf elem=0 then none else
  match qfY 0 lo,qfY 0 hi,qfY 0 mx with
  |some 0,some 0,some 0=>if mx.isSome/\hi.isNone then none else some (.val (.slice none 0 0))
  |_,_,_=>none
 |some .string,.val (.string s) =>
  match qfY 0 lo,qfY s.size hi with
  |some a,some b=>if mx.isNone/\a<=b/\b<=s.size then some (.val (.string (s.extract a b)))else none
  |_,_=>none
 |_,_=>none
def qe9(t:TypeId)(len cap:V):Option V :=
 match P.underlying t with
 |some (.slice elem) =>
  match zeroOf P H f elem,qkS len,qkS cap with
  |some z,some n,some c =>
   if n<=c/\(n=0->c=0)/\P.cellsOf elem≠0/\z.cells.length=P.cellsOf elem/\z.oks/\z.qq.isEmpty/\P.bytesOf elem*c<=70368744177664/\c<=70368744177664 then some (.sl .own false (List.replicate n z))else none
  |_,_,_=>none
 |_=>none
def qc2(argTypes:Array TypeId)(x y:V):Option V :=
 match (argTypes[0]?).bind P.underlying,(argTypes[1]?).bind P.underlying with
 |some (.slice elem),some yt =>
  let s:=P.cellsOf elem
  let ys:Option (List V):=match yt,y with
   |.slice _,.sl _ _ l=>some l
   |.slice _,.val (.slice none 0 0)=>some []
   |.string,.val (.string b)=>some (b.data.toList.map λc=>.val (.int .u8 c.toNat))
   |_,_=>none
  match ys with
  |none=>none
  |some l2 =>
   if s=0\/((P.info? elem).bind (·.zero)).map (λz=>z.cells.size)≠some s\/l2.all (λe=>decide (e.cells.length=s)&&e.oks)=false\/(ptrsL l2).isEmpty=false then none else
   match x with
   |.val (.slice none 0 0)=>if l2.isEmpty then some x else if (l2.length+512)*P.bytesOf elem<=70368744177664/\l2.length<=70368744177664 then some (.sl .own false l2)else none
   |.sl fl c l =>
    if l.all (λe=>decide (e.cells.length=s))=true/\(l.length+l2.length+512)*P.bytesOf elem<=70368744177664/\l.length+l2.length<=70368744177664 then
     (if fl=.own then some (.sl .own false (l++l2))
     else if c then (if l2.isEmpty then some x else some (.sl .own false (l++l2)))
     else none)
    else none
   |_=>none
 |_,_=>none
def qeZ(argTypes:Array TypeId)(x y:V):Option V :=
 match (argTypes[0]?).bind P.underlying,(argTypes[1]?).bind P.underlying,x,y with
 |some (.slice elem),some (.int _),.val (.slice none 0 0),.val (.int .i64 n) =>
  if 0<n/\n<=70368744177664/\P.cellsOf elem≠0/\((P.info? elem).bind (·.zero)).map (λz=>z.cells.size)=some (P.cellsOf elem)/\n.toNat*P.bytesOf elem<=70368744177664 then some (.room (P.cellsOf elem) n.toNat)else none
 |_,_,_,_=>none
def qg6(argTypes:Array TypeId)(x y:V):Option V :=
 match (argTypes[0]?).bind P.underlying,(argTypes[1]?).bind P.underlying,x,y with
 |some (.slice elem),some (.slice _),.room s 0,.sl _ _ l2 =>
  if s=P.cellsOf elem/\((P.info? elem).bind (·.zero)).map (λz=>z.cells.size)=some s/\l2.all (λe=>decide (e.cells.length=s)&&e.oks)=true/\(ptrsL l2).isEmpty=true/\l2.length*P.bytesOf elem<=70368744177664/\l2.length<=70368744177664 then (if l2.isEmpty=true then some (.room s 0)else some (.sl .own false l2))else none
 |_,_,_,_=>none
def qj7(t:TypeId)(x:V)(lo hi mx:Option V):Option V :=
 match P.underlying t,x,lo,hi,mx with
 |some (.slice elem),.room s _,none,some (.val (.int _ 0)),none=>if P.cellsOf elem≠0 then some (.room s 0)else none
 |some (.array n elem),.ptr r off,none,none,none=>if P.cellsOf elem=1 then some (.bsl r off n)else none
 |_,_,_,_,_=>none
def notNil:TypeDesc->V->V->Bool
 |.slice _,.sl _ _ (_::_),.val (.slice none 0 0)=>true
 |.pointer _,.ptr ..,.val (.pointer none)=>true
 |.pointer _,.cptr ..,.val (.pointer none)=>true
 |.func ..,.fn ..,.val .nilFunc=>true
 |.interface _,.iface ..,.val .nilIface=>true
 |_,_,_=>false
def qnV(op:BinOp)(t:TypeId)(xo yo:Operand)(x y:V):Option V :=
 match x.toVal,y.toVal with
 |some a,some b=>(valOf P (do eqGuard op t xo yo a b;Go.binOp op t a b)).map qcl
 |_,_ =>
  match P.underlying t with
  |some d=>if notNil d x y then (match op with
   |.eql=>some (.val (.bool false))
   |.neq=>some (.val (.bool true))
   |_=>none)else none
  |none=>none
def qg7(src dst:TypeId)(x:V):Option V :=
 match x.toVal with
 |some a=>(valOf P (Go.convert src dst a)).map qcl
 |none=>none
def bytesOf:List V->Option (List UInt8)
 |[]=>some []
 |.val (.int .u8 n)::l=>(bytesOf l).map (UInt8.ofNat n.toNat::·)
 |_=>none
def quM(src dst:TypeId)(l:List V):Option V :=
 match P.underlying src,P.underlying dst with
 |some (.slice e),some .string=>match P.underlying e with
  |some (.int .u8)=>(bytesOf l).map λs=>.val (.string ⟨s.toArray⟩)
  |_=>none
 |_,_=>none
def qsI(src dst:TypeId):V->Option V
 |.sl _ _ l=>quM P src dst l
 |x=>qg7 P src dst x
def qd6(b:Builtin)(argTypes:Array TypeId)(type:TypeId)(xs:List V):Option V :=
 match b,xs with
 |.len,[.sl _ _ l]=>match (argTypes[0]?).bind P.underlying with
  |some (.slice _)=>some (.val (.int .i64 l.length))
  |_=>none
 |.append,[x,y]=>(qc2 P argTypes x y).or ((qeZ P argTypes x y).or (qg6 P argTypes x y))
 |.append,_=>none
 |.copy,_=>none
 |.cap,xs=>(toValL xs).bind λvs=>(valOf P (Go.Builtin.cap_ argTypes type vs.toArray)).map qcl
 |.len,xs=>(toValL xs).bind λvs=>(valOf P (Go.Builtin.len_ argTypes type vs.toArray)).map qcl
 |.max,xs=>(toValL xs).bind λvs=>(valOf P (Go.Builtin.max_ argTypes type vs.toArray)).map qcl
 |.min,xs=>(toValL xs).bind λvs=>(valOf P (Go.Builtin.min_ argTypes type vs.toArray)).map qcl
 |.real,xs=>(toValL xs).bind λvs=>(valOf P (Go.Builtin.real_ argTypes type vs.toArray)).map qcl
 |.imag,xs=>(toValL xs).bind λvs=>(valOf P (Go.Builtin.imag_ argTypes type vs.toArray)).map qcl
 |.complex,xs=>(toValL xs).bind λvs=>(valOf P (Go.Builtin.complex_ argTypes type vs.toArray)).map qcl
 |_,_=>none
def qae:List V->Bool
 |.lp ..::_=>true
 |_=>false
def qhk:List V->Bool
 |.mp _::_=>true
 |_=>false
def qfy:List V->Bool
 |.lp ..::_=>true
 |.mp _::_=>true
 |_=>false
def qaL(tk:Bool)(o:Op)(type:TypeId)(xs:List V)(bx:Option (List V)):Option (V×Option (List V)) :=
 let v (x:Option V):Option (V×Option (List V)):=x.map λx=>(x,none)
 match o,xs with
 |.move _,[x]|.assign _,[x]=>some (x,none)
 |.pick ..,[.val (.bool c),a,b]=>some (if c then a else b,none)
 |.build t parts,xs=>v (qrc P H f t (parts.toList.map (·.1) |>.zip xs))
 |.buildSlice t len parts,xs=>v (qdR P H f t len (parts.toList.map (·.1) |>.zip xs))
 |.load t _,[.cptr _ cs]=>v ((q4 P t cs).map V.q6)
 |.load t _,[.ptr _ off]=>match bx with
  |some cs=>if qfy cs then none else if tk then (q4 P t (cs.drop off)).map λx=>(x,some (qJ cs off (reflagL qV ((cs.drop off).take (if qN P t then P.cellsOf t else 1)))))
   else v ((q4 P t (cs.drop off)).map V.q6)
  |none=>none
 |.store t _ _,[.ptr _ off,x]=>match bx with
  |some cs=>if qfy cs=false/\P.cellsOf t≠0/\x.cells.length=P.cellsOf t/\off+x.cells.length<=cs.length/\x.oks=true then some (.undef,some (qJ cs off x.cells))else none
  |none=>none
 |.nilCheck _,[.ptr r off]=>some (.ptr r off,none)
 |.nilCheck _,[.cptr fl cs]=>some (.cptr fl cs,none)
 |.nilCheck _,[.fn g a b]=>some (.fn g a b,none)
 |.binOp op t xo yo _,[x,y]=>v (qnV P op t xo yo x y)
 |.unOp op _ _,[x]=>v (x.toVal.bind λa=>(valOf P (Go.Op.unary op a)).map qcl)
 |.convert src dst _,[x]=>v (qsI P src dst x)
 |.makeInterface t _,[x] =>
  match P.underlying t with
  |some (.interface _)|none=>none
  |_=>if x.qq.isEmpty then some (match x.toVal with|some a=>.val (.iface t a)|none=>.iface t x,none)else none
 |.makeFunc (.func g) first _,xs=>some (.fn g (xs.take first.size) (xs.drop first.size),none)
 |.makeSlice t _ _,[l,c]=>v (qe9 P H f t l c)
 |.slice t _ lo hi mx,x::rest =>
  let r1:=if lo.isSome then rest.tail else rest
  let r2:=if hi.isSome then r1.tail else r1
  v ((qeo P t x (if lo.isSome then rest.head? else none) (if hi.isSome then r1.head? else none) (if mx.isSome then r2.head? else none)).or (qj7 P t x (if lo.isSome then rest.head? else none) (if hi.isSome then r1.head? else none) (if mx.isSome then r2.head? else none)))
 |.fieldAddr t _ fd,[x]=>v (qcq P t x fd)
 |.field t _ fd,[x]=>v (qrd P t x fd)
 |.sliceToArrayPointer t _,[x]=>v (qiP P t x)
 |.indexAddr t _ _,[x,i]=>v (qa4 P t x i)
 |.index t _ _,[x,i]=>v (qpL P t x i)
 |.extract _ i,[.tuple l]=>v l[i]?
 |.call {callee:=.builtin b,argTypes,..},xs=>v (qd6 P b argTypes type xs)
 |_,_=>none
def qwc:Op->Bool
 |.call {callee:=.builtin .len,..}=>false
 |.assign _|.store .. | .box .. | .build .. | .buildSlice .. | .makeInterface .. | .pick .. | .makeFunc .. | .call _=>true
 |_=>false
def qab(o:Oper):Bool:=qwc o.op||(match o.dst with|some t=>H.take f t|none=>false)
def tmpsOf(o:Oper):List Tmp:=o.op.operands.toList.filterMap λ| .tmp t=>some t|_=>none
def quc:Op->Bool
 |.binOp ..=>true
 |_=>false
def rd(o:Oper)(E:List V):Operand->V
 |.tmp t=>if qab H f o then E.getD t .undef else (E.getD t .undef).q6
 |.const v=>ofConst (H.precise f||quc o.op) v
 |.func g=>.fn g [] []
 |.global _=>.undef
def qz(E:List V)(ts:List Tmp):List V:=ts.foldl (λE t=>E.modify t V.q6) E
def rootOf:Op->List V->Option Root
 |.load ..,.ptr r _::_=>some r
 |.store ..,.ptr r _::_=>some r
 |_,_=>none
end
inductive Ex where
 |normal
 |exit (id:Nat)
 |ret
 deriving DecidableEq
structure Orc where
 call:FuncId->List V->List Level->Option (V×List Level)
 code:FuncId->Nat->Code->St->Option (Ex×St)
 qjn:FuncId->Bool:=λ_=>false
 born:FuncId->List V->Option (V×Nat×List (Value×Value)):=λ_ _=>none
 seq:FuncId->Option FuncId:=λ_=>none
section
variable (bx:Root->Option (List V))
mutual
def peekV:V->Option V
 |.ptr r off=>match bx r with
  |some c=>if qfy c=false/\off<=c.length then some (.cptr .shared (reflagL qK (c.drop off)))else none
  |none=>none
 |.bsl r off n=>match bx r with
  |some c=>if qfy c=false/\off+n<=c.length/\(reflagL qK ((c.drop off).take n)).all V.one=true/\ptrsL ((c.drop off).take n)=[]then some (.sl .shared false (reflagL qK ((c.drop off).take n)))else none
  |none=>none
 |.fn f a b=>match peekL a,peekL b with
  |some x,some y=>some (.fn f x y)
  |_,_=>none
 |.iface t v=>(peekV v).map (.iface t)
 |.agg l=>(peekL l).map .agg
 |.tuple l=>(peekL l).map .tuple
 |.mref r=>some (.mref r)
 |.cptr _ cs=>some (.cptr .shared (reflagL qK cs))
 |.sl _ c l=>some (.sl .shared c (reflagL qK l))
 |.undef=>some .undef
 |.val v=>some (.val v)
 |_=>none
def peekL:List V->Option (List V)
 |[]=>some []
 |v::l=>match peekV v,peekL l with
  |some x,some xs=>some (x::xs)
  |_,_=>none
end
end
def qeh:List Level->Option (List Level×Level)
 |[]=>none
 |[b]=>some ([],b)
 |b::c::l=>(qeh (c::l)).map λ(x,y)=>(b::x,y)
def Ex.code:Ex->Option Code
 |.normal=>none
 |.exit id=>some (.exit id)
 |.ret=>some .ret
section
variable (P:Program) (H:Hints) (O:Orc) (f:FuncId)
def qf1(g:FuncId)(args:List V)(st:St):Option (V×St) :=
 if (ptrsL args).isEmpty then
  match O.call g (args.map V.share) []with
  |some (r,[])=>some (if looseL args then r.qa9 else r,st)
  |_=>none
 else if O.qjn g then match peekL st.box args with
  |some xs=>if (ptrsL xs).isEmpty then (match O.call g xs []with
   |some (r,[])=>if r.qcB then some (r,st)else none
   |_=>none)else none
  |none=>none
 else match O.call g (args.map V.hand) (st.L++[st.B])with
 |some (r,M)=>match qeh M with
  |some (L,B)=>if L.length=st.L.length then some (r,{st with L,B})else none
  |none=>none
 |none=>none
def qeI(E:List V):List Tmp->List V->List V
 |t::ts,v::vs=>qeI (E.set t v) ts vs
 |_,_=>E
def qlp(r:Root)(args:List V)(st:St):Option (V×St) :=
 match st.box r with
 |some [.lp .ready _ g env ps assign body] =>
  if args.length≠ps.length then none else
  match O.code g 0 assign {E:=qeI env ps (args.map V.hand),L:=st.L++[st.B],B:=[]}with
  |some (.normal,s2) =>
   match s2.box r with
   |some [.lp .ready pe2 g2 env2 ps2 as2 bo2] =>
    match O.code g 0 body (s2.qp r [.lp .busy pe2 g2 env2 ps2 as2 bo2])with
    |some (ex,s3) =>
     match s3.box r with
     |some [.lp _ _ g3 env3 ps3 as3 bo3] =>
      match qeh (s3.qp r [.lp (if (ex.code).isNone then .ready else .done) ex.code g3 env3 ps3 as3 bo3]).L with
      |some (L,B)=>if L.length=st.L.length then some (.val (.bool (ex.code).isNone),{st with L,B})else none
      |none=>none
     |_=>none
    |none=>none
   |_=>none
  |_=>none
 |_=>none
def qhh(fv:V)(args:List V)(st:St):Option (V×St) :=
 match fv with
 |.fn g first cap=>qf1 O g (first++args++cap) st
 |.yld r=>qlp O r args st
 |_=>none
def qfs:List Tmp->Bool
 |[]=>true
 |t::l=>!l.contains t&&qfs l
inductive Fp where
 |none
 |root (r:Root) (off len:Nat) (wr:Bool)
 |fresh (r:Root)
 |looks
 |mapw (q:Root)
 |all
 deriving DecidableEq
def qcH(O:Orc):V->Bool
 |.fn g _ _=>O.qjn g
 |_=>false
def qd0:V->List V->Bool
 |.fn _ first cap,args=>(ptrsL (first++args++cap)).isEmpty
 |_,_=>false
def q7:Op->List V->Nat×Nat
 |.load t _,.ptr _ off::_=>(off,if qN P t then P.cellsOf t else 1)
 |.store ..,[.ptr _ off,x]=>(off,x.cells.length)
 |_,_=>(0,0)
def qnq:Op->List V->List Root
 |.store ..,[_,x]=>x.qq
 |_,_=>[]
def qX(d:Nat):Nat:=d+16384
def qfH(es:List (Value×Value)):List MapEntry:=es.map λe=>⟨e.1,e.2,0⟩
def qmu(t:TypeId)(es:List (Value×Value))(k:V)(ok:Bool):Option V :=
 match P.underlying t,k.toVal with
 |some (.map kt vt),some a =>
  match valOf P (Instr.checkKey es.isEmpty 10000 kt a),valOf P (Instr.findKey kt a (qfH es)),zeroOf P H f vt with
  |some _,some (some (_,v)),_=>some (if ok then .tuple [qcl v,.val (.bool true)]else qcl v)
  |some _,some none,some z=>some (if ok then .tuple [z,.val (.bool false)]else z)
  |_,_,_=>none
 |_,_=>none
def qj8(t:TypeId)(es:List (Value×Value))(k x:V):Option (List (Value×Value)) :=
 match P.underlying t,k.toVal,x.toVal with
 |some (.map kt _),some a,some v =>
  match valOf P (Instr.checkKey false 10000 kt a),valOf P (Instr.findKey kt a (qfH es))with
  |some _,some (some (i,_))=>match es[i]? with
   |some e=>if Instr.sameBits 10000 e.1 a then some (es.set i (a,v))else none
   |none=>none
  |some _,some none=>some (es++[(a,v)])
  |_,_=>none
 |_,_,_=>none
def qcY:Op->List V->Bool
 |.makeMap ..,_|.lookup ..,_|.mapUpdate ..,_|.insert ..,_=>true
 |.call {callee:=.builtin .len,..},[.mref _]=>true
 |_,_=>false
def qlM:List V->Bool
 |[]=>true
 |[.val (.int _ _)]=>true
 |_=>false
def mapStep(o:Oper)(xs:List V)(st:St):Option (V×St×Fp) :=
 match o.op with
 |.makeMap t _=>match o.dst,P.underlying t with
  |some d,some (.map _ _)=>if (qw st.B (qX d)).isNone/\qlM xs=true then some (.mref ⟨st.L.length,qX d⟩,{st with B:=qb3 (qX d) [.mp []] st.B},.fresh ⟨st.L.length,qX d⟩)else none
  |_,_=>none
 |.lookup t _ _ ok=>match xs with
  |[.mref r,k]=>match st.box r with
   |some [.mp es]=>(qmu P H f t es k ok).map λv=>(v,st,.looks)
   |_=>none
  |_=>none
 |.mapUpdate t _ _ _|.insert t _ _ _=>match xs with
  |[.mref r,k,x]=>match st.box r with
   |some [.mp es]=>(qj8 P t es k x).map λes'=>(.undef,st.qp r [.mp es'],.mapw r)
   |_=>none
  |_=>none
 |.call {callee:=.builtin .len,argTypes,..}=>match xs with
  |[.mref r]=>match st.box r with
   |some [.mp es]=>match (argTypes[0]?).bind P.underlying with
    |some (.map _ _)=>if argTypes.toList.any H.mapT then some (.val (.int .i64 es.length),st,.looks)else none
    |_=>none
   |_=>none
  |_=>none
 |_=>none
mutual
def V.adopt(q:Root):V->V
 |.mref _=>.mref q
 |.cptr f cs=>.cptr f (adoptL q cs)
 |.fn g a b=>.fn g (adoptL q a) (adoptL q b)
 |.agg l=>.agg (adoptL q l)
 |.tuple l=>.tuple (adoptL q l)
 |v=>v
def adoptL(q:Root):List V->List V
 |[]=>[]
 |v::l=>v.adopt q::adoptL q l
end
mutual
def V.onlyMaps:V->Bool
 |.iface _ .undef=>true
 |.ptr .. | .yld _|.bsl .. | .iface .. | .lp ..=>false
 |.cptr _ cs=>onlyMapsL cs
 |.fn _ a b=>onlyMapsL a&&onlyMapsL b
 |.agg l=>onlyMapsL l
 |.tuple l=>onlyMapsL l
 |_=>true
def onlyMapsL:List V->Bool
 |[]=>true
 |v::l=>v.onlyMaps&&onlyMapsL l
end
def qnp(d:Option Tmp)(fv:V)(args:List V)(st:St):Option (V×St×Fp) :=
 match fv,d with
 |.fn g first cap,some d =>
  if (ptrsL (first++args++cap)).isEmpty&&!looseL (first++args++cap)&&(qw st.B (qX d)).isNone then
   match O.born g ((first++args++cap).map V.share)with
   |some (r,_,es)=>some (r.adopt ⟨st.L.length,qX d⟩,{st with B:=qb3 (qX d) [.mp es] st.B},.fresh ⟨st.L.length,qX d⟩)
   |none=>none
  else none
 |_,_=>none
def qy3(d:Option Tmp)(fv:V)(args:List V)(st:St):Option (V×St×Fp) :=
 match fv,d with
 |.fn g first cap,some d=>match first++args++cap with
  |[.val (.string s),.val (.string sep)]=>match O.seq g with
   |some clos=>if (qw st.B d).isNone then some (.fn clos [] [.cptr .shared [.val (.string sep)],.ptr ⟨st.L.length,d⟩ 0,.cptr .shared [.val (.int .i64 0)]],{st with B:=qb3 d [.val (.string s)] st.B},.fresh ⟨st.L.length,d⟩)else none
   |none=>none
  |_=>none
 |_,_=>none
def qtz(H:Hints):V->Bool
 |.fn g _ _=>(H.seq g).isSome
 |_=>false
def qkv(H:Hints):V->Bool
 |.fn g _ _=>H.born g
 |_=>false
def qhO:V->List V->Option Root
 |.fn _ first cap,args=>match ptrsL (first++args++cap)with
  |q::rest=>if rest.all (λr=>decide (r=q))&&onlyMapsL (first++args++cap)then some q else none
  |[]=>none
 |_,_=>none
def qlL(n:Nat)(q:Root)(c:List V):List Level:=(List.range n).map λl=>if l=q.lvl then [(q.slot,c)]else []
def qES(M:List Level)(r:Root):Option (List V):=match M[r.lvl]? with
 |some b=>qw b r.slot
 |none=>none
def qgr(g:FuncId)(args:List V)(q:Root)(st:St):Option (V×St) :=
 match st.box q with
 |some [.mp es]=>match O.call g (args.map V.hand) (qlL (st.L.length+1) q [.mp es])with
  |some (r,M)=>if r.qq.isEmpty&&!r.owns then (match qES M q with
   |some [.mp es']=>some (r,st.qp q [.mp es'])
   |_=>none)else none
  |none=>none
 |_=>none
def qjf(H:Hints)(fv:V)(args:List V):Bool:=qkv H fv||(qtz H fv||(qhO fv args).isSome)
def qi8(d:Option Tmp)(fv:V)(args:List V)(st:St):Option (V×St×Fp) :=
 if qkv H fv then qnp O d fv args st else if qtz H fv then qy3 O d fv args st else match fv,qhO fv args with
  |.fn g first cap,some q=>(qgr O g (first++args++cap) q st).map λ(v,s)=>(v,s,.mapw q)
  |_,_=>none
def qbh(o:Oper)(xs:List V)(st:St):Option (V×St×Fp) :=
 match o.op with
 |.alloc t=>match o.dst,zeroOf P H f t with
  |some d,some z=>if (qw st.B d).isNone then some (.ptr ⟨st.L.length,d⟩ 0,{st with B:=qb3 d z.cells st.B},.fresh ⟨st.L.length,d⟩)else none
  |_,_=>none
 |.box t _=>match o.dst,xs with
  |some d,[x]=>if (qw st.B d).isNone/\x.cells.length=P.cellsOf t/\x.oks=true then some (.ptr ⟨st.L.length,d⟩ 0,{st with B:=qb3 d x.cells st.B},.fresh ⟨st.L.length,d⟩)else none
  |_,_=>none
 |.call {callee:=.value _,..}=>match xs with
  |fv::args=>if qjf H fv args then qi8 H O o.dst fv args st else (qhh O fv args st).map λ(v,s)=>(v,s,if qd0 fv args then .none else if qcH O fv then .looks else .all)
  |[]=>none
 |op=>if qcY op xs then mapStep P H f o xs st else match rootOf op xs with
  |none=>match qaL P H f (qab H f o) op o.type xs none with
   |some (v,none)=>some (v,st,.none)
   |_=>none
  |some r=>match qaL P H f (qab H f o) op o.type xs (st.box r)with
   |some (v,none)=>some (v,st,.root r (q7 P op xs).1 (q7 P op xs).2 false)
   |some (v,some c)=>if (qnq op xs).all (λp=>decide (p.lvl<=r.lvl))&&decide ((q7 P op xs).1+(q7 P op xs).2<=c.length)then some (v,st.qp r c,.root r (q7 P op xs).1 (q7 P op xs).2 true)else none
   |none=>none
def qeH(o:Oper)(st:St):Option (St×Fp) :=
 if qab H f o&&!qfs (tmpsOf o)then none else
 (qbh P H O f o (o.op.operands.toList.map (rd H f o st.E)) (if qab H f o then {st with E:=qz st.E (tmpsOf o)}else st)).map λ(v,s,fp)=>(s.put o.dst v,fp)
def qlk(o:Oper)(st:St):Option St:=(qeH P H O f o st).map (·.1)
def qcA(ops:Array Oper)(E:List V)(o:Oper):Option Bool :=
 match o.guard with
 |none=>some true
 |some (j,want)=>match (ops[j]?).bind (·.dst)with
  |some t=>match E[t]? with
   |some (.val (.bool b))=>some (b==want)
   |some (.val (.tuple vs))=>if vs.size=0 then some false else none
   |_=>none
  |none=>none
def qfU(ops:Array Oper):List Nat->St->Option St
 |[],st=>some st
 |i::rest,st =>
  match ops[i]? with
  |none=>none
  |some o =>
   match qcA ops st.E o with
   |some true=>match qlk P H O f o st with
    |some st'=>qfU ops rest st'
    |none=>none
   |some false=>qfU ops rest (st.put o.dst (.val undef))
   |none=>none
structure Foot where
 fp:Fp
 took:List Tmp
 looks:List Tmp
def looksAt(ops:Array Oper)(o:Oper):List Tmp :=
 tmpsOf o++(match o.guard with
  |some (g,_)=>((ops[g]?).bind (·.dst)).toList
  |none=>[])
def qbq(ops:Array Oper)(o:Oper):List Tmp :=
 (if qab H f o then tmpsOf o else [])++(match o.guard with
  |some (g,_)=>((ops[g]?).bind (·.dst)).toList
  |none=>[])
def qfQ(o:Oper)(E:List V):List Tmp:=if qab H f o then (tmpsOf o).filter λt=>(E.getD t .undef).owns else []
def qho(ops:Array Oper)(i:Nat)(st:St):Option (St×Foot) :=
 match ops[i]? with
 |none=>none
 |some o =>
  match qcA ops st.E o with
  |some true=>(qeH P H O f o st).map λ(s,fp)=>(s,⟨fp,qfQ H f o st.E,qbq H f ops o⟩)
  |some false=>some (st.put o.dst (.val undef),⟨.none,[],qbq H f ops o⟩)
  |none=>none
def qgD(ops:Array Oper):List Nat->St->Option (St×List (Nat×Foot))
 |[],st=>some (st,[])
 |i::rest,st =>
  match qho P H O f ops i st with
  |some (st',ft)=>(qgD ops rest st').map λ(s,l)=>(s,(i,ft)::l)
  |none=>none
def Fp.conflict:Fp->Fp->Bool
 |.none,_=>false
 |_,.none=>false
 |.root r o l w,.root r' o' l' w'=>decide (r=r')&&(w||w')&&!(decide (o+l<=o')||decide (o'+l'<=o))
 |.fresh r,.fresh r'=>decide (r=r')
 |.fresh r,.root r' _ _ _=>decide (r=r')
 |.root r' _ _ _,.fresh r=>decide (r=r')
 |.looks,.looks=>false
 |.mapw q,.mapw q'=>decide (q=q')
 |.mapw _,.root ..=>false
 |.root ..,.mapw _=>false
 |.looks,.root _ _ _ w=>w
 |.root _ _ _ w,.looks=>w
 |_,_=>true
def meets(l l':List Tmp):Bool:=l.any λt=>l'.contains t
def Foot.qgx(a b:Foot):Bool:=a.fp.conflict b.fp||meets a.took b.looks||meets b.took a.looks
def qhQ(U:List (Nat×Nat))(fps:List (Nat×Foot)):Bool :=
 U.all λ(i,j)=>fps.all λ(k,p)=>k != i||fps.all λ(k',p')=>k' != j||!p.qgx p'
def qbk(o:Oper):List Nat:=(o.after.toList.filter λe=>Region.binds .any e).map (·.on)
def qfF:List Nat->List Nat
 |[]=>[]
 |x::l=>if l.contains x then qfF l else x::qfF l
def qka(ops:List Oper):List (List Nat) :=
 ops.foldl (λacc o=>acc++[qfF ((qbk o).flatMap λj=>j::acc.getD j [])]) []
def qeC(H:Hints):Op->Bool
 |.alloc _|.box .. | .load .. | .store .. | .call {callee:=.value _,..}|.makeMap .. | .lookup .. | .mapUpdate .. | .insert ..=>false
 |.call {callee:=.builtin .len,argTypes,..}=>!argTypes.toList.any H.mapT
 |_=>true
def qcg(ops:Array Oper)(x y:Oper):Bool :=
 (match x.dst with
  |some d=>!(looksAt ops y).contains d&&y.dst != some d
  |none=>true) &&
 (match y.dst with
  |some d=>!(looksAt ops x).contains d
  |none=>true)
def qgq(ops:Array Oper)(x y:Oper):Bool :=
 (qeC H x.op||qeC H y.op)&&(!qab H f x||(!meets (tmpsOf x) (looksAt ops y)||!meets (tmpsOf x) (qbq H f ops y)))&&(!qab H f y||(!meets (tmpsOf y) (looksAt ops x)||!meets (tmpsOf y) (qbq H f ops x)))
def qeT(U:List (Nat×Nat))(ops:Array Oper):Bool :=
 let asz:=qka ops.toList
 (List.range ops.size).all λi =>
  match ops[i]? with
  |none=>false
  |some y=>(qbk y).all (λj=>decide (j<i))&&(List.range i).all λj =>
   (asz.getD i []).contains j||match ops[j]? with
    |none=>false
    |some x=>qcg ops x y&&(qgq H f ops x y||U.contains (j,i))
end
mutual
def V.soft:V->Bool
 |.cptr f l=>decide (f=.q6)||softL l
 |.sl f _ l=>(decide (f=.q6)&&!l.isEmpty)||softL l
 |.fn _ a b=>softL a||softL b
 |.iface _ v=>v.soft
 |.agg l=>softL l
 |.tuple l=>softL l
 |_=>false
def softL:List V->Bool
 |[]=>false
 |v::l=>v.soft||softL l
end
def V.qef(v:V):V:=if v.soft then .undef else v
def qkt(B:Level):Level:=B.map λp=>(p.1,p.2.map V.qef)
def qtZ(B:Level):Bool:=B.all λp=>!qfy p.2
def qgR(B:Level):Bool:=B.all λp=>!qae p.2
def qdB(e:V)(cs:List V):V :=
 match e with
 |.agg _=>.agg cs
 |_=>cs.headD .undef
abbrev Path:=List (Nat×Nat×Nat)
def qsL(ys:List V):Path->V->Option V
 |[],_=>none
 |(j,o,s)::p,.sl .own c l =>
  match l[j]? with
  |some e=>if e.cells.length=s/\e.oks=true then
    (match p with
    |[]=>if o+ys.length<=s then some (.sl .own c (l.set j (qdB e (qJ e.cells o ys))))else none
    |_::_=>match e.cells[o]? with
     |some z=>(qsL ys p z).map λz'=>.sl .own c (l.set j (qdB e (e.cells.set o z')))
     |none=>none)
   else none
  |none=>none
 |_,_=>none
def qCZ(j o s:Nat):V->Option (V×V)
 |.sl .own c l =>
  match l[j]? with
  |some (.sl .own c' l')=>if o=0/\s=1 then some (.sl .own c' l',.sl .own c (l.set j (V.q6 (.sl .own c' l'))))else none
  |_=>none
 |_=>none
inductive Rt where
 |tmp (t:Tmp)
 |box (r:Root) (off:Nat)
 deriving DecidableEq
section
variable (P:Program) (H:Hints) (f:FuncId)
def qmD(o:Oper):Bool:=match o.dst with
 |some d=>H.link f d
 |none=>false
def qhc(o:Oper):Bool:=match o.op with
 |.store _ (.tmp d) _=>H.link f d
 |_=>false
def qxU(ops:Array Oper):Bool:=ops.toList.any (qhc H f)
def qmW(o:Oper):Bool:=match o.op with
 |.call {callee:=.builtin .append,args,..}=>match (args[0]?:Option Operand)with
  |some (.tmp d)=>H.link f d
  |_=>false
 |_=>false
def qpN(ops:Array Oper):Nat->Tmp->Option Nat
 |0,_=>none
 |k+1,d=>if (ops[k]?).bind (·.dst)=some d then some k else qpN ops k d
def idxOf(E:List V):Operand->Option Nat
 |.tmp t=>qkS (E.getD t .undef)
 |.const v=>qkS (.val v)
 |_=>none
def qnx(t:TypeId)(fd:Nat):Option Nat :=
 match P.underlying t with
 |some (.struct fields)=>(fields[fd]?).map (·.offset)
 |_=>none
def qbp(ops:Array Oper)(E:List V):Nat->Nat->Tmp->Option (Rt×Path×Bool)
 |0,_,_=>none
 |n+1,k,d=>if H.link f d=false then some (.tmp d,[],false)else
  match qpN ops k d with
  |none=>none
  |some c=>match (ops[c]?).map Oper.op with
   |some (.move (.tmp a))=>qbp ops E n c a
   |some (.indexAddr t (.tmp a) i) =>
    match qbp ops E n c a,idxOf E i,P.underlying t with
    |some (r,p,false),some j,some (.slice elem)=>some (r,(j,0,P.cellsOf elem)::p,true)
    |_,_,_=>none
   |some (.fieldAddr t (.tmp a) fd) =>
    match qbp ops E n c a,qnx P t fd with
    |some (r,(j,o,s)::p,true),some o'=>some (r,(j,o+o',s)::p,true)
    |_,_=>none
   |some (.load t (.tmp a)) =>
    if qN P t then none else
    if H.link f a then (match qbp ops E n c a with
     |some (r,p,true)=>some (r,p,false)
     |_=>none)
    else match E.getD a .undef with
     |.ptr r off=>some (.box r off,[],false)
     |_=>none
   |_=>none
def qcF(ops:Array Oper):Nat->Nat->Tmp->List Tmp
 |0,_,_=>[]
 |n+1,k,d=>d::(if H.link f d=false then []else match qpN ops k d with
  |none=>[]
  |some c=>match (ops[c]?).map Oper.op with
   |some (.move (.tmp a))=>qcF ops n c a
   |some (.indexAddr _ (.tmp a) i)=>(match i with
    |.tmp t=>[t]
    |_=>[])++qcF ops n c a
   |some (.fieldAddr _ (.tmp a) _)=>qcF ops n c a
   |some (.load _ (.tmp a))=>a::(if H.link f a then qcF ops n c a else [])
   |_=>[])
def qji(ops:Array Oper)(s:Nat)(o:Oper)(st:St):Option St :=
 match o.op with
 |.store t (.tmp d) xo =>
  let x:=rd H f o st.E xo
  if st.L.isEmpty&&qtZ st.B&&o.dst.isNone&&o.guard.isNone&&qfs (tmpsOf o)&&decide (P.cellsOf t≠0)&&decide (x.cells.length=P.cellsOf t)&&x.oks&&x.qq.isEmpty then
   match qbp P H f ops st.E ops.size s d with
   |some (.tmp r,p,true)=>if (tmpsOf o).contains r then none else
    match qsL x.cells p.reverse (st.E.getD r .undef)with
    |some y=>if y.soft then none else some {st with E:=((qz st.E (tmpsOf o)).map V.qef).set r y,B:=qkt st.B}
    |none=>none
   |some (.box q off,p,true)=>match st.box q with
    |some cs=>match cs[off]? with
     |some z=>match qsL x.cells p.reverse z with
      |some y=>if y.soft then none else some {st with E:=(qz st.E (tmpsOf o)).map V.qef,B:=qeW (qkt st.B) q.slot ((cs.map V.qef).set off y)}
      |none=>none
     |none=>none
    |none=>none
   |_=>none
  else none
 |_=>none
def qd8(ops:Array Oper)(s:Nat)(o:Oper)(st:St):Option St :=
 match o.op with
 |.call {args,..}=>match (args[0]?:Option Operand)with
  |some (.tmp d)=>match qbp P H f ops st.E ops.size s d with
   |some (.tmp r,[(j,c,k)],false)=>if r=d\/st.E.length<=d then none else
    match qCZ j c k (st.E.getD r .undef)with
    |some (u,y)=>some {st with E:=(st.E.set r y).set d u}
    |none=>none
   |_=>none
  |_=>none
 |_=>none
def qyY(o:Oper):Option Tmp:=match o.op with
 |.call {args,..}=>match (args[0]?:Option Operand)with
  |some (.tmp d)=>some d
  |_=>none
 |_=>none
def qkr(ops:Array Oper)(c:Nat)(oc oi:Oper):Bool:=match oi.op,oi.dst,qyY oc with
 |.move (.tmp a),some x,some d=>oi.guard.isNone&&!qab H f oi&&!qhc H f oi&&!qmW H f oi&&decide (a≠d)&&!(qcF H f ops ops.size c d).contains x
 |_,_,_=>false
def qdu:Op->Bool
 |.alloc _|.box .. | .store .. | .call {callee:=.value _,..}|.makeMap .. | .mapUpdate .. | .insert ..=>false
 |_=>true
def qn2(o:Oper):Bool:=match o.op with
 |.load _ (.tmp a)=>!H.link f a
 |_=>false
def qiB(o:Oper):Bool:=match o.op with
 |.load _ (.tmp a)=>H.link f a
 |_=>false
def ql6(oc oi:Oper):Bool :=
 (match oi.dst with
  |some d=>!(oc.dst==some d)&&!(tmpsOf oc).contains d
  |none=>true)&&(!qn2 H f oc||qdu oi.op||qhc H f oi)
def qlx(draw:Bool)(asz:List (List Nat))(i c:Nat):Bool:=if draw then (asz.getD c []).contains i else decide (i<c)
def qoQ(draw:Bool)(asz:List (List Nat))(ops:Array Oper)(lone:Bool)(c:Nat)(oc:Oper):Bool :=
 (!qmD H f oc||(oc.guard.isNone&&(match oc.dst with
   |some d=>!(tmpsOf oc).contains d
   |none=>true)&&(List.range ops.size).all λi=>i==c||qlx draw asz i c||match ops[i]? with
    |some oi=>ql6 H f oc oi
    |none=>false)) &&
 (!qhc H f oc||(oc.guard.isNone&&(List.range ops.size).all λi=>i==c||qlx draw asz i c||qlx draw asz c i)) &&
 (!(qmD H f oc&&qiB H f oc)||lone) &&
 (!qmW H f oc||(List.range ops.size).any λs=>qlx draw asz c s&&match ops[s]? with
  |some os=>qhc H f os
  |none=>false) &&
 (!qmW H f oc||(List.range ops.size).all λi=>i==c||qlx draw asz i c||qlx draw asz c i||match ops[i]? with
  |some oi=>qkr H f ops c oc oi
  |none=>false)
def qoO(draw:Bool)(ops:Array Oper):Bool :=
 let asz:=qka ops.toList
 let lone:=decide ((ops.toList.filter (qhc H f)).length<=1)
 (List.range ops.size).all λc=>match ops[c]? with
  |some oc=>qoQ H f draw asz ops lone c oc
  |none=>false
end
section
variable (P:Program) (H:Hints) (O:Orc) (f:FuncId)
def qwO:V->Bool
 |.cptr ..=>true
 |_=>false
def qeG(o:Oper)(E:List V):Bool :=
 !qmD H f o||((match o.dst with
  |some d=>decide (d<E.length)
  |none=>true)&&(match o.op with
  |.load _ (.tmp a)=>!H.link f a||qwO (E.getD a .undef)
  |_=>true))
def qjm(ops:Array Oper)(i:Nat)(st:St):Option (St×Foot) :=
 match ops[i]? with
 |none=>none
 |some o=>if qhc H f o then (qji P H f ops i o st).map λs=>(s,⟨.all,[],looksAt ops o⟩)
  else if qmW H f o then (if qmD H f o then none else (qd8 P H f ops i o st).bind λs=>qho P H O f ops i s)
  else if qeG H f o st.E then qho P H O f ops i st else none
def qgC(ops:Array Oper):List Nat->St->Option (St×List (Nat×Foot))
 |[],st=>some (st,[])
 |i::rest,st =>
  match qjm P H O f ops i st with
  |some (st',ft)=>(qgC ops rest st').map λ(s,l)=>(s,(i,ft)::l)
  |none=>none
def qS(D:List Tmp):Level->Level
 |[]=>[]
 |(k,c)::l=>if D.contains k then qS D l else (k,c)::qS D l
def qeb(D:List Tmp)(E:List V):List V:=D.foldl (λE t=>E.set t .undef) E
def qdk(lvl:Nat)(D:List Tmp)(rs:List Root):Bool:=rs.all λr=>r.lvl != lvl||!D.contains r.slot
def qnl:Level->List Root
 |[]=>[]
 |(_,c)::l=>ptrsL c++qnl l
def St.clear(D:List Tmp)(st:St):Option St :=
 let E:=qeb D st.E
 let B:=qS D st.B
 if B.length=st.B.length\/(qdk st.L.length D (ptrsL E)&&qdk st.L.length D (qnl B))then some {st with E,B}else none
def qFk(zs:List Int):Option (List Int):=if zs.length<=4611686018427387903 then some zs.reverse else none
def qDZ(x:Int):List Int->List Int
 |[]=>[x]
 |y::l=>if x<=y then x::y::l else y::qDZ x l
def qqx:List Int->List Int
 |[]=>[]
 |x::l=>qDZ x (qqx l)
def qEo(zs:List Int):Option (List Int):=if zs.length<=4611686018427387903 then some (qqx zs)else none
def qij(ops:Array Oper)(draw:Bool):Option ((List Int->Option (List Int))×Tmp×Tmp×Option Tmp) :=
 match draw,ops.toList with
 |false,[m,o]=>match m.op,m.dst,m.guard,o.op,o.guard with
  |.move (.tmp t),some e,none,.call {callee:=.value (.func g),args,..},none=>match args.toList,H.turn g with
   |[.tmp e'],some F=>if e'=e/\t≠e then some (F,t,e,o.dst)else none
   |_,_=>none
  |_,_,_,_,_=>none
 |_,_=>none
def qdA:List V->Option (List Int)
 |[]=>some []
 |.val (.int .i64 n)::l=>(qdA l).map λm=>n::m
 |_::_=>none
def qdj(zs:List Int):List V:=zs.map λn=>.val (.int .i64 n)
def qiO(F:List Int->Option (List Int))(t:Tmp)(d:Option Tmp)(st:St):Option St :=
 if st.L.isEmpty&&qgR st.B then
  match st.E.getD t .undef with
  |.sl .own c l =>
   match qdA l with
   |some zs=>match F zs with
    |some zs'=>if zs.isEmpty then some (St.put {st with E:=st.E.set t (.sl .own c (qdj zs'))} d .undef)else some (St.put {st with E:=(st.E.map V.qef).set t (.sl .own c (qdj zs')),B:=qkt st.B} d .undef)
    |none=>none
   |none=>none
  |.val (.slice none 0 0)=>(F []).map λ_=>st.put d .undef
  |_=>none
 else none
def ex(bid:Nat):Code->St->Option (Ex×St)
 |.skip,st=>some (.normal,st)
 |.region id ops draw,st =>
  match st.clear (H.pre f id)with
  |none=>none
  |some st =>
  match qij H ops draw with
  |some (F,t,e,d)=>if e<st.E.length then (qiO F t d (st.put (some e) .undef)).map λs=>(.normal,s)else none
  |none =>
  if qxU H f ops then
   (if qoO H f draw ops&&(!draw||qeT H f (H.pairs f id) ops)then
    match qgC P H O f ops (List.range ops.size) st with
    |some (s,fps)=>if !draw||qhQ (H.pairs f id) fps then some (.normal,s)else none
    |none=>none
   else none)
  else if draw then
   if qeT H f (H.pairs f id) ops then
    match H.pairs f id with
    |[]=>(qfU P H O f ops (List.range ops.size) st).map λs=>(.normal,s)
    |U=>match qgD P H O f ops (List.range ops.size) st with
     |some (s,fps)=>if qhQ U fps then some (.normal,s)else none
     |none=>none
   else none
  else (qfU P H O f ops (List.range ops.size) st).map λs=>(.normal,s)
 |.seq a b,st=>match ex bid a st with
  |some (.normal,s)=>ex bid b s
  |r=>r
 |.cond c a b,st=>match rd H f default st.E c with
  |.val (.bool t)=>if t then ex bid a st else ex bid b st
  |_=>none
 |.block id c,st=>match ex id c st with
  |some (.exit i,s)=>if i=id then some (.normal,s)else some (.exit i,s)
  |r=>r
 |.loop c,st=>match st.clear (H.clear f bid)with
  |some st=>match ex bid c st with
   |some (.normal,s)=>O.code f bid (.loop c) s
   |r=>r
  |none=>none
 |.rangeFunc g ps assign body,st =>
  match rd H f default st.E g,ps.toList with
  |.fn h first cap,t::ts =>
   if (qw st.B t).isNone then
    match qhh O (.fn h first cap) [.yld ⟨st.L.length,t⟩] {st with B:=(t,[.lp .ready none f (st.E.map V.q6) (t::ts) assign body])::st.B}with
    |some (_,s) =>
     if qdk st.L.length [t] (qnl (qS [t] s.B))then
      match qw s.B t with
      |some [.lp .ready none _ _ _ _ _]=>some (.normal,{st with L:=s.L,B:=qS [t] s.B})
      |some [.lp .done (some .ret) _ _ _ _ _]=>some (.ret,{st with L:=s.L,B:=qS [t] s.B})
      |some [.lp .done (some (.exit id)) _ _ _ _ _]=>some (.exit id,{st with L:=s.L,B:=qS [t] s.B})
      |_=>none
     else none
    |none=>none
   else none
  |_,_=>none
 |.exit id,st=>some (.exit id,st)
 |.ret,st=>some (.ret,st)
 |_,_=>none
def qdq(st:St):ResultVar->Option V
 |.tmp t=>some (st.E.getD t .undef)
 |.cell a t=>match st.E.getD a .undef with
  |.ptr r off=>match st.box r with
   |some cs=>if qfy cs then none else q4 P t (cs.drop off)
   |none=>none
  |_=>none
def qfR:List (Option V)->Option (List V)
 |[]=>some []
 |some v::l=>(qfR l).map (v::·)
 |none::_=>none
def qL(st:St):ResultVar->Bool×Nat×Nat
 |.tmp t=>(false,t,0)
 |.cell a _=>match st.E.getD a .undef with
  |.ptr r _=>(true,r.lvl,r.slot)
  |_=>(true,0,0)
def distinct:List (Bool×Nat×Nat)->Bool
 |[]=>true
 |k::l=>!l.contains k&&distinct l
def qtL(n:Nat)(ks:List (Bool×Nat×Nat)):Bool:=distinct ks&&ks.all λk=>!k.1||decide (k.2.1=n)
def packed:List V->V
 |[r]=>r
 |rs=>.tuple rs
def qEJ(args:List V)(M:List Level):Option (V×List Level) :=
 match P.funcs[f]? with
 |some fn=>match fn.body with
  |some c=>match ex P H O f 0 c {E:=args++List.replicate (fn.ntmps-args.length) .undef,L:=M,B:=[]}with
   |some (e,st) =>
    if e=.normal\/e=.ret then
     match qfR (fn.results.toList.map (qdq P st))with
     |some rs =>
      if ((ptrsL rs).all λr=>decide (r.lvl<M.length))&&qtL M.length (fn.results.toList.map (qL st))then
       some (packed (if M.isEmpty&&!ownsL rs then reflagL qit rs else rs),st.L)
      else if M.isEmpty&&qtL M.length (fn.results.toList.map (qL st))then (match peekL st.box rs with
       |some xs=>if (ptrsL xs).isEmpty then some (packed xs,st.L)else none
       |none=>none)
      else none
     |none=>none
    else none
   |none=>none
  |none=>none
 |none=>none
end
def qzm(P:Program)(H:Hints)(O:Orc)(f:FuncId)(args:List V):Option (V×Nat×List (Value×Value)) :=
 match P.funcs[f]? with
 |some fn=>match fn.body with
  |some c=>match ex P H O f 0 c {E:=args++List.replicate (fn.ntmps-args.length) .undef,L:=[],B:=[]}with
   |some (e,st) =>
    if e=.normal\/e=.ret then
     match qfR (fn.results.toList.map (qdq P st))with
     |some rs=>match peekL st.box rs with
      |some xs=>match ptrsL xs with
       |[r]=>if r.lvl=0 then (match st.box r with
        |some [.mp es]=>if onlyMapsL xs then some (packed xs,r.slot,es)else none
        |_=>none)else none
       |_=>none
      |none=>none
     |none=>none
    else none
   |none=>none
  |none=>none
 |none=>none
def V.qep:V->V
 |.val (.slice none 0 0)=>.sl .own false []
 |v=>v
def dnA(H:Hints)(g:FuncId)(l:List V):List V:=bif H.qep g then l.map V.qep else l
def qvH(P:Program)(H:Hints)(lib:FuncId->Option (List V->Option V)):Nat->Orc
 |0=>{call:=λ_ _ _=>none,code:=λ_ _ _ _=>none}
 |n+1=>{
   call:=λg args M=>match lib g with
    |some h=>if M.isEmpty then (h args).map λv=>(v,[])else none
    |none=>qEJ P H (qvH P H lib n) g (dnA H g args) M
   code:=λf bid c st=>ex P H (qvH P H lib n) f bid c st
   qjn:=H.qjn
   seq:=H.seq
   born:=λg args=>qzm P H (qvH P H lib n) g args}
end Go.Ab
end
section
namespace Go.Ab
open Go
structure Cx where
 β:Root->Option Nat
 ω:Nat->Option (Nat×Bool)
def Seg(w:World)(b off:Nat)(vals:List Value):Prop:=∀i v,vals[i]?=some v->w.cell? ⟨b,off+i,none⟩=some v
def qBC(w:World)(b off cap s:Nat):Prop:=∃c t,w.heap[b]?=some (.cells c t (0,0))/\off+cap*s<=c.size
def qkb(w:World)(X:Cx)(f:Fl)(b off n cap s:Nat):Prop :=
 ∃e fz,X.ω b=some (e,fz)/\off+n<=e /\
  match f with
  |.own=>fz=false/\e=off+n/\qBC w b off cap s/\(n=0->cap=0)
  |.q6=>True
  |.shared=>fz=true
mutual
def Rep(w:World)(X:Cx):V->Value->List Nat->Prop
 |.undef,_,O=>O=[]
 |.val u,v,O=>v=u/\O=[]
 |.ptr r off,v,O=>O=[]/\∃b,X.β r=some b/\v=.pointer (some ⟨b,off,none⟩)
 |.yld r,v,O=>O=[]/\∃b,X.β r=some b/\v=.func (.yield b) #[] #[]
 |.mref r,v,O=>O=[]/\∃b,X.β r=some b/\v=.map (some b)
 |.bsl r off n,v,O=>O=[]/\∃b cap,X.β r=some b/\v=.slice (some ⟨b,off,none⟩) n cap/\n<=cap
 |.mp _,_,_=>False
 |.cptr f cs,v,O=>O=[]/\∃b off vals,v=.pointer (some ⟨b,off,none⟩)/\Seg w b off vals/\(∃e fz,X.ω b=some (e,fz)/\off+vals.length<=e/\(f=.shared->fz=true))/\RepL w X cs vals []/\f≠.own
 |.sl f c l,v,O=>ptrsL l=[] /\
   ((l=[]/\O=[]/\(v=.slice none 0 0\/(f≠.own/\∃a,v=.slice (some a) 0 0))) \/
    ∃b off cap s vals O',v=.slice (some ⟨b,off,none⟩) l.length cap/\l.length<=cap/\(c=true->cap=l.length)/\vals.length=l.length*s/\0<s/\(∀x∈l,x.cells.length=s) /\
    Seg w b off vals/\qkb w X f b off vals.length cap s/\RepE w X s l vals O'/\(f=.own->O=b::O')/\(f≠.own->O=[]/\O'=[]))
 |.room s n,v,O=>∃b cap,v=.slice (some ⟨b,0,none⟩) n cap/\n<=cap/\0<s/\O=[b]/\X.ω b=some (0,false)/\qBC w b 0 cap s
 |.fn f a c,v,O=>∃va vc O1 O2,v=.func (.func f) va.toArray vc.toArray/\O=O1++O2/\RepL w X a va O1/\RepL w X c vc O2
 |.iface t x,v,O=>∃u,v=.iface t u/\Rep w X x u O
 |.agg l,v,O=>∃vals,v=.agg vals.toArray/\RepL w X l vals O
 |.tuple l,v,O=>∃vals,v=.tuple vals.toArray/\RepL w X l vals O
 |.lp ..,_,_=>False
def RepL(w:World)(X:Cx):List V->List Value->List Nat->Prop
 |[],vals,O=>vals=[]/\O=[]
 |x::l,vals,O=>∃u vs O1 O2,vals=u::vs/\O=O1++O2/\Rep w X x u O1/\RepL w X l vs O2
def RepE(w:World)(X:Cx)(s:Nat):List V->List Value->List Nat->Prop
 |[],vals,O=>vals=[]/\O=[]
 |x::l,vals,O=>∃u vs O1 O2,vals=u.cells.toList++vs/\u.cells.size=s/\O=O1++O2/\Rep w X x u O1/\RepE w X s l vs O2
end
structure Ext (R:List Root) (w:World) (X:Cx) (w':World) (X':Cx) (U:Nat->Prop):Prop where
 β:∀r∈R,X'.β r=X.β r
 ω:∀b e fz,X.ω b=some (e,fz)->∃e' fz',X'.ω b=some (e',fz')/\e<=e'/\(fz=true->fz'=true)/\(¬ U b->e'=e/\fz'=fz)
 cell:∀b e fz i v,X.ω b=some (e,fz)->i<e->w.cell? ⟨b,i,none⟩=some v->w'.cell? ⟨b,i,none⟩=some v
 obj:∀b e fz c t,¬ U b->X.ω b=some (e,fz)->w.heap[b]?=some (.cells c t (0,0))->∃c',w'.heap[b]?=some (.cells c' t (0,0))/\c'.size=c.size
theorem Seg.ext{R:List Root}{w w':World}{X X':Cx}{U:Nat->Prop}(h:Ext R w X w' X' U){b off:Nat}{vals:List Value}{e:Nat}{fz:Bool}(hω:X.ω b=some (e,fz))(he:off+vals.length<=e)
  (hs:Seg w b off vals):Seg w' b off vals:=by
 intro i v hi;have hlt:i<vals.length:=(qm.1 hi).1;exact h.cell b e fz (off+i) v hω (by omega) (hs i v hi)
theorem qkb.ext{R:List Root}{w w':World}{X X':Cx}{U:Nat->Prop}(h:Ext R w X w' X' U){f:Fl}{b off n cap s:Nat}(hU:f=.own->¬ U b)(hf:qkb w X f b off n cap s) :
  qkb w' X' f b off n cap s:=by
 obtain ⟨e,fz,hω,hle,hm⟩:=hf;obtain ⟨e',fz',hω',hle',hfz,he'⟩:=h.ω b e fz hω;refine ⟨e',fz',hω',by omega,?_⟩;cases f with
 |own =>
  obtain ⟨hz,hend,⟨c,t,hc,hsz⟩,h0⟩:=hm;obtain ⟨c',hc',hsz'⟩:=h.obj b e fz c t (hU rfl) hω hc;obtain ⟨he1,he2⟩:=he' (hU rfl);exact ⟨by rw [he2];exact hz,by rw [he1];exact hend,⟨c',t,hc',by omega⟩,h0⟩
 |q6=>trivial
 |shared=>exact hfz hm
mutual
theorem Rep.ext{R:List Root}{w w':World}{X X':Cx}{U:Nat->Prop}(h:Ext R w X w' X' U):∀(x:V) (v:Value) (O:List Nat),(∀r∈x.qq,r∈R)->(∀b∈O,¬ U b)->Rep w X x v O->Rep w' X' x v O
 |.undef,_,_,_,_,hr=>by simpa only [Rep]using hr
 |.val _,_,_,_,_,hr=>by simpa only [Rep]using hr
 |.ptr r off,v,O,hp,_,hr=>by
  simp only [Rep]at hr ⊢;obtain ⟨h0,b,hb,hv⟩:=hr;exact ⟨h0,b,by rw [h.β r (hp r (by simp [V.qq]))];exact hb,hv⟩
 |.yld r,v,O,hp,_,hr=>by
  simp only [Rep]at hr ⊢;obtain ⟨h0,b,hb,hv⟩:=hr;exact ⟨h0,b,by rw [h.β r (hp r (by simp [V.qq]))];exact hb,hv⟩
 |.mref r,v,O,hp,_,hr=>by
  simp only [Rep]at hr ⊢;obtain ⟨h0,b,hb,hv⟩:=hr;exact ⟨h0,b,by rw [h.β r (hp r (by simp [V.qq]))];exact hb,hv⟩
 |.bsl r off n,v,O,hp,_,hr=>by
  simp only [Rep]at hr ⊢;obtain ⟨h0,b,cap,hb,hv⟩:=hr;exact ⟨h0,b,cap,by rw [h.β r (hp r (by simp [V.qq]))];exact hb,hv⟩
 |.cptr f cs,v,O,hp,hU,hr=>by
  simp only [Rep]at hr ⊢;obtain ⟨h0,b,off,vals,hv,hs,⟨e,fz,hω,hle,hsh⟩,hl,hno⟩:=hr;obtain ⟨e',fz',hω',hle',hfz,_⟩:=h.ω b e fz hω;exact ⟨h0,b,off,vals,hv,hs.ext h hω hle,⟨e',fz',hω',by omega,λhf=>hfz (hsh hf)⟩,RepL.ext h cs vals [] (λr hr=>hp r (by simpa [V.qq]using hr)) (by simp) hl,hno⟩
 |.room s n,v,O,hp,hU,hr=>by
  simp only [Rep]at hr ⊢;obtain ⟨b,cap,hv,hn,hs,rfl,hω,c,t,hc,hsz⟩:=hr;have hUb:¬ U b:=hU b (by simp);obtain ⟨e',fz',hω',_,_,hk⟩:=h.ω b 0 false hω;obtain ⟨rfl,rfl⟩:=hk hUb;obtain ⟨c',hc',hsz'⟩:=h.obj b 0 false c t hUb hω hc;exact ⟨b,cap,hv,hn,hs,rfl,hω',c',t,hc',by omega⟩
 |.sl f c l,v,O,hp,hU,hr=>by
  simp only [Rep]at hr ⊢;obtain ⟨hnp,hr⟩:=hr;refine ⟨hnp,?_⟩;rcases hr with hr|⟨b,off,cap,s,vals,O',hv,hcap,hc,hlen,hs0,hxs,hs,hf,he,ho,ho'⟩
  ·exact .inl hr
  ·refine .inr ⟨b,off,cap,s,vals,O',hv,hcap,hc,hlen,hs0,hxs,?_,?_,?_,ho,ho'⟩
   ·obtain ⟨e,fz,hω,hle,_⟩:=hf;exact hs.ext h hω hle
   ·exact hf.ext h (λhown=>hU b (by rw [ho hown];simp))
   ·refine RepE.ext h s l vals O' (λr hr=>by rw [hnp]at hr;cases hr) (λb' hb'=>?_) he;by_cases hown:f=.own
    ·exact hU b' (by rw [ho hown];simp [hb'])
    ·rw [(ho' hown).2]at hb';cases hb'
 |.fn f a c,v,O,hp,hU,hr=>by
  simp only [Rep]at hr ⊢;obtain ⟨va,vc,O1,O2,hv,rfl,h1,h2⟩:=hr;exact ⟨va,vc,O1,O2,hv,rfl,RepL.ext h a va O1 (λr hr=>hp r (by simp [V.qq,hr])) (λb hb=>hU b (by simp [hb])) h1,
   RepL.ext h c vc O2 (λr hr=>hp r (by simp [V.qq,hr])) (λb hb=>hU b (by simp [hb])) h2⟩
 |.iface t x,v,O,hp,hU,hr=>by
  simp only [Rep]at hr ⊢;obtain ⟨u,hv,h1⟩:=hr;exact ⟨u,hv,Rep.ext h x u O (λr hr=>hp r (by simpa [V.qq]using hr)) hU h1⟩
 |.agg l,v,O,hp,hU,hr=>by
  simp only [Rep]at hr ⊢;obtain ⟨vals,hv,h1⟩:=hr;exact ⟨vals,hv,RepL.ext h l vals O (λr hr=>hp r (by simpa [V.qq]using hr)) hU h1⟩
 |.tuple l,v,O,hp,hU,hr=>by
  simp only [Rep]at hr ⊢;obtain ⟨vals,hv,h1⟩:=hr;exact ⟨vals,hv,RepL.ext h l vals O (λr hr=>hp r (by simpa [V.qq]using hr)) hU h1⟩
 |.lp ..,_,_,_,_,hr=>by simp only [Rep]at hr
 |.mp _,_,_,_,_,hr=>by simp only [Rep]at hr
theorem RepL.ext{R:List Root}{w w':World}{X X':Cx}{U:Nat->Prop}(h:Ext R w X w' X' U):∀(l:List V) (vals:List Value) (O:List Nat),(∀r∈ptrsL l,r∈R)->(∀b∈O,¬ U b)->RepL w X l vals O->RepL w' X' l vals O
 |[],_,_,_,_,hr=>by simpa only [RepL]using hr
 |x::l,vals,O,hp,hU,hr=>by
  simp only [RepL]at hr ⊢;obtain ⟨u,vs,O1,O2,hv,rfl,h1,h2⟩:=hr;exact ⟨u,vs,O1,O2,hv,rfl,Rep.ext h x u O1 (λr hr=>hp r (by simp [ptrsL,hr])) (λb hb=>hU b (by simp [hb])) h1,
   RepL.ext h l vs O2 (λr hr=>hp r (by simp [ptrsL,hr])) (λb hb=>hU b (by simp [hb])) h2⟩
theorem RepE.ext{R:List Root}{w w':World}{X X':Cx}{U:Nat->Prop}(h:Ext R w X w' X' U)(s:Nat):∀(l:List V) (vals:List Value) (O:List Nat),(∀r∈ptrsL l,r∈R)->(∀b∈O,¬ U b)->RepE w X s l vals O->RepE w' X' s l vals O
 |[],_,_,_,_,hr=>by simpa only [RepE]using hr
 |x::l,vals,O,hp,hU,hr=>by
  simp only [RepE]at hr ⊢;obtain ⟨u,vs,O1,O2,hv,hsz,rfl,h1,h2⟩:=hr;exact ⟨u,vs,O1,O2,hv,hsz,rfl,Rep.ext h x u O1 (λr hr=>hp r (by simp [ptrsL,hr])) (λb hb=>hU b (by simp [hb])) h1,
   RepE.ext h s l vs O2 (λr hr=>hp r (by simp [ptrsL,hr])) (λb hb=>hU b (by simp [hb])) h2⟩
end
mutual
theorem ptrs_reflag(g:Fl->Fl):∀x:V,(x.reflag g).qq=x.qq
 |.undef|.val _|.ptr .. | .yld _|.mref _|.bsl .. | .mp _|.sl .. | .lp ..=>by simp [V.reflag,V.qq]
 |.room s n=>by
  simp only [V.reflag];by_cases h1:g .own=.own
  ·rw [if_pos h1]
  ·rw [if_neg h1];by_cases h2:n=0
   ·rw [if_pos h2];simp [V.qq]
   ·rw [if_neg h2];simp [V.qq]
 |.cptr _ cs=>by simp [V.reflag,V.qq,ptrsL_reflag g cs]
 |.fn _ a b=>by simp [V.reflag,V.qq,ptrsL_reflag g a,ptrsL_reflag g b]
 |.iface _ x=>by simp [V.reflag,V.qq,ptrs_reflag g x]
 |.agg l=>by simp [V.reflag,V.qq,ptrsL_reflag g l]
 |.tuple l=>by simp [V.reflag,V.qq,ptrsL_reflag g l]
theorem ptrsL_reflag(g:Fl->Fl):∀l:List V,ptrsL (reflagL g l)=ptrsL l
 |[]=>rfl
 |x::l=>by simp [reflagL,ptrsL,ptrs_reflag g x,ptrsL_reflag g l]
end
theorem qO(g:Fl->Fl):∀l:List V,(reflagL g l).length=l.length
 |[]=>rfl
 |x::l=>by simp [reflagL,qO g l]
theorem qB(g:Fl->Fl):∀l:List V,reflagL g l=l.map (V.reflag g)
 |[]=>rfl
 |x::l=>by simp [reflagL,qB g l]
theorem qmy(g:Fl->Fl)(x:V):(x.reflag g).cells=reflagL g x.cells:=by
 cases x with
 |room s n =>
  simp only [V.reflag,V.cells,reflagL];by_cases h1:g .own=.own
  ·simp [h1]
  ·by_cases h2:n=0<;>simp [h1,h2]
 |_=>simp [V.reflag,V.cells,reflagL]
theorem qfd(g:Fl->Fl)(x:V):(x.reflag g).cells.length=x.cells.length:=by rw [qmy,qO]
structure Flags (g:Fl->Fl) (X X':Cx) (S:Nat->Prop) (D:Bool):Prop where
 β:X'.β=X.β
 own:∀f,g f≠.own
 dul:∀f,g f=.q6->D=true
 ω:D=true->∀b e fz,X.ω b=some (e,fz)->∃fz',X'.ω b=some (e,fz')
 sh:∀f b e fz,X.ω b=some (e,fz)->(f=.own->S b)->(f=.shared->fz=true)->(f=.q6->D=true)->g f=.shared->X'.ω b=some (e,true)
mutual
theorem Rep.flags{g:Fl->Fl}{w:World}{X X':Cx}{S:Nat->Prop}{D:Bool}(h:Flags g X X' S D):∀(x:V) (v:Value) (O:List Nat),(∀b∈O,S b)->(x.loose=true->D=true)->Rep w X x v O->Rep w X' (x.reflag g) v []
 |.undef,_,_,_,_,hr=>by simp [V.reflag,Rep]
 |.val _,_,_,_,_,hr=>by simp only [V.reflag,Rep]at hr ⊢;exact ⟨hr.1,trivial⟩
 |.ptr r off,v,O,_,_,hr=>by
  simp only [V.reflag,Rep]at hr ⊢;rw [h.β];exact ⟨trivial,hr.2⟩
 |.yld r,v,O,_,_,hr=>by
  simp only [V.reflag,Rep]at hr ⊢;rw [h.β];exact ⟨trivial,hr.2⟩
 |.mref r,v,O,_,_,hr=>by
  simp only [V.reflag,Rep]at hr ⊢;rw [h.β];exact ⟨trivial,hr.2⟩
 |.bsl r off n,v,O,_,_,hr=>by
  simp only [V.reflag,Rep]at hr ⊢;rw [h.β];exact ⟨trivial,hr.2⟩
 |.cptr f cs,v,O,hS,hD,hr=>by
  simp only [V.reflag,Rep]at hr ⊢;obtain ⟨h0,b,off,vals,hv,hs,⟨e,fz,hω,hle,hsh⟩,hl,hno⟩:=hr;refine ⟨trivial,b,off,vals,hv,hs,?_,RepL.flags h cs vals [] (by simp) (λhl'=>hD (by simp [V.loose,hl'])) hl,h.own f⟩;by_cases hg:g f=.shared
  ·exact ⟨e,true,h.sh f b e fz hω (λe=>absurd e hno) hsh (λe=>hD (by simp [V.loose,e])) hg,hle,λ_=>rfl⟩
  ·have hgd:g f=.q6:=by
    cases hgf:g f with
    |own=>exact absurd hgf (h.own f)
    |q6=>rfl
    |shared=>exact absurd hgf hg
   obtain ⟨fz',hω'⟩:=h.ω (h.dul f hgd) b e fz hω;exact ⟨e,fz',hω',hle,λhh=>absurd hh hg⟩
 |.room s n,v,O,hS,hD,hr=>by
  simp only [V.reflag,Rep]at hr ⊢;rw [if_neg (h.own .own)];obtain ⟨b,cap,hv,hn,hs,rfl,hω,hsp⟩:=hr;by_cases h0:n=0
  ·subst h0;rw [if_pos rfl];simp only [Rep];refine ⟨rfl,.inr ⟨b,0,cap,s,[],[],hv,by simp,by simp,by simp,hs,by simp,λi u hi=>by simp at hi,?_,by simp [RepE],λe=>absurd e (h.own .own),λ_=>⟨trivial,rfl⟩⟩⟩;cases hg:g .own with
   |own=>exact absurd hg (h.own .own)
   |q6 =>
    obtain ⟨fz',hω'⟩:=h.ω (h.dul .own hg) b 0 false hω;exact ⟨0,fz',hω',by simp,trivial⟩
   |shared=>exact ⟨0,true,h.sh .own b 0 false hω (λ_=>hS b (by simp)) (by simp) (by simp) hg,by simp,rfl⟩
  ·rw [if_neg h0];simp [Rep]
 |.sl f c l,v,O,hS,hD,hr=>by
  simp only [V.reflag,Rep]at hr ⊢;obtain ⟨hnp,hr⟩:=hr;refine ⟨by rw [ptrsL_reflag];exact hnp,?_⟩;rcases hr with ⟨rfl,h0,hv⟩|⟨b,off,cap,s,vals,O',hv,hcap,hc,hlen,hs0,hxs,hs,hf,he,ho,ho'⟩
  ·exact .inl ⟨rfl,trivial,hv.imp id λ⟨_,ha⟩=>⟨h.own f,ha⟩⟩
  ·have hO:∀b'∈O',S b':=by
    intro b' hb';by_cases hown:f=.own
    ·exact hS b' (by rw [ho hown];simp [hb'])
    ·rw [(ho' hown).2]at hb';cases hb'
   refine .inr ⟨b,off,cap,s,vals,[],by rw [qO];exact hv,by rw [qO];exact hcap,λhc'=>by rw [qO];exact hc hc',by rw [qO];exact hlen,hs0,?_,hs,?_,?_,λhown=>absurd hown (h.own f),λ_=>⟨trivial,rfl⟩⟩
   ·intro x hx;rw [qB]at hx;obtain ⟨y,hy,rfl⟩:=List.mem_map.1 hx;rw [qfd];exact hxs y hy
   ·obtain ⟨e,fz,hω,hle,hm⟩:=hf;cases hg:g f with
    |own=>exact absurd hg (h.own f)
    |q6=>obtain ⟨fz',hω'⟩:=h.ω (h.dul f hg) b e fz hω;exact ⟨e,fz',hω',hle,trivial⟩
    |shared =>
     refine ⟨e,true,h.sh f b e fz hω (λhown=>hS b (by rw [ho hown];simp)) (λhsh=>?_) (λhd=>hD (by simp [V.loose,hd])) hg,hle,rfl⟩;subst hsh;exact hm
   ·exact RepE.flags h s l vals O' hO (λhl=>hD (by simp [V.loose,hl])) he
 |.fn f a c,v,O,hS,hD,hr=>by
  simp only [V.reflag,Rep]at hr ⊢;obtain ⟨va,vc,O1,O2,hv,rfl,h1,h2⟩:=hr;exact ⟨va,vc,[],[],hv,rfl,RepL.flags h a va O1 (λb hb=>hS b (by simp [hb])) (λhl=>hD (by simp [V.loose,hl])) h1,
   RepL.flags h c vc O2 (λb hb=>hS b (by simp [hb])) (λhl=>hD (by simp [V.loose,hl])) h2⟩
 |.iface t x,v,O,hS,hD,hr=>by
  simp only [V.reflag,Rep]at hr ⊢;obtain ⟨u,hv,h1⟩:=hr;exact ⟨u,hv,Rep.flags h x u O hS (λhl=>hD (by simpa [V.loose]using hl)) h1⟩
 |.agg l,v,O,hS,hD,hr=>by
  simp only [V.reflag,Rep]at hr ⊢;obtain ⟨vals,hv,h1⟩:=hr;exact ⟨vals,hv,RepL.flags h l vals O hS (λhl=>hD (by simpa [V.loose]using hl)) h1⟩
 |.tuple l,v,O,hS,hD,hr=>by
  simp only [V.reflag,Rep]at hr ⊢;obtain ⟨vals,hv,h1⟩:=hr;exact ⟨vals,hv,RepL.flags h l vals O hS (λhl=>hD (by simpa [V.loose]using hl)) h1⟩
 |.lp ..,_,_,_,_,hr=>by simp only [Rep]at hr
 |.mp _,_,_,_,_,hr=>by simp only [Rep]at hr
theorem RepL.flags{g:Fl->Fl}{w:World}{X X':Cx}{S:Nat->Prop}{D:Bool}(h:Flags g X X' S D):∀(l:List V) (vals:List Value) (O:List Nat),(∀b∈O,S b)->(looseL l=true->D=true)->RepL w X l vals O->RepL w X' (reflagL g l) vals []
 |[],_,_,_,_,hr=>by simp only [reflagL,RepL]at hr ⊢;exact ⟨hr.1,trivial⟩
 |x::l,vals,O,hS,hD,hr=>by
  simp only [reflagL,RepL]at hr ⊢;obtain ⟨u,vs,O1,O2,hv,rfl,h1,h2⟩:=hr;exact ⟨u,vs,[],[],hv,rfl,Rep.flags h x u O1 (λb hb=>hS b (by simp [hb])) (λhl=>hD (by simp [looseL,hl])) h1,
   RepL.flags h l vs O2 (λb hb=>hS b (by simp [hb])) (λhl=>hD (by simp [looseL,hl])) h2⟩
theorem RepE.flags{g:Fl->Fl}{w:World}{X X':Cx}{S:Nat->Prop}{D:Bool}(h:Flags g X X' S D)(s:Nat):∀(l:List V) (vals:List Value) (O:List Nat),(∀b∈O,S b)->(looseL l=true->D=true)->RepE w X s l vals O->RepE w X' s (reflagL g l) vals []
 |[],_,_,_,_,hr=>by simp only [reflagL,RepE]at hr ⊢;exact ⟨hr.1,trivial⟩
 |x::l,vals,O,hS,hD,hr=>by
  simp only [reflagL,RepE]at hr ⊢;obtain ⟨u,vs,O1,O2,hv,hsz,rfl,h1,h2⟩:=hr;exact ⟨u,vs,[],[],hv,hsz,rfl,Rep.flags h x u O1 (λb hb=>hS b (by simp [hb])) (λhl=>hD (by simp [looseL,hl])) h1,
   RepE.flags h s l vs O2 (λb hb=>hS b (by simp [hb])) (λhl=>hD (by simp [looseL,hl])) h2⟩
end
structure Flags' (g:Fl->Fl) (X X':Cx) (S:Nat->Prop):Prop where
 β:X'.β=X.β
 own:∀f,g f=.own↔f=.own
 ω:∀b e fz,X.ω b=some (e,fz)->∃fz',X'.ω b=some (e,fz')/\(S b->fz'=fz)
 sh:∀f b e fz,X.ω b=some (e,fz)->(f=.own->S b)->(f=.shared->fz=true)->g f=.shared->X'.ω b=some (e,true)
mutual
theorem Rep.flags'{g:Fl->Fl}{w:World}{X X':Cx}{S:Nat->Prop}(h:Flags' g X X' S):∀(x:V) (v:Value) (O:List Nat),(∀b∈O,S b)->Rep w X x v O->Rep w X' (x.reflag g) v O
 |.undef,_,_,_,hr=>by simpa [V.reflag,Rep]using hr
 |.val _,_,_,_,hr=>by simpa only [V.reflag,Rep]using hr
 |.ptr r off,v,O,_,hr=>by
  simp only [V.reflag,Rep]at hr ⊢;rw [h.β];exact hr
 |.yld r,v,O,_,hr=>by
  simp only [V.reflag,Rep]at hr ⊢;rw [h.β];exact hr
 |.mref r,v,O,_,hr=>by
  simp only [V.reflag,Rep]at hr ⊢;rw [h.β];exact hr
 |.bsl r off n,v,O,_,hr=>by
  simp only [V.reflag,Rep]at hr ⊢;rw [h.β];exact hr
 |.cptr f cs,v,O,hS,hr=>by
  simp only [V.reflag,Rep]at hr ⊢;obtain ⟨h0,b,off,vals,hv,hs,⟨e,fz,hω,hle,hsh⟩,hl,hno⟩:=hr;refine ⟨h0,b,off,vals,hv,hs,?_,RepL.flags' h cs vals [] (by simp) hl,λe=>hno ((h.own f).1 e)⟩;by_cases hg:g f=.shared
  ·exact ⟨e,true,h.sh f b e fz hω (λe=>absurd e hno) hsh hg,hle,λ_=>rfl⟩
  ·obtain ⟨fz',hω',_⟩:=h.ω b e fz hω;exact ⟨e,fz',hω',hle,λhh=>absurd hh hg⟩
 |.room s n,v,O,hS,hr=>by
  simp only [V.reflag,Rep]at hr ⊢;rw [if_pos ((h.own .own).2 rfl)];simp only [Rep];obtain ⟨b,cap,hv,hn,hs,rfl,hω,hsp⟩:=hr;obtain ⟨fz',hω',hk⟩:=h.ω b 0 false hω;have:=hk (hS b (by simp));subst this;exact ⟨b,cap,hv,hn,hs,rfl,hω',hsp⟩
 |.sl f c l,v,O,hS,hr=>by
  simp only [V.reflag,Rep]at hr ⊢;obtain ⟨hnp,hr⟩:=hr;refine ⟨by rw [ptrsL_reflag];exact hnp,?_⟩;rcases hr with ⟨rfl,h0,hv⟩|⟨b,off,cap,s,vals,O',hv,hcap,hc,hlen,hs0,hxs,hs,hf,he,ho,ho'⟩
  ·exact .inl ⟨rfl,h0,hv.imp id λ⟨hf,ha⟩=>⟨λe=>hf ((h.own f).1 e),ha⟩⟩
  ·have hO:∀b'∈O',S b':=by
    intro b' hb';by_cases hown:f=.own
    ·exact hS b' (by rw [ho hown];simp [hb'])
    ·rw [(ho' hown).2]at hb';cases hb'
   refine .inr ⟨b,off,cap,s,vals,O',by rw [qO];exact hv,by rw [qO];exact hcap,λhc'=>by rw [qO];exact hc hc',by rw [qO];exact hlen,hs0,?_,hs,?_,?_,λhown=>ho ((h.own f).1 hown),λhown=>ho' (λhh=>hown ((h.own f).2 hh))⟩
   ·intro x hx;rw [qB]at hx;obtain ⟨y,hy,rfl⟩:=List.mem_map.1 hx;rw [qfd];exact hxs y hy
   ·obtain ⟨e,fz,hω,hle,hm⟩:=hf;cases hg:g f with
    |own =>
     have hown:=(h.own f).1 hg;subst hown;obtain ⟨fz',hω',hz⟩:=h.ω b e fz hω;have:=hz (hS b (by rw [ho rfl];simp));subst this;exact ⟨e,fz',hω',hle,hm⟩
    |q6=>obtain ⟨fz',hω',_⟩:=h.ω b e fz hω;exact ⟨e,fz',hω',hle,trivial⟩
    |shared =>
     refine ⟨e,true,h.sh f b e fz hω (λhown=>hS b (by rw [ho hown];simp)) (λhsh=>?_) hg,hle,rfl⟩;subst hsh;exact hm
   ·exact RepE.flags' h s l vals O' hO he
 |.fn f a c,v,O,hS,hr=>by
  simp only [V.reflag,Rep]at hr ⊢;obtain ⟨va,vc,O1,O2,hv,rfl,h1,h2⟩:=hr;exact ⟨va,vc,O1,O2,hv,rfl,RepL.flags' h a va O1 (λb hb=>hS b (by simp [hb])) h1,RepL.flags' h c vc O2 (λb hb=>hS b (by simp [hb])) h2⟩
 |.iface t x,v,O,hS,hr=>by
  simp only [V.reflag,Rep]at hr ⊢;obtain ⟨u,hv,h1⟩:=hr;exact ⟨u,hv,Rep.flags' h x u O hS h1⟩
 |.agg l,v,O,hS,hr=>by
  simp only [V.reflag,Rep]at hr ⊢;obtain ⟨vals,hv,h1⟩:=hr;exact ⟨vals,hv,RepL.flags' h l vals O hS h1⟩
 |.tuple l,v,O,hS,hr=>by
  simp only [V.reflag,Rep]at hr ⊢;obtain ⟨vals,hv,h1⟩:=hr;exact ⟨vals,hv,RepL.flags' h l vals O hS h1⟩
 |.lp ..,_,_,_,hr=>by simp only [Rep]at hr
 |.mp _,_,_,_,hr=>by simp only [Rep]at hr
theorem RepL.flags'{g:Fl->Fl}{w:World}{X X':Cx}{S:Nat->Prop}(h:Flags' g X X' S):∀(l:List V) (vals:List Value) (O:List Nat),(∀b∈O,S b)->RepL w X l vals O->RepL w X' (reflagL g l) vals O
 |[],_,_,_,hr=>by simpa only [reflagL,RepL]using hr
 |x::l,vals,O,hS,hr=>by
  simp only [reflagL,RepL]at hr ⊢;obtain ⟨u,vs,O1,O2,hv,rfl,h1,h2⟩:=hr;exact ⟨u,vs,O1,O2,hv,rfl,Rep.flags' h x u O1 (λb hb=>hS b (by simp [hb])) h1,RepL.flags' h l vs O2 (λb hb=>hS b (by simp [hb])) h2⟩
theorem RepE.flags'{g:Fl->Fl}{w:World}{X X':Cx}{S:Nat->Prop}(h:Flags' g X X' S)(s:Nat):∀(l:List V) (vals:List Value) (O:List Nat),(∀b∈O,S b)->RepE w X s l vals O->RepE w X' s (reflagL g l) vals O
 |[],_,_,_,hr=>by simpa only [reflagL,RepE]using hr
 |x::l,vals,O,hS,hr=>by
  simp only [reflagL,RepE]at hr ⊢;obtain ⟨u,vs,O1,O2,hv,hsz,rfl,h1,h2⟩:=hr;exact ⟨u,vs,O1,O2,hv,hsz,rfl,Rep.flags' h x u O1 (λb hb=>hS b (by simp [hb])) h1,RepE.flags' h s l vs O2 (λb hb=>hS b (by simp [hb])) h2⟩
end
def Dom(w:World)(X:Cx):Prop:=∀b e fz,X.ω b=some (e,fz)->b<w.heap.size
structure Eff (w:World) (X:Cx) (w':World) (X':Cx) (Oin:List Nat):Prop where
 size:w.heap.size<=w'.heap.size
 kept:∀b,b<w.heap.size->b∉Oin->w'.heap[b]?=w.heap[b]?
 ωk:∀b,b<w.heap.size->b∉Oin->X'.ω b=X.ω b
 own:∀b∈Oin,∀e fz,X.ω b=some (e,fz)->∃e' fz',X'.ω b=some (e',fz')/\e<=e'/\(fz=true->fz'=true) /\
  (∀i v,i<e->w.cell? ⟨b,i,none⟩=some v->w'.cell? ⟨b,i,none⟩=some v) /\
  (∀c t,w.heap[b]?=some (.cells c t (0,0))->∃c',w'.heap[b]?=some (.cells c' t (0,0))/\c'.size=c.size)
 β:X'.β=X.β
 dom:Dom w' X'
 os:w'.os=w.os
 out:w'.output=w.output
 tape:w'.tape=w.tape
theorem Eff.refl{w:World}{X:Cx}(O:List Nat)(h:Dom w X):Eff w X w X O :=
 ⟨Nat.le_refl _,λ_ _ _=>rfl,λ_ _ _=>rfl,λb _ e fz hω=>⟨e,fz,hω,Nat.le_refl _,id,λ_ _ _ h=>h,λc t h=>⟨c,h,rfl⟩⟩,rfl,h,rfl,rfl,rfl⟩
theorem cell_of_heap{w w':World}{b i:Nat}(h:w'.heap[b]?=w.heap[b]?):w'.cell? ⟨b,i,none⟩=w.cell? ⟨b,i,none⟩:=by
 simp [World.cell?,h]
theorem Eff.ext{w w':World}{X X':Cx}{O:List Nat}(h:Eff w X w' X' O)(hd:Dom w X)(R:List Root):Ext R w X w' X' (λb=>b∈O) where
 β:=λr _=>by rw [h.β]
 ω:=λb e fz hω=>by
  by_cases hb:b∈O
  ·obtain ⟨e',fz',h1,h2,h3,_⟩:=h.own b hb e fz hω;exact ⟨e',fz',h1,h2,h3,λhn=>absurd hb hn⟩
  ·exact ⟨e,fz,by rw [h.ωk b (hd b e fz hω) hb];exact hω,Nat.le_refl _,id,λ_=>⟨rfl,rfl⟩⟩
 cell:=λb e fz i v hω hi hc=>by
  by_cases hb:b∈O
  ·obtain ⟨e',_,_,_,_,h3,_⟩:=h.own b hb e fz hω;exact h3 i v hi hc
  ·rw [cell_of_heap (h.kept b (hd b e fz hω) hb)];exact hc
 obj:=λb e fz c t hU hω hc=>by
  by_cases hb:b∈O
  ·exact absurd hb hU
  ·exact ⟨c,by rw [h.kept b (hd b e fz hω) hb];exact hc,rfl⟩
def Lin(O:List Nat):Prop:=∀b,O.count b<=1
theorem Lin.nil:Lin []:=λ_=>by simp
theorem Lin.left{A B:List Nat}(h:Lin (A++B)):Lin A:=λb=>by have:=h b;rw [List.count_append]at this;omega
theorem Lin.right{A B:List Nat}(h:Lin (A++B)):Lin B:=λb=>by have:=h b;rw [List.count_append]at this;omega
def quU(P:Program)(s:Sem Next)(w:World)(X:Cx)(x:V)(Oin:List Nat):Prop :=
 ∃v w' X' O',s.run P w=.ok (.value v) w'/\Eff w X w' X' Oin/\Rep w' X' x v O'/\Lin O'/\(∀b∈O',b∈Oin\/w.heap.size<=b)
theorem qej{P:Program}{s:Sem Next}{w:World}{X:Cx}{x:V}{Oin O':List Nat}{v:Value}(hd:Dom w X)(hr:s.run P w=.ok (.value v) w)(hx:Rep w X x v O')(hl:Lin O')(hs:∀b∈O',b∈Oin) :
  quU P s w X x Oin:=⟨v,w,X,O',hr,Eff.refl _ hd,hx,hl,λb hb=>.inl (hs b hb)⟩
theorem qcK{α:Type}{P:Program}{w:World}:∀{s:Sem α} {a:α},valOf P s=some a->s.run P w=.ok a w:=by
 intro s;induction s with
 |pure b=>intro a h;simp [valOf]at h;simp [h]
 |program k ih=>intro a h;simp only [valOf]at h;simp only [Sem.run];exact ih P h
 |mark m k ih=>intro a h;simp only [valOf]at h;simp only [Sem.run];exact ih h
 |_=>intro a h;simp [valOf]at h
mutual
theorem rep_toVal{w:World}{X:Cx}:∀(x:V) (v:Value) (O:List Nat) (a:Value),x.toVal=some a->Rep w X x v O->v=a/\O=[]
 |.val u,v,O,a,ht,hr=>by simp only [V.toVal,qb]at ht;simp only [Rep]at hr;exact ⟨hr.1.trans ht,hr.2⟩
 |.agg l,v,O,a,ht,hr=>by
  simp only [V.toVal]at ht;simp only [Rep]at hr;obtain ⟨vals,hv,hl⟩:=hr;cases hh:toValL l with
  |none=>simp [hh]at ht
  |some vs=>simp [hh]at ht;obtain ⟨e1,e2⟩:=repL_toVal l vals O vs hh hl;exact ⟨by rw [hv,e1,ht],e2⟩
 |.tuple l,v,O,a,ht,hr=>by
  simp only [V.toVal]at ht;simp only [Rep]at hr;obtain ⟨vals,hv,hl⟩:=hr;cases hh:toValL l with
  |none=>simp [hh]at ht
  |some vs=>simp [hh]at ht;obtain ⟨e1,e2⟩:=repL_toVal l vals O vs hh hl;exact ⟨by rw [hv,e1,ht],e2⟩
 |.iface t x,v,O,a,ht,hr=>by
  simp only [V.toVal]at ht;simp only [Rep]at hr;obtain ⟨u,hv,hl⟩:=hr;cases hh:x.toVal with
  |none=>simp [hh]at ht
  |some y=>simp [hh]at ht;obtain ⟨e1,e2⟩:=rep_toVal x u O y hh hl;exact ⟨by rw [hv,e1,ht],e2⟩
 |.undef,_,_,_,ht,_|.ptr ..,_,_,_,ht,_|.cptr ..,_,_,_,ht,_|.sl ..,_,_,_,ht,_|.room ..,_,_,_,ht,_|.fn ..,_,_,_,ht,_|.yld _,_,_,_,ht,_|.mref _,_,_,_,ht,_|.bsl ..,_,_,_,ht,_|.mp _,_,_,_,ht,_|.lp ..,_,_,_,ht,_=>by simp [V.toVal]at ht
theorem repL_toVal{w:World}{X:Cx}:∀(l:List V) (vals:List Value) (O:List Nat) (vs:List Value),toValL l=some vs->RepL w X l vals O->vals=vs/\O=[]
 |[],vals,O,vs,ht,hr=>by simp only [toValL,qb]at ht;simp only [RepL]at hr;exact ⟨hr.1.trans ht,hr.2⟩
 |x::l,vals,O,vs,ht,hr=>by
  simp only [toValL]at ht;simp only [RepL]at hr;obtain ⟨u,rest,O1,O2,rfl,rfl,h1,h2⟩:=hr;cases hx:x.toVal with
  |none=>simp [hx]at ht
  |some a =>
   cases hl:toValL l with
   |none=>simp [hx,hl]at ht
   |some asz =>
    simp [hx,hl]at ht;obtain ⟨e1,e2⟩:=rep_toVal x u O1 a hx h1;obtain ⟨e3,e4⟩:=repL_toVal l rest O2 asz hl h2;exact ⟨by rw [e1,e3,ht],by rw [e2,e4];rfl⟩
end
theorem qpo{w:World}{X:Cx}:∀(l:List Value),RepL w X (l.map .val) l []
 |[]=>by simp [RepL]
 |v::l=>by simp only [List.map,RepL];exact ⟨v,l,[],[],rfl,rfl,by simp [Rep],qpo l⟩
theorem qsm{w:World}{X:Cx}(g:Value->V)(hg:∀v,Rep w X (g v) v []):∀(l:List Value),RepL w X (l.map g) l []
 |[]=>by simp [RepL]
 |v::l=>by simp only [List.map,RepL];exact ⟨v,l,[],[],rfl,rfl,hg v,qsm g hg l⟩
theorem qgk{w:World}{X:Cx}(u:Value):Rep w X (qcl u) u []:=by
 unfold qcl;split
 ·rename_i cs;simp only [Rep];exact ⟨cs.toList,by simp,qpo _⟩
 ·rename_i vs;simp only [Rep];refine ⟨vs.toList,by simp,qsm _ (λv=>?_) _⟩;split
  ·rename_i cs;simp only [Rep];exact ⟨cs.toList,by simp,qpo _⟩
  ·simp [Rep]
 ·simp [Rep]
theorem qiJ{w:World}{X:Cx}(p:Bool)(u:Value):Rep w X (qcJ p u) u []:=by
 unfold qcJ;split
 ·unfold qeR;cases p<;>simp [Rep,ptrsL]
 ·simp [Rep]
theorem qgY{w:World}{X:Cx}(p:Bool)(u:Value):Rep w X (ofConst p u) u []:=by
 unfold ofConst;split
 ·rename_i cs;simp only [Rep];exact ⟨cs.toList,by simp,qsm _ (qiJ p) _⟩
 ·exact qiJ p u
theorem qF{w:World}{X:Cx}:∀(l:List V) (vals:List Value) (O:List Nat),RepL w X l vals O->l.length=vals.length
 |[],vals,O,h=>by simp only [RepL]at h;simp [h.1]
 |x::l,vals,O,h=>by
  simp only [RepL]at h;obtain ⟨u,vs,O1,O2,rfl,_,_,h2⟩:=h;simp [qF l vs O2 h2]
theorem qaB{w:World}{X:Cx}:∀{l l':List V} {vals vals':List Value} {O O':List Nat},RepL w X l vals O->RepL w X l' vals' O'->RepL w X (l++l') (vals++vals') (O++O')
 |[],_,vals,_,O,_,h,h'=>by simp only [RepL]at h;simpa [h.1,h.2]using h'
 |x::l,_,vals,_,O,_,h,h'=>by
  simp only [RepL]at h;obtain ⟨u,vs,O1,O2,rfl,rfl,h1,h2⟩:=h;simp only [List.cons_append,RepL];exact ⟨u,vs++_,O1,O2++_,rfl,by simp,h1,qaB h2 h'⟩
theorem qaC{w:World}{X:Cx}:∀(n:Nat) {l:List V} {vals:List Value} {O:List Nat},RepL w X l vals O->∃O1 O2,O=O1++O2/\RepL w X (l.take n) (vals.take n) O1/\RepL w X (l.drop n) (vals.drop n) O2
 |0,l,vals,O,h=>⟨[],O,rfl,by simp [RepL],by simpa using h⟩
 |n+1,[],vals,O,h=>by simp only [RepL]at h;exact ⟨[],[],by simp [h.2],by simp [RepL,h.1],by simp [RepL,h.1]⟩
 |n+1,x::l,vals,O,h=>by
  simp only [RepL]at h;obtain ⟨u,vs,O1,O2,rfl,rfl,h1,h2⟩:=h;obtain ⟨A,B,rfl,hA,hB⟩:=qaC n h2;exact ⟨O1++A,B,by simp,by simp only [List.take_succ_cons,RepL];exact ⟨u,_,O1,A,rfl,rfl,h1,hA⟩,by simpa using hB⟩
theorem qnO{w:World}{X:Cx}:∀{l:List V} {vals:List Value} {O:List Nat} (i:Nat) {x:V},RepL w X l vals O->l[i]?=some x->∃v Oi,vals[i]?=some v/\Rep w X x v Oi/\(∀b,Oi.count b<=O.count b)
 |[],vals,O,i,x,h,hi=>by simp at hi
 |y::l,vals,O,0,x,h,hi=>by
  simp only [RepL]at h;obtain ⟨u,vs,O1,O2,rfl,rfl,h1,h2⟩:=h;simp at hi;subst hi;exact ⟨u,O1,by simp,h1,λb=>by rw [List.count_append];omega⟩
 |y::l,vals,O,i+1,x,h,hi=>by
  simp only [RepL]at h;obtain ⟨u,vs,O1,O2,rfl,rfl,h1,h2⟩:=h;obtain ⟨v,Oi,hv,hr,hc⟩:=qnO (i:=i) h2 (by simpa using hi);exact ⟨v,Oi,by simpa using hv,hr,λb=>by rw [List.count_append];have:=hc b;omega⟩
theorem qf8{O O':List Nat}(h:Lin O)(hc:∀b,O'.count b<=O.count b):Lin O':=λb=>Nat.le_trans (hc b) (h b)
theorem qcc{O O':List Nat}(hc:∀b,O'.count b<=O.count b):∀b∈O',b∈O:=λb hb=>List.count_pos_iff.1 (Nat.lt_of_lt_of_le (List.count_pos_iff.2 hb) (hc b))
theorem qjX{w:World}{X:Cx}{x:V}{u:Value}{O:List Nat}(h1:x.one=true)(h:Rep w X x u O):u.oneCell'=true:=by
 cases x with
 |val a=>simp only [Rep]at h;obtain ⟨rfl,_⟩:=h;simp only [V.one]at h1;cases u<;>simp_all [Value.oneCell']
 |ptr r off=>simp only [Rep]at h;obtain ⟨_,b,_,rfl⟩:=h;rfl
 |yld r=>simp only [Rep]at h;obtain ⟨_,b,_,rfl⟩:=h;rfl
 |mref r=>simp only [Rep]at h;obtain ⟨_,b,_,rfl⟩:=h;rfl
 |bsl r off n=>simp only [Rep]at h;obtain ⟨_,b,cap,_,rfl,_⟩:=h;rfl
 |cptr f cs=>simp only [Rep]at h;obtain ⟨_,b,off,vals,rfl,_⟩:=h;rfl
 |room s n=>simp only [Rep]at h;obtain ⟨b,cap,rfl,_⟩:=h;rfl
 |sl f c l =>
  simp only [Rep]at h;rcases h.2 with ⟨_,_,rfl|⟨_,_,rfl⟩⟩|⟨b,off,cap,s,vals,O',rfl,_⟩<;>rfl
 |fn f a c=>simp only [Rep]at h;obtain ⟨va,vc,O1,O2,rfl,_⟩:=h;rfl
 |iface t y=>simp only [Rep]at h;obtain ⟨u,rfl,_⟩:=h;rfl
 |_=>simp [V.one]at h1
theorem qb5{u:Value}(h:u.oneCell'=true):u.cells=#[u]:=by cases u<;>simp_all [Value.oneCell',Value.cells]
theorem qup{w:World}{X:Cx}:∀{l:List V} {vals:List Value} {O:List Nat},l.all V.one=true->RepL w X l vals O->∀u∈vals,u.oneCell'=true
 |[],vals,O,_,h=>by simp only [RepL]at h;simp [h.1]
 |x::l,vals,O,ha,h=>by
  simp only [RepL]at h;obtain ⟨u,vs,O1,O2,rfl,_,h1,h2⟩:=h;simp only [List.all_cons,qe]at ha;intro y hy;rcases qk.1 hy with rfl|hy
  ·exact qjX ha.1 h1
  ·exact qup ha.2 h2 y hy
theorem qa0{x:V}(h:∀l,x≠.agg l):x.cells=[x]:=by
 cases x<;>first|rfl|exact absurd rfl (h _)
theorem qdo{w:World}{X:Cx}{x:V}{u:Value}{O:List Nat}(hk:x.oks=true)(h:Rep w X x u O):RepL w X x.cells u.cells.toList O/\∀c∈u.cells.toList,c.oneCell'=true:=by
 by_cases hx:∃l,x=.agg l
 ·obtain ⟨l,rfl⟩:=hx;simp only [Rep]at h;obtain ⟨vals,rfl,hl⟩:=h;simp only [V.oks,V.cells]at hk;simp only [V.cells,Value.cells];exact ⟨by simpa using hl,by simpa using qup hk hl⟩
 ·have hc:=qa0 (x:=x) (λl e=>hx ⟨l,e⟩);have h1:x.one=true:=by simpa [V.oks,hc]using hk
  have hu:=qjX h1 h;rw [hc,qb5 hu];refine ⟨?_,by simpa using hu⟩;simp only [RepL];exact ⟨u,[],O,[],rfl,by simp,h,rfl,rfl⟩
section
variable {P:Program} {H:Hints} {f:FuncId} {w:World} {X:Cx}
theorem qbL{x:V}{vals:List Value}{O:List Nat}(h:RepL w X [x] vals O):∃u,vals=[u]/\Rep w X x u O:=by
 simp only [RepL]at h;obtain ⟨u,vs,O1,O2,rfl,rfl,h1,rfl,rfl⟩:=h;exact ⟨u,rfl,by simpa using h1⟩
theorem qk6{x y:V}{vals:List Value}{O:List Nat}(h:RepL w X [x,y] vals O):∃u v O1 O2,vals=[u,v]/\O=O1++O2/\Rep w X x u O1/\Rep w X y v O2:=by
 simp only [RepL]at h;obtain ⟨u,vs,O1,O2,rfl,rfl,h1,v,vs',O3,O4,rfl,rfl,h2,rfl,rfl⟩:=h;exact ⟨u,v,O1,O3,rfl,by simp,h1,h2⟩
theorem qyC{x y z:V}{vals:List Value}{O:List Nat}(h:RepL w X [x,y,z] vals O):∃u v t O1 O2 O3,vals=[u,v,t]/\O=O1++(O2++O3)/\Rep w X x u O1/\Rep w X y v O2/\Rep w X z t O3:=by
 simp only [RepL]at h;obtain ⟨u,vs,O1,O2,rfl,rfl,h1,v,vs',O3,O4,rfl,rfl,h2,t,vs'',O5,O6,rfl,rfl,h3,rfl,rfl⟩:=h;exact ⟨u,v,t,O1,O3,O5,rfl,by simp,h1,h2,h3⟩
theorem qqk(X:Cx):Flags qV X X (λ_=>True) true where
 β:=rfl
 own:=λf=>by cases f<;>simp [qV]
 dul:=λ_ _=>rfl
 ω:=λ_ b e fz h=>⟨fz,h⟩
 sh:=λf b e fz h _ hs _ hg=>by cases f<;>simp [qV]at hg;rw [hs rfl]at h;exact h
theorem qgW{x:V}{v:Value}{O:List Nat}(h:Rep w X x v O):Rep w X x.q6 v []:=Rep.flags (qqk X) x v O (λ_ _=>trivial) (λ_=>rfl) h
theorem qum{l:List V}{vs:List Value}{O:List Nat}(h:RepL w X l vs O):RepL w X (reflagL qV l) vs []:=RepL.flags (qqk X) l vs O (λ_ _=>trivial) (λ_=>rfl) h
theorem info_of_underlying{t:TypeId}{d:TypeDesc}(h:P.underlying t=some d):∃i,P.info? t=some i:=by
 unfold Program.underlying at h;cases hi:P.info? t with
 |none=>simp [hi]at h
 |some i=>exact ⟨i,rfl⟩
theorem qeO{t:TypeId}(h:P.cellsOf t≠0):∃i,P.info? t=some i/\i.size=P.cellsOf t:=by
 unfold Program.cellsOf at h ⊢;cases hi:P.info? t with
 |none=>simp [hi]at h
 |some i=>exact ⟨i,rfl,by simp⟩
theorem qar{t:TypeId}(h:P.cellsOf t≠0):(sizeOf t).run P w=.ok (P.cellsOf t) w:=by
 obtain ⟨i,hi,hs⟩:=qeO h;simp [sizeOf,typeInfo,hi,hs]
theorem qh8{t:TypeId}{d:TypeDesc}(h:P.underlying t=some d):(sizeOf t).run P w=.ok (P.cellsOf t) w:=by
 obtain ⟨i,hi⟩:=info_of_underlying h;simp [sizeOf,typeInfo,hi,Program.cellsOf]
theorem qmd{t:TypeId}{d:TypeDesc}(h:P.underlying t=some d):(isAgg t).run P w=.ok (qN P t) w:=by
 simp only [isAgg,Sem.run_bind,run_underlying h,Result.andThen_ok,qN,h];cases d<;>simp
theorem qss{s:Sem Value}{v:Value}{w':World}(h:s.run P w=.ok v w'):(do pure (Next.value (<- s)):Sem Next).run P w=.ok (.value v) w':=by
 simp [h]
theorem qAy{s:Sem Value}{x:V}{Oin O':List Nat}{v:Value}(hd:Dom w X)(h:s.run P w=.ok v w)(hx:Rep w X x v O')(hl:Lin O')(hs:∀b∈O',b∈Oin):quU P (do pure (Next.value (<- s))) w X x Oin :=
 qej hd (qss h) hx hl hs
theorem qgX{t:TypeId}{cs:List V}{x:V}{vals:List Value}{O:List Nat}(hx:q4 P t cs=some x)(h:RepL w X cs vals O) :
  ∃v O',Rep w X x v O'/\(∀b,O'.count b<=O.count b)/\(if qN P t then P.cellsOf t<=vals.length/\v=.agg (vals.take (P.cellsOf t)).toArray else vals.head?=some v)/\∃d,P.underlying t=some d:=by
 unfold q4 at hx;cases hu:P.underlying t with
 |none=>simp [hu]at hx
 |some d =>
  simp only [hu]at hx;by_cases ha:qN P t=true
  ·simp only [ha,if_true]at hx ⊢;split at hx
   ·rename_i hle;simp only [qb]at hx;subst hx;obtain ⟨O1,O2,rfl,h1,_⟩:=qaC (P.cellsOf t) h;refine ⟨_,O1,by simp only [Rep];exact ⟨_,rfl,h1⟩,λb=>by rw [List.count_append];omega,⟨by rw [<- qF _ _ _ h];exact hle,rfl⟩,d,rfl⟩
   ·simp at hx
  ·have ha':qN P t=false:=by simpa using ha
   simp only [ha',qf,if_false]at hx ⊢;cases cs with
   |nil=>simp at hx
   |cons y cs =>
    simp at hx;subst hx;simp only [RepL]at h;obtain ⟨u,vs,O1,O2,rfl,rfl,h1,h2⟩:=h;exact ⟨u,O1,h1,λb=>by rw [List.count_append];omega,by simp,d,rfl⟩
theorem qen{t:TypeId}{b off:Nat}{vals:List Value}{v:Value}{d:TypeDesc}(hu:P.underlying t=some d)(hs:Seg w b off vals)
  (hv:if qN P t then P.cellsOf t<=vals.length/\v=.agg (vals.take (P.cellsOf t)).toArray else vals.head?=some v) :
  (loadVar t ⟨b,off,none⟩).run P w=.ok v w:=by
 simp only [loadVar,Sem.run_bind,qmd hu,Result.andThen_ok];by_cases ha:qN P t=true
 ·simp only [ha,if_true]at hv ⊢;obtain ⟨hle,rfl⟩:=hv;have hl:=run_loadCells_list (P:=P) (w:=w) ⟨b,off,none⟩ (vals.take (P.cellsOf t)) (λj u hj=>by
   rw [Addr.add_lit];rw [List.getElem?_take]at hj;split at hj
   ·exact hs j u hj
   ·simp at hj)
  rw [List.length_take,Nat.min_eq_left hle]at hl;simp [qh8 hu,hl]
 ·have ha':qN P t=false:=by simpa using ha
  simp only [ha',qf,if_false]at hv ⊢;have h0:=hs 0 v (by cases vals<;>simp_all);simp only [Nat.add_zero]at h0;simp [h0]
theorem qxe{s:Nat}:∀{l:List V} {vals:List Value} {O:List Nat} (i:Nat) {x:V},RepE w X s l vals O->l[i]?=some x ->
  ∃u Oi,Rep w X x u Oi/\u.cells.size=s/\(∀j v,u.cells.toList[j]?=some v->vals[i*s+j]?=some v)/\i*s+s<=vals.length/\(∀b,Oi.count b<=O.count b)
 |[],vals,O,i,x,h,hi=>by simp at hi
 |y::l,vals,O,0,x,h,hi=>by
  simp only [RepE]at h;obtain ⟨u,vs,O1,O2,rfl,hs,rfl,h1,h2⟩:=h;simp at hi;subst hi;refine ⟨u,O1,h1,hs,λj v hj=>?_,by simp [hs],λb=>by rw [List.count_append];omega⟩;rw [Nat.zero_mul,Nat.zero_add,qg (qm.1 hj).1];exact hj
 |y::l,vals,O,i+1,x,h,hi=>by
  simp only [RepE]at h;obtain ⟨u,vs,O1,O2,rfl,hs,rfl,h1,h2⟩:=h;obtain ⟨u',Oi,hr,hs',hj,hl,hc⟩:=qxe (i:=i) h2 (by simpa using hi);have e:u.cells.toList.length=s:=by simpa using hs
  refine ⟨u',Oi,hr,hs',λj v hv=>?_,?_,λb=>by rw [List.count_append];have:=hc b;omega⟩
  ·rw [show (i+1)*s+j=s+(i*s+j) by rw [Nat.succ_mul];omega,List.getElem?_append_right (by omega),e,Nat.add_sub_cancel_left];exact hj j v hv
  ·rw [List.length_append,e,Nat.succ_mul];omega
theorem qs5{f:Fl}{cs:List V}{b off n:Nat}{vals:List Value}(hs:Seg w b off vals)(hω:∃e fz,X.ω b=some (e,fz)/\off+vals.length<=e/\(f=.shared->fz=true))(hl:RepL w X cs vals [])(hno:f≠.own)(hn:n<=cs.length) :
  Rep w X (.cptr f (cs.drop n)) (.pointer (some ⟨b,off+n,none⟩)) []:=by
 obtain ⟨e,fz,hω,hle,hsh⟩:=hω;obtain ⟨O1,O2,hO,_,h2⟩:=qaC n hl;have hO2:O2=[]:=(List.append_eq_nil_iff.1 hO.symm).2;subst hO2;rw [qF _ _ _ hl]at hn;simp only [Rep];refine ⟨trivial,b,off+n,vals.drop n,rfl,λi u hi=>?_,⟨e,fz,hω,by rw [List.length_drop];omega,hsh⟩,h2,hno⟩;rw [List.getElem?_drop]at hi;rw [Nat.add_assoc];exact hs _ u hi
theorem qmK{t:TypeId}{x y:V}{fd:Nat}{v:Value}{O:List Nat}(hy:qcq P t x fd=some y)(h:Rep w X x v O) :
  ∃v',(Instr.fieldAt t v fd).run P w=.ok v' w/\Rep w X y v' []:=by
 unfold qcq at hy;split at hy
 ·rename_i fields hu;split at hy
  ·rename_i g hf;by_cases hz:P.cellsOf g.type=0
   ·simp [hz]at hy
   ·simp only [hz,if_false]at hy;split at hy
    ·rename_i r off;simp only [qb]at hy;subst hy;simp only [Rep]at h;obtain ⟨_,b,hb,rfl⟩:=h;refine ⟨.pointer (some ⟨b,off+g.offset,none⟩),?_,by simp only [Rep];exact ⟨trivial,b,hb,rfl⟩⟩;simp [Instr.fieldAt,run_underlying hu,hf,Instr.sureAddr,fieldPlace,qar hz,hz,Addr.add_lit]
    ·rename_i fl cs;split at hy
     ·rename_i hle;simp only [qb]at hy;subst hy;simp only [Rep]at h;obtain ⟨_,b,off,vals,rfl,hs,hω,hl,hno⟩:=h;refine ⟨.pointer (some ⟨b,off+g.offset,none⟩),?_,qs5 hs hω hl hno hle⟩;simp [Instr.fieldAt,run_underlying hu,hf,Instr.sureAddr,fieldPlace,qar hz,hz,Addr.add_lit]
     ·simp at hy
    ·simp at hy
  ·simp at hy
 ·simp at hy
theorem qCs{t:TypeId}{x y:V}{fd:Nat}{v:Value}{O:List Nat}(hy:qrd P t x fd=some y)(h:Rep w X x v O) :
  ∃v' O',(Instr.field t v fd).run P w=.ok v' w/\Rep w X y v' O'/\(∀b,O'.count b<=O.count b):=by
 unfold qrd at hy;split at hy
 ·rename_i fields cs hu;split at hy
  ·rename_i g hf;simp only [Rep]at h;obtain ⟨vals,rfl,hl⟩:=h;obtain ⟨O1,O2,rfl,_,h2⟩:=qaC g.offset hl;obtain ⟨v',O',hr,hc,hv,d,hd⟩:=qgX hy h2;refine ⟨v',O',?_,hr,λb=>by have:=hc b;rw [List.count_append];omega⟩;simp only [Instr.field,Sem.run_bind,run_underlying hu,Result.andThen_ok,hf,asAgg,Sem.run_pure,part,qmd hd];by_cases ha:qN P g.type=true
   ·simp only [ha,if_true]at hv ⊢;obtain ⟨hle,rfl⟩:=hv;simp [qh8 hd]
   ·have ha':qN P g.type=false:=by simpa using ha
    simp only [ha',qf,if_false]at hv ⊢;have:vals[g.offset]?=some v':=by
     rw [List.head?_drop]at hv;exact hv
    simp [this]
  ·simp at hy
 ·simp at hy
theorem qmL{t:TypeId}{x i y:V}{v vi:Value}{O Oi:List Nat}(hy:qa4 P t x i=some y)(h:Rep w X x v O)(hi:Rep w X i vi Oi) :
  ∃v',(Instr.indexAt t v vi).run P w=.ok v' w/\Rep w X y v' []:=by
 unfold qa4 at hy;split at hy
 ·rename_i k n;simp only [Rep]at hi;obtain ⟨rfl,_⟩:=hi;split at hy
  ·rename_i len elem r off hu;split at hy
   ·rename_i hc;obtain ⟨h0,h1,hz⟩:=hc;simp only [qb]at hy;subst hy;simp only [Rep]at h;obtain ⟨_,b,hb,rfl⟩:=h;refine ⟨.pointer (some ⟨b,off+n.toNat*P.cellsOf elem,none⟩),?_,by simp only [Rep];exact ⟨trivial,b,hb,rfl⟩⟩;simp [Instr.indexAt,asIntOf,run_underlying hu,Instr.sureAddr,h0,h1,qar hz,Addr.add_lit]
   ·simp at hy
  ·rename_i len elem fl cs hu;split at hy
   ·rename_i hc;obtain ⟨h0,h1,hz,hle⟩:=hc;simp only [qb]at hy;subst hy;simp only [Rep]at h;obtain ⟨_,b,off,vals,rfl,hs,hω,hl,hno⟩:=h;refine ⟨.pointer (some ⟨b,off+n.toNat*P.cellsOf elem,none⟩),?_,qs5 hs hω hl hno hle⟩;simp [Instr.indexAt,asIntOf,run_underlying hu,Instr.sureAddr,h0,h1,qar hz,Addr.add_lit]
   ·simp at hy
  ·rename_i elem fl c l hu;split at hy
   ·rename_i h0;split at hy
    ·rename_i e he;split at hy
     ·rename_i hc;obtain ⟨hlen,hok,hz,_⟩:=hc;simp only [qb]at hy;subst hy;simp only [Rep]at h;obtain ⟨_,h⟩:=h;rcases h with ⟨rfl,_⟩|⟨b,off,cap,s,vals,O',rfl,hcap,_,hvl,hs0,hxs,hs,hf,hE,_⟩
      ·simp at he
      ·have hes:s=P.cellsOf elem:=by rw [<- hlen];exact (hxs e (List.mem_of_getElem? he)).symm
       obtain ⟨u,Oe,hr,husz,hj,hle,_⟩:=qxe n.toNat hE he;obtain ⟨hcells,_⟩:=qdo hok hr;have hlt:n<(l.length:Int):=by have:=(qm.1 he).1;omega
       refine ⟨.pointer (some ⟨b,off+n.toNat*P.cellsOf elem,none⟩),?_,?_⟩
       ·simp [Instr.indexAt,asIntOf,run_underlying hu,h0,hlt,qar hz,Addr.add_lit]
       ·obtain ⟨e',fz,hω,hle',hm⟩:=hf;simp only [Rep];refine ⟨trivial,b,off+n.toNat*P.cellsOf elem,u.cells.toList,rfl,λj v' hv'=>?_,⟨e',fz,hω,?_,λhh=>?_⟩,qum hcells,by cases fl<;>simp [qV]⟩
        ·have:=hs _ v' (hj j v' hv');rw [<- hes,Nat.add_assoc];exact this
        ·rw [Array.length_toList,husz,<- hes];omega
        ·cases fl with
         |own=>simp [qV]at hh
         |q6=>simp [qV]at hh
         |shared=>exact hm
     ·simp at hy
    ·simp at hy
   ·simp at hy
  ·simp at hy
 ·simp at hy
theorem qrb:∀{l:List V} {s:Nat} {vals us:List Value} {O:List Nat},qhg l=some us->RepE w X s l vals O->vals=us/\us.length=l.length
 |[],s,vals,us,O,hb,hr=>by
  simp only [qhg,qb]at hb;simp only [RepE]at hr;subst hb;exact ⟨hr.1,rfl⟩
 |x::l,s,vals,us,O,hb,hr=>by
  unfold qhg at hb;split at hb
  ·rename_i h;cases h
  ·rename_i k n l' h;cases h;obtain ⟨us',hb',rfl⟩:=qc.1 hb;simp only [RepE,Rep]at hr;obtain ⟨u,vs,O1,O2,rfl,hs,rfl,⟨rfl,rfl⟩,hr⟩:=hr;obtain ⟨h1,h2⟩:=qrb hb' hr;rw [h1];exact ⟨by simp [Value.cells],by simp [h2]⟩
  ·cases hb
theorem qxy:∀{l:List V} {us:List Value},qhg l=some us->∀n,RepL w X (l.take n) (us.take n) []
 |[],us,hb,n=>by
  simp only [qhg,qb]at hb;subst hb;simp only [List.take_nil,RepL];exact ⟨trivial,trivial⟩
 |x::l,us,hb,n=>by
  unfold qhg at hb;split at hb
  ·rename_i h;cases h
  ·rename_i k m l' h;cases h;obtain ⟨us',hb',rfl⟩:=qc.1 hb;cases n with
   |zero=>simp only [List.take_zero,RepL];exact ⟨trivial,trivial⟩
   |succ n =>
    simp only [List.take_succ_cons,RepL,Rep];exact ⟨_,_,[],[],rfl,rfl,⟨rfl,rfl⟩,qxy hb' n⟩
  ·cases hb
theorem qys{t:TypeId}{x y:V}{v:Value}{O:List Nat}(hy:qiP P t x=some y)(h:Rep w X x v O) :
  ∃v',(Instr.arrayAt t v).run P w=.ok v' w/\Rep w X y v' []:=by
 unfold qiP at hy;split at hy
 ·rename_i n elem fl c l hu;split at hy
  ·rename_i hc;obtain ⟨hn,h0,hi⟩:=hc;obtain ⟨us,hus⟩:=Option.isSome_iff_exists.1 hi;simp only [qb]at hy;subst hy;simp only [Rep]at h;obtain ⟨_,h⟩:=h;rcases h with ⟨rfl,_⟩|⟨b,off,cap,s,vals,O',rfl,hcap,_,hvl,hs0,hxs,hs,hf,hE,_⟩
   ·simp at hn;exact absurd hn h0
   ·obtain ⟨rfl,hul⟩:=qrb hus hE;refine ⟨.pointer (some ⟨b,off,none⟩),by simp [Instr.arrayAt,run_underlying hu,Nat.not_lt.2 hn],?_⟩;obtain ⟨e',fz,hω,hle',hm⟩:=hf;simp only [Rep];refine ⟨trivial,b,off,vals.take n,rfl,λj v' hv'=>hs j v' ?_,⟨e',fz,hω,?_,λhh=>?_⟩,qxy hus n,by cases fl<;>simp [qV]⟩
    ·rw [List.getElem?_take]at hv';split at hv'
     ·exact hv'
     ·cases hv'
    ·rw [List.length_take];omega
    ·cases fl with
     |own=>simp [qV]at hh
     |q6=>simp [qV]at hh
     |shared=>exact hm
  ·simp at hy
 ·simp at hy
theorem qCt{t:TypeId}{x i y:V}{v vi:Value}{O Oi:List Nat}(hy:qpL P t x i=some y)(h:Rep w X x v O)(hi:Rep w X i vi Oi) :
  ∃v' O',(Instr.index t v vi).run P w=.ok v' w/\Rep w X y v' O'/\(∀b,O'.count b<=O.count b):=by
 unfold qpL at hy;split at hy
 ·rename_i k n len elem cs hu;simp only [Rep]at hi;obtain ⟨rfl,_⟩:=hi;split at hy
  ·rename_i hc;obtain ⟨h0,h1,hz⟩:=hc;simp only [Rep]at h;obtain ⟨vals,rfl,hl⟩:=h;obtain ⟨O1,O2,rfl,_,h2⟩:=qaC (n.toNat*P.cellsOf elem) hl;obtain ⟨v',O',hr,hc,hv,d,hd⟩:=qgX hy h2;refine ⟨v',O',?_,hr,λb=>by have:=hc b;rw [List.count_append];omega⟩;simp only [Instr.index,Sem.run_bind,asIntOf,Sem.run_pure,run_underlying hu,Result.andThen_ok,h0,h1,and_self,if_true,qar hz,part,qmd hd];by_cases ha:qN P elem=true
   ·simp only [ha,if_true]at hv ⊢;obtain ⟨hle,rfl⟩:=hv;simp [qh8 hd]
   ·have ha':qN P elem=false:=by simpa using ha
    simp only [ha',qf,if_false]at hv ⊢;have:vals[n.toNat*P.cellsOf elem]?=some v':=by
     rw [List.head?_drop]at hv;exact hv
    simp [this]
  ·simp at hy
 ·rename_i k n s hu;simp only [Rep]at hi h;obtain ⟨rfl,_⟩:=hi;obtain ⟨rfl,rfl⟩:=h;split at hy
  ·rename_i h0;cases hb:s[n.toNat]? with
   |none=>simp [hb]at hy
   |some c =>
    simp [hb]at hy;subst hy;refine ⟨.int .u8 c.toNat,[],?_,by simp [Rep],λb=>by simp⟩;simp [Instr.index,asIntOf,run_underlying hu,h0,hb]
  ·simp at hy
 ·simp at hy
theorem qyt{l:List V}{i:Nat}{y:V}{v:Value}{O:List Nat}(hy:l[i]?=some y)(h:Rep w X (.tuple l) v O) :
  ∃v' O',(Instr.extract v i).run P w=.ok v' w/\Rep w X y v' O'/\(∀b,O'.count b<=O.count b):=by
 simp only [Rep]at h;obtain ⟨vals,rfl,hl⟩:=h;obtain ⟨v',Oi,hv,hr,hc⟩:=qnO i hl hy;exact ⟨v',Oi,by simp [Instr.extract,hv],hr,hc⟩
theorem qyl{d:TypeDesc}{t:TypeId}{x y:V}{u v:Value}{O1 O2:List Nat}(hu:P.underlying t=some d)(hn:notNil d x y=true)(h1:Rep w X x u O1)(h2:Rep w X y v O2)(n:Nat) :
  (Op.equalIn (n+1) t u v).run P w=.ok false w/\(∀op xo yo,(eqGuard op t xo yo u v).run P w=.ok () w) /\
   Go.binOp .eql t u v=(do pure (.bool (<- Op.equal t u v)))/\Go.binOp .neq t u v=(do pure (.bool (!(<- Op.equal t u v)))):=by
 unfold notNil at hn;split at hn
 ·simp only [Rep]at h1 h2;obtain ⟨rfl,_⟩:=h2;rcases h1.2 with ⟨hcons,_⟩|⟨b,off,cap,s,vals,O',rfl,_⟩
  ·simp at hcons
  ·exact ⟨by simp [Op.equalIn,run_underlying hu],λop xo yo=>by unfold eqGuard;split<;>simp,by simp [Go.binOp],by simp [Go.binOp]⟩
 ·simp only [Rep]at h1 h2;obtain ⟨rfl,_⟩:=h2;obtain ⟨_,b,_,rfl⟩:=h1;exact ⟨by simp [Op.equalIn,run_underlying hu],λop xo yo=>by unfold eqGuard;split<;>simp,by simp [Go.binOp],by simp [Go.binOp]⟩
 ·simp only [Rep]at h1 h2;obtain ⟨rfl,_⟩:=h2;obtain ⟨_,b,off,vals,rfl,_⟩:=h1;exact ⟨by simp [Op.equalIn,run_underlying hu],λop xo yo=>by unfold eqGuard;split<;>simp,by simp [Go.binOp],by simp [Go.binOp]⟩
 ·simp only [Rep]at h1 h2;obtain ⟨rfl,_⟩:=h2;obtain ⟨va,vc,O1,O2,rfl,_⟩:=h1;exact ⟨by simp [Op.equalIn,run_underlying hu],λop xo yo=>by unfold eqGuard;split<;>simp,by simp [Go.binOp],by simp [Go.binOp]⟩
 ·simp only [Rep]at h1 h2;obtain ⟨rfl,_⟩:=h2;obtain ⟨u',rfl,_⟩:=h1;exact ⟨by simp [Op.equalIn,run_underlying hu],λop xo yo=>by unfold eqGuard;split<;>simp,by simp [Go.binOp],by simp [Go.binOp]⟩
 ·simp at hn
theorem qxO(t:TypeId)(u v:Value):Op.equal t u v=Op.equalIn (9999+1) t u v:=rfl
theorem qFe{op:BinOp}{t:TypeId}{xo yo:Operand}{x y z:V}{u v:Value}{O1 O2:List Nat}(hz:qnV P op t xo yo x y=some z)(h1:Rep w X x u O1)(h2:Rep w X y v O2) :
  ∃v',(do eqGuard op t xo yo u v;Go.binOp op t u v:Sem Value).run P w=.ok v' w/\Rep w X z v' []:=by
 unfold qnV at hz;split at hz
 ·rename_i a b ha hb;obtain ⟨rfl,rfl⟩:=rep_toVal x u O1 a ha h1;obtain ⟨rfl,rfl⟩:=rep_toVal y v O2 b hb h2;cases hv:valOf P (do eqGuard op t xo yo u v;Go.binOp op t u v:Sem Value)with
  |none=>simp [hv]at hz
  |some r=>simp [hv]at hz;subst hz;exact ⟨r,qcK hv,qgk r⟩
 ·split at hz
  ·rename_i d hu;split at hz
   ·rename_i hn;have key:∃r:Bool,z=.val (.bool r)/\((op=.eql/\r=false)\/(op=.neq/\r=true)):=by
     split at hz
     ·simp only [qb]at hz;exact ⟨false,hz.symm,.inl ⟨rfl,rfl⟩⟩
     ·simp only [qb]at hz;exact ⟨true,hz.symm,.inr ⟨rfl,rfl⟩⟩
     ·simp at hz
    obtain ⟨r,rfl,hr⟩:=key;obtain ⟨he,hg,hb1,hb2⟩:=qyl hu hn h1 h2 9999;rw [<- qxO]at he;refine ⟨.bool r,?_,by simp [Rep]⟩;simp only [Sem.run_bind,hg,Result.andThen_ok];rcases hr with ⟨rfl,rfl⟩|⟨rfl,rfl⟩
    ·rw [hb1];simp only [Sem.run_bind,he,Result.andThen_ok,Sem.run_pure]
    ·rw [hb2];simp only [Sem.run_bind,he,Result.andThen_ok,Sem.run_pure,Bool.not_false]
   ·simp at hz
  ·simp at hz
end
section
variable {P:Program} {H:Hints} {f:FuncId} {w:World} {X:Cx}
theorem qwI(off:Nat):∀(vs:List Value) (k:Nat) (cells:Array Value),off+k+vs.length<=cells.size ->
  ((vs.zipIdx k).foldl (λcs x=>cs.setIfInBounds (off+x.2) x.1) cells).toList=cells.toList.take (off+k)++vs++cells.toList.drop (off+k+vs.length)
 |[],k,cells,_=>by simp
 |v::vs,k,cells,h=>by
  simp only [List.zipIdx_cons,List.foldl_cons];rw [qwI off vs (k+1) _ (by simp at h ⊢;omega)];have hlt:off+k<cells.toList.length:=by simp at h ⊢;omega
  simp only [Array.toList_setIfInBounds,List.length_cons];have e1:(cells.toList.set (off+k) v).take (off+(k+1))=cells.toList.take (off+k)++[v]:=by
   rw [<- Nat.add_assoc,List.take_succ_eq_append_getElem (by simpa using hlt)];simp [List.take_set_of_le]
  have e2:(cells.toList.set (off+k) v).drop (off+(k+1)+vs.length)=cells.toList.drop (off+k+(vs.length+1)):=by
   rw [List.drop_set_of_lt (by omega)];congr 1;omega
  rw [e1,e2];simp
theorem qzF(off:Nat)(v:Value)(vals:List Value)(h:off+v.cells.toList.length<=vals.length) :
  v.cells.zipIdx.foldl (λcs (x:Value×Nat)=>cs.setIfInBounds (off+x.2) x.1) vals.toArray=(vals.take off++v.cells.toList++vals.drop (off+v.cells.toList.length)).toArray:=by
 have:=qwI off v.cells.toList 0 vals.toArray (by simpa using h);rw [<- Array.foldl_toList,Array.toList_zipIdx];apply Array.ext';simpa using this
theorem qkh(b:Nat)(A B:List Nat):(A++B).count b=A.count b+B.count b:=List.count_append
theorem qjW{cs vs:List V}{vals us:List Value}{O Op:List Nat}{off:Nat}(h:RepL w X cs vals O)(hv:RepL w X vs us Op) :
  ∃O',RepL w X (qJ cs off vs) (vals.take off++us++vals.drop (off+us.length)) O'/\∀b,O'.count b<=O.count b+Op.count b:=by
 obtain ⟨A,B,rfl,hA,hB⟩:=qaC off h;obtain ⟨E,F,rfl,hE,hF⟩:=qaC us.length hB;have hl:=qF _ _ _ hv;refine ⟨A++Op++F,?_,λb=>by simp only [qkh];omega⟩;unfold qJ;rw [hl];refine qaB (qaB hA hv) ?_;simpa [List.drop_drop]using hF
theorem qnz{place:Nat->Option (Nat×Nat)}:∀(is:List Nat) (xs:List V) (us:List Value) (cs cs':List V) (vals:List Value) (O Op:List Nat),is.length=xs.length ->
  qhj place cs (is.zip xs)=some cs'->RepL w X xs us Op->RepL w X cs vals O ->
  ∃vals' O',Instr.fill place vals.toArray (is.zip us)=some vals'.toArray/\RepL w X cs' vals' O'/\(∀b,O'.count b<=O.count b+Op.count b)
 |[],xs,us,cs,cs',vals,O,Op,hl,hf,hx,hc=>by
  simp only [List.zip_nil_left,qhj,qb]at hf;subst hf;exact ⟨vals,O,by simp [Instr.fill],hc,λb=>by omega⟩
 |i::is,[],us,cs,cs',vals,O,Op,hl,hf,hx,hc=>by simp at hl
 |i::is,x::xs,us,cs,cs',vals,O,Op,hl,hf,hx,hc=>by
  simp only [RepL]at hx;obtain ⟨u,us',O1,O2,rfl,rfl,h1,h2⟩:=hx;simp only [List.zip_cons_cons,qhj]at hf;split at hf
  ·simp at hf
  ·rename_i off size hp;split at hf
   ·simp at hf
   ·rename_i hcnd;simp only [not_or,Decidable.not_not,Nat.not_lt,gt_iff_lt]at hcnd;obtain ⟨hsz,hle,hok⟩:=hcnd;have hok':x.oks=true:=by simpa using hok
    obtain ⟨hcells,_⟩:=qdo hok' h1;have hcl:x.cells.length=u.cells.size:=by rw [qF _ _ _ hcells];simp
    have hvl:=qF _ _ _ hc;obtain ⟨O',hr,hcnt⟩:=qjW (off:=off) hc hcells;obtain ⟨vals',O'',hfill,hr',hcnt'⟩:=qnz is xs us' _ cs' _ O' O2 (by simpa using hl) hf h2 hr;refine ⟨vals',O'',?_,hr',λb=>by have:=hcnt b;have:=hcnt' b;rw [qkh];omega⟩;simp only [List.zip_cons_cons,Instr.fill,hp];rw [if_neg (by simp;omega)];rw [qzF off u vals (by simp;omega)];exact hfill
theorem qdv{t:TypeId}{z:V}(hz:zeroOf P H f t=some z):∃i u,P.info? t=some i/\i.zero=some u/\z=ofConst (H.precise f) u:=by
 unfold zeroOf at hz;cases hi:P.info? t with
 |none=>simp [hi]at hz
 |some i =>
  cases hu:i.zero with
  |none=>simp [hi,hu]at hz
  |some u=>simp [hi,hu]at hz;exact ⟨i,u,rfl,hu,hz.symm⟩
theorem qd2(p:Bool)(u:Value):RepL w X (ofConst p u).cells u.cells.toList []:=by
 unfold ofConst;split
 ·rename_i cs;simp only [V.cells,Value.cells];exact qsm _ (qiJ p) _
 ·rename_i hne;have h1:(qcJ p u).cells=[qcJ p u]:=by
   apply qa0;intro l;unfold qcJ qeR;split
   ·cases p<;>simp
   ·simp
  have h2:u.cells.toList=[u]:=by cases u<;>simp_all [Value.cells]
  rw [h1,h2];simp only [RepL];exact ⟨u,[],[],[],rfl,rfl,qiJ p u,rfl,rfl⟩
theorem qCr{t:TypeId}{parts:Array (Nat×Operand)}{xs:List V}{z:V}{ρ:Operand->Value}{O:List Nat}(hz:qrc P H f t ((parts.toList.map (·.1)).zip xs)=some z)
  (h:RepL w X xs ((parts.toList.map (·.2)).map ρ) O) :
  ∃v O',(Instr.build t (parts.map λx=>(x.1,ρ x.2))).run P w=.ok v w/\Rep w X z v O'/\(∀b,O'.count b<=O.count b):=by
 have hxl:xs.length=parts.size:=by rw [qF _ _ _ h];simp
 have hzip:(parts.map λx=>(x.1,ρ x.2)).toList=(parts.toList.map (·.1)).zip ((parts.toList.map (·.2)).map ρ):=by
  rw [Array.toList_map,List.map_map,List.zip_map_right,<- List.map_prod_right_eq_zip];simp
 unfold qrc at hz;split at hz
 ·rename_i z0 fields hzero hu;obtain ⟨i,u,hi,hiz,rfl⟩:=qdv hzero;split at hz
  ·rename_i places hp;obtain ⟨cs',hfv,rfl⟩:=qc.1 hz;obtain ⟨vals',O',hfill,hr,hc⟩:=qnz _ xs _ _ cs' u.cells.toList [] O (by simp [hxl]) hfv h (qd2 _ u);refine ⟨.agg vals'.toArray,O',run_build w t _ _ ?_,by simp only [Rep];exact ⟨_,rfl,hr⟩,λb=>by have:=hc b;simpa using this⟩;unfold Program.built;simp only [hi,hu,hiz,hp,hzip];simpa using hfill
  ·simp at hz
 ·rename_i z0 len elem hzero hu;obtain ⟨i,u,hi,hiz,rfl⟩:=qdv hzero;split at hz
  ·rename_i ie hie;obtain ⟨cs',hfv,rfl⟩:=qc.1 hz;obtain ⟨vals',O',hfill,hr,hc⟩:=qnz _ xs _ _ cs' u.cells.toList [] O (by simp [hxl]) hfv h (qd2 _ u);refine ⟨.agg vals'.toArray,O',run_build w t _ _ ?_,by simp only [Rep];exact ⟨_,rfl,hr⟩,λb=>by have:=hc b;simpa using this⟩;unfold Program.built;simp only [hi,hu,hiz,hie,hzip];simpa using hfill
  ·simp at hz
 ·simp at hz
theorem heap_alloc_new(w:World)(o:Obj):(w.alloc o).heap[w.heap.size]?=some o:=by
 show (w.heap.push o)[w.heap.size]?=some o;simp
theorem heap_alloc_old(w:World)(o:Obj){b:Nat}(h:b<w.heap.size):(w.alloc o).heap[b]?=w.heap[b]?:=by
 show (w.heap.push o)[b]?=w.heap[b]?;rw [Array.getElem?_push_lt (by simpa using h),Array.getElem?_eq_getElem h]
def Cx.new(X:Cx)(b e:Nat):Cx:={X with ω:=λk=>if k=b then some (e,false)else X.ω k}
structure Alike (w w1:World):Prop where
 heap:w1.heap=w.heap
 os:w1.os=w.os
 out:w1.output=w.output
 tape:w1.tape=w.tape
theorem Alike.refl(w:World):Alike w w:=⟨rfl,rfl,rfl,rfl⟩
theorem Alike.drew(w:World):Alike w w.drew:=⟨rfl,rfl,rfl,rfl⟩
theorem Alike.cell{w w1:World}(h:Alike w w1)(a:Addr):w1.cell? a=w.cell? a:=by simp [World.cell?,h.heap]
theorem qhz{w1:World}(ha:Alike w w1)(hd:Dom w X)(o:Obj)(e:Nat)(O:List Nat):Eff w X (w1.alloc o) (X.new w.heap.size e) O where
 size:=by simp [ha.heap]
 kept:=λb hb _=>by rw [heap_alloc_old _ _ (by rw [ha.heap];exact hb),ha.heap]
 ωk:=λb hb _=>by simp only [Cx.new];rw [if_neg (by omega)]
 own:=λb _ e' fz hω=>by
  have hb:=hd b e' fz hω;refine ⟨e',fz,by simp only [Cx.new];rw [if_neg (by omega)];exact hω,Nat.le_refl _,id,λi v _ hc=>?_,λc t hc=>⟨c,by rw [heap_alloc_old _ _ (by rw [ha.heap];exact hb),ha.heap];exact hc,rfl⟩⟩;rw [World.cell?_alloc_lt _ _ _ (by rw [ha.heap];exact hb),ha.cell];exact hc
 β:=rfl
 dom:=λb e' fz hω=>by
  simp only [Cx.new]at hω;split at hω
  ·rename_i hb;subst hb;simp [ha.heap]
  ·have:=hd b e' fz hω;simp [ha.heap]<;>omega
 os:=ha.os
 out:=ha.out
 tape:=ha.tape
theorem qsl{w':World}{X':Cx}{Oin:List Nat}(he:Eff w X w' X' Oin)(hd:Dom w X){s:Nat}{l:List V}{vals:List Value}{O:List Nat}(hp:ptrsL l=[])(hO:∀b∈O,b∉Oin)(h:RepE w X s l vals O):RepE w' X' s l vals O :=
 RepE.ext (he.ext hd []) s l vals O (by rw [hp];simp) hO h
theorem qA2{w1:World}(ha:Alike w w1)(vals rest:List Value)(t:TypeId):Seg (w1.alloc (.cells (vals++rest).toArray t)) w.heap.size 0 vals:=by
 intro i v hi;rw [<- ha.heap,World.cell?_alloc_new];have hlt:=(qm.1 hi).1;simp only [Nat.zero_add,List.getElem?_toArray];rw [qg hlt];exact hi
theorem qvW{w1:World}(ha:Alike w w1)(hd:Dom w X){s cap:Nat}{l:List V}{vals rest:List Value}{O:List Nat}(t:TypeId)(hp:ptrsL l=[])(hs:0<s)(hl:vals.length=l.length*s)(hxs:∀x∈l,x.cells.length=s)
  (hcap:l.length<=cap) (hsz:cap*s<=(vals++rest).length) (h0:l.length=0->cap=0) (h:RepE w X s l vals O) (hO:∀b∈O,b<w.heap.size) :
  Rep (w1.alloc (.cells (vals++rest).toArray t)) (X.new w.heap.size vals.length) (.sl .own false l) (.slice (some ⟨w.heap.size,0,none⟩) l.length cap) (w.heap.size::O):=by
 have he:=qhz ha hd (.cells (vals++rest).toArray t) vals.length [];simp only [Rep];refine ⟨hp,.inr ⟨w.heap.size,0,cap,s,vals,O,rfl,hcap,by simp,hl,hs,hxs,qA2 ha vals rest t,?_,qsl he hd hp (by simp) h,λ_=>rfl,λhn=>absurd rfl hn⟩⟩;refine ⟨vals.length,false,by simp [Cx.new],by simp,rfl,by simp,⟨_,t,by rw [<- ha.heap];exact heap_alloc_new _ _,by simpa using hsz⟩,λhz=>h0 ?_⟩;rw [hl]at hz;rcases Nat.mul_eq_zero.1 hz with h|h<;>omega
mutual
theorem rep_dom(hd:Dom w X):∀(x:V) (v:Value) (O:List Nat),Rep w X x v O->∀b∈O,b<w.heap.size
 |.undef,_,_,h=>by simp only [Rep]at h;simp [h]
 |.val _,_,_,h=>by simp only [Rep]at h;simp [h.2]
 |.ptr ..,_,_,h=>by simp only [Rep]at h;simp [h.1]
 |.yld _,_,_,h=>by simp only [Rep]at h;simp [h.1]
 |.mref _,_,_,h=>by simp only [Rep]at h;simp [h.1]
 |.bsl ..,_,_,h=>by simp only [Rep]at h;simp [h.1]
 |.cptr ..,_,_,h=>by simp only [Rep]at h;simp [h.1]
 |.room s n,v,O,h=>by
  simp only [Rep]at h;obtain ⟨b,cap,_,_,_,rfl,hω,_⟩:=h;intro k hk;rw [show k=b by simpa using hk];exact hd b 0 false hω
 |.sl f c l,v,O,h=>by
  simp only [Rep]at h;obtain ⟨_,h⟩:=h;rcases h with ⟨_,h0,_⟩|⟨b,off,cap,s,vals,O',_,_,_,_,_,_,_,⟨e,fz,hω,_⟩,he,ho,ho'⟩
  ·simp [h0]
  ·have ih:=repE_dom hd s l vals O' he;by_cases hf:f=.own
   ·rw [ho hf];intro b' hb';rcases qk.1 hb' with rfl|hb'
    ·exact hd _ _ _ hω
    ·exact ih _ hb'
   ·simp [(ho' hf).1]
 |.fn f a c,v,O,h=>by
  simp only [Rep]at h;obtain ⟨va,vc,O1,O2,_,rfl,h1,h2⟩:=h;intro b hb;rcases qj.1 hb with hb|hb
  ·exact repL_dom hd a va O1 h1 b hb
  ·exact repL_dom hd c vc O2 h2 b hb
 |.iface t x,v,O,h=>by simp only [Rep]at h;obtain ⟨u,_,h1⟩:=h;exact rep_dom hd x u O h1
 |.agg l,v,O,h=>by simp only [Rep]at h;obtain ⟨vals,_,h1⟩:=h;exact repL_dom hd l vals O h1
 |.tuple l,v,O,h=>by simp only [Rep]at h;obtain ⟨vals,_,h1⟩:=h;exact repL_dom hd l vals O h1
 |.lp ..,_,_,h=>by simp only [Rep]at h
 |.mp _,_,_,h=>by simp only [Rep]at h
theorem repL_dom(hd:Dom w X):∀(l:List V) (vals:List Value) (O:List Nat),RepL w X l vals O->∀b∈O,b<w.heap.size
 |[],_,_,h=>by simp only [RepL]at h;simp [h.2]
 |x::l,vals,O,h=>by
  simp only [RepL]at h;obtain ⟨u,vs,O1,O2,_,rfl,h1,h2⟩:=h;intro b hb;rcases qj.1 hb with hb|hb
  ·exact rep_dom hd x u O1 h1 b hb
  ·exact repL_dom hd l vs O2 h2 b hb
theorem repE_dom(hd:Dom w X)(s:Nat):∀(l:List V) (vals:List Value) (O:List Nat),RepE w X s l vals O->∀b∈O,b<w.heap.size
 |[],_,_,h=>by simp only [RepE]at h;simp [h.2]
 |x::l,vals,O,h=>by
  simp only [RepE]at h;obtain ⟨u,vs,O1,O2,_,_,rfl,h1,h2⟩:=h;intro b hb;rcases qj.1 hb with hb|hb
  ·exact rep_dom hd x u O1 h1 b hb
  ·exact repE_dom hd s l vs O2 h2 b hb
end
theorem qgV{s:Nat}:∀{l l':List V} {vals vals':List Value} {O O':List Nat},RepE w X s l vals O->RepE w X s l' vals' O'->RepE w X s (l++l') (vals++vals') (O++O')
 |[],_,vals,_,O,_,h,h'=>by simp only [RepE]at h;simpa [h.1,h.2]using h'
 |x::l,_,vals,_,O,_,h,h'=>by
  simp only [RepE]at h;obtain ⟨u,vs,O1,O2,rfl,hs,rfl,h1,h2⟩:=h;simp only [List.cons_append,RepE];exact ⟨u,vs++_,O1,O2++_,by simp,hs,by simp,h1,qgV h2 h'⟩
theorem qjV{s:Nat}:∀{l:List V} {vals:List Value} {O:List Nat},RepE w X s l vals O->vals.length=l.length*s
 |[],vals,O,h=>by simp only [RepE]at h;simp [h.1]
 |x::l,vals,O,h=>by
  simp only [RepE]at h;obtain ⟨u,vs,O1,O2,rfl,hs,rfl,h1,h2⟩:=h;simp [qjV h2,hs,Nat.succ_mul]<;>omega
theorem qk3{s:Nat}:∀{l:List V} {vals:List Value} {O:List Nat},(∀x∈l,x.oks=true)->RepE w X s l vals O->∀u∈vals,u.oneCell'=true
 |[],vals,O,_,h=>by simp only [RepE]at h;simp [h.1]
 |x::l,vals,O,ha,h=>by
  simp only [RepE]at h;obtain ⟨u,vs,O1,O2,rfl,hs,rfl,h1,h2⟩:=h;intro y hy;rcases qj.1 hy with hy|hy
  ·exact (qdo (ha x (by simp)) h1).2 y hy
  ·exact qk3 (λz hz=>ha z (by simp [hz])) h2 y hy
theorem qal:∀(a b:List V),ptrsL (a++b)=ptrsL a++ptrsL b
 |[],b=>rfl
 |x::a,b=>by simp [ptrsL,qal a b]
theorem qgh(n:Nat)(l:List V)(h:ptrsL l=[]):ptrsL (l.take n)=[]/\ptrsL (l.drop n)=[]:=by
 have e:ptrsL (l.take n++l.drop n)=[]:=by rw [List.take_append_drop];exact h
 rw [qal]at e;exact List.append_eq_nil_iff.1 e
theorem qqS{agg:Bool}{s:Nat}(hs:agg=false->s=1):∀(n:Nat) (cs:List V) (vals:List Value) (O:List Nat),cs.length=n*s->cs.all V.one=true->ptrsL cs=[]->RepL w X cs vals O ->
  ∃O',RepE w X s (chunk agg s n cs) vals O'/\(∀b,O'.count b<=O.count b)/\ptrsL (chunk agg s n cs)=[]/\(∀x∈chunk agg s n cs,x.cells.length=s)
 |0,cs,vals,O,hl,_,_,h=>by
  have:cs=[]:=by apply List.eq_nil_of_length_eq_zero;simpa using hl
  subst this;simp only [RepL]at h;exact ⟨[],by simp [chunk,RepE,h.1],λb=>by simp,rfl,by simp [chunk]⟩
 |n+1,cs,vals,O,hl,ho,hp,h=>by
  have hvl:=qF _ _ _ h;obtain ⟨O1,O2,rfl,h1,h2⟩:=qaC s h;rw [Nat.succ_mul]at hl;have hall:∀x∈cs,x.one=true:=by simpa [List.all_eq_true]using ho
  obtain ⟨O2',hE,hc,hp',hx⟩:=qqS hs n (cs.drop s) (vals.drop s) O2 (by simp [hl]) (by rw [List.all_eq_true];intro x hx;exact hall x (List.mem_of_mem_drop hx)) (qgh s cs hp).2 h2;have hvs:vals=vals.take s++vals.drop s:=(List.take_append_drop s vals).symm;have htl:(vals.take s).length=s:=by rw [List.length_take,<- hvl,hl];omega
  cases agg with
  |true =>
   refine ⟨O1++O2',?_,λb=>by have:=hc b;simp only [qkh];omega,?_,?_⟩
   ·simp only [chunk,RepE,if_true];refine ⟨.agg (vals.take s).toArray,vals.drop s,O1,O2',by simp [Value.cells],by simpa [Value.cells]using htl,rfl,by simp only [Rep];exact ⟨_,rfl,h1⟩,hE⟩
   ·simp only [chunk,ptrsL,if_true,V.qq,hp',(qgh s cs hp).1,List.append_nil]
   ·simp only [chunk,if_true];intro x hx';rcases qk.1 hx' with rfl|hx'
    ·simp [V.cells,hl]
    ·exact hx x hx'
  |false =>
   have hs1:=hs rfl;subst hs1;cases cs with
   |nil=>simp at hl
   |cons y cs =>
    have hy1:y.one=true:=hall y (by simp);have hyc:y.cells=[y]:=qa0 (λl e=>by subst e;simp [V.one]at hy1);simp only [RepL]at h;obtain ⟨u,vs,A,B,rfl,hO,hu,hvs'⟩:=h;have hu1:=qjX hy1 hu;simp only [List.take_succ_cons,List.take_zero,RepL]at h1;obtain ⟨u',vs',A',B',he,rfl,hu',hn,hb⟩:=h1;simp at he;obtain ⟨rfl,rfl⟩:=he;refine ⟨A'++O2',?_,λb=>by have:=hc b;simp only [qkh];omega,?_,?_⟩
    ·simp only [chunk,RepE,qf,if_false,List.headD_cons];refine ⟨u,vs,A',O2',by simp [qb5 hu1],by simp [qb5 hu1],rfl,hu',by simpa using hE⟩
    ·simp only [chunk,ptrsL,qf,if_false,List.headD_cons,hp',List.append_nil];have:ptrsL [y]=[]:=by have:=(qgh 1 (y::cs) hp).1;simpa using this
     simpa [ptrsL]using this
    ·simp only [chunk,qf,if_false,List.headD_cons];intro x hx';rcases qk.1 hx' with rfl|hx'
     ·simp [hyc]
     ·exact hx x hx'
theorem cyc(l:List Value)(hl:0<l.length):∀n,((Array.range (n*l.length)).map (l.toArray[· % l.toArray.size]!)).toList=(List.replicate n l).flatten
 |0=>by simp
 |n+1=>by
  have ih:=cyc l hl n;simp only [Array.toList_map,Array.toList_range]at ih ⊢;rw [Nat.succ_mul,Nat.add_comm,List.range_add,List.map_append,List.map_map];rw [List.replicate_succ,List.flatten_cons,<- ih];congr 1
  ·apply List.ext_getElem
   ·simp
   ·intro i h1 h2;simp at h1;simp [Nat.mod_eq_of_lt h1,h1]
  ·apply List.map_congr_left;intro i _;simp [Function.comp]
theorem qjp{cs:List V}{vals:List Value}(h:RepL w X cs vals []):∀n,RepL w X (List.replicate n cs).flatten (List.replicate n vals).flatten []
 |0=>by simp [RepL]
 |n+1=>by
  simp only [List.replicate_succ,List.flatten_cons];exact qaB h (qjp h n)
theorem qmB{place:Nat->Option (Nat×Nat)}:∀(ps:List (Nat×V)) (cs cs':List V),qhj place cs ps=some cs'->cs'.length=cs.length
 |[],cs,cs',h=>by simp only [qhj,qb]at h;rw [h]
 |(i,v)::ps,cs,cs',h=>by
  simp only [qhj]at h;split at h
  ·simp at h
  ·split at h
   ·simp at h
   ·rename_i hc;simp only [not_or,Decidable.not_not,Nat.not_lt,gt_iff_lt]at hc;rw [qmB ps _ _ h];simp [qJ]<;>omega
theorem qsg{t:TypeId}{len:Nat}{parts:Array (Nat×Operand)}{xs:List V}{z:V}{ρ:Operand->Value}{O:List Nat}(hd:Dom w X)(hlin:Lin O)(hz:qdR P H f t len ((parts.toList.map (·.1)).zip xs)=some z)
  (h:RepL w X xs ((parts.toList.map (·.2)).map ρ) O) :
  quU P (do pure (Next.value (<- Instr.buildSlice t len (parts.map λx=>(x.1,ρ x.2))))) w X z O:=by
 have hxl:xs.length=parts.size:=by rw [qF _ _ _ h];simp
 have hzip:(parts.map λx=>(x.1,ρ x.2)).toList=(parts.toList.map (·.1)).zip ((parts.toList.map (·.2)).map ρ):=by
  rw [Array.toList_map,List.map_map,List.zip_map_right,<- List.map_prod_right_eq_zip];simp
 unfold qdR at hz;split at hz
 ·rename_i elem hu;split at hz
  ·rename_i ie z0 hie hzero;obtain ⟨i,u,hi,hiz,rfl⟩:=qdv hzero;obtain rfl:i=ie:=by rw [hi]at hie;exact Option.some.inj hie
   split at hz
   ·simp at hz
   ·rename_i hc;simp only [not_or,not_and,Decidable.not_not,Nat.not_lt,gt_iff_lt]at hc;obtain ⟨hs0,hs1,hzl,hsmall⟩:=hc;split at hz
    ·rename_i cs' hfv;split at hz
     ·rename_i hones;obtain ⟨hone,hptr⟩:=hones;simp only [qb]at hz;subst hz;have hcz:=qd2 (w:=w) (X:=X) (H.precise f) u;have hul:u.cells.toList.length=i.size:=by rw [<- qF _ _ _ hcz];exact hzl
      obtain ⟨vals',O',hfill,hr,hcnt⟩:=qnz _ xs _ _ cs' _ [] O (by simp [hxl]) hfv h (qjp hcz len);have hcl:cs'.length=len*i.size:=by
       rw [qmB _ _ _ hfv];simp [List.length_flatten,hzl]
      have hptr':ptrsL cs'=[]:=by simpa using hptr
      obtain ⟨O'',hE,hc2,hp2,hx2⟩:=qqS (agg:=qN P elem) (λhh=>hs1 hh) len cs' vals' O' hcl hone hptr' hr;have hvl:vals'.length=len*i.size:=by rw [<- qF _ _ _ hr];exact hcl
      have hchl:∀(n:Nat) (cs:List V),(chunk (qN P elem) i.size n cs).length=n:=by
       intro n;induction n with
       |zero=>intro cs;rfl
       |succ n ih=>intro cs;simp [chunk,ih]
      have hrun:(Instr.buildSlice t len (parts.map λx=>(x.1,ρ x.2))).run P w=.ok (.slice (some ⟨w.heap.size,0,none⟩) len len) (w.alloc (.cells vals'.toArray elem)):=by
       have hcy:((Array.range (len*i.size)).map (u.cells[· % u.cells.size]!))=(List.replicate len u.cells.toList).flatten.toArray:=by
        apply Array.ext';have:=cyc u.cells.toList (by omega) len;rw [hul]at this;simpa [hul]using this
       by_cases hpos:len*i.size=0
       ·have hlen:len=0:=by rcases Nat.mul_eq_zero.1 hpos with h|h<;>omega
        subst hlen;have hf2:Instr.fill (λj=>some (j*i.size,i.size)) #[] (parts.map λx=>(x.1,ρ x.2)).toList=some vals'.toArray:=by rw [hzip];simpa using hfill
        have e0:Array.range 0=#[]:=by apply Array.ext';simp
        rw [Array.toList_map]at hf2;simp [Instr.buildSlice,run_underlying hu,sizeOf,typeInfo,hi,newRow,e0,hf2]
       ·refine run_buildSlice w t elem len _ _ i u hu hi hiz (by omega) hpos ?_;rw [hcy,hzip];exact hfill
      have hO'':∀b∈O'',b∈O:=λb hb=>by
       have h1:=List.count_pos_iff.2 hb;have h2:=hc2 b;have h3:=hcnt b;simp only [List.count_nil]at h3;exact List.count_pos_iff.1 (by omega)
      have hO:∀b∈O,b<w.heap.size:=repL_dom hd xs _ O h;have hrep:=qvW (rest:=[]) (cap:=len) (Alike.refl w) hd elem hp2 (Nat.pos_of_ne_zero hs0) (by rw [hchl];exact hvl) hx2 (by rw [hchl];exact Nat.le_refl _) (by simp [hvl]) (by rw [hchl];exact id) hE (λb hb=>hO b (hO'' b hb));rw [hchl]at hrep;refine ⟨_,_,_,w.heap.size::O'',qss hrun,?_,by simpa using hrep,?_,?_⟩
      ·simpa using qhz (Alike.refl w) hd (.cells vals'.toArray elem) vals'.length O
      ·intro b;rw [List.count_cons];have h2:=hc2 b;have h3:=hcnt b;have h4:=hlin b;simp only [List.count_nil]at h3;split
       ·rename_i hb;have hb:w.heap.size=b:=by simpa using hb
        have:O''.count b=0:=by
         apply List.count_eq_zero.2;intro hm;have:=hO b (hO'' b hm);omega
        omega
       ·omega
      ·intro b hb;rcases qk.1 hb with rfl|hb
       ·exact .inr (Nat.le_refl _)
       ·exact .inl (hO'' b hb)
     ·simp at hz
    ·simp at hz
  ·simp at hz
 ·simp at hz
end
section
variable {P:Program} {H:Hints} {f:FuncId} {w:World} {X:Cx}
theorem qoW{x:V}{n:Nat}{v:Value}{O:List Nat}(h:qkS x=some n)(hr:Rep w X x v O):∃k,v=.int k (n:Int):=by
 unfold qkS at h;split at h
 ·rename_i k i;split at h
  ·rename_i h0;simp only [qb]at h;subst h;simp only [Rep]at hr;exact ⟨k,by rw [hr.1];congr 1;omega⟩
  ·simp at h
 ·simp at h
theorem qjo{z:V}{u:Value}{s:Nat}(hs:u.cells.size=s)(hz:Rep w X z u []):∀n,RepE w X s (List.replicate n z) (List.replicate n u.cells.toList).flatten []
 |0=>by simp [RepE]
 |n+1=>by
  simp only [List.replicate_succ,List.flatten_cons,RepE];exact ⟨u,_,[],[],rfl,hs,rfl,hz,qjo hs hz n⟩
theorem qh1{z:V}(h:z.qq=[]):∀n,ptrsL (List.replicate n z)=[]
 |0=>rfl
 |n+1=>by simp [List.replicate_succ,ptrsL,h,qh1 h n]
theorem qt6{t:TypeId}{l c z:V}{vl vc:Value}{O1 O2:List Nat}(hd:Dom w X)(hz:qe9 P H f t l c=some z)(h1:Rep w X l vl O1)(h2:Rep w X c vc O2)(O:List Nat) :
  quU P (do pure (Next.value (<- Instr.makeSlice t vl vc))) w X z O:=by
 unfold qe9 at hz;split at hz
 ·rename_i elem hu;split at hz
  ·rename_i z0 n m hzero hn hm;split at hz
   ·rename_i hc;obtain ⟨hnm,hn0,hs0,hzl,hzo,hzp,hb,hmx⟩:=hc;simp only [qb]at hz;subst hz;obtain ⟨i,u,hi,hiz,rfl⟩:=qdv hzero;have hsz:i.size=P.cellsOf elem:=by simp [Program.cellsOf,hi]
    have hby:i.bytes=P.bytesOf elem:=by simp [Program.bytesOf,hi]
    obtain ⟨k1,rfl⟩:=qoW hn h1;obtain ⟨k2,rfl⟩:=qoW hm h2;have hrz:Rep w X (ofConst (H.precise f) u) u []:=qgY _ _;obtain ⟨hcells,_⟩:=qdo hzo hrz;have hul:u.cells.size=P.cellsOf elem:=by have e:=qF _ _ _ hcells;rw [hzl,Array.length_toList]at e;exact e.symm
    have hbm:(P.bytesOf elem:Int)*m<=70368744177664:=by rw [<- Int.natCast_mul];omega
    have hrun:=run_make (P:=P) w t elem i u hu hi hiz k1 k2 n m (by omega) (by omega) (by rw [hby];omega) (by omega);have hmade:madeCells u.cells (m*i.size)=((List.replicate n u.cells.toList).flatten++(List.replicate (m-n) u.cells.toList).flatten).toArray:=by
     apply Array.ext';have:=cyc u.cells.toList (by simp;omega) m;simp only [Array.length_toList,Array.toArray_toList,hul]at this;rw [<- List.flatten_append,List.replicate_append_replicate,show n+(m-n)=m by omega];rw [hsz];simpa [madeCells,hul]using this
    simp only [Int.toNat_natCast]at hrun;rw [hmade]at hrun;have hE:=qjo hul hrz n;have hzp':(ofConst (H.precise f) u).qq=[]:=by simpa using hzp
    have hlen:((List.replicate n u.cells.toList).flatten).length=n*P.cellsOf elem:=by simp [List.length_flatten,hul]
    have hlen2:((List.replicate (m-n) u.cells.toList).flatten).length=(m-n)*P.cellsOf elem:=by simp [List.length_flatten,hul]
    have hrep:=qvW (rest:=(List.replicate (m-n) u.cells.toList).flatten) (cap:=m) (Alike.refl w) hd elem (qh1 hzp' n) (Nat.pos_of_ne_zero hs0) (by simpa using hlen) (λx hx=>by rw [(List.mem_replicate.1 hx).2];exact hzl)
     (by simpa using hnm) (by rw [List.length_append,hlen,hlen2,<- Nat.add_mul];exact Nat.mul_le_mul_right _ (by omega)) (λh=>hn0 (by simpa using h)) hE (by simp)
    simp only [List.length_replicate]at hrep;exact ⟨_,_,_,_,qss hrun,qhz (Alike.refl w) hd _ _ O,hrep,λb=>by rw [List.count_cons];simp;split<;>omega,λb hb=>by simp at hb;exact .inr (by omega)⟩
   ·simp at hz
  ·simp at hz
 ·simp at hz
theorem qpk{s:Nat}:∀(n:Nat) {l:List V} {vals:List Value} {O:List Nat},RepE w X s l vals O->∃O1 O2,O=O1++O2/\RepE w X s (l.take n) (vals.take (n*s)) O1/\RepE w X s (l.drop n) (vals.drop (n*s)) O2
 |0,l,vals,O,h=>⟨[],O,rfl,by simp [RepE],by simpa using h⟩
 |n+1,[],vals,O,h=>by simp only [RepE]at h;exact ⟨[],[],by simp [h.2],by simp [RepE,h.1],by simp [RepE,h.1]⟩
 |n+1,x::l,vals,O,h=>by
  simp only [RepE]at h;obtain ⟨u,vs,O1,O2,rfl,hs,rfl,h1,h2⟩:=h;obtain ⟨A,B,rfl,hA,hB⟩:=qpk n h2;have hl:u.cells.toList.length=s:=by simpa using hs
  refine ⟨O1++A,B,by simp,?_,?_⟩
  ·simp only [List.take_succ_cons,RepE];refine ⟨u,_,O1,A,?_,hs,rfl,h1,hA⟩;rw [List.take_append,Nat.succ_mul,hl];rw [(List.take_of_length_le (by omega):u.cells.toList.take (n*s+s)=u.cells.toList),show n*s+s-s=n*s by omega]
  ·simp only [List.drop_succ_cons];rw [Nat.succ_mul,List.drop_append,hl,(List.drop_eq_nil_of_le (by omega):u.cells.toList.drop (n*s+s)=[]),show n*s+s-s=n*s by omega];exact hB
theorem qps{k:IntKind}{n y:Nat}{code:BoundsCode}(h:n<=y):(Instr.sliceBound (.int k (n:Int)) y code).run P w=.ok n w:=by
 have:=run_sliceBound (P:=P) (w:=w) k (n:Int) y code (by omega) (by omega);simpa using this
theorem qgn{isSlice:Bool}{len cap a b m:Nat}{lo hi mx:Option Value}(hlo:(lo=none/\a=0)\/∃k,lo=some (.int k (a:Int)))(hhi:(hi=none/\mx=none/\b=len)\/∃k,hi=some (.int k (b:Int)))
  (hmx:(mx=none/\m=cap)\/∃k,mx=some (.int k (m:Int))) (h1:a<=b) (h2:b<=m) (h3:m<=cap) :
  (Instr.sliceBounds isSlice len cap lo hi mx).run P w=.ok (a,b,m) w:=by
 have hb (k:IntKind) (code:BoundsCode):=qps (P:=P) (w:=w) (k:=k) (code:=code) h2;have ha (k:IntKind) (code:BoundsCode):=qps (P:=P) (w:=w) (k:=k) (code:=code) h1;have hm (k:IntKind) (code:BoundsCode):=qps (P:=P) (w:=w) (k:=k) (code:=code) h3;rcases hlo with ⟨rfl,rfl⟩|⟨k1,rfl⟩<;>rcases hhi with ⟨rfl,rfl,rfl⟩|⟨k2,rfl⟩<;>(first|(rcases hmx with ⟨rfl,rfl⟩|⟨k3,rfl⟩)|skip) <;>
  simp_all [Instr.sliceBounds]
def qkf(w:World)(X:Cx)(a:Option V)(va:Option Value):Prop:=(a=none/\va=none)\/∃x v O,a=some x/\va=some v/\Rep w X x v O
theorem qkf.nat{a:Option V}{va:Option Value}{d n:Nat}(h:qkf w X a va)(hn:qfY d a=some n):(a=none/\va=none/\n=d)\/∃k,a.isSome=true/\va=some (.int k (n:Int)):=by
 rcases h with ⟨rfl,rfl⟩|⟨x,v,O,rfl,rfl,hr⟩
 ·simp [qfY]at hn;exact .inl ⟨rfl,rfl,hn.symm⟩
 ·obtain ⟨k,rfl⟩:=qoW (by simpa [qfY]using hn) hr;exact .inr ⟨k,rfl,rfl⟩
theorem qCu{t:TypeId}{x z:V}{v:Value}{O:List Nat}{lo hi mx:Option V}{vlo vhi vmx:Option Value}(hz:qeo P t x lo hi mx=some z)(h:Rep w X x v O)
  (h1:qkf w X lo vlo) (h2:qkf w X hi vhi) (h3:qkf w X mx vmx):∃v',(Instr.sliceAt t v vlo vhi vmx).run P w=.ok v' w/\Rep w X z v' []:=by
 unfold qeo at hz;split at hz
 ·rename_i elem fl c l hu;split at hz
  ·simp at hz
  ·rename_i hcnd;simp only [not_or,Bool.not_eq_false]at hcnd;obtain ⟨hown,hs0,hall⟩:=hcnd;have hall':∀e∈l,e.cells.length=P.cellsOf elem:=by simpa [List.all_eq_true]using hall
   split at hz
   ·rename_i a b ha hb;have hlo:=h1.nat ha;have hhi:=h2.nat hb;have hrun:∀(base:Option Addr) (cap m:Nat),l.length<=cap->((mx=none/\m=cap)\/(mx.isSome=true/\qfY 0 mx=some m/\hi.isSome=true))->a<=b->b<=l.length->b<=m->m<=cap ->
      (Instr.sliceAt t (.slice base l.length cap) vlo vhi vmx).run P w=.ok (.slice (if m=a then base else base.map (·.add (a*P.cellsOf elem))) (b-a) (m-a)) w:=by
     intro base cap m hcap hm hab hbl hbm hmc;have hb1:(vlo=none/\a=0)\/∃k,vlo=some (.int k (a:Int)):=by
      rcases hlo with ⟨_,hv,ha⟩|⟨k,_,hv⟩
      ·exact .inl ⟨hv,ha⟩
      ·exact .inr ⟨k,hv⟩
     have hb3:(vmx=none/\m=cap)\/∃k,vmx=some (.int k (m:Int)):=by
      rcases hm with ⟨hm,hmc⟩|⟨hm,hmo,_⟩
      ·rcases h3 with ⟨_,hv⟩|⟨x',v',O',hx',_⟩
       ·exact .inl ⟨hv,hmc⟩
       ·rw [hm]at hx';cases hx'
      ·rcases h3.nat hmo with ⟨hn,_⟩|⟨k,_,hv⟩
       ·rw [hn]at hm;simp at hm
       ·exact .inr ⟨k,hv⟩
     have hb2:(vhi=none/\vmx=none/\b=l.length)\/∃k,vhi=some (.int k (b:Int)):=by
      rcases hhi with ⟨hn,hv,hb⟩|⟨k,_,hv⟩
      ·refine .inl ⟨hv,?_,hb⟩;rcases hm with ⟨hm,_⟩|⟨_,_,hm⟩
       ·rcases h3 with ⟨_,hv⟩|⟨x',v',O',hx',_⟩
        ·exact hv
        ·rw [hm]at hx';cases hx'
       ·rw [hn]at hm;simp at hm
      ·exact .inr ⟨k,hv⟩
     have hbo:=qgn (P:=P) (w:=w) (isSlice:=true) hb1 hb2 hb3 hab hbm hmc;simp [Instr.sliceAt,Instr.slice,run_underlying hu,hbo,qar hs0]
    have hres:∀(m:Nat->Nat) (c':Bool),(∀cap,l.length<=cap->b<=m cap/\m cap<=cap/\((mx=none/\m cap=cap)\/(mx.isSome=true/\qfY 0 mx=some (m cap)/\hi.isSome=true))/\(c'=true->(c=true->cap=l.length)->m cap=b)) ->
      a<=b->b<=l.length->∃v',(Instr.sliceAt t v vlo vhi vmx).run P w=.ok v' w/\Rep w X (.sl fl c' ((l.take b).drop a)) v' []:=by
     intro m c' hm hab hbl;simp only [Rep]at h;obtain ⟨hp,h⟩:=h;have hp':ptrsL ((l.take b).drop a)=[]:=(qgh a _ (qgh b l hp).1).2;rcases h with ⟨rfl,_,hv0⟩|⟨b0,off,cap,s,vals,O',rfl,hcap,hclip,hvl,hsp,hxs,hs,hf,hE,_,ho'⟩
     ·obtain ⟨hm1,hm2,hm3,_⟩:=hm 0 (by simp);have hbl0:b=0:=by simpa using hbl
      have hm0:m 0=0:=by omega
      have ha0:a=0:=by omega
      rcases hv0 with rfl|⟨_,a0,rfl⟩
      ·have hr:=hrun none 0 (m 0) (by simp) hm3 hab hbl hm1 hm2;refine ⟨_,hr,?_⟩;simp only [Rep];refine ⟨hp',.inl ⟨by simp,trivial,.inl ?_⟩⟩;subst hbl0;simp [hm0]
      ·have hr:=hrun (some a0) 0 (m 0) (by simp) hm3 hab hbl hm1 hm2;refine ⟨_,hr,?_⟩;simp only [Rep];refine ⟨hp',.inl ⟨by simp,trivial,.inr ⟨hown,a0,?_⟩⟩⟩;subst hbl0;subst ha0;simp [hm0]
     ·obtain ⟨hm1,hm2,hm3,hm4⟩:=hm cap hcap;have hr:=hrun (some ⟨b0,off,none⟩) cap (m cap) hcap hm3 hab hbl hm1 hm2;obtain ⟨rfl,rfl⟩:=ho' hown;obtain ⟨A,B,hAB,hA,_⟩:=qpk b hE;obtain ⟨rfl,rfl⟩:=List.append_eq_nil_iff.1 hAB.symm;obtain ⟨C,D,hCD,_,hD⟩:=qpk a hA;obtain ⟨rfl,rfl⟩:=List.append_eq_nil_iff.1 hCD.symm;have hvlen:((vals.take (b*s)).drop (a*s)).length=(b-a)*s:=by
       rw [List.length_drop,List.length_take,hvl,Nat.min_eq_left (Nat.mul_le_mul_right _ hbl),Nat.sub_mul]
      have hllen:((l.take b).drop a).length=b-a:=by simp<;>omega
      have has:a*s+(b-a)*s<=vals.length:=by rw [hvl,<- Nat.add_mul];exact Nat.mul_le_mul_right _ (by omega)
      obtain ⟨e,fz,hω,hle,hfl⟩:=hf;have hfl':∀off',off'+((vals.take (b*s)).drop (a*s)).length<=e->qkb w X fl b0 off' ((vals.take (b*s)).drop (a*s)).length (m cap-a) s:=by
       intro off' ho;refine ⟨e,fz,hω,ho,?_⟩;cases fl with
       |own=>exact absurd rfl hown
       |q6=>trivial
       |shared=>exact hfl
      have hx':∀x∈(l.take b).drop a,x.cells.length=s:=λx hx=>hxs x (List.mem_of_mem_take (List.mem_of_mem_drop hx));have hsame:l=[]\/s=P.cellsOf elem:=by
       cases l with
       |nil=>exact .inl rfl
       |cons y l=>exact .inr ((hxs y (by simp)).symm.trans (hall' y (by simp)))
      refine ⟨_,hr,?_⟩;simp only [Rep];refine ⟨hp',.inr ?_⟩;by_cases hma:m cap=a
      ·have hba:b=a:=by omega
       refine ⟨b0,off,m cap-a,s,_,[],by rw [if_pos hma,hllen],by rw [hllen];omega,λhc'=>by rw [hllen,hm4 hc' hclip],by rw [hvlen,hllen],hsp,hx',?_,hfl' off (by rw [hvlen,hba];simp;omega),hD,λhh=>absurd hh hown,λ_=>⟨trivial,rfl⟩⟩;intro i u hi;have:=(qm.1 hi).1;rw [hvlen,hba]at this;simp at this
      ·refine ⟨b0,off+a*P.cellsOf elem,m cap-a,s,_,[],by rw [if_neg hma,hllen];simp [Addr.add_lit],by rw [hllen];omega,λhc'=>by rw [hllen,hm4 hc' hclip],by rw [hvlen,hllen],hsp,hx',?_,?_,hD,λhh=>absurd hh hown,λ_=>⟨trivial,rfl⟩⟩
       ·intro i u hi;rw [List.getElem?_drop,List.getElem?_take]at hi;split at hi
        ·rcases hsame with rfl|hse
         ·simp at hvl;subst hvl;simp at hi
         ·rw [<- hse,Nat.add_assoc];exact hs _ u hi
        ·simp at hi
       ·apply hfl';rw [hvlen];rcases hsame with rfl|hse
        ·simp at hbl;subst hbl;simp at hab;subst hab;simp<;>omega
        ·rw [<- hse];omega
    split at hz
    ·rename_i hmx;split at hz
     ·rename_i hc;simp only [qb]at hz;subst hz;refine hres (λcap=>cap) _ (λcap hcap=>⟨by omega,Nat.le_refl _,.inl ⟨rfl,rfl⟩,λhc' hcl=>?_⟩) hc.1 hc.2;simp at hc';rw [hcl hc'.1,hc'.2]
     ·simp at hz
    ·rename_i m hmx;split at hz
     ·rename_i hc;obtain ⟨hmb,hhs,hab,hbl⟩:=hc;simp only [qb]at hz;subst hz;exact hres (λcap=>b) _ (λcap hcap=>⟨Nat.le_refl _,by omega,.inr ⟨rfl,by simpa [qfY]using hmb,hhs⟩,λ_ _=>rfl⟩) hab hbl
     ·simp at hz
   ·simp at hz
 ·rename_i elem hu;split at hz
  ·simp at hz
  ·rename_i hs0;split at hz
   ·rename_i ha hb hm;split at hz
    ·simp at hz
    ·rename_i hnn;simp only [qb]at hz;subst hz;simp only [Rep]at h;obtain ⟨rfl,rfl⟩:=h;refine ⟨.slice none 0 0,?_,by simp [Rep]⟩;have hbo:=qgn (P:=P) (w:=w) (isSlice:=true) (len:=0) (cap:=0) (a:=0) (b:=0) (m:=0) (lo:=vlo) (hi:=vhi) (mx:=vmx)
      (by rcases h1.nat ha with ⟨_,hv,_⟩|⟨k,_,hv⟩;exact .inl ⟨hv,rfl⟩;exact .inr ⟨k,by simpa using hv⟩)
      (by
       rcases h2.nat hb with ⟨hn,hv,_⟩|⟨k,_,hv⟩
       ·refine .inl ⟨hv,?_,rfl⟩;rcases h3 with ⟨_,hv⟩|⟨x',v',O',rfl,_⟩
        ·exact hv
        ·subst hn;simp at hnn
       ·exact .inr ⟨k,by simpa using hv⟩)
      (by rcases h3.nat hm with ⟨_,hv,_⟩|⟨k,_,hv⟩;exact .inl ⟨hv,rfl⟩;exact .inr ⟨k,by simpa using hv⟩) (by simp) (by simp) (by simp)
     simp [Instr.sliceAt,Instr.slice,run_underlying hu,hbo,qar hs0]
   ·simp at hz
 ·rename_i s hu;split at hz
  ·rename_i a b ha hb;split at hz
   ·rename_i hc;obtain ⟨hmn,hab,hbs⟩:=hc;simp only [qb]at hz;subst hz;simp only [Rep]at h;obtain ⟨rfl,rfl⟩:=h;refine ⟨.string (s.extract a b),?_,by simp [Rep]⟩;have hvm:vmx=none:=by
     rcases h3 with ⟨_,hv⟩|⟨x',v',O',rfl,_⟩
     ·exact hv
     ·simp at hmn
    subst hvm;have hbo:=qgn (P:=P) (w:=w) (isSlice:=false) (len:=s.size) (cap:=s.size) (a:=a) (b:=b) (m:=s.size) (lo:=vlo) (hi:=vhi) (mx:=none)
      (by rcases h1.nat ha with ⟨_,hv,ha⟩|⟨k,_,hv⟩;exact .inl ⟨hv,ha⟩;exact .inr ⟨k,hv⟩)
      (by rcases h2.nat hb with ⟨_,hv,hb⟩|⟨k,_,hv⟩;exact .inl ⟨hv,rfl,hb⟩;exact .inr ⟨k,hv⟩)
      (.inl ⟨rfl,rfl⟩) hab hbs (Nat.le_refl _)
    simp [Instr.sliceAt,Instr.slice,run_underlying hu,hbo]
   ·simp at hz
  ·simp at hz
 ·simp at hz
end
section
variable {P:Program} {H:Hints} {f:FuncId} {w:World} {X:Cx}
structure YOk (P:Program) (w:World) (s:Nat) (y:Value) (n:Nat) (news:List Value):Prop where
 len:∀w1,(Builtin.lenOf y).run P w1=.ok n w1
 cells:∀w1,Alike w w1->(Builtin.firstCells s n y).run P w1=.ok news.toArray w1
 size:news.length=n*s
theorem qrr{argTypes:Array TypeId}{ty t u e:TypeId}{i:TypeInfo}(h0:argTypes[0]?=some t)(h1:argTypes[1]?=some u)(ht:P.underlying t=some (.slice e))(hu:(∃q,P.underlying u=some (.slice q))\/P.underlying u=some .string)
  (hi:P.info? e=some i) {y:Value} {news:List Value} (hy:YOk P w i.size y 0 news) (base:Option Addr) (sLen sCap:Nat) (hb:base=none\/∃a,base=some a) (hcap:sLen<=sCap) :
  (Builtin.append_ argTypes ty #[.slice base sLen sCap,y]).run P w=.ok (.slice base sLen sCap) w:=by
 have hn:news=[]:=by have:=hy.size;apply List.eq_nil_of_length_eq_zero;simpa using this
 subst hn;have hc:=hy.cells w (Alike.refl w);rcases hb with rfl|⟨a,rfl⟩
 ·rcases hu with ⟨q,hd⟩|hd<;>simp [Builtin.append_,h0,h1,run_underlying ht,run_underlying hd,sizeOf,typeInfo,hi,hy.len,hcap,hc]
 ·rcases hu with ⟨q,hd⟩|hd<;>simp [Builtin.append_,h0,h1,run_underlying ht,run_underlying hd,sizeOf,typeInfo,hi,hy.len,hcap,hc,storeCells]
theorem qrq{argTypes:Array TypeId}{ty t u e:TypeId}{i:TypeInfo}(h0:argTypes[0]?=some t)(h1:argTypes[1]?=some u)(ht:P.underlying t=some (.slice e))(hu:(∃q,P.underlying u=some (.slice q))\/P.underlying u=some .string)
  (hi:P.info? e=some i) {y:Value} {n:Nat} {news:List Value} (hy:YOk P w i.size y n news) {b off sLen sCap:Nat} {cur:Array Value} {ty':TypeId} (hcur:w.heap[b]?=some (.cells cur ty' (0,0))) (hfit:off+sLen*i.size+news.length<=cur.size)
  (hones:∀v∈news,v.oneCell'=true) (hcap:sLen+n<=sCap) :
  (Builtin.append_ argTypes ty #[.slice (some ⟨b,off,none⟩) sLen sCap,y]).run P w =
   .ok (.slice (some ⟨b,off,none⟩) (sLen+n) sCap) (w.setRow b (cur.toList.take (off+sLen*i.size)++news++cur.toList.drop (off+sLen*i.size+news.length)).toArray):=by
 have hc:=hy.cells w (Alike.refl w);have hst:=run_storeCells_at (P:=P) b (off+sLen*i.size) ty' news 0 cur w hcur (by omega) hones;simp only [Nat.add_zero]at hst;rcases hu with ⟨q,hd⟩|hd<;>simp [Builtin.append_,h0,h1,run_underlying ht,run_underlying hd,sizeOf,typeInfo,hi,hy.len,hcap,hc,Addr.add_lit,hst]
theorem qns{argTypes:Array TypeId}{ty t u e:TypeId}{i:TypeInfo}{z:Value}(h0:argTypes[0]?=some t)(h1:argTypes[1]?=some u)(ht:P.underlying t=some (.slice e))(hu:(∃q,P.underlying u=some (.slice q))\/P.underlying u=some .string)
  (hi:P.info? e=some i) (hz:i.zero=some z) {y:Value} {n:Nat} {news:List Value} (hy:YOk P w i.size y n news) (base:Option Addr) (sLen sCap:Nat) (olds:List Value)
  (holds:∀w1,Alike w w1->(Builtin.firstCells i.size sLen (.slice base sLen sCap)).run P w1=.ok olds.toArray w1)
  (hg:sCap<sLen+n) (h63:sLen+n<=70368744177664) (hfit:(sLen+n)*i.bytes<=70368744177664) :
  ∃w1 rest,Alike w w1/\(∃nc,sLen+n<=nc/\rest.length=(nc-(sLen+n))*z.cells.size/\(Builtin.append_ argTypes ty #[.slice base sLen sCap,y]).run P w =
   .ok (.slice (some ⟨w.heap.size,0,none⟩) (sLen+n) nc) (w1.alloc (.cells ((olds++news)++rest).toArray e))):=by
 have hn:¬ (sLen+n<=sCap):=by omega
 have h63':¬ (9223372036854775807<((sLen:Int)+(n:Int))):=by omega
 have h48':¬ (281474976710656<Builtin.nextslicecap (sLen+n) sCap*i.bytes):=by
  have:=growslice_fits (bytes:=i.bytes) hg (by omega);omega
 refine ⟨w.drew,(Builtin.zeroCells z.cells (grownCap w (sLen+n) sCap e-(sLen+n))).toList,Alike.drew w,grownCap w (sLen+n) sCap e,grownCap_ge w _ _ _,by simp [size_zeroCells],?_⟩;have hf:=hy.cells w.drew (Alike.drew w);have hfo:=holds w.drew (Alike.drew w);rcases hu with ⟨q,hd⟩|hd
 all_goals
  simp [Builtin.append_,h0,h1,run_underlying ht,run_underlying hd,sizeOf,typeInfo,zeroValue,hi,hz,hy.len,hn,h63',h48',Question.forced,hf,hfo,newRow,grownCap];congr 2
  simp_all
theorem Eff.mono{w':World}{X':Cx}{A B:List Nat}(h:Eff w X w' X' A)(hd:Dom w X)(hs:∀b∈A,b∈B):Eff w X w' X' B where
 size:=h.size
 kept:=λb hb hn=>h.kept b hb (λha=>hn (hs b ha))
 ωk:=λb hb hn=>h.ωk b hb (λha=>hn (hs b ha))
 own:=λb _ e fz hω=>by
  by_cases ha:b∈A
  ·exact h.own b ha e fz hω
  ·have hb:=hd b e fz hω;exact ⟨e,fz,by rw [h.ωk b hb ha];exact hω,Nat.le_refl _,id,λi v _ hc=>by rw [cell_of_heap (h.kept b hb ha)];exact hc,λc t hc=>⟨c,by rw [h.kept b hb ha];exact hc,rfl⟩⟩
 β:=h.β
 dom:=h.dom
 os:=h.os
 out:=h.out
 tape:=h.tape
def Cx.grow(X:Cx)(b e:Nat):Cx:={X with ω:=λk=>if k=b then some (e,false)else X.ω k}
theorem qva(hd:Dom w X){b e m:Nat}{cur:Array Value}{ty:TypeId}{news:List Value}(hω:X.ω b=some (e,false))(hcur:w.heap[b]?=some (.cells cur ty (0,0)))(hfit:e+news.length<=cur.size) :
  Eff w X (w.setRow b (cur.toList.take e++news++cur.toList.drop (e+news.length)).toArray) (X.grow b (e+news.length)) [b] where
 size:=by simp
 kept:=λk _ hk=>setRow_other w b k _ (by grind)
 ωk:=λk _ hk=>by simp_all [if_neg,Cx.grow]
 own:=λk hk e' fz hω'=>by
  have:k=b:=by grind
  subst this;rw [hω]at hω';obtain ⟨rfl,rfl⟩:e=e'/\false=fz:=by grind
  refine ⟨e+news.length,false,by simp [Cx.grow],by omega,id,λi v hi hc=>?_,λc t hc=>⟨(cur.toList.take e++news++cur.toList.drop (e+news.length)).toArray,?_,?_⟩⟩
  ·rw [cell_setRow_same w k i cur _ ty _ hcur];simp only [World.cell?,hcur]at hc;grind
  ·grind [setRow_heap]
  grind
 β:=rfl
 dom:=λk e' fz hω'=>by
  simp only [Cx.grow]at hω';split at hω'
  ·rename_i hk;subst hk;simp;grind
  ·simp;exact hd _ _ _ hω'
 os:=rfl
 out:=rfl
 tape:=rfl
theorem qxd{s s':Nat}{vals:List Value}{O:List Nat}(h:RepE w X s [] vals O):RepE w X s' [] vals O:=by simp_all [RepE]
def qwu(yt:TypeDesc)(y:V):Option (List V) :=
 match yt,y with
 |.slice _,.sl _ _ l=>some l
 |.slice _,.val (.slice none 0 0)=>some []
 |.string,.val (.string b)=>some (b.data.toList.map λc=>.val (.int .u8 c.toNat))
 |_,_=>none
theorem qqR:∀(l:List UInt8),RepE w X 1 (l.map λc=>V.val (.int .u8 c.toNat)) (l.map λc=>Value.int .u8 c.toNat) []
 |[]=>by simp [RepE]
 |c::l=>by
  simp only [List.map,RepE];exact ⟨.int .u8 c.toNat,_,[],[],rfl,rfl,rfl,by simp [Rep],qqR l⟩
theorem qDD{yt:TypeDesc}{y:V}{l2:List V}{vy:Value}{O2:List Nat}{s:Nat}(hs:s≠0)(hy:qwu yt y=some l2)(hl:∀e∈l2,e.cells.length=s)(h:Rep w X y vy O2) :
  ∃news O',YOk P w s vy l2.length news/\RepE w X s l2 news O'/\(∀b,O'.count b<=O2.count b):=by
 unfold qwu at hy;split at hy
 ·rename_i q fl c l;simp only [qb]at hy;subst hy;simp only [Rep]at h;obtain ⟨hp,h⟩:=h;rcases h with ⟨rfl,rfl,rfl|⟨_,a,rfl⟩⟩|⟨b,off,cap,s',vals,O',rfl,hcap,_,hvl,hs0,hxs,hsg,hf,hE,ho,ho'⟩
  rotate_left
  ·exact ⟨[],[],⟨λw1=>by simp [Builtin.lenOf],λw1 _=>by simp_all [run_firstCells_some],by simp⟩,by simp [RepE],λb=>by simp⟩
  rotate_left
  ·exact ⟨[],[],⟨λw1=>by simp [Builtin.lenOf],λw1 _=>by simp_all [run_firstCells_none],by simp⟩,by simp [RepE],λb=>by simp⟩
  ·have hss:l=[]\/s'=s:=by
    cases l with
    |nil=>grind
    |cons z l=>simp_all
   have hvs:vals.length=l.length*s:=by
    grind
   have hE':RepE w X s l vals O':=by
    grind [qxd]
   refine ⟨vals,O',⟨λw1=>by simp [Builtin.lenOf],λw1 ha=>?_,hvs⟩,hE',λb'=>?_⟩
   ·exact run_firstCells_some (P:=P) w1 s l.length ⟨b,off,none⟩ _ _ vals hvs (λj v hj=>by rw [Addr.add_lit,ha.cell];exact hsg j v hj)
   ·by_cases hown:fl=.own
    ·grind
    grind
 ·simp only [qb]at hy;subst hy;simp only [Rep]at h;obtain ⟨rfl,rfl⟩:=h;exact ⟨[],[],⟨λw1=>by simp [Builtin.lenOf],λw1 _=>by simp_all [run_firstCells_none],by simp⟩,by simp [RepE],λb=>by simp⟩
 ·rename_i b;simp only [qb]at hy;subst hy;simp only [Rep]at h;obtain ⟨rfl,rfl⟩:=h;have hlen:b.data.toList.length=b.size:=by simp_all
  have hss:b.data.toList=[]\/s=1:=by
   cases hb:b.data.toList with
   |nil=>grind
   |cons z l=>exact .inr ((hl (.val (.int .u8 z.toNat)) (by grind)).symm.trans rfl)
  refine ⟨b.data.toList.map λc=>.int .u8 c.toNat,[],⟨λw1=>by simp_all [List.length_map,Array.length_toList,Builtin.lenOf],λw1 _=>?_,?_⟩,?_,λb=>by simp⟩
  ·simp only [Builtin.firstCells,Sem.run_pure,List.length_map];rw [Array.length_toList];have hx:(b.extract 0 b.data.size).data=b.data:=by
    simp_all
   rw [hx];congr 1
   grind
  ·grind
  grind [qqR,RepE]
 grind
theorem qpK(argTypes:Array TypeId)(x y:V):qc2 P argTypes x y=match (argTypes[0]?).bind P.underlying,(argTypes[1]?).bind P.underlying with
 |some (.slice elem),some yt =>
  match qwu yt y with
  |none=>none
  |some l2 =>
   let s:=P.cellsOf elem
   if s=0\/((P.info? elem).bind (·.zero)).map (λz=>z.cells.size)≠some s\/l2.all (λe=>decide (e.cells.length=s)&&e.oks)=false\/(ptrsL l2).isEmpty=false then none else
   match x with
   |.val (.slice none 0 0)=>if l2.isEmpty then some x else if (l2.length+512)*P.bytesOf elem<=70368744177664/\l2.length<=70368744177664 then some (.sl .own false l2)else none
   |.sl fl c l =>
    if l.all (λe=>decide (e.cells.length=s))=true/\(l.length+l2.length+512)*P.bytesOf elem<=70368744177664/\l.length+l2.length<=70368744177664 then
     (if fl=.own then some (.sl .own false (l++l2))
     else if c then (if l2.isEmpty then some x else some (.sl .own false (l++l2)))
     else none)
    else none
   |_=>none
 |_,_=>none:=rfl
theorem qrp{s:Nat}{l l2:List V}{vals news rest:List Value}{w1:World}{nc:Nat}{A B O:List Nat}{e:TypeId}(hd:Dom w X)(ha:Alike w w1)(hs:0<s)(hp:ptrsL l=[])(hp2:ptrsL l2=[])(hx:∀x∈l,x.cells.length=s)(hx2:∀x∈l2,x.cells.length=s)
  (hE:RepE w X s l vals A) (hE2:RepE w X s l2 news B) (hlin:Lin O) (hc:∀b,(A++B).count b<=O.count b) (hO:∀b∈O,b<w.heap.size) (hnc:l.length+l2.length<=nc) (hr:rest.length=(nc-(l.length+l2.length))*s) (hne:l2≠[]) {sm:Sem Value}
  (hrun:sm.run P w=.ok (.slice (some ⟨w.heap.size,0,none⟩) (l.length+l2.length) nc) (w1.alloc (.cells ((vals++news)++rest).toArray e))) :
  quU P (do pure (Next.value (<- sm))) w X (.sl .own false (l++l2)) O:=by
 have hE3:=qgV hE hE2;have hlen:=qjV hE3;have hrep:=qvW (rest:=rest) (cap:=nc) ha hd e (by simp_all [qal]) hs hlen (λx h=>by grind) (by grind)
  (by rw [List.length_append,hlen,hr,List.length_append,<- Nat.add_mul];grind) (λh0=>by simp_all) hE3 (λb hb=>hO b (qcc hc b hb))
 rw [show (l++l2).length=l.length+l2.length from List.length_append]at hrep;refine ⟨_,_,_,w.heap.size::(A++B),qss hrun,qhz ha hd _ _ O,hrep,λb=>?_,λb hb=>?_⟩
 ·rw [List.count_cons];have h1:=hc b;have h2:=hlin b;grind [List.count_eq_zero,qcc]
 ·rcases qk.1 hb with rfl|hb
  ·omega
  ·exact .inl (qcc hc b hb)
theorem qAB{argTypes:Array TypeId}{ty:TypeId}{x y z:V}{vx vy:Value}{O1 O2:List Nat}(hd:Dom w X)(hlin:Lin (O1++O2))(hz:qc2 P argTypes x y=some z)(h1:Rep w X x vx O1)(h2:Rep w X y vy O2) :
  quU P (do pure (Next.value (<- Builtin.append_ argTypes ty #[vx,vy]))) w X z (O1++O2):=by
 rw [qpK]at hz;split at hz
 ·rename_i elem yt ht hu;obtain ⟨t,h0,ht⟩:=qd.1 ht;obtain ⟨u,h1',hu⟩:=qd.1 hu;split at hz
  ·simp at hz
  ·rename_i l2 hsrc;simp only at hz;split at hz
   ·simp at hz
   ·rename_i hcnd;simp only [not_or,Bool.not_eq_false,Decidable.not_not,ne_eq]at hcnd;obtain ⟨hs0,hzero,hall,hptr⟩:=hcnd;obtain ⟨i,hi,hisz⟩:=qeO hs0;have hptr':ptrsL l2=[]:=by simpa using hptr
    have hall2:∀e∈l2,e.cells.length=P.cellsOf elem/\e.oks=true:=by simpa [List.all_eq_true]using hall
    obtain ⟨zv,hzv,hzsz⟩:∃zv,i.zero=some zv/\zv.cells.size=P.cellsOf elem:=by
     simp_all
    have hbytes:i.bytes=P.bytesOf elem:=by simp [Program.bytesOf,hi]
    obtain ⟨news,B,hy,hE2,hcB⟩:=qDD (P:=P) hs0 hsrc (λe he=>(hall2 e he).1) h2;have hu':(∃q,P.underlying u=some (.slice q))\/P.underlying u=some .string:=by
     unfold qwu at hsrc;grind
    rw [<- hisz]at hy;have hO:∀b∈O1++O2,b<w.heap.size:=λb hb=>by
     rcases qj.1 hb with hb|hb
     ·exact rep_dom hd x vx O1 h1 b hb
     ·exact rep_dom hd y vy O2 h2 b hb
    have hs0':0<P.cellsOf elem:=Nat.pos_of_ne_zero hs0;have hnil:∀c,vx=.slice none 0 0->O1=[]->((l2=[]/\(z=x\/z=.sl .own c []))\/(l2≠[]/\z=.sl .own false l2/\l2.length<=70368744177664/\l2.length*P.bytesOf elem<=70368744177664)) ->
      quU P (do pure (Next.value (<- Builtin.append_ argTypes ty #[vx,vy]))) w X z (O1++O2):=by
     rintro c rfl rfl hcase;rcases hcase with ⟨rfl,hzx⟩|⟨hne,rfl,hlen,hb⟩
     ·have hr:=qrr (ty:=ty) h0 h1' ht hu' hi hy none 0 0 (.inl rfl) (Nat.le_refl _);refine qAy (O':=[]) hd hr ?_ Lin.nil (by simp);grind [Rep,ptrsL]
     ·have hg:0<0+l2.length:=by grind
      obtain ⟨w1,rest,ha,nc,hnc,hrest,hr⟩:=qns (ty:=ty) h0 h1' ht hu' hi hzv hy none 0 0 [] (λw1 _=>by simp_all [run_firstCells_none]) hg (by omega) (by grind);rw [hzsz]at hrest;have:=qrp (l:=[]) (vals:=[]) (A:=[]) hd ha hs0' rfl hptr' (by simp) (λx hx=>(hall2 x hx).1) (by simp [RepE]) hE2 hlin (λb=>by have:=hcB b;simpa using this) hO (by simpa using hnc) (by simpa using hrest) hne (by simpa using hr);simpa using this
    split at hz
    ·simp only [Rep]at h1;obtain ⟨rfl,rfl⟩:=h1;split at hz
     ·simp_all
     ·rename_i he;split at hz
      ·rename_i hb;simp only [qb]at hz;subst hz;refine hnil false rfl rfl (.inr ⟨by simpa using he,rfl,hb.2,?_⟩);grind
      ·simp at hz
    ·rename_i fl c l;split at hz
     ·rename_i hb;obtain ⟨hall1,hb1,hb2⟩:=hb;have hall1':∀e∈l,e.cells.length=P.cellsOf elem:=by grind
      have hb1':(l.length+l2.length)*i.bytes<=70368744177664:=by
       grind
      have h1s:=h1;simp only [Rep]at h1;obtain ⟨hp,h1⟩:=h1;rcases h1 with ⟨rfl,rfl,rfl|⟨hfl,a0,rfl⟩⟩|⟨b0,off,cap,s,vals,A,rfl,hcap,hclip,hvl,hsp,hxs,hsg,hf,hE,ho,ho'⟩
      rotate_left
      ·-- empty,wherever it lies
       rw [if_neg hfl]at hz;split at hz
       ·split at hz
        ·rename_i he;simp only [qb]at hz;subst hz;have he':l2=[]:=by simpa using he
         subst he';have hr:=qrr (ty:=ty) h0 h1' ht hu' hi hy (some a0) 0 0 (.inr ⟨a0,rfl⟩) (Nat.le_refl _);exact qAy (O':=[]) hd hr h1s Lin.nil (by simp)
        ·rename_i he;simp only [qb]at hz;subst hz;have hne:l2≠[]:=by simpa using he
         have hg:0<0+l2.length:=by grind
         obtain ⟨w1,rest,ha,nc,hnc,hrest,hr⟩:=qns (ty:=ty) h0 h1' ht hu' hi hzv hy (some a0) 0 0 [] (λw1 _=>by simp_all [run_firstCells_some]) hg (by omega) (by omega);rw [hzsz]at hrest;have:=qrp (l:=[]) (vals:=[]) (A:=[]) hd ha hs0' rfl hptr' (by simp) (λx hx=>(hall2 x hx).1) (by simp [RepE]) hE2 hlin (λb=>by simp_all) hO (by simpa using hnc) (by simpa using hrest) hne (by simpa using hr);omega
       ·simp at hz
      rotate_left
      ·-- nil
       refine hnil false rfl rfl ?_;grind
      ·have hss:l=[]\/s=P.cellsOf elem:=by
        cases l with
        |nil=>exact .inl rfl
        |cons q l=>grind
       have hvs:vals.length=l.length*P.cellsOf elem:=by
        grind
       have hE':RepE w X (P.cellsOf elem) l vals A:=by
        grind [qxd]
       have holds:∀w1,Alike w w1->(Builtin.firstCells i.size l.length (.slice (some ⟨b0,off,none⟩) l.length cap)).run P w1=.ok vals.toArray w1:=λw1 ha =>
        run_firstCells_some (P:=P) w1 i.size l.length ⟨b0,off,none⟩ _ _ vals (by rw [hisz];exact hvs) (λj v hj=>by rw [Addr.add_lit,ha.cell];exact hsg j v hj)
       have hcA:∀b,A.count b<=O1.count b:=λb=>by
        grind
       have hgrow:cap<l.length+l2.length->z=.sl .own false (l++l2)->quU P (do pure (Next.value (<- Builtin.append_ argTypes ty #[.slice (some ⟨b0,off,none⟩) l.length cap,vy]))) w X z (O1++O2):=by
        rintro hg rfl;obtain ⟨w1,rest,ha,nc,hnc,hrest,hr⟩:=qns (ty:=ty) h0 h1' ht hu' hi hzv hy (some ⟨b0,off,none⟩) l.length cap vals holds hg hb2 hb1';rw [hzsz]at hrest;exact qrp hd ha hs0' hp hptr' hall1' (λx hx=>(hall2 x hx).1) hE' hE2 hlin (λb=>by grind) hO hnc hrest (by rintro rfl;simp at hg;omega) hr
       have hstay:l2=[]->(z=.sl fl c l\/z=.sl fl false l)->quU P (do pure (Next.value (<- Builtin.append_ argTypes ty #[.slice (some ⟨b0,off,none⟩) l.length cap,vy]))) w X z (O1++O2):=by
        rintro rfl hzz;have hr:=qrr (ty:=ty) h0 h1' ht hu' hi hy (some ⟨b0,off,none⟩) l.length cap (.inr ⟨_,rfl⟩) hcap;refine qAy (O':=O1) hd hr ?_ hlin.left (λb hb=>by simp [hb]);grind [Rep]
       split at hz
       ·rename_i hown;subst hown;simp only [qb]at hz;by_cases hne:l2=[]
        ·grind
        ·by_cases hg:cap<l.length+l2.length
         ·exact hgrow hg hz.symm
         ·-- in place
          subst hz;obtain ⟨e,fz,hω,hle,rfl,hend,⟨cur,ty',hcur,hroom⟩,hcap0⟩:=hf;have hl0:l≠[]:=by
           grind
          have hse:s=P.cellsOf elem:=hss.resolve_left hl0;subst hse;have hnl:news.length=l2.length*P.cellsOf elem:=by rw [<- hisz];exact hy.size
          have hfit:off+l.length*i.size+news.length<=cur.size:=by
           rw [hisz,hnl];have:l.length*P.cellsOf elem+l2.length*P.cellsOf elem<=cap*P.cellsOf elem:=by rw [<- Nat.add_mul];exact Nat.mul_le_mul_right _ (by omega)
           omega
          have hr:=qrq (ty:=ty) (sCap:=cap) h0 h1' ht hu' hi hy hcur hfit (qk3 (λx hx=>(hall2 x hx).2) hE2) (by omega);have hoff:off+l.length*i.size=e:=by rw [hisz,hend,hvs]
          rw [hoff]at hr hfit;have heff:=qva hd (m:=0) (news:=news) hω hcur hfit;have hO1:=ho rfl;have hlinA:Lin (b0::(A++B)):=λb=>by
           have h1:=hlin b;grind
          have hnotin:∀b∈A++B,b∉[b0]:=λb hb hbb=>by
           have:b=b0:=by simpa using hbb
           subst this;have:=hlinA b;grind
          have hin:∀b∈[b0],b∈O1++O2:=λb hb=>by
           grind
          refine ⟨_,_,_,b0::(A++B),qss hr,heff.mono hd hin,?_,hlinA,λb hb=>.inl ?_⟩
          ·have hE3:=qsl heff hd (by rw [qal,hp,hptr'];rfl) hnotin (qgV hE' hE2);simp only [Rep];refine ⟨by rw [qal,hp,hptr'];rfl,.inr ⟨b0,off,cap,P.cellsOf elem,vals++news,A++B,by simp,by simp;omega,by simp,qjV hE3,hsp,λx h=>by grind,?_,?_,hE3,λ_=>rfl,λhh=>absurd rfl hh⟩⟩
           ·intro j v hj;rw [cell_setRow_same w b0 _ cur _ ty' _ hcur];simp only [List.getElem?_toArray];rw [List.append_assoc];by_cases hlt:j<vals.length
            ·rw [qg hlt]at hj;rw [qg (by simp;omega),List.getElem?_take,if_pos (by omega)];have:=hsg j v hj
             simp_all [World.cell?]
            ·rw [List.getElem?_append_right (by omega)]at hj;have hjl:=(qm.1 hj).1;have htl:(cur.toList.take e).length=e:=by simp<;>omega
             rw [List.getElem?_append_right (by omega),htl,qg (by omega),show off+j-e=j-vals.length by omega];exact hj
           ·refine ⟨e+news.length,false,by simp [Cx.grow],by simp;omega,rfl,by simp;omega,⟨_,ty',setRow_heap w b0 cur _ ty' _ hcur,by simp;omega⟩,λh0=>?_⟩;grind
          grind [qk,qj,qcc]
       grind [qb,List.length_pos_iff]
     ·simp at hz
    ·simp at hz
 grind
theorem qzf{argTypes:Array TypeId}{ty t u e:TypeId}{i:TypeInfo}{z:Value}{ik:IntKind}(h0:argTypes[0]?=some t)(h1:argTypes[1]?=some u)(ht:P.underlying t=some (.slice e))(hu:P.underlying u=some (.int ik))
  (hi:P.info? e=some i) (hz:i.zero=some z) (hzs:z.cells.size=i.size) (hs:i.size≠0) {n:Nat} (hn:0<n) (h63:n<=70368744177664) (hfit:n*i.bytes<=70368744177664) :
  ∃w1 cells nc,Alike w w1/\n<=nc/\cells.size=nc*i.size/\(Builtin.append_ argTypes ty #[.slice none 0 0,.int .i64 (n:Int)]).run P w =
   .ok (.slice (some ⟨w.heap.size,0,none⟩) n nc) (w1.alloc (.cells cells e)):=by
 have hwr:IntKind.i64.wrap (n:Int)=n:=by rw [IntKind.wrap_i64];omega
 have hge:=grownCap_ge w n 0 e;have h48:¬ (281474976710656<(n:Int)*(i.bytes:Int)):=by
  omega
 have h48':¬ (281474976710656<Builtin.nextslicecap n 0*i.bytes):=by
  have:=growslice_fits (need:=n) (old:=0) (bytes:=i.bytes) (by omega) (by omega);omega
 have hns:¬ (n*i.size=0):=by
  grind [Nat.mul_eq_zero]
 refine ⟨w.drew,#[]++Builtin.zeroCells z.cells n++Builtin.zeroCells z.cells (grownCap w n 0 e-n),grownCap w n 0 e,Alike.drew w,hge,?_,?_⟩
 ·simp only [Array.size_append,size_zeroCells,hzs,Array.size_empty,Nat.zero_add,<- Nat.add_mul];grind
 ·have hneg:¬ ((n:Int)<0):=by omega
  have hne:¬ (n=0):=by omega
  have h64:¬ (9223372036854775807<(n:Int)):=by omega
  have h0':¬ (n<=0):=by omega
  simp [Builtin.append_,h0,h1,run_underlying ht,run_underlying hu,sizeOf,typeInfo,zeroValue,hi,hz,hwr,hneg,hne,h48,h48',h64,hns,Question.forced,newRow,grownCap,asInt,asIntOf,Builtin.firstCells]
theorem qyq{argTypes:Array TypeId}{ty:TypeId}{x y z:V}{vx vy:Value}{O1 O2:List Nat}(hd:Dom w X)(hz:qeZ P argTypes x y=some z)(h1:Rep w X x vx O1)(h2:Rep w X y vy O2) :
  quU P (do pure (Next.value (<- Builtin.append_ argTypes ty #[vx,vy]))) w X z (O1++O2):=by
 unfold qeZ at hz;split at hz
 ·rename_i elem ik n ht hu;split at hz
  ·rename_i hc;obtain ⟨hn,h63,hs0,hzero,hb⟩:=hc;simp only [qb]at hz;subst hz;obtain ⟨t,h0,ht⟩:=qd.1 ht;obtain ⟨u,h1',hu⟩:=qd.1 hu;simp only [Rep]at h1 h2;obtain ⟨rfl,rfl⟩:=h1;obtain ⟨rfl,rfl⟩:=h2;obtain ⟨i,hi,hisz⟩:=qeO hs0;obtain ⟨zv,hzv,hzsz⟩:∃zv,i.zero=some zv/\zv.cells.size=P.cellsOf elem:=by
    simp_all
   have hbytes:i.bytes=P.bytesOf elem:=by simp [Program.bytesOf,hi]
   obtain ⟨m,rfl⟩:∃m:Nat,n=m:=⟨n.toNat,by omega⟩
   simp only [Int.toNat_natCast]at hb ⊢;obtain ⟨w1,cells,nc,ha,hnc,hcs,hrun⟩:=qzf (ty:=ty) h0 h1' ht hu hi hzv (by omega) (by omega) (n:=m) (by omega) (by omega) (by grind);refine ⟨_,_,X.new w.heap.size 0,[w.heap.size],qss hrun,qhz ha hd _ 0 _,?_,λb=>?_,λb hb=>?_⟩
   ·simp only [Rep];refine ⟨w.heap.size,nc,rfl,hnc,Nat.pos_of_ne_zero hs0,rfl,by simp [Cx.new],cells,elem,by rw [<- ha.heap];exact heap_alloc_new _ _,?_⟩;grind
   ·grind
   grind
  grind
 grind
theorem qyr{argTypes:Array TypeId}{ty:TypeId}{x y z:V}{vx vy:Value}{O1 O2:List Nat}(hd:Dom w X)(hlin:Lin (O1++O2))(hz:qg6 P argTypes x y=some z)(h1:Rep w X x vx O1)(h2:Rep w X y vy O2) :
  quU P (do pure (Next.value (<- Builtin.append_ argTypes ty #[vx,vy]))) w X z (O1++O2):=by
 unfold qg6 at hz;split at hz
 ·rename_i elem e2 s fl cl l2 ht hu;split at hz
  ·rename_i hc;obtain ⟨rfl,hzero,hall,hptr,hb,h63⟩:=hc;obtain ⟨t,h0,ht⟩:=qd.1 ht;obtain ⟨u,h1',hu⟩:=qd.1 hu;have h1s:=h1;simp only [Rep]at h1;obtain ⟨b0,cap,rfl,_,hs0',rfl,hω,cur,ty',hcur,hroom⟩:=h1;have hs0:P.cellsOf elem≠0:=by omega
   obtain ⟨i,hi,hisz⟩:=qeO hs0;obtain ⟨zv,hzv,hzsz⟩:∃zv,i.zero=some zv/\zv.cells.size=P.cellsOf elem:=by
    simp_all
   have hbytes:i.bytes=P.bytesOf elem:=by simp [Program.bytesOf,hi]
   have hptr':ptrsL l2=[]:=by simpa using hptr
   have hall2:∀e∈l2,e.cells.length=P.cellsOf elem/\e.oks=true:=by grind
   obtain ⟨news,B,hy,hE2,hcB⟩:=qDD (P:=P) (yt:=.slice e2) hs0 (y:=.sl fl cl l2) rfl (λe he=>(hall2 e he).1) h2;have hu':(∃q,P.underlying u=some (.slice q))\/P.underlying u=some .string:=.inl ⟨_,hu⟩;rw [<- hisz]at hy;have hO:∀b∈[b0]++O2,b<w.heap.size:=λb hb=>by
    rcases qj.1 hb with hb|hb
    ·exact rep_dom hd _ _ _ h1s b hb
    ·exact rep_dom hd _ vy O2 h2 b hb
   by_cases hne:l2=[]
   ·subst hne;have hz2:V.room (P.cellsOf elem) 0=z:=by simpa using hz
    subst hz2;have hnl:news.length=0:=by have:=hy.size;simpa using this
    have hfit:0+0*i.size+news.length<=cur.size:=by omega
    have hr:=qrq (ty:=ty) (sCap:=cap) h0 h1' ht hu' hi hy hcur hfit (qk3 (λx hx=>(hall2 x hx).2) hE2) (by simp);have hoff:0+0*i.size=0:=by omega
    rw [hoff]at hr hfit;have heff:=qva hd (m:=0) (news:=news) hω hcur hfit;refine ⟨_,_,_,[b0],qss hr,heff.mono hd (λb hb=>by simp_all),?_,λb=>?_,λb hb=>.inl ?_⟩
    ·simp only [Rep];refine ⟨b0,cap,by simp,by omega,hs0',rfl,by simp [Cx.grow,hnl],_,ty',setRow_heap w b0 cur _ ty' _ hcur,by simp;omega⟩
    ·grind
    grind
   have hne':l2≠[]:=hne;rw [if_neg (by simpa using hne)]at hz;simp only [qb]at hz;subst hz;by_cases hg:cap<0+l2.length
   ·obtain ⟨w1,rest,ha,nc,hnc,hrest,hr⟩:=qns (ty:=ty) h0 h1' ht hu' hi hzv hy (some ⟨b0,0,none⟩) 0 cap [] (λw1 _=>by simp_all [run_firstCells_some]) hg (by omega) (by grind);rw [hzsz]at hrest;have:=qrp (l:=[]) (vals:=[]) (A:=[]) hd ha hs0' rfl hptr' (by simp) (λx hx=>(hall2 x hx).1) (by simp [RepE]) hE2 hlin (λb=>by grind) hO (by simpa using hnc) (by simpa using hrest) hne' (by simpa using hr);simpa using this
   ·have hnl:news.length=l2.length*P.cellsOf elem:=by rw [<- hisz];exact hy.size
    have hfit:0+0*i.size+news.length<=cur.size:=by
     have:l2.length*P.cellsOf elem<=cap*P.cellsOf elem:=Nat.mul_le_mul_right _ (by omega);omega
    have hr:=qrq (ty:=ty) (sCap:=cap) h0 h1' ht hu' hi hy hcur hfit (qk3 (λx hx=>(hall2 x hx).2) hE2) (by omega);have hoff:0+0*i.size=0:=by omega
    rw [hoff]at hr hfit;have heff:=qva hd (m:=0) (news:=news) hω hcur hfit;have hlinA:Lin (b0::B):=λb=>by
     have h1:=hlin b;grind
    have hnotin:∀b∈B,b∉[b0]:=λb hb hbb=>by
     have:b=b0:=by simpa using hbb
     subst this;have:=hlinA b;grind
    refine ⟨_,_,_,b0::B,qss hr,heff.mono hd (λb hb=>by simp at hb;simp [hb]),?_,hlinA,λb hb=>.inl ?_⟩
    ·have hE3:=qsl heff hd hptr' hnotin hE2;simp only [Rep];refine ⟨hptr',.inr ⟨b0,0,cap,P.cellsOf elem,news,B,by simp,by omega,by simp,hnl,hs0',λx h=>(hall2 x h).1,?_,?_,hE3,λ_=>rfl,λhh=>absurd rfl hh⟩⟩
     ·intro j v hj;grind [cell_setRow_same,qm,List.append_assoc,qg]
     ·refine ⟨0+news.length,false,by simp [Cx.grow],by omega,rfl,by omega,⟨_,ty',setRow_heap w b0 cur _ ty' _ hcur,by simp;omega⟩,λh0=>?_⟩;grind [List.length_pos_iff,Nat.mul_pos]
    grind [qk,qj,qcc]
  grind
 grind
theorem qAC{t:TypeId}{x z:V}{v:Value}{O:List Nat}{lo hi mx:Option V}{vlo vhi vmx:Option Value}(hz:qj7 P t x lo hi mx=some z)(h:Rep w X x v O)
  (h1:qkf w X lo vlo) (h2:qkf w X hi vhi) (h3:qkf w X mx vmx):∃v',(Instr.sliceAt t v vlo vhi vmx).run P w=.ok v' w/\Rep w X z v' O:=by
 unfold qj7 at hz;split at hz
 ·rename_i elem s n k hu;split at hz
  ·rename_i hs0;simp only [qb]at hz;subst hz;simp only [Rep]at h;obtain ⟨b0,cap,rfl,hn,hs,rfl,hω,hsp⟩:=h;have e1:vlo=none:=by
    rcases h1 with ⟨_,h⟩|⟨x',v',O',hx',_⟩
    ·exact h
    grind
   have e3:vmx=none:=by
    rcases h3 with ⟨_,h⟩|⟨x',v',O',hx',_⟩
    ·exact h
    grind
   have e2:vhi=some (.int k ((0:Nat):Int)):=by
    rcases h2 with ⟨h,_⟩|⟨x',v',O',hx',hv',hr'⟩
    ·cases h
    grind [Rep]
   have hbo:=qgn (P:=P) (w:=w) (isSlice:=true) (len:=n) (cap:=cap) (a:=0) (b:=0) (m:=cap) (.inl ⟨e1,rfl⟩) (.inr ⟨k,e2⟩) (.inl ⟨e3,rfl⟩) (Nat.le_refl _) (Nat.zero_le _) (Nat.le_refl _);refine ⟨.slice (some ⟨b0,0,none⟩) 0 cap,?_,?_⟩
   ·simp only [Instr.sliceAt,Instr.slice,Sem.run_bind,run_underlying hu,Result.andThen_ok,hbo,qar hs0]
    simp_all [Addr.add_lit]
   ·simp only [Rep];grind
  grind
 ·rename_i n elem r off hu;split at hz
  ·rename_i hs1;simp only [qb]at hz;subst hz;simp only [Rep]at h;obtain ⟨rfl,b0,hb,rfl⟩:=h;have e1:vlo=none:=by
    rcases h1 with ⟨_,h⟩|⟨x',v',O',hx',_⟩
    ·exact h
    grind
   have e2:vhi=none:=by
    rcases h2 with ⟨_,h⟩|⟨x',v',O',hx',_⟩
    ·exact h
    grind
   have e3:vmx=none:=by
    rcases h3 with ⟨_,h⟩|⟨x',v',O',hx',_⟩
    ·exact h
    grind
   simp_all [qgn,Nat.zero_le,Nat.le_refl,Sem.run_bind,Sem.run_pure,run_underlying,Result.andThen_ok,qar,Addr.add_lit,trivial,Instr.sliceAt,Instr.sureAddr,Rep]
  grind
 grind
end
section
variable {P:Program} {H:Hints} {f:FuncId} {w:World} {X:Cx}
theorem qjS{argTypes:Array TypeId}{ty:TypeId}{xs:List V}{z:V}{vals:List Value}{O:List Nat}{s:Array TypeId->TypeId->Array Value->Sem Value}
  (hz:((toValL xs).bind λvs=>(valOf P (s argTypes ty vs.toArray)).map qcl)=some z) (h:RepL w X xs vals O):∃v,(s argTypes ty vals.toArray).run P w=.ok v w/\Rep w X z v []:=by
 cases hv:toValL xs with
 |none=>simp [hv]at hz
 |some vs =>
  obtain ⟨rfl,rfl⟩:=repL_toVal xs vals O vs hv h;simp only [hv,qa]at hz;cases hr:valOf P (s argTypes ty vals.toArray)with
  |none=>simp [hr]at hz
  |some r=>simp [hr]at hz;subst hz;exact ⟨r,qcK hr,qgk r⟩
theorem qhZ{s:Sem Value}{x:V}{Oin:List Nat}{v:Value}(hd:Dom w X)(h:s.run P w=.ok v w)(hx:Rep w X x v []):quU P (do pure (Next.value (<- s))) w X x Oin :=
 qAy hd h hx Lin.nil (by simp)
theorem qFf{argTypes:Array TypeId}{ty:TypeId}{fl:Fl}{c:Bool}{l:List V}{q:TypeId}{vals:List Value}{O:List Nat}(ht:(argTypes[0]?).bind P.underlying=some (.slice q))(h:RepL w X [.sl fl c l] vals O) :
  (Builtin.len_ argTypes ty vals.toArray).run P w=.ok (.int .i64 l.length) w:=by
 obtain ⟨u,rfl,hr⟩:=qbL h;obtain ⟨t,h0,ht⟩:=qd.1 ht;simp only [Rep]at hr;rcases hr.2 with ⟨rfl,_,rfl|⟨_,a,rfl⟩⟩|⟨b,off,cap,s,vals,O',rfl,_⟩
 ·simp [Builtin.len_,h0,run_underlying ht,goInt]
 ·simp [Builtin.len_,h0,run_underlying ht,goInt]
 ·simp [Builtin.len_,h0,run_underlying ht,goInt]
theorem qxH{b:Builtin}{argTypes:Array TypeId}{type:TypeId}{consts:Array Bool}{xs:List V}{z:V}{vals:List Value}{O:List Nat}(hd:Dom w X)(hl:Lin O)(hz:qd6 P b argTypes type xs=some z)(h:RepL w X xs vals O) :
  quU P (builtin b argTypes type consts vals.toArray) w X z O:=by
 unfold qd6 at hz;split at hz
 ·split at hz
  ·rename_i q ht;simp only [qb]at hz;subst hz;exact qhZ hd (qFf (ty:=type) ht h) (by simp [Rep])
  ·simp at hz
 ·obtain ⟨u,v,O1,O2,rfl,rfl,h1,h2⟩:=qk6 h;rcases Option.or_eq_some_iff.1 hz with hz|⟨_,hz⟩
  ·exact qAB hd hl hz h1 h2
  ·rcases Option.or_eq_some_iff.1 hz with hz|⟨_,hz⟩
   ·exact qyq hd hz h1 h2
   ·exact qyr hd hl hz h1 h2
 ·simp at hz
 ·simp at hz
 ·obtain ⟨v,hr,hx⟩:=qjS (s:=Builtin.cap_) hz h;exact qhZ hd hr hx
 ·obtain ⟨v,hr,hx⟩:=qjS (s:=Builtin.len_) hz h;exact qhZ hd hr hx
 ·obtain ⟨v,hr,hx⟩:=qjS (s:=Builtin.max_) hz h;exact qhZ hd hr hx
 ·obtain ⟨v,hr,hx⟩:=qjS (s:=Builtin.min_) hz h;exact qhZ hd hr hx
 ·obtain ⟨v,hr,hx⟩:=qjS (s:=Builtin.real_) hz h;exact qhZ hd hr hx
 ·obtain ⟨v,hr,hx⟩:=qjS (s:=Builtin.imag_) hz h;exact qhZ hd hr hx
 ·obtain ⟨v,hr,hx⟩:=qjS (s:=Builtin.complex_) hz h;exact qhZ hd hr hx
 ·simp at hz
theorem qjT{xs:List V}{ops:List Operand}{ρ:Operand->Value}{O:List Nat}{lo:Option Operand}(h:RepL w X xs ((lo.toList++ops).map ρ) O) :
  qkf w X (if lo.isSome then xs.head? else none) (lo.map ρ)/\∃O',RepL w X (if lo.isSome then xs.tail else xs) (ops.map ρ) O':=by
 cases lo with
 |none=>exact ⟨.inl ⟨rfl,rfl⟩,O,by simpa using h⟩
 |some a =>
  cases xs with
  |nil=>simp [RepL]at h
  |cons x xs =>
   simp only [Option.toList_some,List.cons_append,List.nil_append,qh,RepL]at h;obtain ⟨u,vs,O1,O2,he,rfl,h1,h2⟩:=h;simp at he;obtain ⟨rfl,rfl⟩:=he;exact ⟨.inr ⟨x,ρ a,O1,rfl,rfl,h1⟩,O2,by simpa using h2⟩
theorem qwi{t:TypeId}{x:V}{v:Value}{O:List Nat}(h:Rep w X x v O):Rep w X (match x.toVal with|some a=>.val (.iface t a)|none=>.iface t x) (.iface t v) O:=by
 cases hx:x.toVal with
 |none=>simp only [Rep];exact ⟨v,rfl,h⟩
 |some a =>
  obtain ⟨rfl,rfl⟩:=rep_toVal x v O a hx h;simp [Rep]
theorem qn3:∀{l:List V} {s:Nat} {vals:List Value} {O:List Nat} {bs:List UInt8},bytesOf l=some bs->RepE w X s l vals O->(∀x∈l,x.cells.length=s)->l≠[] ->
  O=[]/\∃ns:List Int,vals=ns.map (Value.int .u8)/\bs=ns.map λn=>UInt8.ofNat n.toNat
 |[],_,_,_,_,_,_,_,h=>absurd rfl h
 |x::l,s,vals,O,bs,hb,hr,hc,_=>by
  unfold bytesOf at hb;split at hb
  ·rename_i h;cases h
  ·rename_i n l' h;cases h;obtain ⟨bs',hb',rfl⟩:=qc.1 hb;simp only [RepE,Rep]at hr;obtain ⟨u,vs,O1,O2,rfl,hs,rfl,⟨rfl,rfl⟩,hr⟩:=hr;by_cases h0:l=[]
   ·subst h0;simp only [bytesOf,qb]at hb';simp only [RepE]at hr;obtain ⟨rfl,rfl⟩:=hr;subst hb';exact ⟨rfl,[n],by simp [Value.cells],rfl⟩
   ·obtain ⟨rfl,ns,rfl,rfl⟩:=qn3 hb' hr (λy hy=>hc y (List.mem_cons_of_mem _ hy)) h0;exact ⟨rfl,n::ns,by simp [Value.cells],rfl⟩
  ·cases hb
theorem qBI{src dst:TypeId}{fl:Fl}{c:Bool}{l:List V}{z:V}{u:Value}{O:List Nat}(hz:quM P src dst l=some z)(hr:Rep w X (.sl fl c l) u O) :
  ∃v,z=.val v/\(Go.convert src dst u).run P w=.ok v w:=by
 unfold quM at hz;split at hz
 ·rename_i e hs hd;split at hz
  ·rename_i he;obtain ⟨bs,hb,rfl⟩:=qc.1 hz;refine ⟨_,rfl,?_⟩;simp only [Rep]at hr;rcases hr.2 with ⟨rfl,_,hv⟩|⟨b,off,cap,s,vals,O',rfl,_,_,hlen,hs0,hall,hseg,_,hE,_⟩
   ·simp only [bytesOf,qb]at hb;subst hb;rcases hv with rfl|⟨_,a,rfl⟩
    ·exact run_convert_bytes_nil w src e hs he 0 0 dst hd
    ·rw [run_convert_bytes_string w src dst e _ 0 0 hs he hd,run_bytesToString w a 0 0 [] (by have:=run_loadCells_list (P:=P) w a [] (by simp);simpa using this)];rfl
   ·by_cases h0:l=[]
    ·subst h0;simp only [bytesOf,qb]at hb;subst hb;rw [run_convert_bytes_string w src dst e _ _ _ hs he hd];rw [run_bytesToString w _ _ _ [] (by have:=run_loadCells_list (P:=P) w ⟨b,off,none⟩ [] (by simp);simpa using this)];rfl
    ·obtain ⟨_,ns,rfl,rfl⟩:=qn3 hb hE hall h0;have h1:s=1:=by
      cases l with
      |nil=>exact absurd rfl h0
      |cons x l =>
       have:=hall x List.mem_cons_self;unfold bytesOf at hb;split at hb
       ·rename_i h;cases h
       ·rename_i h;cases h;simpa [V.cells]using this.symm
       ·cases hb
     subst h1;rw [List.length_map,Nat.mul_one]at hlen;exact run_convert_bytes_arg w src e hs he b off l.length cap ns hlen (λi hi=>by
      refine hseg i _ ?_;simp [List.getElem?_eq_getElem (show i<ns.length by omega)]) dst hd
  ·cases hz
 ·cases hz
theorem qw6{o:Oper}{tk:Bool}{xs:List V}{z:V}{ρ:Operand->Value}{O:List Nat}(hd:Dom w X)(hl:Lin O)(hx:qaL P H f tk o.op o.type xs none=some (z,none))(h:RepL w X xs (o.op.operands.toList.map ρ) O) :
  quU P (execOp ρ o) w X z O:=by
 obtain ⟨dst,op,type,pos,after,guard⟩:=o;simp only at hx h;unfold qaL at hx;simp only at hx;split at hx
 ·-- move
  obtain rfl:_=z:=by simpa using hx
  obtain ⟨u,hu,hr⟩:=qbL h;simp [Op.operands]at hu;subst hu;exact qej hd (by simp [execOp]) hr hl (λb hb=>hb)
 ·obtain rfl:_=z:=by simpa using hx
  obtain ⟨u,hu,hr⟩:=qbL h;simp [Op.operands]at hu;subst hu;exact qej hd (by simp [execOp]) hr hl (λb hb=>hb)
 ·-- pick
  rename_i oc oa ob c a b;obtain rfl:_=z:=by simpa using hx
  obtain ⟨u,v,t,O1,O2,O3,hu,rfl,h1,h2,h3⟩:=qyC h;simp [Op.operands]at hu;obtain ⟨hc,rfl,rfl⟩:=hu;simp only [Rep]at h1;obtain ⟨rfl,rfl⟩:=h1;cases c with
  |true=>exact qej (O':=O2) hd (by simp [execOp,hc,asBool]) h2 (by simpa using hl.right.left) (λb hb=>by simp [hb])
  |false=>exact qej (O':=O3) hd (by simp [execOp,hc,asBool]) h3 (by simpa using hl.right.right) (λb hb=>by simp [hb])
 ·-- build
  rename_i xs' t parts;obtain ⟨z',hz,he⟩:=qc.1 hx;obtain rfl:z'=z:=by simpa using he
  have hop:(Op.build t parts).operands.toList=parts.toList.map (·.2):=by simp [Op.operands]
  rw [hop]at h;obtain ⟨v,O',hr,hrep,hc⟩:=qCr hz h;exact qAy hd (by simpa [execOp]using hr) hrep (qf8 hl hc) (qcc hc)
 ·-- buildSlice
  rename_i xs' t len parts;obtain ⟨z',hz,he⟩:=qc.1 hx;obtain rfl:z'=z:=by simpa using he
  have hop:(Op.buildSlice t len parts).operands.toList=parts.toList.map (·.2):=by simp [Op.operands]
  rw [hop]at h;exact qsg hd hl hz h
 ·-- load from elements
  rename_i t a fl cs;obtain ⟨z',hz,he⟩:=qc.1 hx;obtain rfl:z'=z:=by simpa using he
  obtain ⟨y,hy,rfl⟩:=qc.1 hz;obtain ⟨u,hu,hr⟩:=qbL h;simp [Op.operands]at hu;simp only [Rep]at hr;obtain ⟨rfl,b,off,vals,hv,hs,hω,hl',_⟩:=hr;obtain ⟨v,O',hrep,hc,hvv,d,hud⟩:=qgX hy hl';refine qhZ hd (v:=v) ?_ (qgW hrep);rw [show ρ a=.pointer (some ⟨b,off,none⟩) by rw [hu,hv]];simp only [Instr.loadAt,Instr.sureAddr,Sem.run_bind,Sem.run_pure,Result.andThen_ok];exact qen hud hs hvv
 ·-- load from a box: not here
  simp at hx
 ·simp at hx
 ·-- nilCheck
  obtain rfl:_=z:=by simpa using hx
  obtain ⟨u,hu,hr⟩:=qbL h;simp [Op.operands]at hu;subst hu;have hr':=hr;simp only [Rep]at hr;obtain ⟨_,b,_,he⟩:=hr;exact qej hd (by simp [execOp,he]) hr' hl (λb hb=>hb)
 ·obtain rfl:_=z:=by simpa using hx
  obtain ⟨u,hu,hr⟩:=qbL h;simp [Op.operands]at hu;subst hu;have hr':=hr;simp only [Rep]at hr;obtain ⟨_,b,off,vals,he,_⟩:=hr;exact qej hd (by simp [execOp,he]) hr' hl (λb hb=>hb)
 ·obtain rfl:_=z:=by simpa using hx
  obtain ⟨u,hu,hr⟩:=qbL h;simp [Op.operands]at hu;subst hu;have hr':=hr;simp only [Rep]at hr;obtain ⟨va,vc,O1,O2,he,_⟩:=hr;exact qej hd (by simp [execOp,he]) hr' hl (λb hb=>hb)
 ·-- binOp
  obtain ⟨z',hz,he⟩:=qc.1 hx;obtain rfl:z'=z:=by simpa using he
  obtain ⟨u,v,O1,O2,hu,rfl,h1,h2⟩:=qk6 h;simp [Op.operands]at hu;obtain ⟨rfl,rfl⟩:=hu;obtain ⟨v',hr,hrep⟩:=qFe hz h1 h2;exact qhZ hd hr hrep
 ·-- unOp
  obtain ⟨z',hz,he⟩:=qc.1 hx;obtain rfl:z'=z:=by simpa using he
  obtain ⟨u,hu,hr⟩:=qbL h;simp [Op.operands]at hu;subst hu;obtain ⟨a,ha,hz⟩:=qd.1 hz;obtain ⟨r,hr',rfl⟩:=qc.1 hz;obtain ⟨he,_⟩:=rep_toVal _ _ _ a ha hr;exact qhZ hd (by rw [he];exact qcK hr') (qgk r)
 ·-- convert
  obtain ⟨z',hz,he⟩:=qc.1 hx;obtain rfl:z'=z:=by simpa using he
  obtain ⟨u,hu,hr⟩:=qbL h;simp [Op.operands]at hu;subst hu;unfold qsI at hz;split at hz
  ·obtain ⟨v',rfl,hrun⟩:=qBI hz hr;exact qhZ hd hrun (by simp [Rep])
  unfold qg7 at hz;split at hz
  ·rename_i a ha;obtain ⟨r,hr',rfl⟩:=qc.1 hz;obtain ⟨he,_⟩:=rep_toVal _ _ _ a ha hr;exact qhZ hd (by rw [he];exact qcK hr') (qgk r)
  ·simp at hz
 ·-- makeInterface
  rename_i t _ x;split at hx
  ·simp at hx
  ·simp at hx
  ·rename_i d hni hu;split at hx
   ·rename_i hp;obtain rfl:_=z:=by simpa using hx
    obtain ⟨u,hu',hr⟩:=qbL h;simp [Op.operands]at hu';subst hu';cases hd':P.underlying t with
    |none=>exact absurd hd' hu
    |some d =>
     refine qAy (O':=O) hd ?_ (qwi hr) hl (λb hb=>hb);have:∀ms,d≠.interface ms:=λms e=>hni ms (by rw [hd',e]);simp only [Instr.makeInterface,Sem.run_bind,run_underlying hd',Result.andThen_ok];cases d<;>first|rfl|exact absurd rfl (this _)
   ·simp at hx
 ·-- makeFunc
  rename_i xs' g first captured;obtain rfl:_=z:=by simpa using hx
  have hop:(Op.makeFunc (.func g) first captured).operands.toList=first.toList++captured.toList:=by simp [Op.operands]
  rw [hop,List.map_append]at h;obtain ⟨O1,O2,rfl,h1,h2⟩:=qaC first.size h;have e1:(first.toList.map ρ++captured.toList.map ρ).take first.size=first.toList.map ρ:=by
   rw [List.take_append_of_le_length (by simp),List.take_of_length_le (by simp)]
  have e2:(first.toList.map ρ++captured.toList.map ρ).drop first.size=captured.toList.map ρ:=by
   rw [List.drop_append_of_le_length (by simp),List.drop_eq_nil_of_le (by simp)];rfl
  rw [e1]at h1;rw [e2]at h2;refine qAy (O':=O1++O2) (v:=.func (.func g) (first.map ρ) (captured.map ρ)) hd (by simp [Instr.makeFunc]) ?_ hl (λb hb=>hb);simp only [Rep];exact ⟨_,_,O1,O2,by congr 1<;>(apply Array.ext';simp),rfl,h1,h2⟩
 ·-- makeSlice
  obtain ⟨z',hz,he⟩:=qc.1 hx;obtain rfl:z'=z:=by simpa using he
  obtain ⟨u,v,O1,O2,hu,rfl,h1,h2⟩:=qk6 h;simp [Op.operands]at hu;obtain ⟨rfl,rfl⟩:=hu;exact qt6 hd hz h1 h2 _
 ·-- slice
  rename_i t xo lo hi mx x rest;obtain ⟨z',hz,he⟩:=qc.1 hx;obtain rfl:z'=z:=by simpa using he
  have hop:(Op.slice t xo lo hi mx).operands.toList=xo::(lo.toList++(hi.toList++mx.toList)):=by
   simp [Op.operands]
  rw [hop]at h;simp only [qh,RepL]at h;obtain ⟨u,vs,O1,O2,he',rfl,h1,h2⟩:=h;simp only [List.cons.injEq]at he';obtain ⟨rfl,rfl⟩:=he';obtain ⟨r1,O3,h3⟩:=qjT h2;obtain ⟨r2,O4,h4⟩:=qjT h3;have h4':RepL w X (if hi.isSome then (if lo.isSome then rest.tail else rest).tail else (if lo.isSome then rest.tail else rest)) ((mx.toList++[]).map ρ) O4:=by simpa using h4
  obtain ⟨r3,_,_⟩:=qjT h4';rcases Option.or_eq_some_iff.1 hz with hz|⟨_,hz⟩
  ·obtain ⟨v',hr,hrep⟩:=qCu hz h1 r1 r2 r3;exact qhZ hd hr hrep
  ·obtain ⟨v',hr,hrep⟩:=qAC hz h1 r1 r2 r3;exact qAy hd hr hrep hl.left (λb hb=>by simp [hb])
 ·-- fieldAddr
  obtain ⟨z',hz,he⟩:=qc.1 hx;obtain rfl:z'=z:=by simpa using he
  obtain ⟨u,hu,hr⟩:=qbL h;simp [Op.operands]at hu;subst hu;obtain ⟨v',hr',hrep⟩:=qmK hz hr;exact qhZ hd hr' hrep
 ·-- field
  obtain ⟨z',hz,he⟩:=qc.1 hx;obtain rfl:z'=z:=by simpa using he
  obtain ⟨u,hu,hr⟩:=qbL h;simp [Op.operands]at hu;subst hu;obtain ⟨v',O',hr',hrep,hc⟩:=qCs hz hr;exact qAy hd hr' hrep (qf8 hl hc) (qcc hc)
 ·-- sliceToArrayPointer
  obtain ⟨z',hz,he⟩:=qc.1 hx;obtain rfl:z'=z:=by simpa using he
  obtain ⟨u,hu,hr⟩:=qbL h;simp [Op.operands]at hu;subst hu;obtain ⟨v',hr',hrep⟩:=qys hz hr;exact qhZ hd hr' hrep
 ·-- indexAddr
  obtain ⟨z',hz,he⟩:=qc.1 hx;obtain rfl:z'=z:=by simpa using he
  obtain ⟨u,v,O1,O2,hu,rfl,h1,h2⟩:=qk6 h;simp [Op.operands]at hu;obtain ⟨rfl,rfl⟩:=hu;obtain ⟨v',hr,hrep⟩:=qmL hz h1 h2;exact qhZ hd hr hrep
 ·-- index
  obtain ⟨z',hz,he⟩:=qc.1 hx;obtain rfl:z'=z:=by simpa using he
  obtain ⟨u,v,O1,O2,hu,rfl,h1,h2⟩:=qk6 h;simp [Op.operands]at hu;obtain ⟨rfl,rfl⟩:=hu;obtain ⟨v',O',hr,hrep,hc⟩:=qCt hz h1 h2;exact qAy hd hr hrep (qf8 hl.left hc) (λb hb=>by simp [qcc hc b hb])
 ·-- extract
  obtain ⟨z',hz,he⟩:=qc.1 hx;obtain rfl:z'=z:=by simpa using he
  obtain ⟨u,hu,hr⟩:=qbL h;simp [Op.operands]at hu;subst hu;obtain ⟨v',O',hr',hrep,hc⟩:=qyt hz hr;exact qAy hd hr' hrep (qf8 hl hc) (qcc hc)
 ·-- builtin
  rename_i xs' b args argTypes;obtain ⟨z',hz,he⟩:=qc.1 hx;obtain rfl:z'=z:=by simpa using he
  have hop:(Op.call {callee:=.builtin b,args,argTypes}).operands.toList=args.toList:=by simp [Op.operands,Call.operands]
  rw [hop]at h;have e:(args.toList.map ρ).toArray=args.map ρ:=by apply Array.ext';simp
  show quU P (builtin b argTypes type _ (args.map ρ)) w X z' O;rw [<- e];exact qxH hd hl hz h
 ·simp at hx
end
section
variable {P:Program} {H:Hints} {f:FuncId}
theorem qC{r:Root}:∀{l:List V},r∈ptrsL l↔∃x∈l,r∈x.qq
 |[]=>by simp [ptrsL]
 |x::l=>by simp [ptrsL,qC (l:=l)]
theorem qfr{r:Root}{x:V}:r∈ptrsL x.cells->r∈x.qq:=by
 cases x<;>simp [V.cells,ptrsL,V.qq]
theorem qeQ{r:Root}{n:Nat}{l:List V}(h:r∈ptrsL (l.take n)):r∈ptrsL l:=by
 obtain ⟨x,hx,hr⟩:=qC.1 h;exact qC.2 ⟨x,List.mem_of_mem_take hx,hr⟩
theorem qcQ{r:Root}{n:Nat}{l:List V}(h:r∈ptrsL (l.drop n)):r∈ptrsL l:=by
 obtain ⟨x,hx,hr⟩:=qC.1 h;exact qC.2 ⟨x,List.mem_of_mem_drop hx,hr⟩
theorem qAl{r:Root}{a b:List V}:r∈ptrsL (a++b)↔r∈ptrsL a\/r∈ptrsL b:=by rw [qal];exact qj
theorem qqL(u:Value):(qcl u).qq=[]:=by
 have h0:∀l:List Value,ptrsL (l.map V.val)=[]:=λl=>by induction l<;>simp_all [ptrsL,V.qq]
 unfold qcl;split
 ·simp [V.qq,h0]
 ·rename_i vs;simp only [V.qq];induction vs.toList with
  |nil=>rfl
  |cons v l ih =>
   simp only [qh,ptrsL,ih,List.append_nil];split
   ·simp [V.qq,h0]
   ·rfl
 ·rfl
theorem qpd(p:Bool)(u:Value):(qcJ p u).qq=[]:=by
 unfold qcJ qeR;split
 ·cases p<;>rfl
 ·rfl
theorem qel(p:Bool)(u:Value):(ofConst p u).qq=[]:=by
 unfold ofConst;split
 ·rename_i cs;simp only [V.qq];induction cs.toList with
  |nil=>rfl
  |cons v l ih=>simp [ptrsL,qpd,ih]
 ·exact qpd p u
theorem qh2(x:V):x.q6.qq=x.qq:=ptrs_reflag _ x
theorem qby{t:TypeId}{cs:List V}{x:V}(h:q4 P t cs=some x):∀r∈x.qq,r∈ptrsL cs:=by
 unfold q4 at h;split at h
 ·simp at h
 ·split at h
  ·split at h
   ·simp only [qb]at h;subst h;intro r hr;simp only [V.qq]at hr;exact qeQ hr
   ·simp at h
  ·cases cs with
   |nil=>simp at h
   |cons y cs=>simp at h;subst h;intro r hr;simp [ptrsL,hr]
theorem qgU{cs vs:List V}{off:Nat}:∀r∈ptrsL (qJ cs off vs),r∈ptrsL cs\/r∈ptrsL vs:=by
 intro r hr;unfold qJ at hr;rcases qAl.1 hr with hr|hr
 ·rcases qAl.1 hr with hr|hr
  ·exact .inl (qeQ hr)
  ·exact .inr hr
 ·exact .inl (qcQ hr)
theorem qpc{place:Nat->Option (Nat×Nat)}:∀(is:List Nat) (xs cs cs':List V),qhj place cs (is.zip xs)=some cs'->∀r∈ptrsL cs',r∈ptrsL cs\/r∈ptrsL xs
 |[],xs,cs,cs',h=>by simp only [List.zip_nil_left,qhj,qb]at h;subst h;exact λr hr=>.inl hr
 |i::is,[],cs,cs',h=>by simp only [List.zip_nil_right,qhj,qb]at h;subst h;exact λr hr=>.inl hr
 |i::is,x::xs,cs,cs',h=>by
  simp only [List.zip_cons_cons,qhj]at h;split at h
  ·simp at h
  ·split at h
   ·simp at h
   ·intro r hr;rcases qpc is xs _ cs' h r hr with hr|hr
    ·rcases qgU r hr with hr|hr
     ·exact .inl hr
     ·exact .inr (by simp [ptrsL,qfr hr])
    ·exact .inr (by simp [ptrsL,hr])
theorem qyv{t:TypeId}{x z:V}{lo hi mx:Option V}(hz:qeo P t x lo hi mx=some z):z.qq=[]:=by
 unfold qeo at hz;split at hz
 ·split at hz
  ·simp at hz
  ·split at hz
   ·split at hz
    ·split at hz
     ·simp only [qb]at hz;subst hz;rfl
     ·simp at hz
    ·split at hz
     ·simp only [qb]at hz;subst hz;rfl
     ·simp at hz
   ·simp at hz
 ·split at hz
  ·simp at hz
  ·split at hz
   ·split at hz
    ·simp at hz
    ·simp only [qb]at hz;subst hz;rfl
   ·simp at hz
 ·split at hz
  ·split at hz
   ·simp only [qb]at hz;subst hz;rfl
   ·simp at hz
  ·simp at hz
 ·simp at hz
theorem qyp{o:Op}{type:TypeId}{tk:Bool}{xs:List V}{bx:Option (List V)}{z:V}{c:Option (List V)}(hx:qaL P H f tk o type xs bx=some (z,c)):∀r∈z.qq,r∈ptrsL xs\/∃cs,bx=some cs/\r∈ptrsL cs:=by
 have hval:∀{s:Sem Value} {z':V},(valOf P s).map qcl=some z'->z'.qq=[]:=λh=>by
  obtain ⟨v,_,rfl⟩:=qc.1 h;exact qqL v
 unfold qaL at hx;simp only at hx;split at hx
 ·obtain ⟨rfl,_⟩:=Prod.mk.inj (Option.some.inj hx);intro r hr;exact .inl (by simp [ptrsL,hr])
 ·obtain ⟨rfl,_⟩:=Prod.mk.inj (Option.some.inj hx);intro r hr;exact .inl (by simp [ptrsL,hr])
 ·obtain ⟨rfl,_⟩:=Prod.mk.inj (Option.some.inj hx);intro r hr;left;split at hr<;>simp [ptrsL,hr]
 ·obtain ⟨z',hz,he⟩:=qc.1 hx;obtain ⟨rfl,_⟩:=Prod.mk.inj he;unfold qrc at hz;intro r hr;split at hz
  ·rename_i z0 fields hzero hu;obtain ⟨i,u,hi,hiz,rfl⟩:=qdv hzero;split at hz
   ·obtain ⟨cs',hfv,rfl⟩:=qc.1 hz;simp only [V.qq]at hr;rcases qpc _ _ _ _ hfv r hr with hr|hr
    ·have:=qfr hr;rw [qel]at this;simp at this
    ·exact .inl hr
   ·simp at hz
  ·rename_i z0 len elem hzero hu;obtain ⟨i,u,hi,hiz,rfl⟩:=qdv hzero;split at hz
   ·obtain ⟨cs',hfv,rfl⟩:=qc.1 hz;simp only [V.qq]at hr;rcases qpc _ _ _ _ hfv r hr with hr|hr
    ·have:=qfr hr;rw [qel]at this;simp at this
    ·exact .inl hr
   ·simp at hz
  ·simp at hz
 ·obtain ⟨z',hz,he⟩:=qc.1 hx;obtain ⟨rfl,_⟩:=Prod.mk.inj he;unfold qdR at hz;intro r hr;split at hz
  ·split at hz
   ·split at hz
    ·simp at hz
    ·split at hz
     ·split at hz
      ·simp only [qb]at hz;subst hz;simp [V.qq]at hr
      ·simp at hz
     ·simp at hz
   ·simp at hz
  ·simp at hz
 ·obtain ⟨z',hz,he⟩:=qc.1 hx;obtain ⟨rfl,_⟩:=Prod.mk.inj he;obtain ⟨y,hy,rfl⟩:=qc.1 hz;intro r hr;rw [qh2]at hr;exact .inl (by simpa [ptrsL,V.qq]using qby hy r hr)
 ·split at hx
  ·rename_i cs;split at hx
   ·simp at hx
   split at hx
   ·obtain ⟨y,hy,he⟩:=qc.1 hx;obtain ⟨rfl,_⟩:=Prod.mk.inj he;intro r hr;exact .inr ⟨cs,rfl,qcQ (qby hy r hr)⟩
   ·obtain ⟨z',hz,he⟩:=qc.1 hx;obtain ⟨rfl,_⟩:=Prod.mk.inj he;obtain ⟨y,hy,rfl⟩:=qc.1 hz;intro r hr;rw [qh2]at hr;exact .inr ⟨cs,rfl,qcQ (qby hy r hr)⟩
  ·simp at hx
 ·split at hx
  ·split at hx
   ·obtain ⟨rfl,_⟩:=Prod.mk.inj (Option.some.inj hx);intro r hr;simp [V.qq]at hr
   ·simp at hx
  ·simp at hx
 ·obtain ⟨rfl,_⟩:=Prod.mk.inj (Option.some.inj hx);intro r hr;exact .inl (by simp [ptrsL,hr])
 ·obtain ⟨rfl,_⟩:=Prod.mk.inj (Option.some.inj hx);intro r hr;exact .inl (by simp [ptrsL,hr])
 ·obtain ⟨rfl,_⟩:=Prod.mk.inj (Option.some.inj hx);intro r hr;exact .inl (by simp [ptrsL,hr])
 ·obtain ⟨z',hz,he⟩:=qc.1 hx;obtain ⟨rfl,_⟩:=Prod.mk.inj he;unfold qnV at hz;intro r hr;split at hz
  ·rw [hval hz]at hr;simp at hr
  ·split at hz
   ·split at hz
    ·split at hz
     ·simp only [qb]at hz;subst hz;simp [V.qq]at hr
     ·simp only [qb]at hz;subst hz;simp [V.qq]at hr
     ·simp at hz
    ·simp at hz
   ·simp at hz
 ·obtain ⟨z',hz,he⟩:=qc.1 hx;obtain ⟨rfl,_⟩:=Prod.mk.inj he;obtain ⟨a,ha,hz⟩:=qd.1 hz;intro r hr;rw [hval hz]at hr;simp at hr
 ·obtain ⟨z',hz,he⟩:=qc.1 hx;obtain ⟨rfl,_⟩:=Prod.mk.inj he;unfold qsI at hz;intro r hr;split at hz
  ·unfold quM at hz;split at hz
   ·split at hz
    ·obtain ⟨_,_,rfl⟩:=qc.1 hz;simp [V.qq]at hr
    ·simp at hz
   ·simp at hz
  unfold qg7 at hz;split at hz
  ·rw [hval hz]at hr;simp at hr
  ·simp at hz
 ·rename_i t _ x;split at hx
  ·simp at hx
  ·simp at hx
  ·split at hx
   ·rename_i hp;obtain ⟨rfl,_⟩:=Prod.mk.inj (Option.some.inj hx);intro r hr;split at hr
    ·simp [V.qq]at hr
    ·simp only [V.qq]at hr;rw [show x.qq=[] by simpa using hp]at hr;simp at hr
   ·simp at hx
 ·obtain ⟨rfl,_⟩:=Prod.mk.inj (Option.some.inj hx);intro r hr;simp only [V.qq,qj]at hr;rcases hr with hr|hr
  ·exact .inl (qeQ hr)
  ·exact .inl (qcQ hr)
 ·obtain ⟨z',hz,he⟩:=qc.1 hx;obtain ⟨rfl,_⟩:=Prod.mk.inj he;unfold qe9 at hz;intro r hr;split at hz
  ·split at hz
   ·split at hz
    ·simp only [qb]at hz;subst hz;simp [V.qq]at hr
    ·simp at hz
   ·simp at hz
  ·simp at hz
 ·obtain ⟨z',hz,he⟩:=qc.1 hx;obtain ⟨rfl,_⟩:=Prod.mk.inj he;intro r hr;rcases Option.or_eq_some_iff.1 hz with hz|⟨_,hz⟩
  ·rw [qyv hz]at hr;simp at hr
  ·unfold qj7 at hz;split at hz
   ·split at hz
    ·simp only [qb]at hz;subst hz;simp [V.qq]at hr
    ·cases hz
   ·split at hz
    ·simp only [qb]at hz;subst hz;left;simp only [V.qq,List.mem_singleton]at hr;simp [ptrsL,V.qq,hr]
    ·cases hz
   ·cases hz
 ·obtain ⟨z',hz,he⟩:=qc.1 hx;obtain ⟨rfl,_⟩:=Prod.mk.inj he;unfold qcq at hz;intro r hr;split at hz
  ·split at hz
   ·split at hz
    ·simp at hz
    ·split at hz
     ·simp only [qb]at hz;subst hz;left;simpa [ptrsL,V.qq]using hr
     ·split at hz
      ·simp only [qb]at hz;subst hz;left;simp only [V.qq]at hr;simpa [ptrsL,V.qq]using qcQ hr
      ·simp at hz
     ·simp at hz
   ·simp at hz
  ·simp at hz
 ·obtain ⟨z',hz,he⟩:=qc.1 hx;obtain ⟨rfl,_⟩:=Prod.mk.inj he;unfold qrd at hz;intro r hr;split at hz
  ·split at hz
   ·left;simpa [ptrsL,V.qq]using qcQ (qby hz r hr)
   ·simp at hz
  ·simp at hz
 ·obtain ⟨z',hz,he⟩:=qc.1 hx;obtain ⟨rfl,_⟩:=Prod.mk.inj he;unfold qiP at hz;intro r hr;split at hz
  ·split at hz
   ·rename_i n elem fl c l hu hc;simp only [qb]at hz;subst hz;exfalso
    simp only [V.qq]at hr;have:∀{l:List V},(qhg l).isSome=true->ptrsL l=[]:=by
     intro l;induction l with
     |nil=>intro _;rfl
     |cons x l ih =>
      intro h;unfold qhg at h;split at h
      ·rename_i h';cases h'
      ·rename_i h';cases h';simp only [ptrsL,V.qq,List.nil_append];exact ih (by simpa using h)
      ·cases h
    have h1:=this hc.2.2;have h2:r∈ptrsL l:=qC.2 (by
     obtain ⟨x,hx,hr'⟩:=qC.1 hr;exact ⟨x,List.mem_of_mem_take hx,hr'⟩)
    rw [h1]at h2;simp at h2
   ·simp at hz
  ·simp at hz
 ·obtain ⟨z',hz,he⟩:=qc.1 hx;obtain ⟨rfl,_⟩:=Prod.mk.inj he;unfold qa4 at hz;intro r hr;split at hz
  ·split at hz
   ·split at hz
    ·simp only [qb]at hz;subst hz;left;simp only [ptrsL,V.qq]at hr ⊢;simpa using hr
    ·simp at hz
   ·split at hz
    ·simp only [qb]at hz;subst hz;left;simp only [V.qq]at hr;simpa [ptrsL,V.qq]using qcQ hr
    ·simp at hz
   ·split at hz
    ·split at hz
     ·split at hz
      ·rename_i hc;simp only [qb]at hz;subst hz;exfalso
       simp only [V.qq,ptrsL_reflag]at hr;rw [show ptrsL _=[] by simpa using hc.2.2.2]at hr;simp at hr
      ·simp at hz
     ·simp at hz
    ·simp at hz
   ·simp at hz
  ·simp at hz
 ·obtain ⟨z',hz,he⟩:=qc.1 hx;obtain ⟨rfl,_⟩:=Prod.mk.inj he;unfold qpL at hz;intro r hr;split at hz
  ·split at hz
   ·left;simpa [ptrsL,V.qq]using qcQ (qby hz r hr)
   ·simp at hz
  ·split at hz
   ·obtain ⟨b,_,rfl⟩:=qc.1 hz;simp [V.qq]at hr
   ·simp at hz
  ·simp at hz
 ·obtain ⟨z',hz,he⟩:=qc.1 hx;obtain ⟨rfl,_⟩:=Prod.mk.inj he;intro r hr;left;simp only [ptrsL,V.qq,List.append_nil];exact qC.2 ⟨_,List.mem_of_getElem? hz,hr⟩
 ·obtain ⟨z',hz,he⟩:=qc.1 hx;obtain ⟨rfl,_⟩:=Prod.mk.inj he;have hvl:∀{xs:List V} {s:Array Value->Sem Value} {z':V},((toValL xs).bind λvs=>(valOf P (s vs.toArray)).map qcl)=some z'->z'.qq=[]:=λh=>by
   obtain ⟨vs,_,h⟩:=qd.1 h;exact hval h
  unfold qd6 at hz;intro r hr;split at hz
  ·split at hz
   ·simp only [qb]at hz;subst hz;simp [V.qq]at hr
   ·simp at hz
  ·rename_i x y;rcases Option.or_eq_some_iff.1 hz with hz|⟨_,hz⟩
   rotate_left
   ·rcases Option.or_eq_some_iff.1 hz with hz|⟨_,hz⟩
    ·unfold qeZ at hz;split at hz
     ·split at hz
      ·simp only [qb]at hz;subst hz;simp [V.qq]at hr
      ·cases hz
     ·cases hz
    ·unfold qg6 at hz;split at hz
     ·split at hz
      ·split at hz<;>(simp only [qb]at hz;subst hz;simp [V.qq]at hr)
      ·cases hz
     ·cases hz
   rw [qpK]at hz;split at hz
   ·split at hz
    ·simp at hz
    ·simp only at hz;split at hz
     ·simp at hz
     ·split at hz
      ·split at hz
       ·simp only [qb]at hz;subst hz;simp [V.qq]at hr
       ·split at hz
        ·simp only [qb]at hz;subst hz;simp [V.qq]at hr
        ·simp at hz
      ·split at hz
       ·split at hz
        ·simp only [qb]at hz;subst hz;simp [V.qq]at hr
        ·split at hz
         ·split at hz
          ·simp only [qb]at hz;subst hz;simp [V.qq]at hr
          ·simp only [qb]at hz;subst hz;simp [V.qq]at hr
         ·simp at hz
       ·simp at hz
      ·simp at hz
   ·simp at hz
  ·simp at hz
  ·simp at hz
  ·rw [hvl (s:=Builtin.cap_ _ _) hz]at hr;simp at hr
  ·rw [hvl (s:=Builtin.len_ _ _) hz]at hr;simp at hr
  ·rw [hvl (s:=Builtin.max_ _ _) hz]at hr;simp at hr
  ·rw [hvl (s:=Builtin.min_ _ _) hz]at hr;simp at hr
  ·rw [hvl (s:=Builtin.real_ _ _) hz]at hr;simp at hr
  ·rw [hvl (s:=Builtin.imag_ _ _) hz]at hr;simp at hr
  ·rw [hvl (s:=Builtin.complex_ _ _) hz]at hr;simp at hr
  ·simp at hz
 ·simp at hx
end
def qvd(a:Array Value):Prop:=∃ev,a[0]?=some ev/\(ev=.nilIface\/∃te pe,ev=.iface te pe)
def qzW(a:Array Value):Prop:=∃m,a[0]?=some (.int .i64 m)
def qy0:List (Nat×(Array Value->Prop)):=[(0,qzW),(1,λa=>a=(Lib.pow10Tab.map λz=>Value.int .u64 z).toArray),(4,qvd),(5,qvd)]
section
inductive Pl where
 |tmp (t:Nat)
 |box (r:Root)
 deriving DecidableEq
abbrev kv(e:MapEntry):Value×Value:=(e.key,e.val)
def qp5(w:World)(X:Cx)(b:Nat)(c:List V)(O:List Nat):Prop :=
 (∃cs t,w.heap[b]?=some (.cells cs t (0,0))/\RepL w X c cs.toList O) \/
 (∃s pe g env ps asg body lo,c=[.lp s pe g env ps asg body]/\w.heap[b]?=some (.loop lo)/\lo.state=s/\lo.pending=pe/\g=g/\lo.params.toList=ps/\lo.assign=asg/\lo.body=body /\
  RepL w X env lo.tmps.toList []/\O=[]) \/
 (∃es ents clock,c=[.mp es]/\w.heap[b]?=some (.map ents clock)/\ents.toList.map kv=es/\O=[])
structure Rel (st:St) (tmps:Array Value) (w:World) (X:Cx) (O:Pl->List Nat):Prop where
 size:tmps.size=st.E.length
 env:∀t x,st.E[t]?=some x->∃v,tmps[t]?=some v/\Rep w X x v (O (.tmp t))
 envD:∀t,st.E.length<=t->O (.tmp t)=[]
 box:∀r c,st.box r=some c->∃b,X.β r=some b/\b<w.heap.size/\X.ω b=none/\qp5 w X b c (O (.box r))
 boxD:∀r,st.box r=none->O (.box r)=[]
 inj:∀r r' b,(st.box r).isSome=true->(st.box r').isSome=true->X.β r=some b->X.β r'=some b->r=r'
 lin:∀p,Lin (O p)
 dis:∀p q,p≠q->∀b∈O p,b∉O q
 ptrE:∀r∈ptrsL st.E,(st.box r).isSome=true
 ptrB:∀r c,st.box r=some c->∀r'∈ptrsL c,(st.box r').isSome=true
 up:∀r c,st.box r=some c->∀r'∈ptrsL c,r'.lvl<=r.lvl
 dom:Dom w X
structure Md where
 may:Nat->Prop
 kind:Root->Option Bool
instance:CoeFun Md (λ_=>Nat->Prop):=⟨Md.may⟩
def qhi(w:World)(X:Cx):Prop:=∀x∈qy0,(∃e,X.ω x.1=some (e,true))/\∃arr t fr,w.heap[x.1]?=some (.cells arr t fr)/\x.2 arr
theorem qhi.of{w w':World}{X X':Cx}(h:qhi w X)(hg:∀x∈qy0,∀e,X.ω x.1=some (e,true)->(∃e',X'.ω x.1=some (e',true))/\w'.heap[x.1]?=w.heap[x.1]?):qhi w' X':=λx hx=>by
 obtain ⟨⟨e,h1⟩,arr,t,fr,h2,h3⟩:=h x hx;grind
theorem qhi.lt{w:World}{X:Cx}(h:qhi w X){x:Nat×(Array Value->Prop)}(hx:x∈qy0):x.1<w.heap.size:=by
 obtain ⟨_,arr,t,fr,h2,_⟩:=h x hx;grind
structure Fr (w0:World) (X0:Cx) (M:Md) (n:Nat) (st:St) (w:World) (X:Cx) (O:Pl->List Nat):Prop where
 size:w0.heap.size<=w.heap.size
 kept:∀b,b<w0.heap.size->¬ M b->w.heap[b]?=w0.heap[b]?/\X.ω b=X0.ω b
 grew:∀b e fz,X0.ω b=some (e,fz)->∃e' fz',X.ω b=some (e',fz')/\e<=e'/\(fz=true->fz'=true)/\∀i v,i<e->w0.cell? ⟨b,i,none⟩=some v->w.cell? ⟨b,i,none⟩=some v
 β:∀r,r.lvl<n->X.β r=X0.β r
 own:∀p,∀b∈O p,w0.heap.size<=b\/M b
 boxM:∀r b,(st.box r).isSome=true->X.β r=some b->w0.heap.size<=b\/M b
 lev:st.L.length=n
 live:∀r,r.lvl<n->(st.box r).map qae=M.kind r
 os:w.os=w0.os
 out:w.output=w0.output
 tape:w.tape=w0.tape
 gl:qhi w0 X0
 gm:∀x∈qy0,¬ M.may x.1
theorem Fr.now{w0:World}{X0:Cx}{M:Md}{n:Nat}{st:St}{w:World}{X:Cx}{O:Pl->List Nat}(h:Fr w0 X0 M n st w X O):qhi w X:=h.gl.of λx hx e hω=>by
 obtain ⟨h1,h2⟩:=h.kept x.1 (h.gl.lt hx) (h.gm x hx);grind
variable {P:Program} {H:Hints} {f:FuncId} {w:World} {X:Cx}
mutual
theorem rep_own:∀(x:V) (v:Value) (O:List Nat),Rep w X x v O->∀b∈O,∃e,X.ω b=some (e,false)
 |.undef,_,_,h=>by simp_all [Rep]
 |.val _,_,_,h=>by simp_all [Rep]
 |.ptr ..,_,_,h=>by simp_all [Rep]
 |.yld _,_,_,h=>by simp_all [Rep]
 |.mref _,_,_,h=>by simp_all [Rep]
 |.bsl ..,_,_,h=>by simp_all [Rep]
 |.cptr ..,_,_,h=>by simp_all [Rep]
 |.room s n,v,O,h=>by
  grind [Rep]
 |.sl f c l,v,O,h=>by
  simp only [Rep]at h;obtain ⟨_,h⟩:=h;rcases h with ⟨_,h0,_⟩|⟨b,off,cap,s,vals,O',_,_,_,_,_,_,_,⟨e,fz,hω,_,hf⟩,he,ho,ho'⟩
  ·simp [h0]
  ·have ih:=repE_own s l vals O' he;by_cases hown:f=.own
   ·subst hown;rw [ho rfl];intro b' hb';rcases qk.1 hb' with rfl|hb'
    ·obtain ⟨rfl,_⟩:=hf;exact ⟨e,hω⟩
    ·exact ih _ hb'
   ·simp [(ho' hown).1]
 |.fn f a c,v,O,h=>by
  simp only [Rep]at h;obtain ⟨va,vc,O1,O2,_,rfl,h1,h2⟩:=h;intro b hb;rcases qj.1 hb with hb|hb
  ·exact repL_own a va O1 h1 b hb
  ·exact repL_own c vc O2 h2 b hb
 |.iface t x,v,O,h=>by simp only [Rep]at h;obtain ⟨u,_,h1⟩:=h;exact rep_own x u O h1
 |.agg l,v,O,h=>by simp only [Rep]at h;obtain ⟨vals,_,h1⟩:=h;exact repL_own l vals O h1
 |.tuple l,v,O,h=>by simp only [Rep]at h;obtain ⟨vals,_,h1⟩:=h;exact repL_own l vals O h1
 |.lp ..,_,_,h=>by simp_all [Rep]
 |.mp _,_,_,h=>by simp_all [Rep]
theorem repL_own:∀(l:List V) (vals:List Value) (O:List Nat),RepL w X l vals O->∀b∈O,∃e,X.ω b=some (e,false)
 |[],_,_,h=>by simp_all [RepL]
 |x::l,vals,O,h=>by
  simp only [RepL]at h;obtain ⟨u,vs,O1,O2,_,rfl,h1,h2⟩:=h;intro b hb;rcases qj.1 hb with hb|hb
  ·exact rep_own x u O1 h1 b hb
  ·exact repL_own l vs O2 h2 b hb
theorem repE_own(s:Nat):∀(l:List V) (vals:List Value) (O:List Nat),RepE w X s l vals O->∀b∈O,∃e,X.ω b=some (e,false)
 |[],_,_,h=>by simp_all [RepE]
 |x::l,vals,O,h=>by
  simp only [RepE]at h;obtain ⟨u,vs,O1,O2,_,_,rfl,h1,h2⟩:=h;intro b hb;rcases qj.1 hb with hb|hb
  ·exact rep_own x u O1 h1 b hb
  ·exact repE_own s l vs O2 h2 b hb
end
theorem qp5.own{b:Nat}{c:List V}{O:List Nat}(h:qp5 w X b c O):∀k∈O,∃e,X.ω k=some (e,false):=by
 rcases h with ⟨cs,t,_,h⟩|⟨s,pe,g,env,ps,asg,body,lo,_,_,_,_,_,_,_,_,_,rfl⟩|⟨es,ents,ck,_,_,_,rfl⟩
 ·exact repL_own c _ O h
 ·simp
 ·simp
theorem Rel.ownω{st:St}{tmps:Array Value}{O:Pl->List Nat}(h:Rel st tmps w X O):∀p,∀b∈O p,∃e,X.ω b=some (e,false):=by
 intro p b hb;cases p with
 |tmp t =>
  by_cases hlt:t<st.E.length
  ·obtain ⟨v,_,hr⟩:=h.env t _ (List.getElem?_eq_getElem hlt);grind [rep_own]
  ·rw [h.envD t (by omega)]at hb;simp at hb
 |box r =>
  cases hr:st.box r with
  |none=>rw [h.boxD r hr]at hb;simp at hb
  |some c=>obtain ⟨k,_,_,_,hbx⟩:=h.box r c hr;exact hbx.own b hb
theorem Rel.qEc{st:St}{tmps:Array Value}{O:Pl->List Nat}(h:Rel st tmps w X O):∀p,∀b∈O p,b<w.heap.size:=λp b hb=>by
 obtain ⟨e,he⟩:=h.ownω p b hb;exact h.dom _ _ _ he
theorem qa7:∀(T:List Tmp) (E:List V),(qz E T).length=E.length
 |[],E=>rfl
 |t::T,E=>by simp only [qz,List.foldl_cons];rw [show (T.foldl (λE t=>E.modify t V.q6) (E.modify t V.q6))=qz (E.modify t V.q6) T from rfl,qa7 T];simp
theorem qlB:∀(T:List Tmp) (E:List V) (t:Nat) (x':V),(qz E T)[t]?=some x' ->
  ∃x,E[t]?=some x/\x'.qq=x.qq/\((t∉T/\x'=x)\/(t∈T/\∀(w:World) (X:Cx) v O,Rep w X x v O->Rep w X x' v []))
 |[],E,t,x',h=>⟨x',by grind [qz],rfl,.inl ⟨by simp,rfl⟩⟩
 |s::T,E,t,x',h=>by
  have h':(qz (E.modify s V.q6) T)[t]?=some x':=h;obtain ⟨y,hy,hp,hc⟩:=qlB T _ t x' h';rw [List.getElem?_modify]at hy;by_cases hst:s=t
  ·subst hst;simp only [if_true]at hy;cases hE:E[s]? with
   |none=>simp_all
   |some x =>
    simp [hE]at hy;subst hy;refine ⟨x,rfl,by rw [hp,qh2],.inr ⟨by simp,λw X v O hr=>?_⟩⟩;rcases hc with ⟨_,rfl⟩|⟨_,hd⟩
    ·exact qgW hr
    ·exact hd w X v [] (qgW hr)
  grind
theorem mem_set{r:Root}{l:List V}{d:Nat}{z:V}(h:r∈ptrsL (l.set d z)):r∈ptrsL l\/r∈z.qq:=by
 grind [qC,List.mem_or_eq_of_mem_set]
theorem qqE{r:Root}{E:List V}{T:List Tmp}(h:r∈ptrsL (qz E T)):r∈ptrsL E:=by
 obtain ⟨x,hx,hr⟩:=qC.1 h;obtain ⟨t,ht,hx⟩:=List.mem_iff_getElem.1 hx;obtain ⟨y,hy,hp,_⟩:=qlB T E t x (by grind);grind [qC,List.mem_of_getElem?]
def qiF(O:Pl->List Nat)(T:List Tmp)(d:Option Tmp)(len:Nat)(O':List Nat):Pl->List Nat
 |.tmp t=>if d=some t/\t<len then O' else if t∈T then []else O (.tmp t)
 |.box r=>O (.box r)
theorem qfS(st:St)(d:Option Tmp)(z:V)(r:Root):(st.put d z).box r=st.box r:=by
 cases d<;>rfl
theorem qp5.qpV{w':World}{X':Cx}{b:Nat}{c:List V}{O:List Nat}(h:qp5 w X b c O)(hb:w'.heap[b]?=w.heap[b]?)(hr:∀l vals O',(∀r∈ptrsL l,r∈ptrsL c)->(∀k∈O',k∈O)->RepL w X l vals O'->RepL w' X' l vals O'):qp5 w' X' b c O:=by
 rcases h with ⟨cs,t,h1,h2⟩|⟨s,pe,g,env,ps,asg,body,lo,rfl,h1,h2,h3,h4,h5,h6,h7,h8,rfl⟩|⟨es,ents,ck,rfl,h1,h2,rfl⟩
 ·exact .inl ⟨cs,t,by grind,hr _ _ _ (λ_ h=>h) (λ_ h=>h) h2⟩
 ·exact .inr (.inl ⟨s,pe,g,env,ps,asg,body,lo,rfl,by grind,h2,h3,h4,h5,h6,h7,hr _ _ _ (λr hr=>by simpa [ptrsL,V.qq]using hr) (λ_ h=>h) h8,rfl⟩)
 ·exact .inr (.inr ⟨es,ents,ck,rfl,by grind,h2,rfl⟩)
def qxb(tmps:Array Value)(d:Option Tmp)(v:Value):Array Value:=match d with|some d=>tmps.setIfInBounds d v|none=>tmps
theorem Rel.put{st:St}{tmps:Array Value}{O:Pl->List Nat}(h:Rel st tmps w X O){T:List Tmp}{Oin O':List Nat}{w':World}{X':Cx}{z:V}{v:Value}(d:Option Tmp)
  (hin:∀b∈Oin,∃t∈T,b∈O (.tmp t)) (he:Eff w X w' X' Oin) (hz:Rep w' X' z v O') (hl:Lin O') (hfree:∀b∈O',∀q,(∀t∈T,q≠.tmp t)->b∉O q) (hp:∀r∈z.qq,(st.box r).isSome=true) :
  Rel (({st with E:=qz st.E T}:St).put d z) (qxb tmps d v) w' X' (qiF O T d st.E.length O'):=by
 have hext:∀{l:List V} {vals:List Value} {A:List Nat},(∀b∈A,b∉Oin)->RepL w X l vals A->RepL w' X' l vals A:=λhA hr=>RepL.ext (he.ext h.dom (ptrsL _)) _ _ _ (λ_ h=>h) hA hr;have hext1:∀{x:V} {u:Value} {A:List Nat},(∀b∈A,b∉Oin)->Rep w X x u A->Rep w' X' x u A:=λhA hr=>Rep.ext (he.ext h.dom (V.qq _)) _ _ _ (λ_ h=>h) hA hr;have hnotin:∀p,(∀t∈T,p≠.tmp t)->∀b∈O p,b∉Oin:=λp hp b hb hbi=>by
  obtain ⟨t,ht,hbt⟩:=hin b hbi;exact h.dis p (.tmp t) (hp t ht) b hb hbt
 have henv1:∀t x,(qz st.E T)[t]?=some x->∃u,tmps[t]?=some u/\Rep w' X' x u (if t∈T then []else O (.tmp t)):=by
  intro t x hx;obtain ⟨y,hy,_,hc⟩:=qlB T st.E t x hx;obtain ⟨u,hu,hr⟩:=h.env t y hy;grind
 have hlenE:(({st with E:=qz st.E T}:St).put d z).E.length=st.E.length:=by cases d<;>simp [St.put,qa7]
 refine {size:=?_,env:=?_,envD:=?_,box:=?_,boxD:=?_,inj:=?_,lin:=?_,dis:=?_,ptrE:=?_,ptrB:=?_,up:=λr c hr=>by rw [qfS]at hr;exact h.up r c hr,dom:=he.dom}
 ·rw [hlenE,<- h.size];cases d<;>simp [qxb]
 ·intro t x hx;cases d with
  |none =>
   simp_all [St.put,qxb,qiF]
  |some d =>
   have hx':((qz st.E T).set d z)[t]?=some x:=hx;grind [qm,qa7,List.getElem?_set_self,List.getElem?_set_ne,qxb,qiF]
 ·intro t ht;rw [hlenE]at ht;simp only [qiF];rw [if_neg (by omega)];split
  ·rfl
  ·exact h.envD t ht
 ·intro r c hr;rw [qfS]at hr;obtain ⟨b,hb,hlt,hω,hbx⟩:=h.box r c hr;have hnb:b∉Oin:=λhbi=>by
   obtain ⟨t,_,hbt⟩:=hin b hbi;obtain ⟨e,he⟩:=h.ownω _ b hbt;grind
  refine ⟨b,by rw [he.β];exact hb,Nat.lt_of_lt_of_le hlt he.size,by rw [he.ωk b hlt hnb];exact hω,hbx.qpV (he.kept b hlt hnb) (λl vals A _ hA hr=>hext (λk hk=>hnotin (.box r) (λt _ e=>by cases e) k (hA k hk)) hr)⟩
 ·intro r hr;rw [qfS]at hr;exact h.boxD r hr
 ·intro r r' b h1 h2 h3 h4;rw [qfS]at h1 h2;rw [he.β]at h3 h4;exact h.inj r r' b h1 h2 h3 h4
 ·intro p;cases p with
  |tmp t=>simp only [qiF];split;exact hl;split;exact Lin.nil;exact h.lin _
  |box r=>exact h.lin _
 ·have key:∀t,d=some t->t<st.E.length->∀b∈O',∀q,q≠.tmp t->b∉qiF O T d st.E.length O' q:=by
   intro t hd hlt b hb q hq hbq;have hbO:(∀s∈T,q≠.tmp s)/\b∈O q:=by
    cases q with
    |tmp s =>
     simp only [qiF]at hbq;grind
    |box r=>exact ⟨λ_ _ e=>(by cases e),hbq⟩
   grind
  have hsub:∀p b,b∈qiF O T d st.E.length O' p->(∃t,p=.tmp t/\d=some t/\t<st.E.length/\b∈O')\/b∈O p:=by
   intro p b hb;cases p with
   |tmp t =>
    grind [qiF]
   |box r=>exact .inr hb
  intro p q hpq b hb hbq;rcases hsub p b hb with ⟨t,rfl,hd,hlt,hbO⟩|hbp
  ·grind
  ·rcases hsub q b hbq with ⟨t,rfl,hd,hlt,hbO⟩|hbq'
   ·grind
   ·exact h.dis p q hpq b hbp hbq'
 ·intro r hr;rw [qfS];cases d with
  |none=>exact h.ptrE r (qqE hr)
  |some d =>
   rcases mem_set (l:=qz st.E T) hr with hr|hr
   ·exact h.ptrE r (qqE hr)
   ·exact hp r hr
 ·intro r c hr r' hr';rw [qfS]at hr ⊢;exact h.ptrB r c hr r' hr'
theorem Rel.free{st:St}{tmps:Array Value}{O:Pl->List Nat}(h:Rel st tmps w X O){T:List Tmp}{Oin O':List Nat}(hin:∀b∈Oin,∃t∈T,b∈O (.tmp t))(hO':∀b∈O',b∈Oin\/w.heap.size<=b) :
  ∀b∈O',∀q,(∀t∈T,q≠.tmp t)->b∉O q:=λb hb q hq hbq=>by
 rcases hO' b hb with h1|h1
 ·obtain ⟨t,ht,hbt⟩:=hin b h1;exact h.dis q (.tmp t) (hq t ht) b hbq hbt
 ·have:=h.qEc q b hbq;omega
theorem Fr.put{w0:World}{X0:Cx}{M:Md}{n:Nat}{st:St}{tmps:Array Value}{O:Pl->List Nat}(h:Rel st tmps w X O)(hF:Fr w0 X0 M n st w X O){T:List Tmp}{Oin O':List Nat}{w':World}{X':Cx}{z:V}(d:Option Tmp)
  (hin:∀b∈Oin,∃t∈T,b∈O (.tmp t)) (he:Eff w X w' X' Oin) (hO':∀b∈O',b∈Oin\/w.heap.size<=b) :
  Fr w0 X0 M n (({st with E:=qz st.E T}:St).put d z) w' X' (qiF O T d st.E.length O') where
 size:=Nat.le_trans hF.size he.size
 kept:=λb hb hM=>by
  have hnb:b∉Oin:=λhbi=>by
   obtain ⟨t,_,hbt⟩:=hin b hbi;rcases hF.own _ b hbt with h1|h1
   ·omega
   grind
  have hlt:=Nat.lt_of_lt_of_le hb hF.size;obtain ⟨h1,h2⟩:=hF.kept b hb hM;exact ⟨by rw [he.kept b hlt hnb,h1],by rw [he.ωk b hlt hnb,h2]⟩
 grew:=λb e fz hω=>by
  obtain ⟨e1,fz1,h1,h2,h3,h4⟩:=hF.grew b e fz hω;by_cases hb:b∈Oin
  ·obtain ⟨e2,fz2,h5,h6,h6',h7,_⟩:=he.own b hb e1 fz1 h1;grind
  ·have hlt:=h.dom b e1 fz1 h1;exact ⟨e1,fz1,by rw [he.ωk b hlt hb];exact h1,h2,h3,λi v hi hc=>by rw [cell_of_heap (he.kept b hlt hb)];grind⟩
 β:=λr hr=>by rw [he.β];exact hF.β r hr
 own:=λp b hb=>by
  have hO:b∈O'\/b∈O p:=by
   cases p with
   |tmp t =>
    grind [qiF]
   |box r=>exact .inr hb
  rcases hO with hb|hb
  ·rcases hO' b hb with h1|h1
   ·obtain ⟨t,_,hbt⟩:=hin b h1;exact hF.own _ b hbt
   ·exact .inl (Nat.le_trans hF.size h1)
  ·exact hF.own p b hb
 boxM:=λr b hr hb=>by rw [qfS]at hr;rw [he.β]at hb;exact hF.boxM r b hr hb
 lev:=by cases d<;>exact hF.lev
 live:=λr hr=>by rw [qfS];exact hF.live r hr
 os:=by rw [he.os,hF.os]
 out:=by rw [he.out,hF.out]
 tape:=by rw [he.tape,hF.tape]
 gl:=hF.gl
 gm:=hF.gm
end
section
variable {P:Program} {H:Hints} {f:FuncId} {w:World} {X:Cx}
def qf0(l:List Operand):List Tmp:=l.filterMap λ| .tmp t=>some t|_=>none
theorem qo0{t:Tmp}{l:List Tmp}(h:qfs (t::l)=true):t∉l/\qfs l=true:=by
 simp only [qfs,qe,Bool.not_eq_true']at h;exact ⟨by simpa using h.1,h.2⟩
theorem qce{st:St}{a:Act}{O:Pl->List Nat}(h:Rel st a.tmps w X O)(o:Oper):∀(l:List Operand),(qab H f o=true->qfs (qf0 l)=true) ->
  ∃Oin,RepL w X (l.map (rd H f o st.E)) (l.map a.eval) Oin/\(∀b∈Oin,qab H f o=true/\∃t∈qf0 l,b∈O (.tmp t))/\Lin Oin
 |[],_=>⟨[],by simp [RepL],by simp,Lin.nil⟩
 |x::l,hn=>by
  have hrec:qab H f o=true->qfs (qf0 l)=true:=λht=>by
   have:=hn ht;cases x with
   |tmp t=>exact (qo0 (by simpa [qf0]using this)).2
   |_=>simpa [qf0]using this
  obtain ⟨A,hA,hAs,hAl⟩:=qce h o l hrec;have hsub:∀t,t∈qf0 l->t∈qf0 (x::l):=λt ht=>by
   cases x<;>simp_all [qf0]
  cases x with
  |tmp t =>
   have hv:∃B,Rep w X (rd H f o st.E (.tmp t)) (a.eval (.tmp t)) B/\(∀b∈B,qab H f o=true/\b∈O (.tmp t))/\Lin B:=by
    by_cases hlt:t<st.E.length
    ·obtain ⟨v,hv,hr⟩:=h.env t _ (List.getElem?_eq_getElem hlt);have e1:a.eval (.tmp t)=v:=by
      simp only [Act.eval];rw [Array.getD_eq_getD_getElem?,hv];rfl
     have e2:st.E.getD t .undef=st.E[t]:=by simp [hlt]
     by_cases htk:qab H f o=true
     ·exact ⟨O (.tmp t),by rw [e1];simp only [rd,htk,if_true,e2];exact hr,λb hb=>⟨htk,hb⟩,h.lin _⟩
     ·exact ⟨[],by rw [e1];simp only [rd,htk,e2];exact qgW hr,by simp,Lin.nil⟩
    ·have e2:st.E.getD t .undef=.undef:=by simp [List.getElem?_eq_none (Nat.not_lt.1 hlt)]
     refine ⟨[],?_,by simp,Lin.nil⟩;simp only [rd,e2];split<;>simp [Rep,V.q6,V.reflag]
   obtain ⟨B,hB,hBs,hBl⟩:=hv;refine ⟨B++A,by simp only [qh,RepL];exact ⟨_,_,B,A,rfl,rfl,hB,hA⟩,λb hb=>?_,λb=>?_⟩
   ·rcases qj.1 hb with hb|hb
    ·exact ⟨(hBs b hb).1,t,by simp [qf0],(hBs b hb).2⟩
    ·obtain ⟨h1,s,hs,hb⟩:=hAs b hb;exact ⟨h1,s,hsub s hs,hb⟩
   ·rw [List.count_append];have h1:=hBl b;have h2:=hAl b;by_cases hb:b∈B
    ·have:A.count b=0:=List.count_eq_zero.2 λhbA=>by
      obtain ⟨htk,s,hs,hbs⟩:=hAs b hbA;have hts:t≠s:=λe=>(qo0 (by simpa [qf0]using hn htk)).1 (by subst e;exact hs);exact h.dis (.tmp t) (.tmp s) (λe=>hts (by cases e;rfl)) b (hBs b hb).2 hbs
     omega
    ·have:B.count b=0:=List.count_eq_zero.2 hb;omega
  |const v =>
   refine ⟨A,by simp only [qh,RepL];exact ⟨_,_,[],A,rfl,rfl,by simp only [rd,Act.eval];exact qgY _ _,hA⟩,λb hb=>?_,hAl⟩;obtain ⟨h1,s,hs,hb⟩:=hAs b hb;exact ⟨h1,s,hsub s hs,hb⟩
  |func g =>
   refine ⟨A,by simp only [qh,RepL];exact ⟨_,_,[],A,rfl,rfl,by simp only [rd,Act.eval,Rep];exact ⟨[],[],[],[],rfl,rfl,by simp [RepL],by simp [RepL]⟩,hA⟩,λb hb=>?_,hAl⟩;obtain ⟨h1,s,hs,hb⟩:=hAs b hb;exact ⟨h1,s,hsub s hs,hb⟩
  |global g =>
   refine ⟨A,by simp only [qh,RepL];exact ⟨_,_,[],A,rfl,rfl,by simp [rd,Rep],hA⟩,λb hb=>?_,hAl⟩;obtain ⟨h1,s,hs,hb⟩:=hAs b hb;exact ⟨h1,s,hsub s hs,hb⟩
theorem qol{E:List V}{t:Nat}{r:Root}(h:r∈(E.getD t .undef).qq):r∈ptrsL E:=by
 by_cases hlt:t<E.length
 ·have e2:E.getD t .undef=E[t]:=by simp [hlt]
  rw [e2]at h;exact qC.2 ⟨_,List.getElem_mem hlt,h⟩
 ·have e2:E.getD t .undef=.undef:=by simp [List.getElem?_eq_none (by omega:E.length<=t)]
  rw [e2]at h;simp [V.qq]at h
theorem qph{o:Oper}{E:List V}{x:Operand}{r:Root}(h:r∈(rd H f o E x).qq):r∈ptrsL E:=by
 cases x with
 |tmp t =>
  simp only [rd]at h;split at h
  ·exact qol h
  ·rw [qh2]at h;exact qol h
 |const v=>simp only [rd]at h;rw [qel]at h;simp at h
 |func g=>simp [rd,V.qq,ptrsL]at h
 |global g=>simp [rd,V.qq]at h
theorem qxc{o:Oper}{E:List V}{l:List Operand}{r:Root}(h:r∈ptrsL (l.map (rd H f o E))):r∈ptrsL E:=by
 obtain ⟨x,hx,hr⟩:=qC.1 h;obtain ⟨y,_,rfl⟩:=List.mem_map.1 hx;exact qph hr
def Sim(w0:World)(X0:Cx)(M:Md)(n:Nat)(st:St)(tmps:Array Value)(w:World):Prop:=∃X O,Rel st tmps w X O/\Fr w0 X0 M n st w X O
theorem qqf(E:List V):qz E []=E:=rfl
theorem qyN{w0:World}{X0:Cx}{M:Md}{n:Nat}{st:St}{a:Act}{O:Pl->List Nat}{o:Oper}{z:V}(h:Rel st a.tmps w X O)(hF:Fr w0 X0 M n st w X O)
  (hn:qab H f o=true->qfs (tmpsOf o)=true) (hx:qaL P H f (qab H f o) o.op o.type (o.op.operands.toList.map (rd H f o st.E)) none=some (z,none)) :
  ∃v w',(execOp a.eval o).run P w=.ok (.value v) w'/\Sim w0 X0 M n ((if qab H f o then {st with E:=qz st.E (tmpsOf o)}else st).put o.dst z) (a.put o.dst v).tmps w':=by
 obtain ⟨Oin,hrep,hs,hlin⟩:=qce h o _ hn;obtain ⟨v,w',X',O',hrun,heff,hz,hl,hO'⟩:=qw6 h.dom hlin hx hrep;refine ⟨v,w',hrun,X',?_⟩;have hp:∀r∈z.qq,(st.box r).isSome=true:=λr hr=>by
  rcases qyp hx r hr with h1|⟨cs,h1,_⟩
  ·exact h.ptrE r (qxc h1)
  ·simp at h1
 have hput:(a.put o.dst v).tmps=qxb a.tmps o.dst v:=by cases o.dst<;>rfl
 rw [hput];by_cases ht:qab H f o=true
 ·rw [if_pos ht];exact ⟨_,h.put (T:=tmpsOf o) o.dst (λb hb=>(hs b hb).2) heff hz hl (h.free (λb hb=>(hs b hb).2) hO') hp,Fr.put h hF (T:=tmpsOf o) o.dst (λb hb=>(hs b hb).2) heff hO'⟩
 ·rw [if_neg ht];have hnil:Oin=[]:=by
   cases Oin with
   |nil=>rfl
   |cons b l=>exact absurd (hs b (by simp)).1 ht
  subst hnil;exact ⟨_,h.put (T:=[]) (Oin:=[]) o.dst (by simp) heff hz hl (h.free (Oin:=[]) (T:=[]) (by simp) hO') hp,Fr.put h hF (T:=[]) o.dst (by simp) heff hO'⟩
theorem qtP{B:Level}{s s':Nat}{c:List V}:qw (qeW B s c) s'=if s'=s then (qw B s).map (λ_=>c)else qw B s':=by
 induction B with
 |nil=>simp [qeW,qw]
 |cons p B ih =>
  obtain ⟨k,c0⟩:=p;simp only [qeW];by_cases hk:k=s
  ·subst hk;by_cases hs:s'=k
   ·subst hs;simp [qw]
   ·simp [qw,hs,Ne.symm hs]
  ·simp only [hk,if_false,qw];by_cases hs:s'=s
   ·subst hs;simp [hk,ih]
   ·by_cases hks:k=s'
    ·simp [hks,hs]
    ·simp [hks,hs,ih]
theorem qR(st:St)(r r':Root)(c:List V):(st.qp r c).box r'=if r'=r then (st.box r).map (λ_=>c)else st.box r':=by
 obtain ⟨lvl,slot⟩:=r;obtain ⟨lvl',slot'⟩:=r';unfold St.qp St.box;by_cases h1:lvl=st.L.length
 ·simp only [h1,if_true];by_cases h2:lvl'=st.L.length
  ·subst h2;simp only [if_true,qtP,Root.mk.injEq,true_and]
  ·simp only [h2,if_false,Root.mk.injEq,false_and]
 ·simp only [h1,if_false,List.length_modify];by_cases h2:lvl'=st.L.length
  ·subst h2;simp only [if_true,Root.mk.injEq];rw [if_neg (by rintro ⟨h,_⟩;exact h1 h.symm)]
  ·simp only [h2,if_false,List.getElem?_modify,Root.mk.injEq];by_cases h3:lvl=lvl'
   ·subst h3;simp only [if_true,true_and];cases hl:st.L[lvl]? with
    |none=>simp
    |some b=>simp [qtP]
   ·simp only [h3,if_false,Ne.symm h3,false_and];cases st.L[lvl']?<;>simp
theorem qCM(st:St)(r:Root)(c:List V):(st.qp r c).L.length=st.L.length:=by
 unfold St.qp;split<;>simp
theorem qd5(st:St)(r:Root)(c:List V):(st.qp r c).E=st.E:=by
 unfold St.qp;split<;>rfl
theorem qnu(st:St)(d:Nat)(c:List V)(r:Root):({st with B:=(d,c)::st.B}:St).box r=if r=⟨st.L.length,d⟩then some c else st.box r:=by
 obtain ⟨lvl,slot⟩:=r;unfold St.box;by_cases h1:lvl=st.L.length
 ·subst h1;simp only [if_true,qw,Root.mk.injEq,true_and];by_cases h2:d=slot
  ·simp [h2]
  ·simp [h2,Ne.symm h2]
 ·simp only [h1,if_false,Root.mk.injEq,false_and]
theorem qiw{d:Nat}{c:List V}:∀{B:Level},qw B d=none->∀s,qw (qb3 d c B) s=if d=s then some c else qw B s
 |[],_,s=>rfl
 |(j,e)::l,h,s=>by
  simp only [qw]at h;split at h
  ·cases h
  ·rename_i hj;simp only [qb3];split
   ·simp only [qw]
   ·simp only [qw];rw [qiw h s];by_cases h1:j=s
    ·rw [if_pos h1,if_pos h1,if_neg (λe=>hj (by rw [h1,e]))]
    ·rw [if_neg h1,if_neg h1]
theorem qbH{d:Nat}{c:List V}{s:Nat}(hs:d≠s):∀B:Level,qw (qb3 d c B) s=qw B s
 |[]=>by simp only [qb3,qw,if_neg hs]
 |(j,e)::l=>by
  simp only [qb3];split
  ·simp only [qw,if_neg hs]
  ·simp only [qw];rw [qbH hs l]
theorem qtr{k k':Nat}{c c':List V}(hk:k≠k'):∀B:Level,qb3 k c (qb3 k' c' B)=qb3 k' c' (qb3 k c B)
 |[]=>by
  simp only [qb3];by_cases h:k<k'
  ·rw [if_pos h,if_neg (by omega)]
  ·rw [if_neg h,if_pos (by omega)]
 |(j,e)::l=>by
  simp only [qb3];by_cases h1:k<j
  ·by_cases h2:k'<j
   ·rw [if_pos h1,if_pos h2];simp only [qb3];by_cases h:k<k'
    ·rw [if_pos h,if_neg (by omega),if_pos h2]
    ·rw [if_neg h,if_pos h1,if_pos (by omega)]
   ·rw [if_pos h1,if_neg h2];simp only [qb3];rw [if_pos h1,if_neg (by omega),if_neg h2]
  ·by_cases h2:k'<j
   ·rw [if_neg h1,if_pos h2];simp only [qb3];rw [if_neg (by omega),if_neg h1,if_pos h2]
   ·rw [if_neg h1,if_neg h2];simp only [qb3];rw [if_neg h1,if_neg h2,qtr hk l]
theorem quy{d s:Nat}{c e:List V}(hs:d≠s):∀B:Level,qeW (qb3 d c B) s e=qb3 d c (qeW B s e)
 |[]=>by simp only [qb3,qeW,if_neg hs]
 |(j,x)::l=>by
  by_cases h1:d<j
  ·have e1:qb3 d c ((j,x)::l)=(d,c)::(j,x)::l:=by simp only [qb3,if_pos h1]
   rw [e1];by_cases h2:j=s
   ·simp only [qeW,if_neg hs,if_pos h2,qb3,if_pos h1]
   ·simp only [qeW,if_neg hs,if_neg h2,qb3,if_pos h1]
  ·have e1:qb3 d c ((j,x)::l)=(j,x)::qb3 d c l:=by simp only [qb3,if_neg h1]
   rw [e1];by_cases h2:j=s
   ·simp only [qeW,if_pos h2,qb3,if_neg h1]
   ·simp only [qeW,if_neg h2,qb3,if_neg h1];rw [quy hs l]
theorem qts{d:Nat}{c:List V}:∀B:Level,∀k,k∈(qb3 d c B).map (·.1)↔k=d\/k∈B.map (·.1)
 |[],k=>by simp [qb3]
 |(j,e)::l,k=>by
  simp only [qb3];split
  ·simp
  ·simp only [qh,qk,qts l k];constructor
   ·rintro (h|h|h)<;>simp [h]
   ·rintro (h|h|h)<;>simp [h]
theorem qqw{d:Nat}{c:List V}:∀{B:Level},qw B d=none->(B.map (·.1)).Nodup->((qb3 d c B).map (·.1)).Nodup
 |[],_,_=>by simp [qb3]
 |(j,e)::l,h,hn=>by
  simp only [qw]at h;split at h
  ·cases h
  ·rename_i hj;simp only [qb3];have hd:d∉l.map (·.1):=λhm=>by
    clear hn;induction l with
    |nil=>simp at hm
    |cons x l ih =>
     obtain ⟨k,y⟩:=x;simp only [qw]at h;split at h
     ·cases h
     ·rename_i hk;simp only [qh,qk]at hm;rcases hm with hm|hm
      ·exact hk hm.symm
      ·exact ih h hm
   split
   ·simp only [qh,List.nodup_cons,qk,not_or]at hn ⊢;exact ⟨⟨λe=>hj e.symm,hd⟩,hn⟩
   ·simp only [qh,List.nodup_cons]at hn ⊢;refine ⟨λhm=>?_,qqw h hn.2⟩;rcases (qts l j).1 hm with h1|h1
    ·exact hj h1
    ·exact hn.1 h1
theorem qgw(st:St)(d:Nat)(c:List V)(hn:qw st.B d=none)(r:Root):({st with B:=qb3 d c st.B}:St).box r=if r=⟨st.L.length,d⟩then some c else st.box r:=by
 obtain ⟨lvl,slot⟩:=r;unfold St.box;by_cases h1:lvl=st.L.length
 ·subst h1;simp only [if_true,qiw hn,Root.mk.injEq,true_and];by_cases h2:d=slot
  ·simp [h2]
  ·simp [h2,Ne.symm h2]
 ·simp only [h1,if_false,Root.mk.injEq,false_and]
end
section
variable {P:Program} {H:Hints} {f:FuncId} {w:World} {X:Cx}
theorem qrJ{c:List V}{vals:List Value}{O:List Nat}(h:RepL w X c vals O):qfy c=false:=by
 cases c with
 |nil=>rfl
 |cons x l =>
  cases x<;>first|rfl|simp_all [RepL,Rep]
theorem qhD{c:List V}(h:qfy c=false):qae c=false:=by
 cases c with
 |nil=>rfl
 |cons x l=>cases x<;>first|rfl|grind [qfy]
theorem qlN{c:List V}{vals:List Value}{O:List Nat}(h:RepL w X c vals O):qae c=false:=qhD (qrJ h)
theorem qs1{st:St}{r:Root}(h:(st.box r).isSome=true):r.lvl<st.L.length+1:=by
 unfold St.box at h;grind
theorem qp5.cells{b:Nat}{c:List V}{O:List Nat}(h:qp5 w X b c O)(hn:qfy c=false):∃cs t,w.heap[b]?=some (.cells cs t (0,0))/\RepL w X c cs.toList O:=by
 rcases h with h|⟨s,pe,g,env,ps,asg,body,lo,rfl,_⟩|⟨es,ents,ck,rfl,_⟩
 ·exact h
 ·simp [qfy]at hn
 ·simp [qfy]at hn
theorem qld{b off:Nat}{cs:Array Value}{t:TypeId}{fr:Nat×Nat}(h:w.heap[b]?=some (.cells cs t fr)):Seg w b off (cs.toList.drop off):=by
 intro i v hi
 simp_all [List.getElem?_drop,World.cell?]
theorem qh4{t:TypeId}{cs:List V}{x:V}{vals:List Value}{O:List Nat}{off:Nat}(hx:q4 P t (cs.drop off)=some x)(h:RepL w X cs vals O) :
  ∃v Ox Orest,Rep w X x v Ox/\(if qN P t then P.cellsOf t<=(vals.drop off).length/\v=.agg ((vals.drop off).take (P.cellsOf t)).toArray else (vals.drop off).head?=some v)/\(∃d,P.underlying t=some d) /\
   RepL w X (qJ cs off (reflagL qV ((cs.drop off).take (if qN P t then P.cellsOf t else 1)))) vals Orest/\∀b,Ox.count b+Orest.count b<=O.count b:=by
 obtain ⟨A,B,rfl,hA,hB⟩:=qaC off h;unfold q4 at hx;cases hu:P.underlying t with
 |none=>grind
 |some d =>
  simp only [hu]at hx;have hsp:∀(n:Nat) (C D:List Nat),n<=(cs.drop off).length->RepL w X ((cs.drop off).take n) ((vals.drop off).take n) C->RepL w X ((cs.drop off).drop n) ((vals.drop off).drop n) D ->
    RepL w X (qJ cs off (reflagL qV ((cs.drop off).take n))) vals (A++D):=by
   intro n C D hn hC hD;have hl:(reflagL qV ((cs.drop off).take n)).length=n:=by rw [qO,List.length_take];omega
   unfold qJ;rw [hl];have:=qaB (qaB hA (qum hC)) hD;grind [List.append_assoc,List.take_append_drop,List.drop_drop]
  by_cases ha:qN P t=true
  ·simp only [ha,if_true]at hx ⊢;split at hx
   ·rename_i hle;simp only [qb]at hx;subst hx;obtain ⟨C,D,rfl,hC,hD⟩:=qaC (P.cellsOf t) hB;exact ⟨_,C,A++D,by simp_all [Rep],⟨by grind [qF],rfl⟩,⟨d,rfl⟩,hsp (P.cellsOf t) C D hle hC hD,λb=>by grind⟩
   grind
  ·have ha':qN P t=false:=by grind
   simp only [ha',qf,if_false]at hx ⊢;obtain ⟨C,D,rfl,hC,hD⟩:=qaC 1 hB;have hs:=hsp 1 C D (by grind) hC hD;cases hd:cs.drop off with
   |nil=>grind
   |cons y rest =>
    have hC':=hC;rw [hd]at hx;simp at hx;subst hx;rw [hd,List.take_succ_cons,List.take_zero]at hC';obtain ⟨u,hu',hr⟩:=qbL hC';have hh:(vals.drop off).head?=some u:=by
     cases hv:vals.drop off with
     |nil=>grind
     |cons q l=>grind
    grind
def quz(O:Pl->List Nat)(r:Root)(Ob:List Nat):Pl->List Nat:=λp=>if p=.box r then Ob else O p
theorem qvf{w':World}{b:Nat}(hω:X.ω b=none)(hk:∀k,k≠b->w'.heap[k]?=w.heap[k]?)(R:List Root):Ext R w X w' X (λ_=>False) where
 β:=λ_ _=>rfl
 ω:=λk e fz h=>⟨e,fz,h,Nat.le_refl _,id,λ_=>⟨rfl,rfl⟩⟩
 cell:=λk e fz i v h _ hc=>by
  grind [cell_of_heap]
 obj:=λk e fz c t _ h hc=>by
  grind
theorem qxf{w':World}{b:Nat}(hω:X.ω b=none)(hk:∀k,k≠b->w'.heap[k]?=w.heap[k]?){l:List V}{vals:List Value}{A:List Nat}(hr:RepL w X l vals A):RepL w' X l vals A :=
 RepL.ext (qvf hω hk (ptrsL _)) _ _ _ (λ_ h=>h) (by simp) hr
theorem Rel.qp{st:St}{tmps:Array Value}{O:Pl->List Nat}(h:Rel st tmps w X O){r:Root}{c c':List V}{b:Nat}{Ob:List Nat}{w':World}(hr:st.box r=some c)(hb:X.β r=some b)
  (hk:∀k,k≠b->w'.heap[k]?=w.heap[k]?) (hsz:w'.heap.size=w.heap.size) (hc':qp5 w' X b c' Ob) (hl:Lin Ob) (hfree:∀k∈Ob,∀q,q≠.box r->k∉O q) (hp:∀r'∈ptrsL c',(st.box r').isSome=true/\r'.lvl<=r.lvl) :
  Rel (st.qp r c') tmps w' X (quz O r Ob):=by
 obtain ⟨b',hb',hlt,hω,hbx⟩:=h.box r c hr;obtain rfl:b=b':=by grind
 have hext:∀{x:V} {u:Value} {A:List Nat},Rep w X x u A->Rep w' X x u A:=λhr=>Rep.ext (qvf hω hk _) _ _ _ (λ_ h=>h) (by simp) hr;have hextL:∀{l:List V} {vals:List Value} {A:List Nat},RepL w X l vals A->RepL w' X l vals A:=λhr=>RepL.ext (qvf hω hk (ptrsL _)) _ _ _ (λ_ h=>h) (by simp) hr;have hlive:∀r',((st.qp r c').box r').isSome=(st.box r').isSome:=λr'=>by
  grind [qR]
 refine {size:=by rw [qd5];exact h.size,env:=?_,envD:=?_,box:=?_,boxD:=?_,inj:=?_,lin:=?_,dis:=?_,ptrE:=?_,ptrB:=?_,up:=?_,dom:=?_}
 ·intro s x hx;rw [qd5]at hx;obtain ⟨v,hv,hr'⟩:=h.env s x hx
  simp_all [quz]
 ·intro s hs;rw [qd5]at hs;simpa [quz]using h.envD s hs
 ·intro r' c1 hr';rw [qR]at hr';by_cases e:r'=r
  ·simp_all [if_pos,box,quz]
  ·rw [if_neg e]at hr';obtain ⟨k,hkb,hlt',hω',hbx'⟩:=h.box r' c1 hr';have hne:k≠b:=λe'=>e (h.inj r' r b (by simp [hr']) (by simp [hr]) (by grind) hb);exact ⟨k,hkb,by omega,hω',by simpa [quz,e]using hbx'.qpV (hk k hne) (λl vals A _ _ hr=>hextL hr)⟩
 ·intro r' hr';have h1:=hlive r';rw [hr']at h1;have hn:st.box r'=none:=by simp_all
  have e:r'≠r:=λe=>by grind
  simpa [quz,e]using h.boxD r' hn
 ·intro r1 r2 k h1 h2 h3 h4;rw [hlive]at h1 h2;exact h.inj r1 r2 k h1 h2 h3 h4
 ·intro p;unfold quz;split
  ·exact hl
  ·exact h.lin p
 ·intro p q hpq k hkp hkq;unfold quz at hkp hkq;split at hkp
  ·grind
  ·split at hkq
   ·grind
   ·exact h.dis p q hpq k hkp hkq
 ·intro r' hr';rw [qd5]at hr';rw [hlive];exact h.ptrE r' hr'
 ·intro r' c1 hr' r2 hr2;rw [hlive];rw [qR]at hr';split at hr'
  ·grind
  ·exact h.ptrB r' c1 hr' r2 hr2
 ·intro r' c1 hr' r2 hr2;rw [qR]at hr';split at hr'
  ·grind
  ·exact h.up r' c1 hr' r2 hr2
 ·intro k e fz hk';rw [hsz];exact h.dom k e fz hk'
theorem Fr.qp{w0:World}{X0:Cx}{M:Md}{n:Nat}{st:St}{tmps:Array Value}{O:Pl->List Nat}(h:Rel st tmps w X O)(hF:Fr w0 X0 M n st w X O){r:Root}{c c':List V}{b:Nat}{Ob:List Nat}{w':World}(hr:st.box r=some c)(hb:X.β r=some b)(hkd:qae c'=qae c)
  (hk:∀k,k≠b->w'.heap[k]?=w.heap[k]?) (hsz:w'.heap.size=w.heap.size) (hO:∀k∈Ob,w0.heap.size<=k\/M k) (hos:w'.os=w.os) (hout:w'.output=w.output) (htape:w'.tape=w.tape):Fr w0 X0 M n (st.qp r c') w' X (quz O r Ob):=by
 obtain ⟨b',hb',hlt,hω,hbx⟩:=h.box r c hr;obtain rfl:b=b':=by grind
 have hM:b<w0.heap.size->M b:=λhb0=>by
  rcases hF.boxM r b (by simp [hr]) hb with h1|h1
  ·omega
  omega
 have hlive:∀r',((st.qp r c').box r').isSome=(st.box r').isSome:=λr'=>by
  grind [qR]
 exact {
  size:=by rw [hsz];exact hF.size
  kept:=λk hk0 hMk=>by
   have:k≠b:=λe=>hMk (by grind);obtain ⟨h1,h2⟩:=hF.kept k hk0 hMk;grind
  grew:=λk e fz hω0=>by
   obtain ⟨e1,fz1,h1,h2,h3,h4⟩:=hF.grew k e fz hω0;grind [cell_of_heap]
  β:=hF.β
  own:=λp k hkp=>by
   unfold quz at hkp;split at hkp
   ·grind
   ·exact hF.own p k hkp
  boxM:=λr' k h1 h2=>by rw [hlive]at h1;exact hF.boxM r' k h1 h2
  lev:=by rw [qCM];exact hF.lev
  live:=λr' hr'=>by
   rw [<- hF.live r' hr',qR];grind
  os:=by rw [hos,hF.os]
  out:=by rw [hout,hF.out]
  tape:=by rw [htape,hF.tape]
  gl:=hF.gl
  gm:=hF.gm}
theorem qcx(a:Act)(d:Option Tmp)(v:Value):(a.put d v).tmps=qxb a.tmps d v:=by cases d<;>rfl
theorem Rel.taken{st:St}{tmps:Array Value}{O:Pl->List Nat}(h:Rel st tmps w X O)(T:List Tmp):Rel {st with E:=qz st.E T} tmps w X (qiF O T none st.E.length []):=by
 have:=h.put (T:=T) (Oin:=[]) (O':=[]) (z:=.undef) (v:=undef) none (by simp) (Eff.refl _ h.dom) (by simp [Rep]) Lin.nil (by simp) (by simp [V.qq])
 simp_all [St.put,qxb]
theorem Fr.taken{w0:World}{X0:Cx}{M:Md}{n:Nat}{st:St}{tmps:Array Value}{O:Pl->List Nat}(h:Rel st tmps w X O)(hF:Fr w0 X0 M n st w X O)(T:List Tmp):Fr w0 X0 M n {st with E:=qz st.E T} w X (qiF O T none st.E.length []):=by
 have:=Fr.put (z:=.undef) h hF (T:=T) (Oin:=[]) (O':=[]) none (by simp) (Eff.refl _ h.dom) (by simp)
 simp_all [St.put]
theorem Rel.qjU{st:St}{tmps:Array Value}{O:Pl->List Nat}(h:Rel st tmps w X O){O':List Nat}{z:V}{v:Value}(d:Option Tmp)(hz:Rep w X z v O')(hl:Lin O')(hfree:∀b∈O',∀q,b∉O q)(hp:∀r∈z.qq,(st.box r).isSome=true) :
  Rel (st.put d z) (qxb tmps d v) w X (qiF O [] d st.E.length O'):=by
 have:=h.put (T:=[]) (Oin:=[]) d (by simp) (Eff.refl _ h.dom) hz hl (λb hb q _=>hfree b hb q) hp
 simp_all [qqf]
theorem Fr.qjU{w0:World}{X0:Cx}{M:Md}{n:Nat}{st:St}{O:Pl->List Nat}(hF:Fr w0 X0 M n st w X O){O':List Nat}{z:V}(d:Option Tmp)(hO':∀b∈O',w0.heap.size<=b\/M b) :
  Fr w0 X0 M n (st.put d z) w X (qiF O [] d st.E.length O') where
 size:=hF.size
 kept:=hF.kept
 grew:=hF.grew
 β:=hF.β
 own:=λp b hb=>by
  cases p with
  |tmp t =>
   simp only [qiF]at hb;split at hb
   ·grind
   ·split at hb
    ·simp at hb
    ·exact hF.own _ b hb
  |box r=>exact hF.own _ b hb
 boxM:=λr b hr hb=>by rw [qfS]at hr;exact hF.boxM r b hr hb
 lev:=by cases d<;>exact hF.lev
 live:=λr hr=>by rw [qfS];exact hF.live r hr
 os:=hF.os
 out:=hF.out
 tape:=hF.tape
 gl:=hF.gl
 gm:=hF.gm
theorem qig{w0:World}{X0:Cx}{M:Md}{n:Nat}{st:St}{a:Act}{O:Pl->List Nat}{dst:Option Tmp}{tk:Bool}{t:TypeId}{ao:Operand}{r:Root}{off:Nat}{cs:List V}{z:V}{c:Option (List V)}{Oin:List Nat}
  (h:Rel st a.tmps w X O) (hF:Fr w0 X0 M n st w X O) (hp:Rep w X (.ptr r off) (a.eval ao) Oin) (hr:st.box r=some cs) (hx:(if qfy cs then none else if tk then (q4 P t (cs.drop off)).map λx=>(x,some (qJ cs off (reflagL qV ((cs.drop off).take (if qN P t then P.cellsOf t else 1)))))
   else ((q4 P t (cs.drop off)).map V.q6).map λx=>(x,Option.none))=some (z,c)) :
  ∃v,(Instr.loadAt t (a.eval ao)).run P w=.ok v w/\Sim w0 X0 M n ((match c with|some c=>st.qp r c|none=>st).put dst z) (a.put dst v).tmps w:=by
 simp only [Rep]at hp;obtain ⟨_,b,hb,hv⟩:=hp;obtain ⟨b',hb',hlt,hω,hbx⟩:=h.box r cs hr;obtain rfl:b=b':=by grind
 split at hx
 ·simp at hx
 ·rename_i hlp;obtain ⟨arr,ty,hw,hl⟩:=hbx.cells (by grind);have hseg:Seg w b off (arr.toList.drop off):=qld hw;have hrun:∀v,(∃d,P.underlying t=some d)->(if qN P t then P.cellsOf t<=(arr.toList.drop off).length/\v=.agg ((arr.toList.drop off).take (P.cellsOf t)).toArray else (arr.toList.drop off).head?=some v)->(Instr.loadAt t (a.eval ao)).run P w=.ok v w:=by
   grind [Sem.run_bind,Sem.run_pure,Result.andThen_ok,qen,Instr.loadAt,Instr.sureAddr]
  simp only [qcx];split at hx
  ·obtain ⟨y,hy,he⟩:=qc.1 hx;obtain ⟨rfl,rfl⟩:=Prod.mk.inj he;obtain ⟨v,Ox,Ob,hrep,hvv,hd,hrest,hcnt⟩:=qh4 hy hl;refine ⟨v,hrun v hd hvv,X,?_⟩;have hlb:=h.lin (.box r);have hmem:∀k∈Ob,k∈O (.box r):=qcc λk=>by grind
   have hmemx:∀k∈Ox,k∈O (.box r):=qcc λk=>by grind
   have hp2:∀r'∈ptrsL (qJ cs off (reflagL qV ((cs.drop off).take (if qN P t then P.cellsOf t else 1)))),r'∈ptrsL cs:=λr' hr'=>by
    grind [qgU,ptrsL_reflag,qcQ,qeQ]
   have hset:=h.qp (w':=w) hr hb (λ_ _=>rfl) rfl (.inl ⟨arr,ty,hw,hrest⟩) (qf8 hlb λk=>by grind) (λk hk q hq=>h.dis (.box r) q (Ne.symm hq) k (hmem k hk)) (λr' hr'=>⟨h.ptrB r cs hr r' (hp2 r' hr'),h.up r cs hr r' (hp2 r' hr')⟩);have hsetF:=Fr.qp (c':=qJ cs off (reflagL qV ((cs.drop off).take (if qN P t then P.cellsOf t else 1)))) (Ob:=Ob) (w':=w) h hF hr hb (by grind [qlN,qhD]) (λ_ _=>rfl) rfl (λk hk=>hF.own _ k (hmem k hk)) rfl rfl rfl;refine ⟨_,hset.qjU dst hrep (qf8 hlb λk=>by grind) (λk hk q hkq=>?_) (λr' hr'=>?_),hsetF.qjU dst (λk hk=>hF.own _ k (hmemx k hk))⟩
   ·unfold quz at hkq;split at hkq
    ·have h1:=List.count_pos_iff.2 hk;have h2:=List.count_pos_iff.2 hkq;have h3:=hcnt k;have h4:=hlb k;omega
    ·rename_i hne;exact h.dis (.box r) q (Ne.symm hne) k (hmemx k hk) hkq
   ·rw [qR];have hl:=h.ptrB r cs hr r' (qcQ (qby hy r' hr'));grind
  ·obtain ⟨z',hz,he⟩:=qc.1 hx;obtain ⟨rfl,rfl⟩:=Prod.mk.inj he;obtain ⟨y,hy,rfl⟩:=qc.1 hz;obtain ⟨v,Ox,Ob,hrep,hvv,hd,hrest,hcnt⟩:=qh4 hy hl;refine ⟨v,hrun v hd hvv,X,_,h.qjU dst (qgW hrep) Lin.nil (by simp) (λr' hr'=>?_),hF.qjU dst (by simp)⟩;rw [qh2]at hr';exact h.ptrB r cs hr r' (qcQ (qby hy r' hr'))
theorem qyM{w0:World}{X0:Cx}{M:Md}{n:Nat}{st:St}{a:Act}{O:Pl->List Nat}{dst:Option Tmp}{T:List Tmp}{t:TypeId}{ao xo:Operand}{r:Root}{off:Nat}{cs:List V}{x:V}{Op Ox:List Nat}
  (h:Rel st a.tmps w X O) (hF:Fr w0 X0 M n st w X O) (hp:Rep w X (.ptr r off) (a.eval ao) Op) (hxr:Rep w X x (a.eval xo) Ox) (hin:∀b∈Ox,∃t∈T,b∈O (.tmp t)) (hlx:Lin Ox) (hr:st.box r=some cs)
  (hc:qfy cs=false/\P.cellsOf t≠0/\x.cells.length=P.cellsOf t/\off+x.cells.length<=cs.length/\x.oks=true) (hpx:∀r'∈x.qq,(st.box r').isSome=true) (hup:∀r'∈ptrsL (qJ cs off x.cells),r'.lvl<=r.lvl) :
  ∃w',(Instr.storeAt t (a.eval ao) (a.eval xo)).run P w=.ok () w'/\Sim w0 X0 M n ((({st with E:=qz st.E T}:St).qp r (qJ cs off x.cells)).put dst .undef) (a.put dst undef).tmps w':=by
 obtain ⟨hlp,hs0,hxl,hle,hok⟩:=hc;simp only [Rep]at hp;obtain ⟨_,b,hb,hv⟩:=hp;obtain ⟨b',hb',hlt,hω,hbx⟩:=h.box r cs hr;obtain rfl:b=b':=by grind
 obtain ⟨arr,ty,hw,hl⟩:=hbx.cells hlp;obtain ⟨hcells,hones⟩:=qdo hok hxr;have hul:(a.eval xo).cells.toList.length=x.cells.length:=(qF _ _ _ hcells).symm;have hal:cs.length=arr.size:=by rw [qF _ _ _ hl];simp
 obtain ⟨Ob,hspl,hcnt⟩:=qjW (off:=off) hl hcells;have hst:=run_storeCells_at (P:=P) b off ty (a.eval xo).cells.toList 0 arr w hw (by omega) hones;simp only [Nat.add_zero]at hst;refine ⟨w.setRow b (arr.toList.take off++(a.eval xo).cells.toList++arr.toList.drop (off+(a.eval xo).cells.toList.length)).toArray,?_,X,?_⟩
 ·simp_all [Sem.run_bind,Sem.run_pure,Result.andThen_ok,qar,if_neg,Instr.storeAt,Instr.sureAddr,storeVar]
 ·rw [qcx];have h1:=h.taken T;have hF1:=Fr.taken h hF T;have hr1:({st with E:=qz st.E T}:St).box r=some cs:=hr;have hlOb:Lin Ob:=λk=>by
   have h2:=hcnt k;have h3:=h.lin (.box r) k;have h4:=hlx k;by_cases hk:k∈Ox
   ·have:(O (.box r)).count k=0:=List.count_eq_zero.2 λhkb=>by
     obtain ⟨s,_,hs⟩:=hin k hk;exact h.dis (.box r) (.tmp s) (by simp) k hkb hs
    omega
   grind
  have hmem:∀k∈Ob,k∈O (.box r)\/k∈Ox:=λk hk=>by
   have h2:=hcnt k;grind
  have hset:=h1.qp (c':=qJ cs off x.cells) hr1 hb (λk hk=>setRow_other w b k _ hk) (by simp) (.inl ⟨_,ty,setRow_heap w b arr _ ty _ hw,qxf hω (λk hk=>setRow_other w b k _ hk) hspl⟩) hlOb (λk hk q hq hkq=>?_) (λr' hr'=>?_)
  ·have hsetF:=Fr.qp (c':=qJ cs off x.cells) (Ob:=Ob) (w':=w.setRow b (arr.toList.take off++(a.eval xo).cells.toList++arr.toList.drop (off+(a.eval xo).cells.toList.length)).toArray) h1 hF1 hr1 hb (by rw [qlN hspl,qhD hlp]) (λk hk=>setRow_other w b k _ hk) (by simp) (λk hk=>?_) rfl rfl rfl
   ·exact ⟨_,hset.qjU dst (z:=.undef) (v:=undef) (O':=[]) (by simp [Rep]) Lin.nil (by simp) (by simp [V.qq]),hsetF.qjU dst (by simp)⟩
   ·rcases hmem k hk with h2|h2
    ·exact hF.own _ k h2
    ·obtain ⟨s',_,hks⟩:=hin k h2;exact hF.own _ k hks
  ·cases q with
   |tmp s =>
    simp only [qiF]at hkq;rw [if_neg (by simp)]at hkq;split at hkq
    ·simp at hkq
    ·rename_i hn;rcases hmem k hk with h2|h2
     ·exact h.dis (.box r) (.tmp s) (by simp) k h2 hkq
     ·obtain ⟨s',hs',hks⟩:=hin k h2;exact h.dis (.tmp s') (.tmp s) (λe=>hn (by grind)) k hks hkq
   |box r' =>
    rcases hmem k hk with h2|h2
    ·exact h.dis (.box r) (.box r') (Ne.symm hq) k h2 hkq
    ·obtain ⟨s',hs',hks⟩:=hin k h2;exact h.dis (.tmp s') (.box r') (by simp) k hks hkq
  ·refine ⟨?_,hup r' hr'⟩;rcases qgU r' hr' with h2|h2
   ·exact h.ptrB r cs hr r' h2
   ·exact hpx r' (qfr h2)
def Cx.setβ(X:Cx)(r:Root)(b:Nat):Cx:={X with β:=λk=>if k=r then some b else X.β k}
theorem ext_setβ{w':World}{r0:Root}{b:Nat}{R:List Root}(hR:r0∉R)(hd:Dom w X)(hk:∀k,k<w.heap.size->w'.heap[k]?=w.heap[k]?):Ext R w X w' (X.setβ r0 b) (λ_=>False) where
 β:=λr hr=>by simp only [Cx.setβ];grind
 ω:=λk e fz h=>⟨e,fz,h,Nat.le_refl _,id,λ_=>⟨rfl,rfl⟩⟩
 cell:=λk e fz i v h _ hc=>by rw [cell_of_heap (hk k (hd k e fz h))];exact hc
 obj:=λk e fz c t _ h hc=>⟨c,by grind,rfl⟩
def quT(O:Pl->List Nat)(r0:Root)(d:Tmp)(Oc:List Nat):Pl->List Nat:=λp=>if p=.box r0 then Oc else if p=.tmp d then []else O p
theorem Rel.qoX{st:St}{tmps:Array Value}{O:Pl->List Nat}(h:Rel st tmps w X O){d:Nat}{c:List V}{arr:Array Value}{t:TypeId}{Oc:List Nat}(hnb:qw st.B d=none)(hc:RepL w X c arr.toList Oc)(hl:Lin Oc)
  (hfree:∀k∈Oc,∀q,q≠.tmp d->k∉O q) (hp:∀r∈ptrsL c,(st.box r).isSome=true) :
  Rel {st with E:=st.E.set d (.ptr ⟨st.L.length,d⟩ 0),B:=qb3 d c st.B} (tmps.setIfInBounds d (.pointer (some ⟨w.heap.size,0,none⟩))) (w.alloc (.cells arr t)) (X.setβ ⟨st.L.length,d⟩ w.heap.size) (quT O ⟨st.L.length,d⟩ d Oc):=by
 have hr0:st.box ⟨st.L.length,d⟩=none:=by simp [St.box,hnb]
 have hold:∀k,k<w.heap.size->(w.alloc (.cells arr t)).heap[k]?=w.heap[k]?:=λk hk=>heap_alloc_old w _ hk;have hnotin:∀l:List Root,(∀r∈l,(st.box r).isSome=true)->(⟨st.L.length,d⟩:Root)∉l:=λl hl hm=>by grind
 have hext:∀{x:V} {u:Value} {A:List Nat},(∀r∈x.qq,(st.box r).isSome=true)->Rep w X x u A->Rep (w.alloc (.cells arr t)) (X.setβ ⟨st.L.length,d⟩ w.heap.size) x u A:=λhx hr =>
  Rep.ext (ext_setβ (hnotin _ hx) h.dom hold) _ _ _ (λ_ h=>h) (by simp) hr
 have hextL:∀{l:List V} {us:List Value} {A:List Nat},(∀r∈ptrsL l,(st.box r).isSome=true)->RepL w X l us A->RepL (w.alloc (.cells arr t)) (X.setβ ⟨st.L.length,d⟩ w.heap.size) l us A:=λhx hr =>
  RepL.ext (ext_setβ (hnotin _ hx) h.dom hold) _ _ _ (λ_ h=>h) (by simp) hr
 have hbox:∀r,({st with E:=st.E.set d (.ptr ⟨st.L.length,d⟩ 0),B:=qb3 d c st.B}:St).box r=if r=⟨st.L.length,d⟩then some c else st.box r:=λr=>qgw st d c hnb r;have hlive:∀r,(st.box r).isSome=true->(({st with E:=st.E.set d (.ptr ⟨st.L.length,d⟩ 0),B:=qb3 d c st.B}:St).box r).isSome=true:=λr hr=>by
  grind
 have hne:∀r,(st.box r).isSome=true->r≠⟨st.L.length,d⟩:=λr hr e=>by grind
 refine {size:=by simp [h.size],env:=?_,envD:=?_,box:=?_,boxD:=?_,inj:=?_,lin:=?_,dis:=?_,ptrE:=?_,ptrB:=?_,up:=?_,dom:=?_}
 ·intro s x hx;have hlt:s<st.E.length:=by grind
  by_cases hsd:d=s
  ·subst hsd;rw [List.getElem?_set_self hlt]at hx;cases hx;refine ⟨.pointer (some ⟨w.heap.size,0,none⟩),by simp [h.size,hlt],?_⟩
   simp_all [quT,Rep,Cx.setβ]
  ·rw [List.getElem?_set_ne hsd]at hx;obtain ⟨v,hv,hr⟩:=h.env s x hx;refine ⟨v,by simp [hsd,hv],?_⟩;have e:quT O ⟨st.L.length,d⟩ d Oc (.tmp s)=O (.tmp s):=by simp [quT,Ne.symm hsd]
   rw [e];exact hext (λr hr=>h.ptrE r (qC.2 ⟨x,List.mem_of_getElem? hx,hr⟩)) hr
 ·intro s hs;simp at hs;simp only [quT];rw [if_neg (by simp)];split
  ·rfl
  ·exact h.envD s hs
 ·intro r c1 hr;rw [hbox]at hr;by_cases e:r=⟨st.L.length,d⟩
  ·subst e;rw [if_pos rfl]at hr;cases hr;refine ⟨w.heap.size,by simp [Cx.setβ],by simp,?_,?_⟩
   ·cases hω:(X.setβ ⟨st.L.length,d⟩ w.heap.size).ω w.heap.size with
    |none=>rfl
    |some p=>have:=h.dom w.heap.size p.1 p.2 hω;omega
   ·rw [show quT O ⟨st.L.length,d⟩ d Oc (.box ⟨st.L.length,d⟩)=Oc from by simp [quT]];exact .inl ⟨arr,t,heap_alloc_new w _,hextL hp hc⟩
  ·rw [if_neg e]at hr;obtain ⟨k,hkb,hlt,hω,hbx⟩:=h.box r c1 hr;refine ⟨k,by simp [Cx.setβ,e,hkb],by simp;omega,hω,?_⟩;rw [show quT O ⟨st.L.length,d⟩ d Oc (.box r)=O (.box r)from by simp [quT,e]];exact hbx.qpV (hold k hlt) (λl vals A hl _ hr'=>hextL (λr' hr'=>h.ptrB r c1 hr r' (hl r' hr')) hr')
 ·intro r hr;rw [hbox]at hr;split at hr
  ·cases hr
  ·rename_i e;simp [quT,e,h.boxD r hr]
 ·intro r r' k h1 h2 h3 h4;rw [hbox]at h1 h2;simp only [Cx.setβ]at h3 h4;have hltk:∀r'',(st.box r'').isSome=true->X.β r''=some k->k<w.heap.size:=λr'' hs hb=>by
   obtain ⟨c'',hc''⟩:=Option.isSome_iff_exists.1 hs;obtain ⟨k',hk',hlt',_⟩:=h.box r'' c'' hc'';grind
  split at h3
  ·grind
  ·rename_i e1;rw [if_neg e1]at h1;split at h4
   ·grind
   ·rename_i e2;rw [if_neg e2]at h2;exact h.inj r r' k h1 h2 h3 h4
 ·intro p;unfold quT;split
  ·exact hl
  ·split
   ·exact Lin.nil
   ·exact h.lin p
 ·intro p q hpq k hkp hkq;unfold quT at hkp hkq;split at hkp
  ·grind
  ·split at hkp
   ·simp at hkp
   ·rename_i e1 e2;split at hkq
    ·grind
    ·split at hkq
     ·simp at hkq
     ·exact h.dis p q hpq k hkp hkq
 ·intro r hr;rcases mem_set hr with hr|hr
  ·exact hlive r (h.ptrE r hr)
  simp_all [List.mem_singleton,if_pos,V.qq]
 ·intro r c1 hr r' hr';rw [hbox]at hr;split at hr
  ·grind
  ·exact hlive r' (h.ptrB r c1 hr r' hr')
 ·intro r c1 hr r' hr';rw [hbox]at hr;split at hr
  ·rename_i e;cases hr;subst e;have:=qs1 (hp r' hr');simp only<;>omega
  ·exact h.up r c1 hr r' hr'
 ·intro k e fz hk;have:=h.dom k e fz hk;simp<;>omega
theorem Fr.qoX{w0:World}{X0:Cx}{M:Md}{n:Nat}{st:St}{tmps:Array Value}{O:Pl->List Nat}(h:Rel st tmps w X O)(hF:Fr w0 X0 M n st w X O){d:Nat}{c:List V}{arr:Array Value}{t:TypeId}{Oc:List Nat}(hnb:qw st.B d=none)(hO:∀k∈Oc,w0.heap.size<=k\/M k) :
  Fr w0 X0 M n {st with E:=st.E.set d (.ptr ⟨st.L.length,d⟩ 0),B:=qb3 d c st.B} (w.alloc (.cells arr t)) (X.setβ ⟨st.L.length,d⟩ w.heap.size) (quT O ⟨st.L.length,d⟩ d Oc) where
 size:=by have:=hF.size;simp<;>omega
 kept:=λb hb hM=>by
  obtain ⟨h1,h2⟩:=hF.kept b hb hM;exact ⟨by rw [heap_alloc_old w _ (Nat.lt_of_lt_of_le hb hF.size),h1],h2⟩
 grew:=λb e fz hω=>by
  obtain ⟨e1,fz1,h1,h2,h3,h4⟩:=hF.grew b e fz hω;exact ⟨e1,fz1,h1,h2,h3,λi v hi hc=>by rw [cell_of_heap (heap_alloc_old w _ (h.dom b e1 fz1 h1))];grind⟩
 β:=λr hr=>by
  have hl:=hF.lev;simp only [Cx.setβ];rw [if_neg (λe=>by grind)];exact hF.β r hr
 own:=λp b hb=>by
  unfold quT at hb;split at hb
  ·grind
  ·split at hb
   ·simp at hb
   ·exact hF.own p b hb
 boxM:=λr b hr hb=>by
  have hl:=hF.lev;rw [show ({st with E:=st.E.set d (.ptr ⟨st.L.length,d⟩ 0),B:=qb3 d c st.B}:St).box r=if r=⟨st.L.length,d⟩then some c else st.box r from qgw st d c hnb r]at hr;simp only [Cx.setβ]at hb;split at hb
  ·rename_i e;cases hb;exact .inl hF.size
  ·rename_i e;rw [if_neg e]at hr;exact hF.boxM r b hr hb
 lev:=hF.lev
 live:=λr hr=>by
  have hl:=hF.lev;rw [show ({st with E:=st.E.set d (.ptr ⟨st.L.length,d⟩ 0),B:=qb3 d c st.B}:St).box r=if r=⟨st.L.length,d⟩then some c else st.box r from qgw st d c hnb r,if_neg (λe=>by grind)];exact hF.live r hr
 os:=hF.os
 out:=hF.out
 tape:=hF.tape
 gl:=hF.gl
 gm:=hF.gm
end
section
variable {w w':World} {X X' X2:Cx}
def Cx.qjn(X:Cx)(w:World):Cx :=
 {β:=X.β,ω:=λb=>match X.ω b with
  |some p=>some (p.1,true)
  |none=>match w.heap[b]? with
   |some (.cells arr _ _)=>some (arr.size,true)
   |_=>none}
theorem peek_ω{b e:Nat}{fz:Bool}(h:X.ω b=some (e,fz)):(X.qjn w).ω b=some (e,true):=by simp [Cx.qjn,h]
theorem qCy{b:Nat}{arr:Array Value}{t:TypeId}{m:Nat×Nat}(h:X.ω b=none)(hb:w.heap[b]?=some (.cells arr t m)):(X.qjn w).ω b=some (arr.size,true):=by simp [Cx.qjn,h,hb]
theorem qvM{b e:Nat}{fz:Bool}(h:(X.qjn w).ω b=some (e,fz)):fz=true:=by
 simp only [Cx.qjn]at h;split at h
 ·cases h;rfl
 ·split at h
  ·cases h;rfl
  ·cases h
theorem qCz(hd:Dom w X):Dom w (X.qjn w):=λb e fz h=>by
 simp only [Cx.qjn]at h;split at h
 ·rename_i p hp;exact hd b p.1 p.2 hp
 ·split at h
  ·rename_i hb;exact (Array.getElem?_eq_some_iff.1 hb).1
  ·cases h
theorem qyu:Flags qK X (X.qjn w) (λ_=>True) true where
 β:=rfl
 own:=λf=>by simp [qK]
 dul:=λ_ _=>rfl
 ω:=λ_ b e fz h=>⟨true,peek_ω h⟩
 sh:=λf b e fz h _ _ _ _=>peek_ω h
theorem qyo{c:V}(h:c.one=true):c.cells=[c]:=by cases c<;>first|rfl|(simp [V.one]at h)
theorem qul:∀{l:List V} {vals:List Value} {O:List Nat},l.all V.one=true->RepL w X l vals O->RepE w X 1 l vals O
 |[],vals,O,_,h=>by simp only [RepL]at h;simp only [RepE];exact h
 |x::l,vals,O,ha,h=>by
  simp only [RepL]at h;obtain ⟨u,vs,O1,O2,rfl,rfl,h1,h2⟩:=h;simp only [List.all_cons,qe]at ha;have hc:=qb5 (qjX ha.1 h1);simp only [RepE];exact ⟨u,vs,O1,O2,by rw [hc];rfl,by rw [hc];rfl,rfl,h1,qul ha.2 h2⟩
mutual
theorem peekV_okX{bx:Root->Option (List V)}{Ob:Root->List Nat}(hF:Flags qK X X' (λ_=>True) true)(hb:∀r c,bx r=some c->∃b,X.β r=some b/\b<w.heap.size/\X.ω b=none/\qp5 w X b c (Ob r)/\∀arr t m,w.heap[b]?=some (.cells arr t m)->X'.ω b=some (arr.size,true)) :
  ∀(x x':V) (v:Value) (O:List Nat),peekV bx x=some x'->Rep w X x v O->Rep w X' x' v []
 |.undef,x',v,O,h,hr=>by simp only [peekV,qb]at h;subst h;simp [Rep]
 |.val u,x',v,O,h,hr=>by simp only [peekV,qb]at h;subst h;simp only [Rep]at hr ⊢;exact ⟨hr.1,trivial⟩
 |.sl f c l,x',v,O,h,hr=>by
  simp only [peekV,qb]at h;subst h;exact Rep.flags hF (.sl f c l) v O (λ_ _=>trivial) (λ_=>rfl) hr
 |.cptr f cs,x',v,O,h,hr=>by
  simp only [peekV,qb]at h;subst h;exact Rep.flags hF (.cptr f cs) v O (λ_ _=>trivial) (λ_=>rfl) hr
 |.ptr r off,x',v,O,h,hr=>by
  simp only [peekV]at h;split at h
  ·rename_i c hc;split at h
   ·rename_i hcc;obtain ⟨hlp,hoff⟩:=hcc;simp only [qb]at h;subst h;simp only [Rep]at hr;obtain ⟨rfl,b,hbr,rfl⟩:=hr;obtain ⟨b',h1,h2,h3,h4,h4'⟩:=hb r c hc;rw [hbr]at h1;cases h1;obtain ⟨arr,t,h5,h6⟩:=h4.cells hlp;have h7:=RepL.flags hF c arr.toList _ (λ_ _=>trivial) (λ_=>rfl) h6;have hlen:=qF c _ _ h6;obtain ⟨A,B,hAB,_,h8⟩:=qaC off h7;have hB:B=[]:=by
     cases B with
     |nil=>rfl
     |cons y B=>simp at hAB
    subst hB;simp only [Rep];refine ⟨trivial,b,off,arr.toList.drop off,rfl,qld h5,⟨_,_,h4' _ _ _ h5,?_,λ_=>rfl⟩,?_,by simp⟩
    ·simp only [List.length_drop,Array.length_toList]at hlen ⊢;omega
    ·rw [show reflagL qK (c.drop off)=(reflagL qK c).drop off by rw [qB,qB,List.map_drop]];exact h8
   ·cases h
  ·cases h
 |.fn f a c,x',v,O,h,hr=>by
  simp only [peekV]at h;split at h
  ·rename_i x y hx hy;simp only [qb]at h;subst h;simp only [Rep]at hr ⊢;obtain ⟨va,vc,O1,O2,rfl,rfl,h1,h2⟩:=hr;exact ⟨va,vc,[],[],rfl,rfl,peekL_okX hF hb a x va O1 hx h1,peekL_okX hF hb c y vc O2 hy h2⟩
  ·cases h
 |.iface t x,x',v,O,h,hr=>by
  simp only [peekV]at h;obtain ⟨y,hy,rfl⟩:=qc.1 h;simp only [Rep]at hr ⊢;obtain ⟨u,rfl,h1⟩:=hr;exact ⟨u,rfl,peekV_okX hF hb x y u O hy h1⟩
 |.agg l,x',v,O,h,hr=>by
  simp only [peekV]at h;obtain ⟨y,hy,rfl⟩:=qc.1 h;simp only [Rep]at hr ⊢;obtain ⟨u,rfl,h1⟩:=hr;exact ⟨u,rfl,peekL_okX hF hb l y u O hy h1⟩
 |.tuple l,x',v,O,h,hr=>by
  simp only [peekV]at h;obtain ⟨y,hy,rfl⟩:=qc.1 h;simp only [Rep]at hr ⊢;obtain ⟨u,rfl,h1⟩:=hr;exact ⟨u,rfl,peekL_okX hF hb l y u O hy h1⟩
 |.yld _,x',v,O,h,hr=>by simp [peekV]at h
 |.mref r,x',v,O,h,hr=>by
  simp only [peekV,qb]at h;subst h;simp only [Rep]at hr ⊢;obtain ⟨_,b,h1,h2⟩:=hr;exact ⟨trivial,b,by rw [hF.β];exact h1,h2⟩
 |.bsl r off n,x',v,O,h,hr=>by
  simp only [peekV]at h;split at h
  ·rename_i c hc;split at h
   ·rename_i hcc;obtain ⟨hlp,hoff,hone,hnp⟩:=hcc;simp only [qb]at h;subst h;simp only [Rep]at hr;obtain ⟨rfl,b,cap,hbr,rfl,hcap⟩:=hr;obtain ⟨b',h1,h2,h3,h4,h4'⟩:=hb r c hc;rw [hbr]at h1;cases h1;obtain ⟨arr,t,h5,h6⟩:=h4.cells hlp;have h7:=RepL.flags hF c arr.toList _ (λ_ _=>trivial) (λ_=>rfl) h6;have hlen:=qF c _ _ h6;obtain ⟨A,B,hAB,_,h8⟩:=qaC off h7;have hB:B=[]:=by
     cases B with
     |nil=>rfl
     |cons y B=>simp at hAB
    subst hB;obtain ⟨A2,B2,hAB2,h9,_⟩:=qaC n h8;have hA2:A2=[]:=by
     cases A2 with
     |nil=>rfl
     |cons y B=>simp at hAB2
    subst hA2;have e1:reflagL qK ((c.drop off).take n)=((reflagL qK c).drop off).take n:=by rw [qB,qB,List.map_take,List.map_drop]
    have hl:((arr.toList.drop off).take n).length=n:=by
     simp only [Array.length_toList]at hlen;simp only [List.length_take,List.length_drop,Array.length_toList]<;>omega
    have hl2:(reflagL qK ((c.drop off).take n)).length=n:=by rw [qO,List.length_take,List.length_drop];omega
    rw [<- e1]at h9;simp only [Rep];refine ⟨by rw [ptrsL_reflag];exact hnp,.inr ⟨b,off,cap,1,(arr.toList.drop off).take n,[],by rw [hl2],by rw [hl2];exact hcap,by simp,by rw [hl,hl2];simp,by simp,?_,?_,⟨_,_,h4' _ _ _ h5,?_,rfl⟩,qul hone h9,by simp,by simp⟩⟩
    ·intro x hx;rw [qyo (List.all_eq_true.1 hone x hx)];rfl
    ·intro i u hi;rw [List.getElem?_take]at hi;split at hi
     ·exact qld h5 i u hi
     ·cases hi
    ·simp only [Array.length_toList]at hlen;rw [hl];omega
   ·cases h
  ·cases h
 |.mp _,x',v,O,h,hr=>by simp [peekV]at h
 |.room ..,x',v,O,h,hr=>by simp [peekV]at h
 |.lp ..,x',v,O,h,hr=>by simp [peekV]at h
theorem peekL_okX{bx:Root->Option (List V)}{Ob:Root->List Nat}(hF:Flags qK X X' (λ_=>True) true)(hb:∀r c,bx r=some c->∃b,X.β r=some b/\b<w.heap.size/\X.ω b=none/\qp5 w X b c (Ob r)/\∀arr t m,w.heap[b]?=some (.cells arr t m)->X'.ω b=some (arr.size,true)) :
  ∀(l l':List V) (vals:List Value) (O:List Nat),peekL bx l=some l'->RepL w X l vals O->RepL w X' l' vals []
 |[],l',vals,O,h,hr=>by simp only [peekL,qb]at h;subst h;simp only [RepL]at hr ⊢;exact ⟨hr.1,trivial⟩
 |x::l,l',vals,O,h,hr=>by
  simp only [peekL]at h;split at h
  ·rename_i y ys hy hys;simp only [qb]at h;subst h;simp only [RepL]at hr ⊢;obtain ⟨u,vs,O1,O2,rfl,rfl,h1,h2⟩:=hr;exact ⟨u,vs,[],[],rfl,rfl,peekV_okX hF hb x y u O1 hy h1,peekL_okX hF hb l ys vs O2 hys h2⟩
  ·cases h
end
theorem qCx{bx:Root->Option (List V)}{Ob:Root->List Nat}(hb:∀r c,bx r=some c->∃b,X.β r=some b/\b<w.heap.size/\X.ω b=none/\qp5 w X b c (Ob r))
  (l l':List V) (vals:List Value) (O:List Nat) (h:peekL bx l=some l') (hr:RepL w X l vals O):RepL w (X.qjn w) l' vals [] :=
 peekL_okX (Ob:=Ob) qyu (λr c hc=>by obtain ⟨b,h1,h2,h3,h4⟩:=hb r c hc;exact ⟨b,h1,h2,h3,h4,λarr t m h5=>qCy h3 h5⟩) l l' vals O h hr
theorem qkb.qcB{b off n cap s:Nat}(he:X2.ω b=X.ω b)(h:qkb w X .own b off n cap s):qkb w X2 .own b off n cap s:=by
 unfold qkb at *;rw [he];exact h
mutual
theorem Rep.qcB:∀(x:V) (v:Value) (O:List Nat),x.qcB=true->(∀b∈O,X2.ω b=X.ω b)->Rep w X x v O->Rep w X2 x v O
 |.undef,v,O,hm,hb,hr=>by simpa only [Rep]using hr
 |.val _,v,O,hm,hb,hr=>by simpa only [Rep]using hr
 |.sl f c l,v,O,hm,hb,hr=>by
  simp only [V.qcB,qe,decide_eq_true_eq]at hm;obtain ⟨rfl,hm⟩:=hm;simp only [Rep]at hr ⊢;obtain ⟨hp,hr⟩:=hr;refine ⟨hp,?_⟩;rcases hr with hr|⟨b,off,cap,s,vals,O',h1,h2,h3,h4,h5,h6,h7,h8,h9,h10,h11⟩
  ·exact .inl hr
  ·have hO:=h10 trivial;subst hO;exact .inr ⟨b,off,cap,s,vals,O',h1,h2,h3,h4,h5,h6,h7,h8.qcB (hb b (by simp)),RepE.qcB s l vals O' hm (λk hk=>hb k (by simp [hk])) h9,λ_=>rfl,λhn=>absurd rfl hn⟩
 |.room s n,v,O,hm,hb,hr=>by
  simp only [Rep]at hr ⊢;obtain ⟨b,cap,hv,hn,hs,rfl,hω,hsp⟩:=hr;exact ⟨b,cap,hv,hn,hs,rfl,by rw [hb b (by simp)];exact hω,hsp⟩
 |.fn f a c,v,O,hm,hb,hr=>by
  simp only [V.qcB,qe]at hm;simp only [Rep]at hr ⊢;obtain ⟨va,vc,O1,O2,rfl,rfl,h1,h2⟩:=hr;exact ⟨va,vc,O1,O2,rfl,rfl,RepL.qcB a va O1 hm.1 (λk hk=>hb k (by simp [hk])) h1,RepL.qcB c vc O2 hm.2 (λk hk=>hb k (by simp [hk])) h2⟩
 |.iface t x,v,O,hm,hb,hr=>by
  simp only [V.qcB]at hm;simp only [Rep]at hr ⊢;obtain ⟨u,rfl,h1⟩:=hr;exact ⟨u,rfl,Rep.qcB x u O hm hb h1⟩
 |.agg l,v,O,hm,hb,hr=>by
  simp only [V.qcB]at hm;simp only [Rep]at hr ⊢;obtain ⟨u,rfl,h1⟩:=hr;exact ⟨u,rfl,RepL.qcB l u O hm hb h1⟩
 |.tuple l,v,O,hm,hb,hr=>by
  simp only [V.qcB]at hm;simp only [Rep]at hr ⊢;obtain ⟨u,rfl,h1⟩:=hr;exact ⟨u,rfl,RepL.qcB l u O hm hb h1⟩
 |.ptr ..,_,_,hm,_,_|.yld _,_,_,hm,_,_|.mref _,_,_,hm,_,_|.bsl ..,_,_,hm,_,_|.mp _,_,_,hm,_,_|.cptr ..,_,_,hm,_,_|.lp ..,_,_,hm,_,_=>by simp [V.qcB]at hm
theorem RepL.qcB:∀(l:List V) (vals:List Value) (O:List Nat),mineL l=true->(∀b∈O,X2.ω b=X.ω b)->RepL w X l vals O->RepL w X2 l vals O
 |[],_,_,_,_,hr=>by simpa only [RepL]using hr
 |x::l,vals,O,hm,hb,hr=>by
  simp only [mineL,qe]at hm;simp only [RepL]at hr ⊢;obtain ⟨u,vs,O1,O2,rfl,rfl,h1,h2⟩:=hr;exact ⟨u,vs,O1,O2,rfl,rfl,Rep.qcB x u O1 hm.1 (λk hk=>hb k (by simp [hk])) h1,RepL.qcB l vs O2 hm.2 (λk hk=>hb k (by simp [hk])) h2⟩
theorem RepE.qcB(s:Nat):∀(l:List V) (vals:List Value) (O:List Nat),mineL l=true->(∀b∈O,X2.ω b=X.ω b)->RepE w X s l vals O->RepE w X2 s l vals O
 |[],_,_,_,_,hr=>by simpa only [RepE]using hr
 |x::l,vals,O,hm,hb,hr=>by
  simp only [mineL,qe]at hm;simp only [RepE]at hr ⊢;obtain ⟨u,vs,O1,O2,rfl,hs,rfl,h1,h2⟩:=hr;exact ⟨u,vs,O1,O2,rfl,hs,rfl,Rep.qcB x u O1 hm.1 (λk hk=>hb k (by simp [hk])) h1,RepE.qcB s l vs O2 hm.2 (λk hk=>hb k (by simp [hk])) h2⟩
end
end
end Go.Ab
end
