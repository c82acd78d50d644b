/-
  THE ABSTRACT INTERPRETER: values, states, operations, code. It runs the model's own Code over values without addresses of slices: a slice is the list of its elements, a variable in memory is a box that is named by its level and slot. What it computes is what the model computes: AbSound and the texts behind it.
-/
import Derived.CallsIn
namespace Go.Ab
open Go

/-- own: nobody else may write into or behind these elements; dull: a copy for reading, of what may be owned elsewhere; shared: for reading, never written again. -/
inductive Fl where
  | own | dull | shared
  deriving DecidableEq

/-- where a pointer leads: a box (its level, its slot). -/
structure Root where
  lvl : Nat
  slot : Nat
  deriving DecidableEq

inductive V where
  | undef
  | val (v : Value)
  | ptr (r : Root) (off : Nat)
  | cptr (cells : List V)
  | sl (f : Fl) (clip : Bool) (l : List V)
  | fn (f : FuncId) (first captured : List V)
  | yld (r : Root)
  | iface (t : TypeId) (v : V)
  | agg (l : List V)
  | tuple (l : List V)
  | lp (state : LoopState) (pend : Option Code) (f : FuncId) (env : List V) (params : List Tmp) (assign body : Code)

instance : Inhabited V := ⟨.undef⟩

mutual
def V.reflag (g : Fl → Fl) : V → V
  | .undef => .undef
  | .val v => .val v
  | .ptr r p => .ptr r p
  | .cptr cs => .cptr (reflagL g cs)
  | .sl f c l => .sl (g f) c (reflagL g l)
  | .fn f a b => .fn f (reflagL g a) (reflagL g b)
  | .yld r => .yld r
  | .iface t v => .iface t (v.reflag g)
  | .agg l => .agg (reflagL g l)
  | .tuple l => .tuple (reflagL g l)
  | .lp s pe f env ps a b => .lp s pe f env ps a b
def reflagL (g : Fl → Fl) : List V → List V
  | [] => []
  | v :: l => v.reflag g :: reflagL g l
end

def flDull : Fl → Fl
  | .own => .dull
  | f => f
def flShare : Fl → Fl := fun _ => .shared
def flLoosen : Fl → Fl
  | .shared => .dull
  | f => f
/-- what a called function with boxes is handed: what is owned is never written again -/
def flHand : Fl → Fl
  | .own => .shared
  | f => f
def flSettle : Fl → Fl
  | .dull => .shared
  | f => f
def V.dull (v : V) : V := v.reflag flDull
def V.share (v : V) : V := v.reflag flShare
def V.loosen (v : V) : V := v.reflag flLoosen
def V.settle (v : V) : V := v.reflag flSettle
def V.hand (v : V) : V := v.reflag flHand

mutual
/-- does it hold a dull part? -/
def V.loose : V → Bool
  | .cptr _ => true
  | .sl f _ l => decide (f = .dull) || looseL l
  | .fn _ a b => looseL a || looseL b
  | .iface _ v => v.loose
  | .agg l => looseL l
  | .tuple l => looseL l
  | _ => false
def looseL : List V → Bool
  | [] => false
  | v :: l => v.loose || looseL l
end

mutual
/-- does it hold an owner? -/
def V.owns : V → Bool
  | .cptr l => ownsL l
  | .sl f _ l => decide (f = .own) || ownsL l
  | .fn _ a b => ownsL a || ownsL b
  | .iface _ v => v.owns
  | .agg l => ownsL l
  | .tuple l => ownsL l
  | _ => false
def ownsL : List V → Bool
  | [] => false
  | v :: l => v.owns || ownsL l
end

mutual
/-- the boxes that it points to (never out of a slice: what lies in a slice has none). -/
def V.ptrs : V → List Root
  | .ptr r _ => [r]
  | .yld r => [r]
  | .cptr cs => ptrsL cs
  | .fn _ a b => ptrsL a ++ ptrsL b
  | .iface _ v => v.ptrs
  | .agg l => ptrsL l
  | .tuple l => ptrsL l
  | .lp _ _ _ env _ _ _ => ptrsL env
  | _ => []
def ptrsL : List V → List Root
  | [] => []
  | v :: l => v.ptrs ++ ptrsL l
end

def V.cells : V → List V
  | .agg l => l
  | v => [v]
/-- a value of one cell -/
def V.one : V → Bool
  | .val u => match u with
    | .agg _ => false
    | .tuple _ => false
    | _ => true
  | .ptr .. | .cptr _ | .sl .. | .fn .. | .yld _ | .iface .. => true
  | _ => false
def V.oks (x : V) : Bool := x.cells.all V.one

mutual
/-- pure data -/
def V.toVal : V → Option Value
  | .val v => some v
  | .agg l => (toValL l).map fun vs => .agg vs.toArray
  | .tuple l => (toValL l).map fun vs => .tuple vs.toArray
  | .iface t v => v.toVal.map (.iface t)
  | _ => none
def toValL : List V → Option (List Value)
  | [] => some []
  | v :: l => match v.toVal, toValL l with
    | some x, some xs => some (x :: xs)
    | _, _ => none
end

def ofVal : Value → V
  | .agg cs => .agg (cs.toList.map .val)
  | .tuple vs => .tuple (vs.toList.map fun | .agg cs => .agg (cs.toList.map .val) | v => .val v)
  | v => .val v

def nilSlice (precise : Bool) : V := if precise then .val (.slice none 0 0) else .sl .own false []
def ofZero (precise : Bool) : Value → V
  | .slice none 0 0 => nilSlice precise
  | v => .val v
/-- a constant, or a type's zero value -/
def ofConst (precise : Bool) : Value → V
  | .agg cs => .agg (cs.toList.map (ofZero precise))
  | v => ofZero precise v

/-- what an operation without memory gives -/
def valOf {α : Type} (P : Program) : Sem α → Option α
  | .pure a => some a
  | .program k => valOf P (k P)
  | .mark _ k => valOf P k
  | _ => none

abbrev Level := List (Nat × List V)
structure St where
  E : List V
  L : List Level
  B : Level

structure Hints where
  pairs : FuncId → Nat → List (Nat × Nat) := fun _ _ => []
  take : FuncId → Tmp → Bool := fun _ _ => false
  clear : FuncId → Nat → List Tmp := fun _ _ => []
  precise : FuncId → Bool := fun _ => false
  /-- temporaries that say where to write: a copy of an owner, a place in it -/
  link : FuncId → Tmp → Bool := fun _ _ => false

def putAt (l : List V) (i : Nat) (v : V) : List V := l.set i v
def St.put (st : St) (d : Option Tmp) (v : V) : St :=
  match d with
  | some t => { st with E := st.E.set t v }
  | none => st

def lookB : Level → Nat → Option (List V)
  | [], _ => none
  | (k, c) :: l, s => if k = s then some c else lookB l s
def setB : Level → Nat → List V → Level
  | [], _, _ => []
  | (k, c) :: l, s, c' => if k = s then (k, c') :: l else (k, c) :: setB l s c'
def St.box (st : St) (r : Root) : Option (List V) :=
  if r.lvl = st.L.length then lookB st.B r.slot else match st.L[r.lvl]? with | some b => lookB b r.slot | none => none
def St.setBox (st : St) (r : Root) (c : List V) : St :=
  if r.lvl = st.L.length then { st with B := setB st.B r.slot c }
  else { st with L := st.L.modify r.lvl fun b => setB b r.slot c }

section
variable (P : Program) (H : Hints) (f : FuncId)

def isAggT (t : TypeId) : Bool :=
  match P.underlying t with
  | some (.struct _) | some (.array ..) => true
  | _ => false
def ofCells (t : TypeId) (cs : List V) : Option V :=
  match P.underlying t with
  | none => none
  | some _ => if isAggT P t then (if P.cellsOf t ≤ cs.length then some (.agg (cs.take (P.cellsOf t))) else none) else cs.head?
def zeroOf (t : TypeId) : Option V := ((P.info? t).bind (·.zero)).map (ofConst (H.precise f))

def splice (cs : List V) (off : Nat) (vs : List V) : List V := cs.take off ++ vs ++ cs.drop (off + vs.length)
def fillV (place : Nat → Option (Nat × Nat)) (cs : List V) : List (Nat × V) → Option (List V)
  | [] => some cs
  | (i, v) :: rest =>
    match place i with
    | none => none
    | some (off, size) => if v.cells.length ≠ size ∨ off + v.cells.length > cs.length ∨ v.oks = false then none else fillV place (splice cs off v.cells) rest

def vbuild (t : TypeId) (parts : List (Nat × V)) : Option V :=
  match zeroOf P H f t, P.underlying t with
  | some z, some (.struct fields) =>
    match fields.toList.mapM (fun f => (P.info? f.type).map fun i => (f.offset, i.size)) with
    | some places => (fillV (places.toArray[·]?) z.cells parts).map .agg
    | none => none
  | some z, some (.array _ elem) =>
    match P.info? elem with
    | some ie => (fillV (fun i => some (i * ie.size, ie.size)) z.cells parts).map .agg
    | none => none
  | _, _ => none

/-- elements out of cells -/
def chunk (agg : Bool) (s : Nat) : Nat → List V → List V
  | 0, _ => []
  | n + 1, cs => (if agg then .agg (cs.take s) else cs.headD .undef) :: chunk agg s n (cs.drop s)
def vbuildSlice (t : TypeId) (len : Nat) (parts : List (Nat × V)) : Option V :=
  match P.underlying t with
  | some (.slice elem) =>
    match P.info? elem, zeroOf P H f elem with
    | some ie, some z =>
      if ie.size = 0 ∨ (isAggT P elem = false ∧ ie.size ≠ 1) ∨ z.cells.length ≠ ie.size ∨ len * ie.size > 16777216 then none else
      match fillV (fun i => some (i * ie.size, ie.size)) ((List.replicate len z.cells).flatten) parts with
      | some cs => if cs.all V.one ∧ (ptrsL cs).isEmpty then some (.sl .own false (chunk (isAggT P elem) ie.size len cs)) else none
      | none => none
    | _, _ => none
  | _ => none

def vfield (t : TypeId) (x : V) (fd : Nat) : Option V :=
  match P.underlying t, x with
  | some (.struct fields), .agg cs =>
    match fields[fd]? with
    | some d => ofCells P d.type (cs.drop d.offset)
    | none => none
  | _, _ => none

def vfieldAddr (t : TypeId) (x : V) (fd : Nat) : Option V :=
  match P.underlying t with
  | some (.struct fields) =>
    match fields[fd]? with
    | some d => if P.cellsOf d.type = 0 then none else
      match x with
      | .ptr r off => some (.ptr r (off + d.offset))
      | .cptr cs => if d.offset ≤ cs.length then some (.cptr (cs.drop d.offset)) else none
      | _ => none
    | none => none
  | _ => none

def vindexAddr (t : TypeId) (x i : V) : Option V :=
  match i with
  | .val (.int _ n) =>
    match P.underlying t, x with
    | some (.array len elem), .ptr r off => if 0 ≤ n ∧ n < len ∧ P.cellsOf elem ≠ 0 then some (.ptr r (off + n.toNat * P.cellsOf elem)) else none
    | some (.array len elem), .cptr cs => if 0 ≤ n ∧ n < len ∧ P.cellsOf elem ≠ 0 ∧ n.toNat * P.cellsOf elem ≤ cs.length then some (.cptr (cs.drop (n.toNat * P.cellsOf elem))) else none
    | some (.slice elem), .sl _ _ l => if 0 ≤ n then
        match l[n.toNat]? with
        | some e => if e.cells.length = P.cellsOf elem ∧ e.oks = true ∧ P.cellsOf elem ≠ 0 ∧ (ptrsL e.cells).isEmpty then some (.cptr (reflagL flDull e.cells)) else none
        | none => none
      else none
    | _, _ => none
  | _ => none

def vindex (t : TypeId) (x i : V) : Option V :=
  match i, P.underlying t, x with
  | .val (.int _ n), some (.array len elem), .agg cs =>
    if 0 ≤ n ∧ n < len ∧ P.cellsOf elem ≠ 0 then ofCells P elem (cs.drop (n.toNat * P.cellsOf elem)) else none
  | .val (.int _ n), some .string, .val (.string s) => if 0 ≤ n then (s[n.toNat]?).map fun b => .val (.int .u8 b.toNat) else none
  | _, _, _ => none

def natOf : V → Option Nat
  | .val (.int _ n) => if 0 ≤ n then some n.toNat else none
  | _ => none

def natOr (d : Nat) : Option V → Option Nat
  | some v => natOf v
  | none => some d
/-- x[lo:hi:mx] of a slice, within its length -/
def vslice (t : TypeId) (x : V) (lo hi mx : Option V) : Option V :=
  match P.underlying t, x with
  | some (.slice elem), .sl fl c l =>
    if fl = .own ∨ P.cellsOf elem = 0 ∨ l.all (fun e => decide (e.cells.length = P.cellsOf elem)) = false then none else
    match natOr 0 lo, natOr l.length hi with
    | some a, some b =>
      match mx with
      | none => if a ≤ b ∧ b ≤ l.length then some (.sl fl (c && decide (b = l.length)) ((l.take b).drop a)) else none
      | some m => if natOf m = some b ∧ hi.isSome ∧ a ≤ b ∧ b ≤ l.length then some (.sl fl true ((l.take b).drop a)) else none
    | _, _ => none
  | some (.slice elem), .val (.slice none 0 0) =>
    if P.cellsOf elem = 0 then none else
    match natOr 0 lo, natOr 0 hi, natOr 0 mx with
    | some 0, some 0, some 0 => if mx.isSome ∧ hi.isNone then none else some (.val (.slice none 0 0))
    | _, _, _ => none
  | some .string, .val (.string s) =>
    match natOr 0 lo, natOr s.size hi with
    | some a, some b => if mx.isNone ∧ a ≤ b ∧ b ≤ s.size then some (.val (.string (s.extract a b))) else none
    | _, _ => none
  | _, _ => none

def vmakeSlice (t : TypeId) (len cap : V) : Option V :=
  match P.underlying t with
  | some (.slice elem) =>
    match zeroOf P H f elem, natOf len, natOf cap with
    | some z, some n, some c =>
      if n ≤ c ∧ (n = 0 → c = 0) ∧ P.cellsOf elem ≠ 0 ∧ z.cells.length = P.cellsOf elem ∧ z.oks ∧ z.ptrs.isEmpty ∧ P.bytesOf elem * c ≤ 70368744177664 ∧ c ≤ 70368744177664 then some (.sl .own false (List.replicate n z)) else none
    | _, _, _ => none
  | _ => none

def vappend (argTypes : Array TypeId) (x y : V) : Option V :=
  match (argTypes[0]?).bind P.underlying, (argTypes[1]?).bind P.underlying with
  | some (.slice elem), some yt =>
    let s := P.cellsOf elem
    let ys : Option (List V) := match yt, y with
      | .slice _, .sl _ _ l => some l
      | .slice _, .val (.slice none 0 0) => some []
      | .string, .val (.string b) => some (b.data.toList.map fun c => .val (.int .u8 c.toNat))
      | _, _ => none
    match ys with
    | none => none
    | some l2 =>
      if s = 0 ∨ ((P.info? elem).bind (·.zero)).map (fun z => z.cells.size) ≠ some s ∨ l2.all (fun e => decide (e.cells.length = s) && e.oks) = false ∨ (ptrsL l2).isEmpty = false then none else
      match x with
      | .val (.slice none 0 0) => if l2.isEmpty then some x else if (l2.length + 512) * P.bytesOf elem ≤ 70368744177664 ∧ l2.length ≤ 70368744177664 then some (.sl .own false l2) else none
      | .sl fl c l =>
        if l.all (fun e => decide (e.cells.length = s)) = true ∧ (l.length + l2.length + 512) * P.bytesOf elem ≤ 70368744177664 ∧ l.length + l2.length ≤ 70368744177664 then
          (if fl = .own then some (.sl .own false (l ++ l2))
          else if c then (if l2.isEmpty then some x else some (.sl .own false (l ++ l2)))
          else none)
        else none
      | _ => none
  | _, _ => none

/-- what is surely not nil, of what type -/
def notNil : TypeDesc → V → V → Bool
  | .slice _, .sl _ _ (_ :: _), .val (.slice none 0 0) => true
  | .pointer _, .ptr .., .val (.pointer none) => true
  | .pointer _, .cptr _, .val (.pointer none) => true
  | .func .., .fn .., .val .nilFunc => true
  | _, _, _ => false

def vbin (op : BinOp) (t : TypeId) (xo yo : Operand) (x y : V) : Option V :=
  match x.toVal, y.toVal with
  | some a, some b => (valOf P (do eqGuard op t xo yo a b; Go.binOp op t a b)).map ofVal
  | _, _ =>
    match P.underlying t with
    | some d => if notNil d x y then (match op with
      | .eql => some (.val (.bool false))
      | .neq => some (.val (.bool true))
      | _ => none) else none
    | none => none

def vconvert (src dst : TypeId) (x : V) : Option V :=
  match x.toVal with
  | some a => (valOf P (Go.convert src dst a)).map ofVal
  | none => none

def vbuiltin (b : Builtin) (argTypes : Array TypeId) (type : TypeId) (xs : List V) : Option V :=
  match b, xs with
  | .len, [.sl _ _ l] => match (argTypes[0]?).bind P.underlying with
    | some (.slice _) => some (.val (.int .i64 l.length))
    | _ => none
  | .append, [x, y] => vappend P argTypes x y
  | .append, _ => none
  | .copy, _ => none
  | .len, xs => (toValL xs).bind fun vs => (valOf P (Go.Builtin.len_ argTypes type vs.toArray)).map ofVal
  | .max, xs => (toValL xs).bind fun vs => (valOf P (Go.Builtin.max_ argTypes type vs.toArray)).map ofVal
  | .min, xs => (toValL xs).bind fun vs => (valOf P (Go.Builtin.min_ argTypes type vs.toArray)).map ofVal
  | .real, xs => (toValL xs).bind fun vs => (valOf P (Go.Builtin.real_ argTypes type vs.toArray)).map ofVal
  | .imag, xs => (toValL xs).bind fun vs => (valOf P (Go.Builtin.imag_ argTypes type vs.toArray)).map ofVal
  | .complex, xs => (toValL xs).bind fun vs => (valOf P (Go.Builtin.complex_ argTypes type vs.toArray)).map ofVal
  | _, _ => none

def isLp : List V → Bool
  | .lp .. :: _ => true
  | _ => false
/-- what an operation gives that touches at most one box (its cells: bx): its value, and what the box then holds -/
def opSem (tk : Bool) (o : Op) (type : TypeId) (xs : List V) (bx : Option (List V)) : Option (V × Option (List V)) :=
  let v (x : Option V) : Option (V × Option (List V)) := x.map fun x => (x, none)
  match o, xs with
  | .move _, [x] | .assign _, [x] => some (x, none)
  | .pick .., [.val (.bool c), a, b] => some (if c then a else b, none)
  | .build t parts, xs => v (vbuild P H f t (parts.toList.map (·.1) |>.zip xs))
  | .buildSlice t len parts, xs => v (vbuildSlice P H f t len (parts.toList.map (·.1) |>.zip xs))
  | .load t _, [.cptr cs] => v ((ofCells P t cs).map V.dull)
  | .load t _, [.ptr _ off] => match bx with
    | some cs => if isLp cs then none else if tk then (ofCells P t (cs.drop off)).map fun x => (x, some (splice cs off (reflagL flDull ((cs.drop off).take (if isAggT P t then P.cellsOf t else 1)))))
      else v ((ofCells P t (cs.drop off)).map V.dull)
    | none => none
  | .store t _ _, [.ptr _ off, x] => match bx with
    | some cs => if isLp cs = false ∧ P.cellsOf t ≠ 0 ∧ x.cells.length = P.cellsOf t ∧ off + x.cells.length ≤ cs.length ∧ x.oks = true then some (.undef, some (splice cs off x.cells)) else none
    | none => none
  | .nilCheck _, [.ptr r off] => some (.ptr r off, none)
  | .nilCheck _, [.cptr cs] => some (.cptr cs, none)
  | .nilCheck _, [.fn g a b] => some (.fn g a b, none)
  | .binOp op t xo yo _, [x, y] => v (vbin P op t xo yo x y)
  | .unOp op _ _, [x] => v (x.toVal.bind fun a => (valOf P (Go.Op.unary op a)).map ofVal)
  | .convert src dst _, [x] => v (vconvert P src dst x)
  | .makeInterface t _, [x] =>
    match P.underlying t with
    | some (.interface _) | none => none
    | _ => if x.ptrs.isEmpty then some (match x.toVal with | some a => .val (.iface t a) | none => .iface t x, none) else none
  | .makeFunc (.func g) first _, xs => some (.fn g (xs.take first.size) (xs.drop first.size), none)
  | .makeSlice t _ _, [l, c] => v (vmakeSlice P H f t l c)
  | .slice t _ lo hi mx, x :: rest =>
    let r1 := if lo.isSome then rest.tail else rest
    let r2 := if hi.isSome then r1.tail else r1
    v (vslice P t x (if lo.isSome then rest.head? else none) (if hi.isSome then r1.head? else none) (if mx.isSome then r2.head? else none))
  | .fieldAddr t _ fd, [x] => v (vfieldAddr P t x fd)
  | .field t _ fd, [x] => v (vfield P t x fd)
  | .indexAddr t _ _, [x, i] => v (vindexAddr P t x i)
  | .index t _ _, [x, i] => v (vindex P t x i)
  | .extract _ i, [.tuple l] => v l[i]?
  | .call { callee := .builtin b, argTypes, .. }, xs => v (vbuiltin P b argTypes type xs)
  | _, _ => none

/-- does it take what its operands own? -/
def takesOp : Op → Bool
  | .assign _ | .store .. | .box .. | .build .. | .buildSlice .. | .makeInterface .. | .pick .. | .makeFunc .. | .call _ => true
  | _ => false
def takes (o : Oper) : Bool := takesOp o.op || (match o.dst with | some t => H.take f t | none => false)
def tmpsOf (o : Oper) : List Tmp := o.op.operands.toList.filterMap fun | .tmp t => some t | _ => none
def preciseOp : Op → Bool
  | .binOp .. => true
  | _ => false
def rd (o : Oper) (E : List V) : Operand → V
  | .tmp t => if takes H f o then E.getD t .undef else (E.getD t .undef).dull
  | .const v => ofConst (H.precise f || preciseOp o.op) v
  | .func g => .fn g [] []
  | .global _ => .undef
def dullAt (E : List V) (ts : List Tmp) : List V := ts.foldl (fun E t => E.modify t V.dull) E
def rootOf : Op → List V → Option Root
  | .load .., .ptr r _ :: _ => some r
  | .store .., .ptr r _ :: _ => some r
  | _, _ => none
end

inductive Ex where
  | normal
  | exit (id : Nat)
  | ret
  deriving DecidableEq

/-- what runs what is called: a function; code in a frame -/
structure Orc where
  call : FuncId → List V → List Level → Option (V × List Level)
  code : FuncId → Nat → Code → St → Option (Ex × St)

def lastSplit : List Level → Option (List Level × Level)
  | [] => none
  | [b] => some ([], b)
  | b :: c :: l => (lastSplit (c :: l)).map fun (x, y) => (b :: x, y)

def Ex.code : Ex → Option Code
  | .normal => none
  | .exit id => some (.exit id)
  | .ret => some .ret

section
variable (P : Program) (H : Hints) (O : Orc) (f : FuncId)

/-- a function is called with values -/
def vcall (g : FuncId) (args : List V) (st : St) : Option (V × St) :=
  if (ptrsL args).isEmpty then
    match O.call g (args.map V.share) [] with
    | some (r, []) => some (if looseL args then r.loosen else r, st)
    | _ => none
  else match O.call g (args.map V.hand) (st.L ++ [st.B]) with
  | some (r, M) => match lastSplit M with
    | some (L, B) => if L.length = st.L.length then some (r, { st with L, B }) else none
    | none => none
  | none => none

def zipSet (E : List V) : List Tmp → List V → List V
  | t :: ts, v :: vs => zipSet (E.set t v) ts vs
  | _, _ => E

/-- a round of a loop over a function -/
def vround (r : Root) (args : List V) (st : St) : Option (V × St) :=
  match st.box r with
  | some [.lp .ready _ g env ps assign body] =>
    if args.length ≠ ps.length then none else
    match O.code g 0 assign { E := zipSet env ps (args.map V.hand), L := st.L ++ [st.B], B := [] } with
    | some (.normal, s2) =>
      match s2.box r with
      | some [.lp .ready pe2 g2 env2 ps2 as2 bo2] =>
        match O.code g 0 body (s2.setBox r [.lp .busy pe2 g2 env2 ps2 as2 bo2]) with
        | some (ex, s3) =>
          match s3.box r with
          | some [.lp _ _ g3 env3 ps3 as3 bo3] =>
            match lastSplit (s3.setBox r [.lp (if (ex.code).isNone then .ready else .done) ex.code g3 env3 ps3 as3 bo3]).L with
            | some (L, B) => if L.length = st.L.length then some (.val (.bool (ex.code).isNone), { st with L, B }) else none
            | none => none
          | _ => none
        | none => none
      | _ => none
    | _ => none
  | _ => none

def vcallV (fv : V) (args : List V) (st : St) : Option (V × St) :=
  match fv with
  | .fn g first cap => vcall O g (first ++ args ++ cap) st
  | .yld r => vround O r args st
  | _ => none

def nodupT : List Tmp → Bool
  | [] => true
  | t :: l => !l.contains t && nodupT l
/-- what boxes an operation touches -/
inductive Fp where
  | none
  | root (r : Root) (off len : Nat) (wr : Bool)
  | all
  deriving DecidableEq

def pureCall : V → List V → Bool
  | .fn _ first cap, args => (ptrsL (first ++ args ++ cap)).isEmpty
  | _, _ => false

/-- the cells of its box that a load or a store touches -/
def rangeOf : Op → List V → Nat × Nat
  | .load t _, .ptr _ off :: _ => (off, if isAggT P t then P.cellsOf t else 1)
  | .store .., [.ptr _ off, x] => (off, x.cells.length)
  | _, _ => (0, 0)
def wptrs : Op → List V → List Root
  | .store .., [_, x] => x.ptrs
  | _, _ => []

/-- an operation behind its operands -/
def stepM (o : Oper) (xs : List V) (st : St) : Option (V × St × Fp) :=
  match o.op with
  | .alloc t => match o.dst, zeroOf P H f t with
    | some d, some z => if (lookB st.B d).isNone then some (.ptr ⟨st.L.length, d⟩ 0, { st with B := (d, z.cells) :: st.B }, .all) else none
    | _, _ => none
  | .box t _ => match o.dst, xs with
    | some d, [x] => if (lookB st.B d).isNone ∧ x.cells.length = P.cellsOf t ∧ x.oks = true then some (.ptr ⟨st.L.length, d⟩ 0, { st with B := (d, x.cells) :: st.B }, .all) else none
    | _, _ => none
  | .call { callee := .value _, .. } => match xs with
    | fv :: args => (vcallV O fv args st).map fun (v, s) => (v, s, if pureCall fv args then .none else .all)
    | [] => none
  | op => match rootOf op xs with
    | none => match opSem P H f (takes H f o) op o.type xs none with
      | some (v, none) => some (v, st, .none)
      | _ => none
    | some r => match opSem P H f (takes H f o) op o.type xs (st.box r) with
      | some (v, none) => some (v, st, .root r (rangeOf P op xs).1 (rangeOf P op xs).2 false)
      | some (v, some c) => if (wptrs op xs).all (fun p => decide (p.lvl ≤ r.lvl)) && decide ((rangeOf P op xs).1 + (rangeOf P op xs).2 ≤ c.length) then some (v, st.setBox r c, .root r (rangeOf P op xs).1 (rangeOf P op xs).2 true) else none
      | none => none

def stepFp (o : Oper) (st : St) : Option (St × Fp) :=
  if takes H f o && !nodupT (tmpsOf o) then none else
  (stepM P H O f o (o.op.operands.toList.map (rd H f o st.E)) (if takes H f o then { st with E := dullAt st.E (tmpsOf o) } else st)).map fun (v, s, fp) => (s.put o.dst v, fp)
def stepOp (o : Oper) (st : St) : Option St := (stepFp P H O f o st).map (·.1)

def wantedA (ops : Array Oper) (E : List V) (o : Oper) : Option Bool :=
  match o.guard with
  | none => some true
  | some (j, want) => match (ops[j]?).bind (·.dst) with
    | some t => match E[t]? with
      | some (.val (.bool b)) => some (b == want)
      | some (.val (.tuple vs)) => if vs.size = 0 then some false else none
      | _ => none
    | none => none

def execOps (ops : Array Oper) : List Nat → St → Option St
  | [], st => some st
  | i :: rest, st =>
    match ops[i]? with
    | none => none
    | some o =>
      match wantedA ops st.E o with
      | some true => match stepOp P H O f o st with
        | some st' => execOps ops rest st'
        | none => none
      | some false => execOps ops rest (st.put o.dst (.val undef))
      | none => none

/-- an operation's footprint: boxes; temporaries that it took an owner from; temporaries that it looks at -/
structure Foot where
  fp : Fp
  took : List Tmp
  looks : List Tmp
def looksAt (ops : Array Oper) (o : Oper) : List Tmp :=
  tmpsOf o ++ (match o.guard with
    | some (g, _) => ((ops[g]?).bind (·.dst)).toList
    | none => [])
def tookAt (o : Oper) (E : List V) : List Tmp := if takes H f o then (tmpsOf o).filter fun t => (E.getD t .undef).owns else []

def oneR (ops : Array Oper) (i : Nat) (st : St) : Option (St × Foot) :=
  match ops[i]? with
  | none => none
  | some o =>
    match wantedA ops st.E o with
    | some true => (stepFp P H O f o st).map fun (s, fp) => (s, ⟨fp, tookAt H f o st.E, looksAt ops o⟩)
    | some false => some (st.put o.dst (.val undef), ⟨.none, [], looksAt ops o⟩)
    | none => none
/-- with what each touched -/
def execR (ops : Array Oper) : List Nat → St → Option (St × List (Nat × Foot))
  | [], st => some (st, [])
  | i :: rest, st =>
    match oneR P H O f ops i st with
    | some (st', ft) => (execR ops rest st').map fun (s, l) => (s, (i, ft) :: l)
    | none => none

def Fp.conflict : Fp → Fp → Bool
  | .none, _ => false
  | _, .none => false
  | .root r o l w, .root r' o' l' w' => decide (r = r') && (w || w') && !(decide (o + l ≤ o') || decide (o' + l' ≤ o))
  | _, _ => true
def meets (l l' : List Tmp) : Bool := l.any fun t => l'.contains t
def Foot.clash (a b : Foot) : Bool := a.fp.conflict b.fp || meets a.took b.looks || meets b.took a.looks
def noConf (U : List (Nat × Nat)) (fps : List (Nat × Foot)) : Bool :=
  U.all fun (i, j) => fps.all fun (k, p) => k != i || fps.all fun (k', p') => k' != j || !p.clash p'

/-! what is seen of a region's text: its order -/
def boundE (o : Oper) : List Nat := (o.after.toList.filter fun e => Region.binds .any e).map (·.on)
def dedupN : List Nat → List Nat
  | [] => []
  | x :: l => if l.contains x then dedupN l else x :: dedupN l
/-- all that is ahead of operation i, of each i -/
def ancs (ops : List Oper) : List (List Nat) :=
  ops.foldl (fun acc o => acc ++ [dedupN ((boundE o).flatMap fun j => j :: acc.getD j [])]) []
def stillOp : Op → Bool
  | .alloc _ | .box .. | .load .. | .store .. | .call { callee := .value _, .. } => false
  | _ => true
def dstApart (ops : Array Oper) (x y : Oper) : Bool :=
  (match x.dst with
   | some d => !(looksAt ops y).contains d && y.dst != some d
   | none => true) &&
  (match y.dst with
   | some d => !(looksAt ops x).contains d
   | none => true)
def textApart (ops : Array Oper) (x y : Oper) : Bool :=
  (stillOp x.op || stillOp y.op) && (!takes H f x || !meets (tmpsOf x) (looksAt ops y)) && (!takes H f y || !meets (tmpsOf y) (looksAt ops x))
def regionOk (U : List (Nat × Nat)) (ops : Array Oper) : Bool :=
  let as := ancs ops.toList
  (List.range ops.size).all fun i =>
    match ops[i]? with
    | none => false
    | some y => (boundE y).all (fun j => decide (j < i)) && (List.range i).all fun j =>
      (as.getD i []).contains j || match ops[j]? with
        | none => false
        | some x => dstApart ops x y && (textApart H f ops x y || U.contains (j, i))
end

/-! ### a store into an owner's elements: its address is a place in the owner -/
mutual
/-- does it hold elements that somebody may write? -/
def V.soft : V → Bool
  | .cptr _ => true
  | .sl f _ l => (decide (f = .dull) && !l.isEmpty) || softL l
  | .fn _ a b => softL a || softL b
  | .iface _ v => v.soft
  | .agg l => softL l
  | .tuple l => softL l
  | _ => false
def softL : List V → Bool
  | [] => false
  | v :: l => v.soft || softL l
end
def V.hard (v : V) : V := if v.soft then .undef else v
def hardB (B : Level) : Level := B.map fun p => (p.1, p.2.map V.hard)
def noLpB (B : Level) : Bool := B.all fun p => !isLp p.2
def recell (e : V) (cs : List V) : V :=
  match e with
  | .agg _ => .agg cs
  | _ => cs.headD .undef
/-- an element, a cell of it, an element's cells -/
abbrev Path := List (Nat × Nat × Nat)
/-- what lies behind a path is written -/
def updF (ys : List V) : Path → V → Option V
  | [], _ => none
  | (j, o, s) :: p, .sl .own c l =>
    match l[j]? with
    | some e => if e.cells.length = s ∧ e.oks = true then
        (match p with
        | [] => if o + ys.length ≤ s then some (.sl .own c (l.set j (recell e (splice e.cells o ys)))) else none
        | _ :: _ => match e.cells[o]? with
          | some z => (updF ys p z).map fun z' => .sl .own c (l.set j (recell e (e.cells.set o z')))
          | none => none)
      else none
    | none => none
  | _, _ => none

inductive Rt where
  | tmp (t : Tmp)
  | box (r : Root) (off : Nat)
  deriving DecidableEq

section
variable (P : Program) (H : Hints) (f : FuncId)
def isLk (o : Oper) : Bool := match o.dst with
  | some d => H.link f d
  | none => false
def isLs (o : Oper) : Bool := match o.op with
  | .store _ (.tmp d) _ => H.link f d
  | _ => false
def hasLs (ops : Array Oper) : Bool := ops.toList.any (isLs H f)
/-- the last operation ahead of k that has this temporary -/
def defAt (ops : Array Oper) : Nat → Tmp → Option Nat
  | 0, _ => none
  | k + 1, d => if (ops[k]?).bind (·.dst) = some d then some k else defAt ops k d
def idxOf (E : List V) : Operand → Option Nat
  | .tmp t => natOf (E.getD t .undef)
  | .const v => natOf (.val v)
  | _ => none
def fieldOff (t : TypeId) (fd : Nat) : Option Nat :=
  match P.underlying t with
  | some (.struct fields) => (fields[fd]?).map (·.offset)
  | _ => none
/-- where a temporary leads: the owner, the path (last step first), whether it is the address of a cell -/
def lkPath (ops : Array Oper) (E : List V) : Nat → Nat → Tmp → Option (Rt × Path × Bool)
  | 0, _, _ => none
  | n + 1, k, d => if H.link f d = false then some (.tmp d, [], false) else
    match defAt ops k d with
    | none => none
    | some c => match (ops[c]?).map Oper.op with
      | some (.move (.tmp a)) => lkPath ops E n c a
      | some (.indexAddr t (.tmp a) i) =>
        match lkPath ops E n c a, idxOf E i, P.underlying t with
        | some (r, p, false), some j, some (.slice elem) => some (r, (j, 0, P.cellsOf elem) :: p, true)
        | _, _, _ => none
      | some (.fieldAddr t (.tmp a) fd) =>
        match lkPath ops E n c a, fieldOff P t fd with
        | some (r, (j, o, s) :: p, true), some o' => some (r, (j, o + o', s) :: p, true)
        | _, _ => none
      | some (.load t (.tmp a)) =>
        if isAggT P t then none else
        if H.link f a then (match lkPath ops E n c a with
          | some (r, p, true) => some (r, p, false)
          | _ => none)
        else match E.getD a .undef with
          | .ptr r off => some (.box r off, [], false)
          | _ => none
      | _ => none

/-- the store -/
def lsStep (ops : Array Oper) (s : Nat) (o : Oper) (st : St) : Option St :=
  match o.op with
  | .store t (.tmp d) xo =>
    let x := rd H f o st.E xo
    if st.L.isEmpty && noLpB st.B && o.dst.isNone && o.guard.isNone && nodupT (tmpsOf o) && decide (P.cellsOf t ≠ 0) && decide (x.cells.length = P.cellsOf t) && x.oks && x.ptrs.isEmpty then
      match lkPath P H f ops st.E ops.size s d with
      | some (.tmp r, p, true) => if (tmpsOf o).contains r then none else
        match updF x.cells p.reverse (st.E.getD r .undef) with
        | some y => if y.soft then none else some { st with E := ((dullAt st.E (tmpsOf o)).map V.hard).set r y, B := hardB st.B }
        | none => none
      | some (.box q off, p, true) => match st.box q with
        | some cs => match cs[off]? with
          | some z => match updF x.cells p.reverse z with
            | some y => if y.soft then none else some { st with E := (dullAt st.E (tmpsOf o)).map V.hard, B := setB (hardB st.B) q.slot ((cs.map V.hard).set off y) }
            | none => none
          | none => none
        | none => none
      | _ => none
    else none
  | _ => none

/-- it leaves the boxes as they are -/
def tameOp : Op → Bool
  | .alloc _ | .box .. | .store .. | .call { callee := .value _, .. } => false
  | _ => true
def boxLoad (o : Oper) : Bool := match o.op with
  | .load _ (.tmp a) => !H.link f a
  | _ => false
def nestLoad (o : Oper) : Bool := match o.op with
  | .load _ (.tmp a) => H.link f a
  | _ => false
def okAfter (oc oi : Oper) : Bool :=
  (match oi.dst with
   | some d => !(oc.dst == some d) && !(tmpsOf oc).contains d
   | none => true) && (!boxLoad H f oc || tameOp oi.op || isLs H f oi)
def befor (draw : Bool) (as : List (List Nat)) (i c : Nat) : Bool := if draw then (as.getD c []).contains i else decide (i < c)
def linkOne (draw : Bool) (as : List (List Nat)) (ops : Array Oper) (lone : Bool) (c : Nat) (oc : Oper) : Bool :=
  (!isLk H f oc || (oc.guard.isNone && (match oc.dst with
      | some d => !(tmpsOf oc).contains d
      | none => true) && (List.range ops.size).all fun i => i == c || befor draw as i c || match ops[i]? with
        | some oi => okAfter H f oc oi
        | none => false)) &&
  (!isLs H f oc || (oc.guard.isNone && (List.range ops.size).all fun i => i == c || befor draw as i c || befor draw as c i)) &&
  (!(isLk H f oc && nestLoad H f oc) || lone)
def linkOk (draw : Bool) (ops : Array Oper) : Bool :=
  let as := ancs ops.toList
  let lone := decide ((ops.toList.filter (isLs H f)).length ≤ 1)
  (List.range ops.size).all fun c => match ops[c]? with
    | some oc => linkOne H f draw as ops lone c oc
    | none => false
end

section
variable (P : Program) (H : Hints) (O : Orc) (f : FuncId)
def isCptr : V → Bool
  | .cptr _ => true
  | _ => false
/-- what must be so where a link is made -/
def lkGate (o : Oper) (E : List V) : Bool :=
  !isLk H f o || ((match o.dst with
    | some d => decide (d < E.length)
    | none => true) && (match o.op with
    | .load _ (.tmp a) => !H.link f a || isCptr (E.getD a .undef)
    | _ => true))
def oneL (ops : Array Oper) (i : Nat) (st : St) : Option (St × Foot) :=
  match ops[i]? with
  | none => none
  | some o => if isLs H f o then (lsStep P H f ops i o st).map fun s => (s, ⟨.all, [], looksAt ops o⟩)
    else if lkGate H f o st.E then oneR P H O f ops i st else none
def execL (ops : Array Oper) : List Nat → St → Option (St × List (Nat × Foot))
  | [], st => some (st, [])
  | i :: rest, st =>
    match oneL P H O f ops i st with
    | some (st', ft) => (execL ops rest st').map fun (s, l) => (s, (i, ft) :: l)
    | none => none

def clearB (D : List Tmp) : Level → Level
  | [] => []
  | (k, c) :: l => if D.contains k then clearB D l else (k, c) :: clearB D l
def clearE (D : List Tmp) (E : List V) : List V := D.foldl (fun E t => E.set t .undef) E
def okPtrs (lvl : Nat) (D : List Tmp) (rs : List Root) : Bool := rs.all fun r => r.lvl != lvl || !D.contains r.slot
def ptrsB : Level → List Root
  | [] => []
  | (_, c) :: l => ptrsL c ++ ptrsB l
def St.clear (D : List Tmp) (st : St) : Option St :=
  let E := clearE D st.E
  let B := clearB D st.B
  if B.length = st.B.length ∨ (okPtrs st.L.length D (ptrsL E) && okPtrs st.L.length D (ptrsB B)) then some { st with E, B } else none

def ex (bid : Nat) : Code → St → Option (Ex × St)
  | .skip, st => some (.normal, st)
  | .region id ops draw, st =>
    if hasLs H f ops then
      (if linkOk H f draw ops && (!draw || regionOk H f (H.pairs f id) ops) then
        match execL P H O f ops (List.range ops.size) st with
        | some (s, fps) => if !draw || noConf (H.pairs f id) fps then some (.normal, s) else none
        | none => none
      else none)
    else if draw then
      if regionOk H f (H.pairs f id) ops then
        match H.pairs f id with
        | [] => (execOps P H O f ops (List.range ops.size) st).map fun s => (.normal, s)
        | U => match execR P H O f ops (List.range ops.size) st with
          | some (s, fps) => if noConf U fps then some (.normal, s) else none
          | none => none
      else none
    else (execOps P H O f ops (List.range ops.size) st).map fun s => (.normal, s)
  | .seq a b, st => match ex bid a st with
    | some (.normal, s) => ex bid b s
    | r => r
  | .cond c a b, st => match rd H f default st.E c with
    | .val (.bool t) => if t then ex bid a st else ex bid b st
    | _ => none
  | .block id c, st => match ex id c st with
    | some (.exit i, s) => if i = id then some (.normal, s) else some (.exit i, s)
    | r => r
  | .loop c, st => match st.clear (H.clear f bid) with
    | some st => match ex bid c st with
      | some (.normal, s) => O.code f bid (.loop c) s
      | r => r
    | none => none
  | .rangeFunc g ps assign body, st =>
    match rd H f default st.E g, ps.toList with
    | .fn h first cap, t :: ts =>
      if (lookB st.B t).isNone then
        match vcallV O (.fn h first cap) [.yld ⟨st.L.length, t⟩] { st with B := (t, [.lp .ready none f (st.E.map V.dull) (t :: ts) assign body]) :: st.B } with
        | some (_, s) =>
          if okPtrs st.L.length [t] (ptrsB (clearB [t] s.B)) then
            match lookB s.B t with
            | some [.lp .ready none _ _ _ _ _] => some (.normal, { st with L := s.L, B := clearB [t] s.B })
            | some [.lp .done (some .ret) _ _ _ _ _] => some (.ret, { st with L := s.L, B := clearB [t] s.B })
            | some [.lp .done (some (.exit id)) _ _ _ _ _] => some (.exit id, { st with L := s.L, B := clearB [t] s.B })
            | _ => none
          else none
        | none => none
      else none
    | _, _ => none
  | .exit id, st => some (.exit id, st)
  | .ret, st => some (.ret, st)
  | _, _ => none

def resultOf (st : St) : ResultVar → Option V
  | .tmp t => some (st.E.getD t .undef)
  | .cell a t => match st.E.getD a .undef with
    | .ptr r off => match st.box r with
      | some cs => if isLp cs then none else ofCells P t (cs.drop off)
      | none => none
    | _ => none
def allSome : List (Option V) → Option (List V)
  | [] => some []
  | some v :: l => (allSome l).map (v :: ·)
  | none :: _ => none

/-- where a result lies -/
def resultKey (st : St) : ResultVar → Bool × Nat × Nat
  | .tmp t => (false, t, 0)
  | .cell a _ => match st.E.getD a .undef with
    | .ptr r _ => (true, r.lvl, r.slot)
    | _ => (true, 0, 0)
def distinct : List (Bool × Nat × Nat) → Bool
  | [] => true
  | k :: l => !l.contains k && distinct l
def keysOk (n : Nat) (ks : List (Bool × Nat × Nat)) : Bool := distinct ks && ks.all fun k => !k.1 || decide (k.2.1 = n)
def packed : List V → V
  | [r] => r
  | rs => .tuple rs

def runF (args : List V) (M : List Level) : Option (V × List Level) :=
  match P.funcs[f]? with
  | some fn => match fn.body with
    | some c => match ex P H O f 0 c { E := args ++ List.replicate (fn.ntmps - args.length) .undef, L := M, B := [] } with
      | some (e, st) =>
        if e = .normal ∨ e = .ret then
          match allSome (fn.results.toList.map (resultOf P st)) with
          | some rs =>
            if ((ptrsL rs).all fun r => decide (r.lvl < M.length)) && keysOk M.length (fn.results.toList.map (resultKey st)) then
              some (packed (if M.isEmpty && !ownsL rs then reflagL flSettle rs else rs), st.L)
            else none
          | none => none
        else none
      | none => none
    | none => none
  | none => none
end

/-- with fuel -/
def orcN (P : Program) (H : Hints) (lib : FuncId → Option (List V → Option V)) : Nat → Orc
  | 0 => { call := fun _ _ _ => none, code := fun _ _ _ _ => none }
  | n + 1 => {
      call := fun g args M => match lib g with
        | some h => if M.isEmpty then (h args).map fun v => (v, []) else none
        | none => runF P H (orcN P H lib n) g args M
      code := fun f bid c st => ex P H (orcN P H lib n) f bid c st }
end Go.Ab
