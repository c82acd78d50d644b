/-
  THE TYPED INTERPRETER: it runs the model's Code over typed values (a slice is a Lean list of a known type) in continuation style, so that what it computes of a function whose arguments are variables IS, by definition, a plain Lean function. Definitions; the texts behind it show that it is the abstract interpreter's answer.
-/
import Derived.Test.YtpiggpgocnlomaaAbY
import Derived.Test.YtpiggpgocnlomaaTxE0
set_option linter.unusedVariables false
namespace Go.Tx
open Go Go.Ab

inductive Ty where
  | int (k : IntKind)
  | bool
  | str
  | sl (t : Ty)
  | unit
  | pair (a b : Ty)
  deriving DecidableEq

@[reducible] def Ty.den : Ty → Type
  | .int _ => Int
  | .bool => Bool
  | .str => List UInt8
  | .sl t => List t.den
  | .unit => Unit
  | .pair a b => a.den × b.den

/-- how many levels of slices -/
def Ty.depth : Ty → Nat
  | .sl t => t.depth + 1
  | .pair a b => max a.depth b.depth
  | _ => 0
/-- of one cell -/
def Ty.one : Ty → Bool
  | .unit | .pair .. => false
  | _ => true
def Ty.ncells : Ty → Nat
  | .unit => 0
  | .pair _ b => b.ncells + 1
  | _ => 1
/-- aggregates are rows of cells of one -/
def Ty.rowOk : Ty → Bool
  | .unit => true
  | .pair a b => a.one && b.rowOk
  | _ => false
def Ty.elemOk : Ty → Bool
  | .unit => true
  | .pair a b => a.one && b.rowOk
  | _ => true
def Ty.ok : Ty → Bool
  | .sl t => t.elemOk && t.ok
  | .pair a b => a.one && a.ok && b.rowOk && b.ok
  | _ => true

/-! levels: how many are owned; from 1000 on what lies below these is shared -/
/-- from 2000 on it is anything -/
def isOwn (o : Nat) : Bool := !(decide (o = 0) || (decide (o = 1000) || decide (o = 2000)))
def nx (o : Nat) : Nat := if isOwn o then o - 1 else o
def dl (o : Nat) : Nat := if o = 1000 then 1000 else 0
def lo (o : Nat) : Nat := if 1000 ≤ o ∧ o < 2000 then o - 1000 else o
/-- is none of so many levels another's to write? -/
def sure (o d : Nat) : Bool := if o < 1000 then decide (d ≤ o) else if o < 2000 then true else decide (d ≤ o - 2000)
def nf (o d : Nat) : Nat := if o < 1000 then min o d else o
/-- what is so may be taken for this -/
def fits : Nat → Nat → Nat → Bool
  | 0, _, _ => true
  | d + 1, o', o => decide (o = 2000) || ((isOwn o' == isOwn o) && !decide (o' = 2000) && (!decide (o = 1000) || decide (o' = 1000)) && fits d (nx o') (nx o))

inductive TV where
  | any (rs : List Root)
  | t (τ : Ty) (own : Nat) (x : τ.den)
  | clp (τ : Ty) (x : List τ.den)
  | empty (o : Nat)
  | val (v : Value)
  | agg (l : List TV)
  | tuple (l : List TV)
  | fn (g : FuncId) (first cap : List TV)
  | ptr (r : Root) (off : Nat)
  | cptr (l : List TV)
  | iface (t : TypeId) (v : TV)
instance : Inhabited TV := ⟨.any []⟩

/-- the temporaries -/
structure Env where
  n : Nat
  t : Tr TV
noncomputable def Env.get (e : Env) (i : Nat) : TV := Env.rec (motive := fun _ => TV) (fun n t => Bool.rec (motive := fun _ => TV) (.any []) (t.get (.any []) i) (Nat.ble (Nat.succ i) n)) e
noncomputable def Env.set (e : Env) (i : Nat) (v : TV) : Env := Env.rec (motive := fun _ => Env) (fun n t => ⟨n, t.set (.any []) i v⟩) e
noncomputable def Env.mapI (f : Nat → TV → TV) (e : Env) : Env := Env.rec (motive := fun _ => Env) (fun n t => ⟨n, t.mapI (.any []) n f 1 0⟩) e
noncomputable def Env.all (p : Nat → TV → Bool) (e : Env) : Bool := e.t.allI p 1 0
noncomputable def Env.mask (p : TV → Bool) (e : Env) : Mask := ⟨e.t.maskI p 1 0⟩
noncomputable def fillTr : List TV → Nat → Tr TV → Tr TV
  | [], _, t => t
  | v :: l, i, t => fillTr l (i + 1) (t.set (.any []) i v)
noncomputable def Env.ofArgs (args : List TV) (n : Nat) : Env := ⟨args.length + (n - args.length), fillTr args 0 .nil⟩
/-- as a list -/
noncomputable def Env.toL (e : Env) : List TV := (List.range e.n).map fun i => e.t.get (.any []) i
noncomputable def forgetM (D : Mask) (rs : List Root) (e : Env) : Env := e.mapI fun i v => Bool.rec (motive := fun _ => TV) v (.any rs) (D.has i)

def TV.cells : TV → List TV
  | .agg l => l
  | v => [v]
def TV.one : TV → Bool
  | .any _ | .agg _ | .tuple _ => false
  | .t τ _ _ => τ.one
  | .val u => match u with
    | .agg _ => false
    | .tuple _ => false
    | _ => true
  | _ => true
def TV.oks (x : TV) : Bool := x.cells.all TV.one

mutual
def TV.dull : TV → TV
  | .any rs => .any rs
  | .t τ o x => .t τ (dl o) x
  | .clp τ x => .clp τ x
  | .empty o => .empty (dl o)
  | .val v => .val v
  | .agg l => .agg (dullL l)
  | .tuple l => .tuple (dullL l)
  | .fn g a b => .fn g (dullL a) (dullL b)
  | .ptr r o => .ptr r o
  | .cptr l => .cptr (dullL l)
  | .iface t v => .iface t v.dull
def dullL : List TV → List TV
  | [] => []
  | v :: l => v.dull :: dullL l
end
mutual
/-- what is handed to a function without boxes: never to be written again -/
def TV.share : TV → TV
  | .any rs => .any rs
  | .t τ _ x => .t τ 1000 x
  | .clp τ x => .t (.sl τ) 1000 x
  | .empty _ => .empty 1000
  | .val v => .val v
  | .agg l => .agg (shareL l)
  | .tuple l => .tuple (shareL l)
  | .fn g a b => .fn g (shareL a) (shareL b)
  | .ptr r o => .ptr r o
  | .cptr l => .cptr (shareL l)
  | .iface t v => .iface t v.share
def shareL : List TV → List TV
  | [] => []
  | v :: l => v.share :: shareL l
end
mutual
def TV.loosen : TV → TV
  | .any rs => .any rs
  | .t τ o x => .t τ (lo o) x
  | .clp τ x => .clp τ x
  | .empty o => .empty (lo o)
  | .val v => .val v
  | .agg l => .agg (loosenL l)
  | .tuple l => .tuple (loosenL l)
  | .fn g a b => .fn g (loosenL a) (loosenL b)
  | .ptr r o => .ptr r o
  | .cptr l => .cptr (loosenL l)
  | .iface t v => .iface t v.loosen
def loosenL : List TV → List TV
  | [] => []
  | v :: l => v.loosen :: loosenL l
end

mutual
def TV.ptrs : TV → List Root
  | .any rs => rs
  | .ptr r _ => [r]
  | .cptr cs => ptrsTL cs
  | .fn _ a b => ptrsTL a ++ ptrsTL b
  | .iface _ v => v.ptrs
  | .agg l => ptrsTL l
  | .tuple l => ptrsTL l
  | _ => []
def ptrsTL : List TV → List Root
  | [] => []
  | v :: l => v.ptrs ++ ptrsTL l
end

mutual
/-- may it hold an owner? -/
def TV.owns : TV → Bool
  | .any _ => true
  | .t τ o _ => (isOwn o || decide (o = 2000)) && decide (0 < τ.depth)
  | .empty o => isOwn o || decide (o = 2000)
  | .fn _ a b => ownsTL a || ownsTL b
  | .cptr l => ownsTL l
  | .iface _ v => v.owns
  | .agg l => ownsTL l
  | .tuple l => ownsTL l
  | _ => false
def ownsTL : List TV → Bool
  | [] => false
  | v :: l => v.owns || ownsTL l
end

mutual
/-- is all of it known? -/
def TV.known : TV → Bool
  | .any _ => false
  | .fn _ a b => knownL a && knownL b
  | .cptr l => knownL l
  | .iface _ v => v.known
  | .agg l => knownL l
  | .tuple l => knownL l
  | _ => true
def knownL : List TV → Bool
  | [] => true
  | v :: l => v.known && knownL l
end

mutual
/-- surely without elements that somebody may write -/
def TV.firm : TV → Bool
  | .any _ => false
  | .t τ o _ => sure o τ.depth
  | .clp _ _ => false
  | .fn _ a b => firmL a && firmL b
  | .cptr _ => false
  | .iface _ v => v.firm
  | .agg l => firmL l
  | .tuple l => firmL l
  | _ => true
def firmL : List TV → Bool
  | [] => true
  | v :: l => v.firm && firmL l
end
mutual
/-- surely without anything that belongs to others -/
def TV.tight : TV → Bool
  | .any _ => false
  | .t τ o _ => sure o τ.depth
  | .empty o => sure o 1
  | .clp _ _ => false
  | .fn _ a b => tightL a && tightL b
  | .cptr _ => false
  | .iface _ v => v.tight
  | .agg l => tightL l
  | .tuple l => tightL l
  | _ => true
def tightL : List TV → Bool
  | [] => true
  | v :: l => v.tight && tightL l
end
def TV.isAny : TV → Bool
  | .any _ => true
  | _ => false
def TV.hard (x : TV) : TV := if x.firm then x else .any x.ptrs

mutual
def ofTy : (τ : Ty) → Nat → τ.den → TV
  | .unit, _, _ => .agg []
  | .pair a b, o, x => .agg (ofTy a o x.1 :: ofTyC b o x.2)
  | .int k, o, x => .t (.int k) o x
  | .bool, o, x => .t .bool o x
  | .str, o, x => .t .str o x
  | .sl t, o, x => .t (.sl t) o x
def ofTyC : (τ : Ty) → Nat → τ.den → List TV
  | .pair a b, o, x => ofTy a o x.1 :: ofTyC b o x.2
  | _, _, _ => []
end

def cast' {τ τ' : Ty} (h : τ' = τ) (x : τ'.den) : τ.den := h ▸ x
def asTy : (τ : Ty) → Nat → TV → Option τ.den
  | .unit, _, .agg [] => some ()
  | .pair a b, o, .agg (v :: l) => (asTy a o v).bind fun x => (asTy b o (.agg l)).bind fun y => some (x, y)
  | .sl _, o, .empty o' => if fits 1 o' o = true then some [] else none
  | τ, o, .t τ' o' x => if h : τ' = τ then (if fits τ.depth o' o = true then some (cast' h x) else none) else none
  | _, _, _ => none

@[reducible] def denL : List Ty → Type
  | [] => Unit
  | [τ] => τ.den
  | τ :: τ' :: l => τ.den × denL (τ' :: l)
def asL : (ps : List (Ty × Nat)) → List TV → Option (denL (ps.map (·.1)))
  | [], [] => some ()
  | [(τ, o)], [v] => asTy τ o v
  | (τ, o) :: q :: ps, v :: l => (asTy τ o v).bind fun x => (asL (q :: ps) l).bind fun y => some (x, y)
  | _, _ => none
def ofL : (ps : List (Ty × Nat)) → denL (ps.map (·.1)) → List TV
  | [], _ => []
  | [(τ, o)], x => [ofTy τ o x]
  | (τ, o) :: q :: ps, x => ofTy τ o x.1 :: ofL (q :: ps) x.2

/-! what the typed functions are made of -/
def idx {α : Type} (l : List α) (n : Int) : Option α := if 0 ≤ n then l[n.toNat]? else none
def app {α : Type} (l l2 : List α) : Option (List α) := if l.length + l2.length ≤ 4294967296 then some (l ++ l2) else none
def slc {α : Type} (l : List α) (lo hi : Int) : Option (List α) := if 0 ≤ lo ∧ lo ≤ hi ∧ hi ≤ l.length then some ((l.take hi.toNat).drop lo.toNat) else none
def mkS {α : Type} (z : α) (n : Int) : Option (List α) := if 0 ≤ n ∧ n ≤ 4294967296 then some (List.replicate n.toNat z) else none
/-- a loop: as long as it says so it goes on; none if it never ends, or fails -/
def loopN {σ ρ : Type} (f : σ → Option (σ ⊕ ρ)) : Nat → σ → Option ρ
  | 0, _ => none
  | n + 1, s => match f s with
    | some (.inl s') => loopN f n s'
    | some (.inr r) => some r
    | none => none
open Classical in
noncomputable def loopO {σ ρ : Type} (f : σ → Option (σ ⊕ ρ)) (s : σ) : Option ρ :=
  if h : ∃ n r, loopN f n s = some r then some (Classical.choose (Classical.choose_spec h)) else none

abbrev TLevel := List (Nat × Option (List TV))
structure TSt where
  E : Env
  L : List TLevel
  B : TLevel
  /-- what was written: temporaries, boxes -/
  Wt : Mask
  Wb : List Root

def lookT : TLevel → Nat → Option (Option (List TV))
  | [], _ => none
  | (k, c) :: l, s => if k = s then some c else lookT l s
def setT : TLevel → Nat → Option (List TV) → TLevel
  | [], _, _ => []
  | (k, c) :: l, s, c' => if k = s then (k, c') :: l else (k, c) :: setT l s c'
def TSt.box (st : TSt) (r : Root) : Option (List TV) :=
  match if r.lvl = st.L.length then lookT st.B r.slot else match st.L[r.lvl]? with | some b => lookT b r.slot | none => none with
  | some (some c) => some c
  | _ => none
def TSt.setBox (st : TSt) (r : Root) (c : List TV) : TSt :=
  if r.lvl = st.L.length then { st with B := setT st.B r.slot (some c), Wb := r :: st.Wb }
  else { st with L := st.L.modify r.lvl fun b => setT b r.slot (some c), Wb := r :: st.Wb }
noncomputable def TSt.put (st : TSt) (d : Option Tmp) (v : TV) : TSt :=
  match d with
  | some t => { st with E := st.E.set t v, Wt := Mask.ins t st.Wt }
  | none => st

def zeroTV (precise : Bool) : Value → TV
  | .int k n => .t (.int k) 0 n
  | .bool b => .t .bool 0 b
  | .string s => .t .str 0 s.data.toList
  | .slice none 0 0 => if precise then .val (.slice none 0 0) else .empty 1
  | v => .val v
def constTV (precise : Bool) : Value → TV
  | .agg cs => .agg (cs.toList.map (zeroTV precise))
  | v => zeroTV precise v

structure Place where
  /-- none: a temporary; else the box's level -/
  lvl : Option Nat
  slot : Nat
  cell : Nat
/-- where ways meet again: what goes on typed, what is forgotten -/
structure Join where
  lv : List Place
  ps : List (Ty × Nat)
  abn : Bool := false
  /-- temporaries and boxes that are forgotten; what boxes these may point to -/
  D : Mask
  wr : List Root := []
  rs : List Root := []

inductive Kind where
  | loop (id : Nat) | block (id : Nat) | cond (t : Tmp) | region (id : Nat) | inl (d : Tmp)
  deriving DecidableEq
/-- where joins are; which calls are run in place (some true: with a join of what they give) -/
structure TH where
  /-- library functions: never run in place -/
  lib : FuncId → Bool := fun _ => false
  join : List Tmp → FuncId → Kind → Option Join
  inl : List Tmp → FuncId → Tmp → Bool

/-- called functions -/
abbrev CallT := FuncId → List TV → (R : Type) → (TV → Option R) → Option R

section
variable (P : Program) (H : Hints) (f : FuncId)

def cellsTy : Nat → TypeId → Option (List Ty)
  | 0, _ => none
  | d + 1, t => match P.underlying t with
    | some (.int k) => some [.int k]
    | some .bool => some [.bool]
    | some .string => some [.str]
    | some (.slice e) => match cellsTy d e, P.underlying e with
      | some cs, some (.struct _) => some [.sl (cs.foldr .pair .unit)]
      | some cs, some (.array ..) => some [.sl (cs.foldr .pair .unit)]
      | some [τ], _ => some [.sl τ]
      | _, _ => none
    | some (.struct fields) => (fields.toList.mapM fun fd => cellsTy d fd.type).map List.flatten
    | some (.array n e) => (cellsTy d e).map fun cs => (List.replicate n cs).flatten
    | _ => none
def tyOf (t : TypeId) : Option Ty :=
  match cellsTy P 10 t with
  | some cs => if isAggT P t then some (cs.foldr .pair .unit) else cs.head?
  | none => none

def ofCellsT (t : TypeId) (cs : List TV) : Option TV :=
  match P.underlying t with
  | none => none
  | some _ => if isAggT P t then (if P.cellsOf t ≤ cs.length then some (.agg (cs.take (P.cellsOf t))) else none) else cs.head?
def zeroT (t : TypeId) : Option TV := ((P.info? t).bind (·.zero)).map (constTV (H.precise f))

def spliceT (cs : List TV) (off : Nat) (vs : List TV) : List TV := cs.take off ++ vs ++ cs.drop (off + vs.length)
def fillT (place : Nat → Option (Nat × Nat)) (cs : List TV) : List (Nat × TV) → Option (List TV)
  | [] => some cs
  | (i, v) :: rest =>
    match place i with
    | none => none
    | some (off, size) => if v.cells.length ≠ size ∨ off + v.cells.length > cs.length ∨ v.oks = false then none else fillT place (spliceT cs off v.cells) rest
def tbuild (t : TypeId) (parts : List (Nat × TV)) : Option TV :=
  match zeroT P H f t, P.underlying t with
  | some z, some (.struct fields) =>
    match fields.toList.mapM (fun f => (P.info? f.type).map fun i => (f.offset, i.size)) with
    | some places => (fillT (places.toArray[·]?) z.cells parts).map .agg
    | none => none
  | some z, some (.array _ elem) =>
    match P.info? elem with
    | some ie => (fillT (fun i => some (i * ie.size, ie.size)) z.cells parts).map .agg
    | none => none
  | _, _ => none
def chunkT (agg : Bool) (s : Nat) : Nat → List TV → List TV
  | 0, _ => []
  | n + 1, cs => (if agg then .agg (cs.take s) else cs.headD (.any [])) :: chunkT agg s n (cs.drop s)

mutual
/-- the level of ownership of the slices in it: as its first slice has it -/
def TV.lev : TV → Option Nat
  | .t τ o _ => if τ.depth = 0 then none else some (nf o τ.depth)
  | .empty o => if isOwn o then none else some o
  | .agg l => levL l
  | _ => none
def levL : List TV → Option Nat
  | [] => none
  | v :: l => match v.lev with
    | some n => some n
    | none => levL l
end
mutual
def TV.hasEmpty : TV → Bool
  | .empty _ => true
  | .agg l => hasEmptyL l
  | _ => false
def hasEmptyL : List TV → Bool
  | [] => false
  | v :: l => v.hasEmpty || hasEmptyL l
end
def levOf (l : List TV) : Nat := (levL l).getD (if hasEmptyL l then 1 else 0)
def asAll (τ : Ty) (o : Nat) : List TV → Option (List τ.den)
  | [] => some []
  | v :: l => (asTy τ o v).bind fun x => (asAll τ o l).bind fun y => some (x :: y)

def tbuildSlice (t : TypeId) (len : Nat) (parts : List (Nat × TV)) : Option TV :=
  match P.underlying t with
  | some (.slice elem) =>
    match P.info? elem, zeroT P H f elem, tyOf P elem with
    | some ie, some z, some τ =>
      if ie.size = 0 ∨ (isAggT P elem = false ∧ ie.size ≠ 1) ∨ z.cells.length ≠ ie.size ∨ len * ie.size > 16777216 ∨ τ.ok = false ∨ τ.elemOk = false then none else
      match fillT (fun i => some (i * ie.size, ie.size)) ((List.replicate len z.cells).flatten) parts with
      | some cs => if cs.all TV.one && (ptrsTL cs).isEmpty && isOwn (levOf (chunkT (isAggT P elem) ie.size len cs) + 1) then
          (asAll τ (levOf (chunkT (isAggT P elem) ie.size len cs)) (chunkT (isAggT P elem) ie.size len cs)).map fun l => .t (.sl τ) (levOf (chunkT (isAggT P elem) ie.size len cs) + 1) l else none
      | none => none
    | _, _, _ => none
  | _ => none

def tfield (t : TypeId) (x : TV) (fd : Nat) : Option TV :=
  match P.underlying t, x with
  | some (.struct fields), .agg cs =>
    match fields[fd]? with
    | some d => ofCellsT P d.type (cs.drop d.offset)
    | none => none
  | _, _ => none
def tfieldAddr (t : TypeId) (x : TV) (fd : Nat) : Option TV :=
  match P.underlying t with
  | some (.struct fields) =>
    match fields[fd]? with
    | some d => if P.cellsOf d.type = 0 then none else
      match x with
      | .ptr r off => some (.ptr r (off + d.offset))
      | .cptr cs => if d.offset ≤ cs.length then some (.cptr (cs.drop d.offset)) else none
      | _ => none
    | none => none
  | _ => none

/-- by the value of an index below n -/
def upTo (R : Type) (i : Int) (k : Nat → Option R) : Nat → Nat → Option R
  | 0, _ => none
  | n + 1, j => bif decide (i = (j : Int)) then k j else upTo R i k n (j + 1)
/-- a part of an array: the cells, or where they lie -/
def tindex (elem : TypeId) (len : Nat) (cs : List TV) (i : Int) (R : Type) (k : TV → Option R) : Option R :=
  if P.cellsOf elem = 0 then none else
  upTo R i (fun j => match ofCellsT P elem (cs.drop (j * P.cellsOf elem)) with
    | some v => k v
    | none => none) len 0
def tindexAddr (t : TypeId) (x : TV) (i : Int) (R : Type) (k : TV → Option R) : Option R :=
  match P.underlying t, x with
  | some (.array len elem), .ptr r off => if P.cellsOf elem = 0 then none else upTo R i (fun j => k (.ptr r (off + j * P.cellsOf elem))) len 0
  | some (.array len elem), .cptr cs => if P.cellsOf elem = 0 then none else upTo R i (fun j => if j * P.cellsOf elem ≤ cs.length then k (.cptr (cs.drop (j * P.cellsOf elem))) else none) len 0
  | some (.slice elem), .t (.sl τ) o l => if P.cellsOf elem = τ.ncells ∧ τ.ncells ≠ 0 ∧ τ.ok = true ∧ τ.elemOk = true then (idx l i).bind fun e => k (.cptr (ofTy τ (dl (nx o)) e).cells) else none
  | some (.slice elem), .clp τ l => if P.cellsOf elem = τ.ncells ∧ τ.ncells ≠ 0 ∧ τ.ok = true ∧ τ.elemOk = true then (idx l i).bind fun e => k (.cptr (ofTy τ 0 e).cells) else none
  | _, _ => none

def tint : TV → Option Int
  | .t (.int _) _ n => some n
  | _ => none
/-- x[lo:hi:mx] of a slice, within its length -/
def tslice (t : TypeId) (x : TV) (lo hi mx : Option TV) (R : Type) (k : TV → Option R) : Option R :=
  let lo' : Option Int := match lo with | none => some 0 | some v => tint v
  match P.underlying t, x with
  | some (.slice elem), .t (.sl τ) o l =>
    if isOwn o = true ∨ o = 2000 ∨ P.cellsOf elem = 0 ∨ P.cellsOf elem ≠ τ.ncells ∨ τ.ok = false ∨ τ.elemOk = false then none else
    match lo', (match hi with | none => some (l.length : Int) | some v => tint v) with
    | some a, some b =>
      match mx with
      | none => (slc l a b).bind fun l' => k (.t (.sl τ) o l')
      | some m => match tint m with
        | some c => if hi.isSome then (slc l a b).bind fun l' => bif decide (c = b) then k (.clp τ l') else none else none
        | none => none
    | _, _ => none
  | some (.slice elem), .empty o =>
    if isOwn o = true ∨ o = 2000 ∨ P.cellsOf elem = 0 then none else
    match lo', (match hi with | none => some 0 | some v => tint v), mx with
    | some a, some b, none => bif decide (a = 0) && decide (b = 0) then k (.empty o) else none
    | _, _, _ => none
  | some .string, .t .str _ s =>
    match lo', (match hi with | none => some (s.length : Int) | some v => tint v), mx with
    | some a, some b, none => (slc s a b).bind fun l' => k (.t .str 0 l')
    | _, _, _ => none
  | _, _ => none

def tmakeSlice (t : TypeId) (len cap : TV) (R : Type) (k : TV → Option R) : Option R :=
  match P.underlying t with
  | some (.slice elem) =>
    match zeroT P H f elem, tyOf P elem, tint len, tint cap with
    | some z, some τ, some n, some c =>
      if P.cellsOf elem ≠ 0 ∧ z.cells.length = P.cellsOf elem ∧ z.oks = true ∧ P.bytesOf elem ≤ 8192 ∧ τ.ok = true ∧ τ.elemOk = true ∧ isOwn (levOf [z] + 1) = true then
        match asTy τ (levOf [z]) z with
        | some x => (mkS x n).bind fun l => bif decide (c = n) then k (.t (.sl τ) (levOf [z] + 1) l) else none
        | none => none
      else none
    | _, _, _, _ => none
  | _ => none

/-- what is appended: its elements' type, level, list -/
def tail? (yt : TypeDesc) : TV → Option (Σ τ : Ty, Nat × List τ.den)
  | .t (.sl τ) o l => match yt with
    | .slice _ => some ⟨τ, (nx o, l)⟩
    | _ => none
  | .clp τ l => match yt with
    | .slice _ => some ⟨τ, (0, l)⟩
    | _ => none
  | .t .str _ s => match yt with
    | .string => some ⟨.int .u8, (0, s.map fun c => (c.toNat : Int))⟩
    | _ => none
  | _ => none
def tappend (argTypes : Array TypeId) (x y : TV) (R : Type) (k : TV → Option R) : Option R :=
  match (argTypes[0]?).bind P.underlying, (argTypes[1]?).bind P.underlying with
  | some (.slice elem), some yt =>
    match y with
    | .empty _ => (match yt, x with
      | .slice _, .t (.sl τ) o l => if isOwn o = true ∧ τ.ncells = P.cellsOf elem ∧ P.cellsOf elem ≠ 0 ∧ ((P.info? elem).bind (·.zero)).map (fun z => z.cells.size) = some (P.cellsOf elem) ∧ P.bytesOf elem ≤ 8192 ∧ τ.ok = true ∧ τ.elemOk = true then (app l []).bind fun l' => k (.t (.sl τ) o l') else none
      | .slice _, .empty o => if isOwn o = true ∧ P.cellsOf elem ≠ 0 ∧ ((P.info? elem).bind (·.zero)).map (fun z => z.cells.size) = some (P.cellsOf elem) ∧ P.bytesOf elem ≤ 8192 then k (.empty o) else none
      | _, _ => none)
    | y => match tail? yt y with
    | none => none
    | some ⟨τ, (o2, l2)⟩ =>
      if τ.ncells = P.cellsOf elem ∧ P.cellsOf elem ≠ 0 ∧ ((P.info? elem).bind (·.zero)).map (fun z => z.cells.size) = some (P.cellsOf elem) ∧ P.bytesOf elem ≤ 8192 ∧ τ.ok = true ∧ τ.elemOk = true then
        match x with
        | .t (.sl τ') o l => if h : τ' = τ then (if isOwn o = true ∧ fits τ.depth o2 (nx o) = true then (app (cast' (congrArg Ty.sl h) l : (Ty.sl τ).den) l2).bind fun l' => k (.t (.sl τ) o l') else none) else none
        | .empty o => if isOwn o = true ∧ isOwn (o2 + 1) = true then (app [] l2).bind fun l' => k (.t (.sl τ) (o2 + 1) l') else none
        | .clp τ' l => if h : τ' = τ then (if τ.depth = 0 ∨ (isOwn o2 = false ∧ o2 ≠ 2000) then (match l2 with
            | [] => none
            | e :: l3 => (app (cast' (congrArg Ty.sl h) l : (Ty.sl τ).den) (e :: l3)).bind fun l' => k (.t (.sl τ) 1 l')) else none) else none
        | _ => none
      else none
  | _, _ => none

def scal : TV → Bool
  | .t (.int _) _ _ | .t .bool _ _ | .t .str _ _ => true
  | _ => false
/-- equality of numbers, bools, strings, and structs of such -/
def teq : Nat → TypeId → TV → TV → Option Bool
  | 0, _, _, _ => none
  | d + 1, t, x, y => match P.underlying t, x, y with
    | some (.int _), .t (.int k) _ a, .t (.int k') _ b => if k = k' then some (decide (a = b)) else none
    | some .bool, .t .bool _ a, .t .bool _ b => some (a == b)
    | some .string, .t .str _ a, .t .str _ b => some (decide (a = b))
    | some (.struct fields), .agg xs, .agg ys => if P.stoodInHeld t then none else
      fields.toList.foldr (fun fd acc => if fd.name = "_" then none else
        match ofCellsT P fd.type (xs.drop fd.offset), ofCellsT P fd.type (ys.drop fd.offset), acc with
        | some u, some v, some b => (teq d fd.type u v).map fun a => bif a then b else false
        | _, _, _ => none) (some true)
    | _, _, _ => none

def notNilT : TypeDesc → TV → TV → Bool
  | .pointer _, .ptr .., .val (.pointer none) => true
  | .pointer _, .cptr _, .val (.pointer none) => true
  | .func .., .fn .., .val .nilFunc => true
  | _, _, _ => false
def isNilT : TypeDesc → TV → TV → Bool
  | .slice _, .val (.slice none 0 0), .val (.slice none 0 0) => true
  | .pointer _, .val (.pointer none), .val (.pointer none) => true
  | .func .., .val .nilFunc, .val .nilFunc => true
  | _, _, _ => false

def tbin (op : BinOp) (t : TypeId) (x y : TV) (R : Type) (k : TV → Option R) : Option R :=
  match x, y with
  | .t (.int k1) _ a, .t (.int k2) _ b =>
    match op with
    | .shl | .shr => none
    | _ => if k1 = k2 then (match op with
      | .add => k (.t (.int k1) 0 (k1.wrap (a + b)))
      | .sub => k (.t (.int k1) 0 (k1.wrap (a - b)))
      | .mul => k (.t (.int k1) 0 (k1.wrap (a * b)))
      | .quo => bif decide (b = 0) then none else k (.t (.int k1) 0 (k1.wrap (a.tdiv b)))
      | .rem => bif decide (b = 0) then none else k (.t (.int k1) 0 (a.tmod b))
      | .eql => k (.t .bool 0 (decide (a = b)))
      | .neq => k (.t .bool 0 (!decide (a = b)))
      | .lss => k (.t .bool 0 (decide (a < b)))
      | .leq => k (.t .bool 0 (decide (a ≤ b)))
      | .gtr => k (.t .bool 0 (decide (a > b)))
      | .geq => k (.t .bool 0 (decide (a ≥ b)))
      | _ => none) else none
  | .t .str _ a, .t .str _ b =>
    match op with
    | .eql => k (.t .bool 0 (decide (a = b)))
    | .neq => k (.t .bool 0 (!decide (a = b)))
    | .lss => k (.t .bool 0 (Op.bytesLess a b))
    | .add => (app a b).bind fun l => k (.t .str 0 l)
    | _ => none
  | .t .bool _ a, .t .bool _ b =>
    match P.underlying t, op with
    | some .bool, .eql => k (.t .bool 0 (a == b))
    | some .bool, .neq => k (.t .bool 0 (!(a == b)))
    | _, _ => none
  | .agg l, .agg l' => if P.eqGuardType P.depth t || !(l.all scal && l'.all scal) then none else (match teq P 9 t (.agg l) (.agg l') with
    | some b => (match op with
      | .eql => k (.t .bool 0 b)
      | .neq => k (.t .bool 0 (!b))
      | _ => none)
    | none => none)
  | .t (.sl τ) _ (e :: l), .val (.slice none 0 0) =>
    match P.underlying t with
    | some (.slice _) => (match op with
      | .eql => k (.t .bool 0 false)
      | .neq => k (.t .bool 0 true)
      | _ => none)
    | _ => none
  | x, y => match P.underlying t with
    | some d =>
      if notNilT d x y then (match op with
      | .eql => k (.t .bool 0 false)
      | .neq => k (.t .bool 0 true)
      | _ => none)
      else if isNilT d x y then (match op with
      | .eql => k (.t .bool 0 true)
      | .neq => k (.t .bool 0 false)
      | _ => none)
      else none
    | none => none

def tun (op : UnOp) (x : TV) : Option TV :=
  match op, x with
  | .not, .t .bool _ b => some (.t .bool 0 (!b))
  | .neg, .t (.int k) _ n => some (.t (.int k) 0 (k.wrap (0 - n)))
  | _, _ => none

def tconv (src dst : TypeId) (x : TV) : Option TV :=
  match P.underlying src, P.underlying dst, x with
  | some _, some (.int k), .t (.int _) _ n => some (.t (.int k) 0 (k.wrap n))
  | some _, some .string, .t .str _ s => some (.t .str 0 s)
  | _, _, _ => none

def tints (k : IntKind) : List TV → Option (List Int)
  | [] => some []
  | .t (.int k') _ n :: l => if k = k' then (tints k l).map (n :: ·) else none
  | _ => none
def tbuiltin (b : Builtin) (argTypes : Array TypeId) (xs : List TV) (R : Type) (k : TV → Option R) : Option R :=
  match b, xs with
  | .len, [.t (.sl _) _ l] => match (argTypes[0]?).bind P.underlying with
    | some (.slice _) => k (.t (.int .i64) 0 (l.length : Int))
    | _ => none
  | .len, [.clp _ l] => match (argTypes[0]?).bind P.underlying with
    | some (.slice _) => k (.t (.int .i64) 0 (l.length : Int))
    | _ => none
  | .len, [.empty _] => match (argTypes[0]?).bind P.underlying with
    | some (.slice _) => k (.t (.int .i64) 0 0)
    | _ => none
  | .len, [.t .str _ s] => match (argTypes[0]?).bind P.underlying with
    | some .string => k (.t (.int .i64) 0 (s.length : Int))
    | _ => none
  | .append, [x, y] => tappend P argTypes x y R k
  | .max, .t (.int kk) _ n :: xs => match tints kk xs with
    | some l => k (.t (.int kk) 0 (l.foldl max n))
    | none => none
  | .min, .t (.int kk) _ n :: xs => match tints kk xs with
    | some l => k (.t (.int kk) 0 (l.foldl min n))
    | none => none
  | _, _ => none

/-- what an operation gives that touches at most one box: its value, and what the box then holds -/
def topSem (tk : Bool) (o : Op) (xs : List TV) (bx : Option (List TV)) (R : Type) (k : TV → Option (List TV) → Option R) : Option R :=
  let v (x : Option TV) : Option R := match x with
    | some x => k x none
    | none => none
  match o, xs with
  | .move _, [x] | .assign _, [x] => k x none
  | .pick .., [.t .bool _ c, a, b] => bif c then k a none else k b none
  | .build t parts, xs => v (tbuild P H f t (parts.toList.map (·.1) |>.zip xs))
  | .buildSlice t len parts, xs => v (tbuildSlice P H f t len (parts.toList.map (·.1) |>.zip xs))
  | .load t _, [.cptr cs] => v ((ofCellsT P t cs).map TV.dull)
  | .load t _, [.ptr _ off] => match bx with
    | some cs => if tk then (match ofCellsT P t (cs.drop off) with
        | some x => k x (some (spliceT cs off (dullL ((cs.drop off).take (if isAggT P t then P.cellsOf t else 1)))))
        | none => none)
      else v ((ofCellsT P t (cs.drop off)).map TV.dull)
    | none => none
  | .store t _ _, [.ptr _ off, x] => match bx with
    | some cs => if P.cellsOf t ≠ 0 ∧ x.cells.length = P.cellsOf t ∧ off + x.cells.length ≤ cs.length ∧ x.oks = true then k (.any []) (some (spliceT cs off x.cells)) else none
    | none => none
  | .nilCheck _, [.ptr r off] => k (.ptr r off) none
  | .nilCheck _, [.cptr cs] => k (.cptr cs) none
  | .nilCheck _, [.fn g a b] => k (.fn g a b) none
  | .binOp op t _ _ _, [x, y] => tbin P op t x y R fun x => k x none
  | .unOp op _ _, [x] => v (tun op x)
  | .convert src dst _, [x] => v (tconv P src dst x)
  | .makeFunc (.func g) first _, xs => k (.fn g (xs.take first.size) (xs.drop first.size)) none
  | .makeSlice t _ _, [l, c] => tmakeSlice P H f t l c R fun x => k x none
  | .slice t _ lo hi mx, x :: rest =>
    let r1 := if lo.isSome then rest.tail else rest
    let r2 := if hi.isSome then r1.tail else r1
    tslice P t x (if lo.isSome then rest.head? else none) (if hi.isSome then r1.head? else none) (if mx.isSome then r2.head? else none) R fun x => k x none
  | .fieldAddr t _ fd, [x] => v (tfieldAddr P t x fd)
  | .field t _ fd, [x] => v (tfield P t x fd)
  | .indexAddr t _ _, [x, .t (.int _) _ i] => tindexAddr P t x i R fun x => k x none
  | .index t _ _, [x, .t (.int _) _ i] => (match P.underlying t, x with
    | some (.array len elem), .agg cs => tindex P elem len cs i R fun x => k x none
    | some .string, .t .str _ s => (idx s i).bind fun b => k (.t (.int .u8) 0 (b.toNat : Int)) none
    | _, _ => none)
  | .extract _ i, [.tuple l] => v l[i]?
  | .call { callee := .builtin b, argTypes, .. }, xs => tbuiltin P b argTypes xs R fun x => k x none
  | _, _ => none

noncomputable def rdT (o : Oper) (E : Env) : Operand → TV
  | .tmp t => if takes H f o then E.get t else (E.get t).dull
  | .const v => constTV (H.precise f || preciseOp o.op) v
  | .func g => .fn g [] []
  | .global _ => .any []
noncomputable def dullAtT (E : Env) (ts : List Tmp) : Env := ts.foldl (fun E t => E.set t (E.get t).dull) E
def rootOfT : Op → List TV → Option Root
  | .load .., .ptr r _ :: _ => some r
  | .store .., .ptr r _ :: _ => some r
  | _, _ => none
def rangeOfT : Op → List TV → Nat × Nat
  | .load t _, .ptr _ off :: _ => (off, if isAggT P t then P.cellsOf t else 1)
  | .store .., [.ptr _ off, x] => (off, x.cells.length)
  | _, _ => (0, 0)
def wptrsT : Op → List TV → List Root
  | .store .., [_, x] => x.ptrs
  | _, _ => []
def pureCallT : TV → List TV → Bool
  | .fn _ first cap, args => (ptrsTL (first ++ args ++ cap)).isEmpty
  | _, _ => false
end

/-! ### joins -/
noncomputable def TSt.get (st : TSt) (p : Place) : TV :=
  match p.lvl with
  | none => st.E.get p.slot
  | some l => match st.box ⟨l, p.slot⟩ with
    | some cs => cs.getD p.cell (.any [])
    | none => .any []
def subset (l m : List Root) : Bool := l.all fun r => m.contains r
def Place.isIn (lv : List Place) (l : Option Nat) (s c : Nat) : Bool := lv.any fun p => decide (p.lvl = l) && decide (p.slot = s) && decide (p.cell = c)
/-- all that is forgotten may be -/
noncomputable def TSt.forgets (st : TSt) (j : Join) : Bool :=
  (st.E.all fun t v => Bool.rec (motive := fun _ => Bool) true (Place.isIn j.lv none t 0 || subset v.ptrs j.rs) (j.D.has t)) &&
  (j.wr.all fun r => match st.box r with
    | some cs => (List.range cs.length).all fun i => Place.isIn j.lv (some r.lvl) r.slot i || subset (cs.getD i (.any [])).ptrs j.rs
    | none => true)
/-- what was written is what may be forgotten -/
def TSt.wrote (st : TSt) (j : Join) : Bool := st.Wt.sub j.D && (st.Wb.all fun r => j.wr.contains r || decide (st.L.length < r.lvl))
def anyB (rs : List Root) (b : TLevel) (s : Nat) : TLevel :=
  match lookT b s with
  | none => (s, none) :: b
  | some none => b
  | some (some cs) => setT b s (some (cs.map fun _ => .any rs))
def TSt.forget (st : TSt) (rs : List Root) (r : Root) : TSt :=
  if r.lvl = st.L.length then { st with B := anyB rs st.B r.slot } else { st with L := st.L.modify r.lvl fun b => anyB rs b r.slot }
noncomputable def TSt.setPlace (st : TSt) (p : Place) (v : TV) : TSt :=
  match p.lvl with
  | none => { st with E := st.E.set p.slot v }
  | some l => match st.box ⟨l, p.slot⟩ with
    | some cs => { st.setBox ⟨l, p.slot⟩ (cs.set p.cell v) with Wb := st.Wb }
    | none => st
noncomputable def setPlaces (st : TSt) : List Place → List TV → TSt
  | p :: ps, v :: vs => setPlaces (st.setPlace p v) ps vs
  | _, _ => st
/-- behind a join: what is forgotten, what goes on -/
noncomputable def TSt.rebuild (st : TSt) (j : Join) (vs : List TV) : TSt :=
  setPlaces { j.wr.foldl (fun st r => st.forget j.rs r) { st with E := forgetM j.D j.rs st.E } with Wt := j.D ++ st.Wt, Wb := j.wr ++ st.Wb } j.lv vs
def TSt.fresh (st : TSt) : TSt := { st with Wt := .empty, Wb := [] }
def TSt.merge (st st0 : TSt) : TSt := { st with Wt := st.Wt ++ st0.Wt, Wb := st.Wb ++ st0.Wb }
/-- boxes that are forgotten have as many cells as they had -/
def TSt.like (st st0 : TSt) (j : Join) : Bool := j.wr.all fun r => match st0.box r with
  | some cs => (match st.box r with
    | some cs2 => decide (cs2.length = cs.length)
    | none => false)
  | none => true
noncomputable def TSt.outs (st st0 : TSt) (j : Join) : Option (denL (j.ps.map (·.1))) :=
  if st.forgets j && st.wrote j && st.like st0 j then asL j.ps (j.lv.map st.get) else none

noncomputable def joinT (j : Option Join) (st : TSt) (run : TSt → (R : Type) → (Ex → TSt → Option R) → Option R) (R : Type) (k : Ex → TSt → Option R) : Option R :=
  match j with
  | none => run st R k
  | some j =>
    if j.abn then
      (run st.fresh (denL (j.ps.map (·.1)) ⊕ R) fun e st2 => match e with
        | .normal => (st2.outs st j).map .inl
        | e => (k e (st2.merge st)).map .inr).bind (Sum.elim (fun x => k .normal (st.rebuild j (ofL j.ps x))) some)
    else
      (run st.fresh (denL (j.ps.map (·.1))) fun e st2 => match e with
        | .normal => st2.outs st j
        | _ => none).bind fun x => k .normal (st.rebuild j (ofL j.ps x))

/-! ### the clearing at a loop's head -/
def clearTB (D : List Tmp) : TLevel → TLevel
  | [] => []
  | (k, c) :: l => if D.contains k then clearTB D l else (k, c) :: clearTB D l
noncomputable def clearTE (D : List Tmp) (E : Env) : Env := forgetM (Mask.ofList D) [] E
def ptrsTB : TLevel → List Root
  | [] => []
  | (_, some c) :: l => ptrsTL c ++ ptrsTB l
  | (_, none) :: l => ptrsTB l
def fullB : TLevel → Bool
  | [] => true
  | (_, c) :: l => c.isSome && fullB l
def goneB (D : List Tmp) (n : Nat) : TLevel → List Root
  | [] => []
  | (k, _) :: l => if D.contains k then ⟨n, k⟩ :: goneB D n l else goneB D n l
noncomputable def TSt.clear (D : List Tmp) (st : TSt) : Option TSt :=
  let E := clearTE D st.E
  let B := clearTB D st.B
  if decide (B.length = st.B.length) || ((E.all fun _ v => okPtrs st.L.length D v.ptrs) && okPtrs st.L.length D (ptrsTB B) && fullB B) then some { st with E, B, Wt := Mask.ofList D ++ st.Wt, Wb := goneB D st.L.length st.B ++ st.Wb } else none

structure TOrc where
  call : List Tmp → FuncId → List TV → List TLevel → (R : Type) → (TV → List TLevel → List Root → Option R) → Option R
  code : List Tmp → FuncId → Nat → Code → TSt → (R : Type) → (Ex → TSt → Option R) → Option R

def lastSplitT : List TLevel → Option (List TLevel × TLevel)
  | [] => none
  | [b] => some ([], b)
  | b :: c :: l => (lastSplitT (c :: l)).map fun (x, y) => (b :: x, y)

section
variable (P : Program) (H : Hints) (J : TH) (T : CallT) (O : TOrc) (ctx : List Tmp) (f : FuncId)

noncomputable def callVT (d : Tmp) (fv : TV) (args : List TV) (st : TSt) (R : Type) (k : TV → TSt → Option R) : Option R :=
  match fv with
  | .fn g first cap =>
    if knownL (first ++ args ++ cap) then
      (if (ptrsTL (first ++ args ++ cap)).isEmpty then
        (if J.inl ctx f d then O.call (d :: ctx) g (shareL (first ++ args ++ cap)) [] R fun r M _ => match M with
          | [] => k (if tightL (first ++ args ++ cap) then r else r.loosen) st
          | _ => none
        else T g (shareL (first ++ args ++ cap)) R fun r => k (if tightL (first ++ args ++ cap) then r else r.loosen) st)
      else O.call (d :: ctx) g (dullL (first ++ args ++ cap)) (st.L ++ [st.B]) R fun r M wb => match lastSplitT M with
        | some (L, B) => if L.length = st.L.length then k r { st with L, B, Wb := wb ++ st.Wb } else none
        | none => none)
    else none
  | _ => none

/-- an operation behind its operands -/
noncomputable def stepMT (o : Oper) (xs : List TV) (st : TSt) (R : Type) (k : TV → TSt → Fp → Option R) : Option R :=
  match o.op with
  | .alloc t => match o.dst, zeroT P H f t with
    | some d, some z => if (lookT st.B d).isNone then k (.ptr ⟨st.L.length, d⟩ 0) { st with B := (d, some z.cells) :: st.B, Wb := ⟨st.L.length, d⟩ :: st.Wb } .all else none
    | _, _ => none
  | .box t _ => match o.dst, xs with
    | some d, [x] => if (lookT st.B d).isNone ∧ x.cells.length = P.cellsOf t ∧ x.oks = true then k (.ptr ⟨st.L.length, d⟩ 0) { st with B := (d, some x.cells) :: st.B, Wb := ⟨st.L.length, d⟩ :: st.Wb } .all else none
    | _, _ => none
  | .call { callee := .value _, .. } => match xs with
    | fv :: args => callVT J T O ctx f (o.dst.getD 0) fv args st R fun v s => k v s (if pureCallT fv args then .none else .all)
    | [] => none
  | op => match rootOfT op xs with
    | none => topSem P H f (takes H f o) op xs none R fun v c => match c with
      | none => k v st .none
      | some _ => none
    | some r => topSem P H f (takes H f o) op xs (st.box r) R fun v c => match c with
      | none => k v st (.root r (rangeOfT P op xs).1 (rangeOfT P op xs).2 false)
      | some c => if (wptrsT op xs).all (fun p => decide (p.lvl ≤ r.lvl)) && decide ((rangeOfT P op xs).1 + (rangeOfT P op xs).2 ≤ c.length) then k v (st.setBox r c) (.root r (rangeOfT P op xs).1 (rangeOfT P op xs).2 true) else none

noncomputable def stepFpT (o : Oper) (st : TSt) (R : Type) (k : TSt → Fp → Option R) : Option R :=
  if takes H f o && !nodupT (tmpsOf o) then none else
  stepMT P H J T O ctx f o (o.op.operands.toList.map (rdT H f o st.E)) (if takes H f o then { st with E := dullAtT st.E (tmpsOf o), Wt := Mask.ofList ((tmpsOf o).filter (fun t => (st.E.get t).owns)) ++ st.Wt } else st) R fun v s fp => k (s.put o.dst v) fp

/-- by its guard -/
noncomputable def gateT (ops : Array Oper) (o : Oper) (st : TSt) (R : Type) (yes no : TSt → Option R) : Option R :=
  match o.guard with
  | none => yes st
  | some (j, want) => match (ops[j]?).bind (·.dst) with
    | some t => match st.E.get t with
      | .t .bool _ b => bif b then (let st1 : TSt := { st with E := st.E.set t (.t .bool 0 true) }; if want then yes st1 else no st1)
          else (let st1 : TSt := { st with E := st.E.set t (.t .bool 0 false) }; if want then no st1 else yes st1)
      | .val (.tuple vs) => if vs.size = 0 then no st else none
      | _ => none
    | none => none

noncomputable def execT (ops : Array Oper) : List Nat → TSt → (R : Type) → (TSt → Option R) → Option R
  | [], st, _, k => k st
  | i :: rest, st, R, k =>
    match ops[i]? with
    | none => none
    | some o => gateT ops o st R (fun st => stepFpT P H J T O ctx f o st R fun st' _ => execT ops rest st' R k) (fun st => execT ops rest (st.put o.dst (.val undef)) R k)

noncomputable def tookAtT (o : Oper) (E : Env) : List Tmp := if takes H f o then (tmpsOf o).filter fun t => (E.get t).owns else []
/-- with what each touched -/
noncomputable def execRT (ops : Array Oper) : List Nat → TSt → List (Nat × Foot) → (R : Type) → (TSt → List (Nat × Foot) → Option R) → Option R
  | [], st, fps, _, k => k st fps
  | i :: rest, st, fps, R, k =>
    match ops[i]? with
    | none => none
    | some o => gateT ops o st R
        (fun st => stepFpT P H J T O ctx f o st R fun st' fp => execRT ops rest st' ((i, ⟨fp, tookAtT H f o st.E, looksAt ops o⟩) :: fps) R k)
        (fun st => execRT ops rest (st.put o.dst (.val undef)) ((i, ⟨.none, [], looksAt ops o⟩) :: fps) R k)

/-! ### stores into owners' elements -/
noncomputable def idxOfT (E : Env) : Operand → Option Int
  | .tmp t => tint (E.get t)
  | .const v => match v with
    | .int _ n => some n
    | _ => none
  | _ => none
noncomputable def lkPathT (ops : Array Oper) (E : Env) : Nat → Nat → Tmp → Option (Rt × List (Int × Nat × Nat) × Bool)
  | 0, _, _ => none
  | n + 1, k, d => if H.link f d = false then some (.tmp d, [], false) else
    match defAt ops k d with
    | none => none
    | some c => match (ops[c]?).map Oper.op with
      | some (.move (.tmp a)) => lkPathT ops E n c a
      | some (.indexAddr t (.tmp a) i) =>
        match lkPathT ops E n c a, idxOfT E i, P.underlying t with
        | some (r, p, false), some j, some (.slice elem) => some (r, (j, 0, P.cellsOf elem) :: p, true)
        | _, _, _ => none
      | some (.fieldAddr t (.tmp a) fd) =>
        match lkPathT ops E n c a, fieldOff P t fd with
        | some (r, (j, o, s) :: p, true), some o' => some (r, (j, o + o', s) :: p, true)
        | _, _ => none
      | some (.load t (.tmp a)) =>
        if isAggT P t then none else
        if H.link f a then (match lkPathT ops E n c a with
          | some (r, p, true) => some (r, p, false)
          | _ => none)
        else match E.get a with
          | .ptr r off => some (.box r off, [], false)
          | _ => none
      | _ => none
def recellT (e : TV) (cs : List TV) : TV :=
  match e with
  | .agg _ => .agg cs
  | _ => cs.headD (.any [])
def updT (ys : List TV) : List (Int × Nat × Nat) → TV → (R : Type) → (TV → Option R) → Option R
  | (i, o, s) :: p, .t (.sl τ) lv l, R, k =>
    if isOwn lv = true ∧ τ.ncells = s ∧ s ≠ 0 ∧ τ.ok = true ∧ τ.elemOk = true then
      (idx l i).bind fun e => match p with
        | [] => if o + ys.length ≤ s then (match asTy τ (nx lv) (recellT (ofTy τ (nx lv) e) (spliceT (ofTy τ (nx lv) e).cells o ys)) with
            | some e' => k (.t (.sl τ) lv (l.set i.toNat e'))
            | none => none) else none
        | _ :: _ => match (ofTy τ (nx lv) e).cells[o]? with
          | some z => updT ys p z R fun z' => match asTy τ (nx lv) (recellT (ofTy τ (nx lv) e) ((ofTy τ (nx lv) e).cells.set o z')) with
            | some e' => k (.t (.sl τ) lv (l.set i.toNat e'))
            | none => none
          | none => none
    else none
  | _, _, _, _ => none
def hardTB (b : TLevel) : TLevel := b.map fun p => (p.1, p.2.map (List.map TV.hard))
noncomputable def softT (E : Env) : Mask := E.mask fun x => !(x.firm || x.isAny)
def softB : TLevel → List Root
  | [] => []
  | (_, none) :: b => softB b
  | (k, some c) :: b => if c.all TV.firm then softB b else ⟨0, k⟩ :: softB b
/-- what is soft is forgotten -/
noncomputable def TSt.soften (st : TSt) (T : List Tmp) : TSt :=
  { st with E := (dullAtT st.E T).mapI (fun _ v => v.hard), B := hardTB st.B, Wt := Mask.ofList (T.filter (fun t => (st.E.get t).owns)) ++ (softT (dullAtT st.E T) ++ st.Wt), Wb := softB st.B ++ st.Wb }
noncomputable def lsT (ops : Array Oper) (s : Nat) (o : Oper) (st : TSt) (R : Type) (k : TSt → Option R) : Option R :=
  match o.op with
  | .store t (.tmp d) xo =>
    let x := rdT H f o st.E xo
    if st.L.isEmpty && o.dst.isNone && o.guard.isNone && nodupT (tmpsOf o) && decide (P.cellsOf t ≠ 0) && decide (x.cells.length = P.cellsOf t) && x.oks && x.ptrs.isEmpty then
      match lkPathT P H f ops st.E ops.size s d with
      | some (.tmp r, p, true) => if (tmpsOf o).contains r then none else
        updT x.cells p.reverse (st.E.get r) R fun y => if y.firm then k ((st.soften (tmpsOf o)).put (some r) y) else none
      | some (.box q off, p, true) => match st.box q with
        | some cs => match cs[off]? with
          | some z => updT x.cells p.reverse z R fun y => if y.firm then k ((st.soften (tmpsOf o)).setBox q ((cs.map TV.hard).set off y)) else none
          | none => none
        | none => none
      | _ => none
    else none
  | _ => none
def isCptrT : TV → Bool
  | .cptr _ => true
  | _ => false
noncomputable def lkGateT (o : Oper) (E : Env) : Bool :=
  !isLk H f o || ((match o.dst with
    | some d => decide (d < E.n)
    | none => true) && (match o.op with
    | .load _ (.tmp a) => !H.link f a || isCptrT (E.get a)
    | _ => true))
noncomputable def execLT (ops : Array Oper) : List Nat → TSt → List (Nat × Foot) → (R : Type) → (TSt → List (Nat × Foot) → Option R) → Option R
  | [], st, fps, _, k => k st fps
  | i :: rest, st, fps, R, k =>
    match ops[i]? with
    | none => none
    | some o => if isLs H f o then lsT P H f ops i o st R fun st' => execLT ops rest st' ((i, ⟨.all, [], looksAt ops o⟩) :: fps) R k
      else if lkGateT H f o st.E then gateT ops o st R
        (fun st => stepFpT P H J T O ctx f o st R fun st' fp => execLT ops rest st' ((i, ⟨fp, tookAtT H f o st.E, looksAt ops o⟩) :: fps) R k)
        (fun st => execLT ops rest (st.put o.dst (.val undef)) ((i, ⟨.none, [], looksAt ops o⟩) :: fps) R k)
      else none

def tmpOf : Operand → Tmp
  | .tmp t => t
  | _ => 0

/-- what is ahead of each operation, as masks -/
def ancsM (ops : List Oper) : List Mask :=
  ops.foldl (fun acc o => acc ++ [(boundE o).foldl (fun m j => Mask.ins j (m ++ acc.getD j .empty)) .empty]) []
def regionOkM (U : List (Nat × Nat)) (ops : Array Oper) : Bool :=
  let as := ancsM ops.toList
  (List.range ops.size).all fun i =>
    match ops[i]? with
    | none => false
    | some y => (boundE y).all (fun j => decide (j < i)) && (List.range i).all fun j =>
      (as.getD i .empty).has j || match ops[j]? with
        | none => false
        | some x => dstApart ops x y && (textApart H f ops x y || U.contains (j, i))
def beforM (draw : Bool) (as : List Mask) (i c : Nat) : Bool := if draw then (as.getD c .empty).has i else decide (i < c)
def linkOneM (draw : Bool) (as : List Mask) (ops : Array Oper) (lone : Bool) (c : Nat) (oc : Oper) : Bool :=
  (!isLk H f oc || (oc.guard.isNone && (match oc.dst with
      | some d => !(tmpsOf oc).contains d
      | none => true) && (List.range ops.size).all fun i => i == c || beforM draw as i c || match ops[i]? with
        | some oi => okAfter H f oc oi
        | none => false)) &&
  (!isLs H f oc || (oc.guard.isNone && (List.range ops.size).all fun i => i == c || beforM draw as i c || beforM draw as c i)) &&
  (!(isLk H f oc && nestLoad H f oc) || lone)
def linkOkM (draw : Bool) (ops : Array Oper) : Bool :=
  let as := ancsM ops.toList
  let lone := decide ((ops.toList.filter (isLs H f)).length ≤ 1)
  (List.range ops.size).all fun c => match ops[c]? with
    | some oc => linkOneM H f draw as ops lone c oc
    | none => false

noncomputable def tx (bid : Nat) : Code → TSt → (R : Type) → (Ex → TSt → Option R) → Option R
  | .skip, st, _, k => k .normal st
  | .region id ops draw, st, R, k => joinT (J.join ctx f (.region id)) st (fun st R k =>
      if hasLs H f ops then
        (if linkOkM H f draw ops && (!draw || regionOkM H f (H.pairs f id) ops) then
          execLT P H J T O ctx f ops (List.range ops.size) st [] R fun st fps => if !draw || noConf (H.pairs f id) fps then k .normal st else none
        else none)
      else if draw then
        (if regionOkM H f (H.pairs f id) ops then
          match H.pairs f id with
          | [] => execT P H J T O ctx f ops (List.range ops.size) st R fun st => k .normal st
          | U => execRT P H J T O ctx f ops (List.range ops.size) st [] R fun st fps => if noConf U fps then k .normal st else none
        else none)
      else execT P H J T O ctx f ops (List.range ops.size) st R fun st => k .normal st) R k
  | .seq a b, st, R, k => tx bid a st R fun e st => match e with
    | .normal => tx bid b st R k
    | e => k e st
  | .cond c a b, st, R, k => joinT (J.join ctx f (.cond (tmpOf c))) st (fun st R k => match rdT H f default st.E c with
      | .t .bool _ t => bif t then tx bid a st R k else tx bid b st R k
      | _ => none) R k
  | .block id c, st, R, k => joinT (J.join ctx f (.block id)) st (fun st R k => tx id c st R fun e st => match e with
      | .exit i => if i = id then k .normal st else k (.exit i) st
      | e => k e st) R k
  | .loop c, st, R, k => match J.join ctx f (.loop bid) with
    | some j =>
      if st.forgets j then
        (asL j.ps (j.lv.map st.get)).bind fun x0 =>
          loopO (fun x => match (st.fresh.rebuild j (ofL j.ps x)).clear (H.clear f bid) with
            | some st1 => tx bid c st1 (denL (j.ps.map (·.1)) ⊕ R) fun e st2 => match e with
              | .normal => (st2.outs st j).map .inl
              | e => (k e (st2.merge st)).map .inr
            | none => none) x0
      else none
    | none => match st.clear (H.clear f bid) with
      | some st => tx bid c st R fun e st => match e with
        | .normal => O.code ctx f bid (.loop c) st R k
        | e => k e st
      | none => none
  | .exit id, st, _, k => k (.exit id) st
  | .ret, st, _, k => k .ret st
  | _, _, _, _ => none

noncomputable def resultT (st : TSt) : ResultVar → Option TV
  | .tmp t => some (st.E.get t)
  | .cell a t => match st.E.get a with
    | .ptr r off => match st.box r with
      | some cs => ofCellsT P t (cs.drop off)
      | none => none
    | _ => none
def allSomeT : List (Option TV) → Option (List TV)
  | [] => some []
  | some v :: l => (allSomeT l).map (v :: ·)
  | none :: _ => none
noncomputable def resultKeyT (st : TSt) : ResultVar → Option (Bool × Nat × Nat)
  | .tmp t => some (false, t, 0)
  | .cell a _ => match st.E.get a with
    | .ptr r _ => some (true, r.lvl, r.slot)
    | _ => none
def allKeys : List (Option (Bool × Nat × Nat)) → Option (List (Bool × Nat × Nat))
  | [] => some []
  | some v :: l => (allKeys l).map (v :: ·)
  | none :: _ => none
def packedT : List TV → TV
  | [r] => r
  | rs => .tuple rs
noncomputable def runT (args : List TV) (M : List TLevel) (R : Type) (k : TV → List TLevel → List Root → Option R) : Option R :=
  if J.lib f then none else
  match P.funcs[f]? with
  | some fn => match fn.body with
    | some c => joinT (J.join ctx f (.inl 0)) { E := Env.ofArgs args fn.ntmps, L := M, B := [], Wt := .empty, Wb := [] }
        (fun st R k => tx P H J T O ctx f 0 c st R fun e st => match e with
          | .normal => k .normal st
          | .ret => k .normal st
          | _ => none) R fun _ st =>
      match allSomeT (fn.results.toList.map (resultT P st)), allKeys (fn.results.toList.map (resultKeyT st)) with
      | some rs, some ks => if knownL rs && ((ptrsTL rs).all fun r => decide (r.lvl < M.length)) && keysOk M.length ks then k (packedT rs) st.L st.Wb else none
      | _, _ => none
    | none => none
  | none => none
end

/-- with fuel -/
noncomputable def torcN (P : Program) (H : Hints) (J : TH) (T : CallT) : Nat → TOrc
  | 0 => { call := fun _ _ _ _ _ _ => none, code := fun _ _ _ _ _ _ _ => none }
  | n + 1 => {
      call := fun ctx g args M R k => runT P H J T (torcN P H J T n) ctx g args M R k
      code := fun ctx f bid c st R k => tx P H J T (torcN P H J T n) ctx f bid c st R k }

def asRes : (rs : List (Ty × Nat)) → TV → Option (denL (rs.map (·.1)))
  | [p], r => asL [p] [r]
  | rs, .tuple l => asL rs l
  | _, _ => none
/-- WHAT A FUNCTION COMPUTES, of typed arguments: ps its parameters' types, rs its results' types and whose they are -/
noncomputable def fnT (P : Program) (H : Hints) (J : TH) (T : CallT) (n : Nat) (g : FuncId) (args : List TV) (rs : List (Ty × Nat)) : Option (denL (rs.map (·.1))) :=
  (torcN P H J T n).call [] g args [] _ fun r M _ => match M with
    | [] => asRes rs r
    | _ => none

/-- a parameter: data; a function with what it captured -/
inductive Pm where
  | ty (τ : Ty)
  | fn (g : FuncId) (caps : List Ty)
@[reducible] def Pm.den : Pm → Type
  | .ty τ => τ.den
  | .fn _ cs => denL cs
@[reducible] def denP : List Pm → Type
  | [] => Unit
  | [p] => p.den
  | p :: q :: l => p.den × denP (q :: l)
def with0 (cs : List Ty) : List (Ty × Nat) := cs.map fun τ => (τ, 0)
def asTys : (cs : List Ty) → List TV → Option (denL cs)
  | [], [] => some ()
  | [τ], [v] => asTy τ 1000 v
  | τ :: q :: ps, v :: l => (asTy τ 1000 v).bind fun x => (asTys (q :: ps) l).bind fun y => some (x, y)
  | _, _ => none
def ofTys : (cs : List Ty) → denL cs → List TV
  | [], _ => []
  | [τ], x => [ofTy τ 1000 x]
  | τ :: q :: ps, x => ofTy τ 1000 x.1 :: ofTys (q :: ps) x.2
def asPm : (p : Pm) → TV → Option p.den
  | .ty τ, v => asTy τ 1000 v
  | .fn g cs, .fn g' [] cap => if g = g' then asTys cs cap else none
  | _, _ => none
def ofPm : (p : Pm) → p.den → TV
  | .ty τ, x => ofTy τ 1000 x
  | .fn g cs, x => .fn g [] (ofTys cs x)
def asPms : (ps : List Pm) → List TV → Option (denP ps)
  | [], [] => some ()
  | [p], [v] => asPm p v
  | p :: q :: ps, v :: l => (asPm p v).bind fun x => (asPms (q :: ps) l).bind fun y => some (x, y)
  | _, _ => none
def ofPms : (ps : List Pm) → denP ps → List TV
  | [], _ => []
  | [p], x => [ofPm p x]
  | p :: q :: ps, x => ofPm p x.1 :: ofPms (q :: ps) x.2

/-- a function that is known -/
structure Entry where
  g : FuncId
  ps : List Pm
  rs : List (Ty × Nat)
  F : denP ps → Option (denL (rs.map (·.1)))
def packT (rs : List (Ty × Nat)) (x : denL (rs.map (·.1))) : TV := packedT (ofL rs x)
/-- the table of known functions -/
def tabT : List Entry → CallT
  | [], _, _, _, _ => none
  | e :: l, g, args, R, k => if e.g = g then (match asPms e.ps args with
      | some x => (e.F x).bind fun y => k (packT e.rs y)
      | none => tabT l g args R k) else tabT l g args R k
end Go.Tx
