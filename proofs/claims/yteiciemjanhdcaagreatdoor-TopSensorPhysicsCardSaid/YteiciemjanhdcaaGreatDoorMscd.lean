/-
  ONE LAW OF A CHAPTER: its program side is run by an interpreter that is proved sound; what it computes is shown to be what the law says. No conditions. Part 4 of 8.
-/
import Derived.Test.YteiciemjanhdcaaGreatDoorMscc
import Ieee.Arith
import Derived.Laws.ComplexArith
import Derived.Laws.Strings
set_option linter.unusedSimpArgs false
set_option linter.unusedVariables false
set_option linter.unnecessarySimpa false
section
namespace Go.Tx
open Go Go.Ab
inductive Ty where
 | int (k:IntKind)
 | bool
 | str
 /-- whole numbers asz floats,and asz complex numbers -/
 | flt
 | cx
 /-- an error: is it nil? -/
 | err
 /-- what lies in a map's box: a set of keys -/
 | mset (t:Ty)
 | sl (t:Ty)
 | unit
 | pair (a b:Ty)
 deriving DecidableEq
@[reducible] def Ty.den:Ty->Type
 | .int _=>Int
 | .bool=>Bool
 | .str=>List UInt8
 | .flt=>Int
 | .cx=>Int × Int
 | .err=>Bool
 | .mset t=>List t.den
 | .sl t=>List t.den
 | .unit=>Unit
 | .pair a b=>a.den × b.den
def Ty.depth:Ty->Nat
 | .sl t=>t.depth + 1
 | .pair a b=>max a.depth b.depth
 | _=>0
def Ty.one:Ty->Bool
 | .unit | .pair .. | .mset _=>false
 | _=>true
def Ty.ncells:Ty->Nat
 | .unit=>0
 | .pair _ b=>b.ncells + 1
 | _=>1
def Ty.isSet:Ty->Bool
 | .mset _=>true
 | .pair a b=>a.isSet || b.isSet
 | _=>false
def Ty.rowOk:Ty->Bool
 | .unit=>true
 | .pair a b=>a.one && b.rowOk
 | _=>false
def Ty.elemOk:Ty->Bool
 | .unit=>true
 | .mset _=>false
 | .pair a b=>a.one && b.rowOk
 | _=>true
def Ty.ok:Ty->Bool
 | .sl t=>t.elemOk && t.ok
 | .pair a b=>a.one && a.ok && b.rowOk && b.ok
 | _=>true
def isOwn (o:Nat):Bool:=!(decide (o = 0) || (decide (o = 1000) || decide (o = 2000)))
def nx (o:Nat):Nat:=if isOwn o then o - 1 else o
def dl (o:Nat):Nat:=if o = 1000 then 1000 else 0
def lo (o:Nat):Nat:=if 1000<=o/\o < 2000 then o - 1000 else o
def sure (o d:Nat):Bool:=if o < 1000 then decide (d<=o) else if o < 2000 then true else decide (d<=o - 2000)
def nf (o d:Nat):Nat:=if o < 1000 then min o d else o
def fits:Nat->Nat->Nat->Bool
 | 0,_,_=>true
 | d + 1,o',o=>decide (o = 2000) || ((isOwn o' == isOwn o) && !decide (o' = 2000) && (!decide (o = 1000) || decide (o' = 1000)) && fits d (nx o') (nx o))
inductive TV where
 | any (rs:List Root)
 | t (τ:Ty) (own:Nat) (x:τ.den)
 | clp (τ:Ty) (x:List τ.den)
 /-- room for elements of so many cells: 0: none there; 1: some of which nothing is known; 2: gone -/
 | room (a s:Nat)
 | empty (o:Nat)
 | val (v:Value)
 | agg (l:List TV)
 | tuple (l:List TV)
 | fn (g:FuncId) (first cap:List TV)
 | ptr (r:Root) (off:Nat)
 /-- to cells: surely frozen? -/
 | cptr (sh:Bool) (l:List TV)
 | iface (t:TypeId) (v:TV)
 | mref (r:Root)
 /-- a slice of a box's cells -/
 | bsl (r:Root) (off n:Nat)
 /-- what a function is handed to call at each round of a loop; the loop's record (a box's one cell) -/
 | yld (r:Root)
 | lp (state:LoopState) (pend:Option Code) (f:FuncId) (env:List TV) (params:List Tmp) (assign body:Code)
instance:Inhabited TV:=⟨.any []⟩
structure Env where
 n:Nat
 t:Tr TV
noncomputable def Env.get (e:Env) (i:Nat):TV:=Env.rec (motive:=λ_=>TV) (λn t=>Bool.rec (motive:=λ_=>TV) (.any []) (t.get (.any []) i) (Nat.ble (Nat.succ i) n)) e
noncomputable def Env.set (e:Env) (i:Nat) (v:TV):Env:=Env.rec (motive:=λ_=>Env) (λn t=>⟨n,t.set (.any []) i v⟩) e
noncomputable def Env.mapI (f:Nat->TV->TV) (e:Env):Env:=Env.rec (motive:=λ_=>Env) (λn t=>⟨n,t.mapI (.any []) n f 1 0⟩) e
noncomputable def Env.all (p:Nat->TV->Bool) (e:Env):Bool:=e.t.allI p 1 0
noncomputable def Env.mask (p:TV->Bool) (e:Env):Mask:=⟨e.t.maskI p 1 0⟩
noncomputable def fillTr:List TV->Nat->Tr TV->Tr TV
 | [],_,t=>t
 | v :: l,i,t=>fillTr l (i + 1) (t.set (.any []) i v)
noncomputable def Env.ofArgs (args:List TV) (n:Nat):Env:=⟨args.length + (n - args.length),fillTr args 0 .nil⟩
noncomputable def Env.toL (e:Env):List TV:=(List.range e.n).map λi=>e.t.get (.any []) i
noncomputable def forgetM (D:Mask) (rs:Nat->List Root) (e:Env):Env:=e.mapI λi v=>Bool.rec (motive:=λ_=>TV) v (.any (rs i)) (D.has i)
def TV.cells:TV->List TV
 | .agg l=>l
 | v=>[v]
def TV.one:TV->Bool
 | .any _ | .agg _ | .tuple _ | .room .. | .lp ..=>false
 | .t τ _ _=>τ.one
 | .val u=>match u with
  | .agg _=>false
  | .tuple _=>false
  | _=>true
 | _=>true
def TV.oks (x:TV):Bool:=x.cells.all TV.one
mutual
def TV.dull:TV->TV
 | .any rs=>.any rs
 | .t τ o x=>.t τ (dl o) x
 | .clp τ x=>.clp τ x
 | .room a s=>match a with
  | 0=>.empty 0
  | _ + 1=>.room 2 s
 | .empty o=>.empty (dl o)
 | .val v=>.val v
 | .agg l=>.agg (dullL l)
 | .tuple l=>.tuple (dullL l)
 | .fn g a b=>.fn g (dullL a) (dullL b)
 | .ptr r o=>.ptr r o
 | .mref r=>.mref r
 | .bsl r o n=>.bsl r o n
 | .yld r=>.yld r
 | .lp s pe f env ps a b=>.lp s pe f env ps a b
 | .cptr s l=>.cptr s (dullL l)
 | .iface t v=>.iface t v.dull
def dullL:List TV->List TV
 | []=>[]
 | v :: l=>v.dull :: dullL l
end
mutual
/-- what is handed to a function without boxes: never to be written again -/
def TV.share:TV->TV
 | .any rs=>.any rs
 | .t τ _ x=>.t τ 1000 x
 | .clp τ x=>.t (.sl τ) 1000 x
 | .room a s=>match a with
  | 0=>.empty 1000
  | _ + 1=>.room 2 s
 | .empty _=>.empty 1000
 | .val v=>.val v
 | .agg l=>.agg (shareL l)
 | .tuple l=>.tuple (shareL l)
 | .fn g a b=>.fn g (shareL a) (shareL b)
 | .ptr r o=>.ptr r o
 | .mref r=>.mref r
 | .bsl r o n=>.bsl r o n
 | .yld r=>.yld r
 | .lp s pe f env ps a b=>.lp s pe f env ps a b
 | .cptr _ l=>.cptr true (shareL l)
 | .iface t v=>.iface t v.share
def shareL:List TV->List TV
 | []=>[]
 | v :: l=>v.share :: shareL l
end
mutual
def TV.loosen:TV->TV
 | .any rs=>.any rs
 | .t τ o x=>.t τ (lo o) x
 | .clp τ x=>.clp τ x
 | .room a s=>.room a s
 | .empty o=>.empty (lo o)
 | .val v=>.val v
 | .agg l=>.agg (loosenL l)
 | .tuple l=>.tuple (loosenL l)
 | .fn g a b=>.fn g (loosenL a) (loosenL b)
 | .ptr r o=>.ptr r o
 | .mref r=>.mref r
 | .bsl r o n=>.bsl r o n
 | .yld r=>.yld r
 | .lp s pe f env ps a b=>.lp s pe f env ps a b
 | .cptr _ l=>.cptr false (loosenL l)
 | .iface t v=>.iface t v.loosen
def loosenL:List TV->List TV
 | []=>[]
 | v :: l=>v.loosen :: loosenL l
end
mutual
def TV.ptrs:TV->List Root
 | .any rs=>rs
 | .ptr r _=>[r]
 | .mref r=>[r]
 | .bsl r _ _=>[r]
 | .yld r=>[r]
 | .lp _ _ _ env _ _ _=>ptrsTL env
 | .cptr _ cs=>ptrsTL cs
 | .fn _ a b=>ptrsTL a ++ ptrsTL b
 | .iface _ v=>v.ptrs
 | .agg l=>ptrsTL l
 | .tuple l=>ptrsTL l
 | _=>[]
def ptrsTL:List TV->List Root
 | []=>[]
 | v :: l=>v.ptrs ++ ptrsTL l
end
mutual
/-- may it hold an owner? -/
def TV.owns:TV->Bool
 | .any _=>true
 | .t τ o _=>(isOwn o || decide (o = 2000)) && decide (0 < τ.depth)
 | .room ..=>true
 | .empty o=>isOwn o || decide (o = 2000)
 | .fn _ a b=>ownsTL a || ownsTL b
 | .cptr _ l=>ownsTL l
 | .iface _ v=>v.owns
 | .agg l=>ownsTL l
 | .tuple l=>ownsTL l
 | _=>false
def ownsTL:List TV->Bool
 | []=>false
 | v :: l=>v.owns || ownsTL l
end
mutual
/-- is all of it known? -/
def TV.known:TV->Bool
 | .any _=>false
 | .lp _ _ _ env _ _ _=>knownL env
 | .fn _ a b=>knownL a && knownL b
 | .cptr _ l=>knownL l
 | .iface _ _=>false
 | .agg l=>knownL l
 | .tuple l=>knownL l
 | _=>true
def knownL:List TV->Bool
 | []=>true
 | v :: l=>v.known && knownL l
end
mutual
/-- surely without elements that somebody may write -/
def TV.firm:TV->Bool
 | .any _=>false
 | .room ..=>false
 | .t τ o _=>sure o τ.depth
 | .clp _ _=>false
 | .fn _ a b=>firmL a && firmL b
 | .cptr s l=>s && firmL l
 | .iface _ v=>v.firm
 | .agg l=>firmL l
 | .tuple l=>firmL l
 | _=>true
def firmL:List TV->Bool
 | []=>true
 | v :: l=>v.firm && firmL l
end
mutual
/-- surely without anything that belongs to others -/
def TV.tight:TV->Bool
 | .any _=>false
 | .room ..=>false
 | .t τ o _=>sure o τ.depth
 | .empty o=>sure o 1
 | .clp _ _=>false
 | .fn _ a b=>tightL a && tightL b
 | .cptr s l=>s && tightL l
 | .iface _ v=>v.tight
 | .agg l=>tightL l
 | .tuple l=>tightL l
 | _=>true
def tightL:List TV->Bool
 | []=>true
 | v :: l=>v.tight && tightL l
end
def TV.isAny:TV->Bool
 | .any _=>true
 | _=>false
def TV.hard (x:TV):TV:=if x.firm then x else .any x.ptrs
def asInts (k:IntKind):List TV->Option (List Int)
 | []=>some []
 | .t (.int k') _ x :: l=>if k' = k then (asInts k l).map λm=>x :: m else none
 | _ :: _=>none
section
variable (bx:Root->Option (List TV))
mutual
/-- a copy for looking at: pointers to boxes lead to frozen cells -/
def peekTV:TV->Option TV
 | .ptr r off=>match bx r with
  | some c=>if off<=c.length/\r.slot < 16384 then some (.cptr true (shareL (c.drop off))) else none
  | none=>none
 | .fn g a b=>match peekTL a,peekTL b with
  | some x,some y=>some (.fn g x y)
  | _,_=>none
 | .iface t v=>(peekTV v).map (.iface t)
 | .agg l=>(peekTL l).map .agg
 | .tuple l=>(peekTL l).map .tuple
 | .cptr _ cs=>some (.cptr true (shareL cs))
 | .t τ _ x=>bif τ.isSet then none else some (.t τ 1000 x)
 | .mref _=>none
 | .bsl r off n=>match bx r with
  | some c=>if off + n<=c.length/\r.slot < 16384 then (asInts .i64 ((c.drop off).take n)).map λl=>.t (.sl (.int .i64)) 1000 l else none
  | none=>none
 | .clp τ x=>some (.t (.sl τ) 1000 x)
 | .room ..=>none
 | .empty _=>some (.empty 1000)
 | .val v=>some (.val v)
 | .any _=>none
 | .yld _=>none
 | .lp ..=>none
def peekTL:List TV->Option (List TV)
 | []=>some []
 | v :: l=>match peekTV v,peekTL l with
  | some x,some xs=>some (x :: xs)
  | _,_=>none
end
end
def tmine:Ty->Nat->Bool
 | .sl t,o=>isOwn o && tmine t (nx o)
 | .pair a b,o=>tmine a o && tmine b o
 | .mset _,_=>false
 | _,_=>true
mutual
def TV.mine:TV->Bool
 | .t τ o _=>tmine τ o
 | .empty o=>isOwn o
 | .val _=>true
 | .fn _ a b=>mineTL a && mineTL b
 | .iface _ v=>v.mine
 | .agg l=>mineTL l
 | .tuple l=>mineTL l
 | _=>false
def mineTL:List TV->Bool
 | []=>true
 | v :: l=>v.mine && mineTL l
end
mutual
def ofTy:(τ:Ty)->Nat->τ.den->TV
 | .unit,_,_=>.agg []
 | .pair a b,o,x=>.agg (ofTy a o x.1 :: ofTyC b o x.2)
 | .int k,o,x=>.t (.int k) o x
 | .bool,o,x=>.t .bool o x
 | .str,o,x=>.t .str o x
 | .flt,o,x=>.t .flt o x
 | .cx,o,x=>.t .cx o x
 | .err,o,x=>.t .err o x
 | .mset t,o,x=>.t (.mset t) o x
 | .sl t,o,x=>.t (.sl t) o x
def ofTyC:(τ:Ty)->Nat->τ.den->List TV
 | .pair a b,o,x=>ofTy a o x.1 :: ofTyC b o x.2
 | _,_,_=>[]
end
def cast' {τ τ':Ty} (h:τ' = τ) (x:τ'.den):τ.den:=h ▸ x
def asTy:(τ:Ty)->Nat->TV->Option τ.den
 | .unit,_,.agg []=>some ()
 | .pair a b,o,.agg (v :: l)=>(asTy a o v).bind λx=>(asTy b o (.agg l)).bind λy=>some (x,y)
 | .sl _,o,.empty o'=>if fits 1 o' o = true then some [] else none
 | τ,o,.t τ' o' x=>if h:τ' = τ then (if fits τ.depth o' o = true then some (cast' h x) else none) else none
 | _,_,_=>none
@[reducible] def denL:List Ty->Type
 | []=>Unit
 | [τ]=>τ.den
 | τ :: τ' :: l=>τ.den × denL (τ' :: l)
def asL:(ps:List (Ty × Nat))->List TV->Option (denL (ps.map (·.1)))
 | [],[]=>some ()
 | [(τ,o)],[v]=>asTy τ o v
 | (τ,o) :: q :: ps,v :: l=>(asTy τ o v).bind λx=>(asL (q :: ps) l).bind λy=>some (x,y)
 | _,_=>none
def ofL:(ps:List (Ty × Nat))->denL (ps.map (·.1))->List TV
 | [],_=>[]
 | [(τ,o)],x=>[ofTy τ o x]
 | (τ,o) :: q :: ps,x=>ofTy τ o x.1 :: ofL (q :: ps) x.2
def idx {α:Type} (l:List α) (n:Int):Option α:=if 0<=n then l[n.toNat]? else none
def app {α:Type} (l l2:List α):Option (List α):=if l.length + l2.length<=4294967296 then some (l ++ l2) else none
def slc {α:Type} (l:List α) (lo hi:Int):Option (List α):=if 0<=lo/\lo<=hi/\hi<=l.length then some ((l.take hi.toNat).drop lo.toNat) else none
def mkS {α:Type} (z:α) (n:Int):Option (List α):=if 0<=n/\n<=4294967296 then some (List.replicate n.toNat z) else none
def loopN {σ ρ:Type} (f:σ->Option (σ ⊕ ρ)):Nat->σ->Option ρ
 | 0,_=>none
 | n + 1,s=>match f s with
  | some (.inl s')=>loopN f n s'
  | some (.inr r)=>some r
  | none=>none
open Classical in
noncomputable def loopO {σ ρ:Type} (f:σ->Option (σ ⊕ ρ)) (s:σ):Option ρ :=
 if h:∃ n r,loopN f n s = some r then some (Classical.choose (Classical.choose_spec h)) else none
abbrev TLevel:=List (Nat × Option (List TV))
structure TSt where
 E:Env
 L:List TLevel
 B:TLevel
 /-- what was written: temporaries,boxes -/
 Wt:Mask
 Wb:List Root
def lookT:TLevel->Nat->Option (Option (List TV))
 | [],_=>none
 | (k,c) :: l,s=>if k = s then some c else lookT l s
def setT:TLevel->Nat->Option (List TV)->TLevel
 | [],_,_=>[]
 | (k,c) :: l,s,c'=>if k = s then (k,c') :: l else (k,c) :: setT l s c'
def isRec:List TV->Bool
 | .lp .. :: _=>true
 | _=>false
def noRecB (b:TLevel):Bool:=b.all λp=>match p.2 with
 | some c=>!isRec c
 | none=>true
def TSt.cont (st:TSt) (r:Root):Option (List TV) :=
 match if r.lvl = st.L.length then lookT st.B r.slot else match st.L[r.lvl]? with | some b=>lookT b r.slot | none=>none with
 | some (some c)=>some c
 | _=>none
def TSt.box (st:TSt) (r:Root):Option (List TV) :=
 match st.cont r with
 | some c=>if isRec c then none else some c
 | none=>none
def TSt.setBox (st:TSt) (r:Root) (c:List TV):TSt :=
 if r.lvl = st.L.length then { st with B:=setT st.B r.slot (some c),Wb:=r :: st.Wb }
 else { st with L:=st.L.modify r.lvl λb=>setT b r.slot (some c),Wb:=r :: st.Wb }
noncomputable def TSt.put (st:TSt) (d:Option Tmp) (v:TV):TSt :=
 match d with
 | some t=>{ st with E:=st.E.set t v,Wt:=Mask.ins t st.Wt }
 | none=>st
def zeroTV (precise:Bool):Value->TV
 | .int k n=>.t (.int k) 0 n
 | .bool b=>.t .bool 0 b
 | .string s=>.t .str 0 s.data.toList
 | .float .f64 0=>.t .flt 0 0
 | .complex .f64 0 0=>.t .cx 0 (0,0)
 | .slice none 0 0=>if precise then .val (.slice none 0 0) else .empty 1
 | v=>.val v
def constTV (precise:Bool):Value->TV
 | .agg cs=>.agg (cs.toList.map (zeroTV precise))
 | v=>zeroTV precise v
structure Place where
 /-- none: a temporary; else the box's level -/
 lvl:Option Nat
 slot:Nat
 cell:Nat
structure Join where
 lv:List Place
 ps:List (Ty × Nat)
 abn:Bool:=false
 /-- temporaries and boxes that are forgotten; what boxes these may point to -/
 D:Mask
 wr:List Root:=[]
 rs:List Root:=[]
 /-- what forgotten boxes point to -/
 rb:List Root:=[]
 /-- temporaries that point nowhere when they are forgotten -/
 Dn:Mask:=.empty
 /-- temporaries that were written,but point where they pointed -/
 kp:List (Tmp × Root × Nat):=[]
noncomputable def Join.rsAt (j:Join) (t:Nat):List Root:=Bool.rec (motive:=λ_=>List Root) j.rs [] (j.Dn.has t)
inductive Kind where
 | loop (id:Nat) | block (id:Nat) | cond (t:Tmp) | region (id:Nat) | inl (d:Tmp)
 deriving DecidableEq
structure TH where
 /-- library functions: never run in place -/
 lib:FuncId->Bool:=λ_=>false
 join:List Tmp->FuncId->Kind->Option Join
 inl:List Tmp->FuncId->Tmp->Bool
abbrev CallT:=FuncId->List TV->(R:Type)->(TV->Option R)->Option R
section
variable (P:Program) (H:Hints) (f:FuncId)
def cellsTy:Nat->TypeId->Option (List Ty)
 | 0,_=>none
 | d + 1,t=>match P.underlying t with
  | some (.int k)=>some [.int k]
  | some .bool=>some [.bool]
  | some .string=>some [.str]
  | some (.float .f64)=>some [.flt]
  | some (.complex .f64)=>some [.cx]
  | some (.slice e)=>match cellsTy d e,P.underlying e with
   | some cs,some (.struct _)=>some [.sl (cs.foldr .pair .unit)]
   | some cs,some (.array ..)=>some [.sl (cs.foldr .pair .unit)]
   | some [τ],_=>some [.sl τ]
   | _,_=>none
  | some (.struct fields)=>(fields.toList.mapM λfd=>cellsTy d fd.type).map List.flatten
  | some (.array n e)=>(cellsTy d e).map λcs=>(List.replicate n cs).flatten
  | _=>none
def tyOf (t:TypeId):Option Ty :=
 match cellsTy P 10 t with
 | some cs=>if isAggT P t then some (cs.foldr .pair .unit) else cs.head?
 | none=>none
def ofCellsT (t:TypeId) (cs:List TV):Option TV :=
 match P.underlying t with
 | none=>none
 | some _=>if isAggT P t then (if P.cellsOf t<=cs.length then some (.agg (cs.take (P.cellsOf t))) else none) else cs.head?
def zeroT (t:TypeId):Option TV:=((P.info? t).bind (·.zero)).map (constTV (H.precise f))
def spliceT (cs:List TV) (off:Nat) (vs:List TV):List TV:=cs.take off ++ vs ++ cs.drop (off + vs.length)
def fillT (place:Nat->Option (Nat × Nat)) (cs:List TV):List (Nat × TV)->Option (List TV)
 | []=>some cs
 | (i,v) :: rest =>
  match place i with
  | none=>none
  | some (off,size)=>if v.cells.length ≠ size\/off + v.cells.length > cs.length\/v.oks = false then none else fillT place (spliceT cs off v.cells) rest
def tbuild (t:TypeId) (parts:List (Nat × TV)):Option TV :=
 match zeroT P H f t,P.underlying t with
 | some z,some (.struct fields) =>
  match fields.toList.mapM (λf=>(P.info? f.type).map λi=>(f.offset,i.size)) with
  | some places=>(fillT (places.toArray[·]?) z.cells parts).map .agg
  | none=>none
 | some z,some (.array _ elem) =>
  match P.info? elem with
  | some ie=>(fillT (λi=>some (i * ie.size,ie.size)) z.cells parts).map .agg
  | none=>none
 | _,_=>none
def chunkT (agg:Bool) (s:Nat):Nat->List TV->List TV
 | 0,_=>[]
 | n + 1,cs=>(if agg then .agg (cs.take s) else cs.headD (.any [])) :: chunkT agg s n (cs.drop s)
mutual
/-- the level of ownership of the slices in it: asz its first slice has it -/
def TV.lev:TV->Option Nat
 | .t τ o _=>if τ.depth = 0 then none else some (nf o τ.depth)
 | .empty o=>if isOwn o then none else some o
 | .agg l=>levL l
 | _=>none
def levL:List TV->Option Nat
 | []=>none
 | v :: l=>match v.lev with
  | some n=>some n
  | none=>levL l
end
mutual
def TV.hasEmpty:TV->Bool
 | .empty _=>true
 | .agg l=>hasEmptyL l
 | _=>false
def hasEmptyL:List TV->Bool
 | []=>false
 | v :: l=>v.hasEmpty || hasEmptyL l
end
def levOf (l:List TV):Nat:=(levL l).getD (if hasEmptyL l then 1 else 0)
def asAll (τ:Ty) (o:Nat):List TV->Option (List τ.den)
 | []=>some []
 | v :: l=>(asTy τ o v).bind λx=>(asAll τ o l).bind λy=>some (x :: y)
def tbuildSlice (t:TypeId) (len:Nat) (parts:List (Nat × TV)):Option TV :=
 match P.underlying t with
 | some (.slice elem) =>
  match P.info? elem,zeroT P H f elem,tyOf P elem with
  | some ie,some z,some τ =>
   if ie.size = 0\/(isAggT P elem = false/\ie.size ≠ 1)\/z.cells.length ≠ ie.size\/len * ie.size > 16777216\/τ.ok = false\/τ.elemOk = false then none else
   match fillT (λi=>some (i * ie.size,ie.size)) ((List.replicate len z.cells).flatten) parts with
   | some cs=>if cs.all TV.one && (ptrsTL cs).isEmpty && isOwn (levOf (chunkT (isAggT P elem) ie.size len cs) + 1) then
     (asAll τ (levOf (chunkT (isAggT P elem) ie.size len cs)) (chunkT (isAggT P elem) ie.size len cs)).map λl=>.t (.sl τ) (levOf (chunkT (isAggT P elem) ie.size len cs) + 1) l else none
   | none=>none
  | _,_,_=>none
 | _=>none
def tfield (t:TypeId) (x:TV) (fd:Nat):Option TV :=
 match P.underlying t,x with
 | some (.struct fields),.agg cs =>
  match fields[fd]? with
  | some d=>ofCellsT P d.type (cs.drop d.offset)
  | none=>none
 | _,_=>none
def tfieldAddr (t:TypeId) (x:TV) (fd:Nat):Option TV :=
 match P.underlying t with
 | some (.struct fields) =>
  match fields[fd]? with
  | some d=>if P.cellsOf d.type = 0 then none else
   match x with
   | .ptr r off=>some (.ptr r (off + d.offset))
   | .cptr s cs=>if d.offset<=cs.length then some (.cptr s (cs.drop d.offset)) else none
   | _=>none
  | none=>none
 | _=>none
def upTo (R:Type) (i:Int) (k:Nat->Option R):Nat->Nat->Option R
 | 0,_=>none
 | n + 1,j=>bif decide (i = (j:Int)) then k j else upTo R i k n (j + 1)
def tindex (elem:TypeId) (len:Nat) (cs:List TV) (i:Int) (R:Type) (k:TV->Option R):Option R :=
 if P.cellsOf elem = 0 then none else
 upTo R i (λj=>match ofCellsT P elem (cs.drop (j * P.cellsOf elem)) with
  | some v=>k v
  | none=>none) len 0
def tindexAddr (t:TypeId) (x:TV) (i:Int) (R:Type) (k:TV->Option R):Option R :=
 match P.underlying t,x with
 | some (.array len elem),.ptr r off=>if P.cellsOf elem = 0 then none else upTo R i (λj=>k (.ptr r (off + j * P.cellsOf elem))) len 0
 | some (.array len elem),.cptr s cs=>if P.cellsOf elem = 0 then none else upTo R i (λj=>if j * P.cellsOf elem<=cs.length then k (.cptr s (cs.drop (j * P.cellsOf elem))) else none) len 0
 | some (.slice elem),.t (.sl τ) o l=>if P.cellsOf elem = τ.ncells/\τ.ncells ≠ 0/\τ.ok = true/\τ.elemOk = true then (idx l i).bind λe=>k (.cptr (decide (o = 1000)) (ofTy τ (dl (nx o)) e).cells) else none
 | some (.slice elem),.clp τ l=>if P.cellsOf elem = τ.ncells/\τ.ncells ≠ 0/\τ.ok = true/\τ.elemOk = true then (idx l i).bind λe=>k (.cptr false (ofTy τ 0 e).cells) else none
 | _,_=>none
def tarr {α:Type} (R:Type) (mk:α->TV) (l:List α):Nat->Nat->List TV->(List TV->Option R)->Option R
 | 0,_,acc,k=>k acc
 | n + 1,i,acc,k=>(idx l (i:Int)).bind λe=>tarr R mk l n (i + 1) (acc ++ [mk e]) k
def tarrayAt (t:TypeId) (x:TV) (R:Type) (k:TV->Option R):Option R :=
 match P.underlying t,x with
 | some (.array n _),.t (.sl (.int kk)) o l=>if n = 0 then none else tarr R (λe:Int=>.t (.int kk) 0 e) l n 0 [] λcs=>k (.cptr (decide (o = 1000)) cs)
 | _,_=>none
def flo (n:Int):Option Int:=if n.natAbs < 9007199254740992 then some n else none
def shlI (k:IntKind) (a b:Int):Option Int:=if 0<=b then some (k.wrap (a * 2 ^ (min b.toNat k.bits))) else none
def shrI (k:IntKind) (a b:Int):Option Int:=if 0<=b then some (a.fdiv (2 ^ (min b.toNat k.bits))) else none
def andI (k:IntKind) (a b:Int):Int:=k.wrap (BitVec.ofInt k.bits a &&& BitVec.ofInt k.bits b).toNat
def orI (k:IntKind) (a b:Int):Int:=k.wrap (BitVec.ofInt k.bits a ||| BitVec.ofInt k.bits b).toNat
def xorI (k:IntKind) (a b:Int):Int:=k.wrap (BitVec.ofInt k.bits a ^^^ BitVec.ofInt k.bits b).toNat
def andNotI (k:IntKind) (a b:Int):Int:=k.wrap (BitVec.ofInt k.bits a &&& ~~~ BitVec.ofInt k.bits b).toNat
def tint:TV->Option Int
 | .t (.int _) _ n=>some n
 | _=>none
def tslice (t:TypeId) (x:TV) (lo hi mx:Option TV) (R:Type) (k:TV->Option R):Option R :=
 let lo':Option Int:=match lo with | none=>some 0 | some v=>tint v
 match P.underlying t,x with
 | some (.slice elem),.t (.sl τ) o l =>
  if isOwn o = true\/o = 2000\/P.cellsOf elem = 0\/P.cellsOf elem ≠ τ.ncells\/τ.ok = false\/τ.elemOk = false then none else
  match lo',(match hi with | none=>some (l.length:Int) | some v=>tint v) with
  | some a,some b =>
   match mx with
   | none=>(slc l a b).bind λl'=>k (.t (.sl τ) o l')
   | some m=>match tint m with
    | some c=>if hi.isSome then (slc l a b).bind λl'=>bif decide (c = b) then k (.clp τ l') else none else none
    | none=>none
  | _,_=>none
 | some (.slice elem),.empty o =>
  if isOwn o = true\/o = 2000\/P.cellsOf elem = 0 then none else
  match lo',(match hi with | none=>some 0 | some v=>tint v),mx with
  | some a,some b,none=>bif decide (a = 0) && decide (b = 0) then k (.empty o) else none
  | _,_,_=>none
 | some .string,.t .str _ s =>
  match lo',(match hi with | none=>some (s.length:Int) | some v=>tint v),mx with
  | some a,some b,none=>(slc s a b).bind λl'=>k (.t .str 0 l')
  | _,_,_=>none
 | _,_=>none
def tsliceR (t:TypeId) (x:TV) (lo hi mx:Option TV) (R:Type) (k:TV->Option R):Option R :=
 match P.underlying t,x with
 | some (.slice elem),.val (.slice none 0 0) =>
  if P.cellsOf elem = 0 then none else
  match (match lo with | none=>some 0 | some v=>tint v),(match hi with | none=>some 0 | some v=>tint v),mx with
  | some a,some b,none=>bif decide (a = 0) && decide (b = 0) then k (.val (.slice none 0 0)) else none
  | _,_,_=>none
 | some (.slice elem),.room a s =>
  if P.cellsOf elem = 0\/2<=a then none else
  match lo,hi,mx with
  | none,some (.t (.int _) _ b),none=>bif decide (b = 0) then k (.room 0 s) else none
  | _,_,_=>none
 | some (.array n elem),.ptr r off=>if P.cellsOf elem = 1 then (match lo,hi,mx with
  | none,none,none=>k (.bsl r off n)
  | _,_,_=>none) else none
 | _,_=>none
def TV.bare:TV->Bool
 | .val (.slice none 0 0)=>true
 | .room ..=>true
 | .ptr ..=>true
 | _=>false
def tmakeSlice (t:TypeId) (len cap:TV) (R:Type) (k:TV->Option R):Option R :=
 match P.underlying t with
 | some (.slice elem) =>
  match zeroT P H f elem,tyOf P elem,tint len,tint cap with
  | some z,some τ,some n,some c =>
   if P.cellsOf elem ≠ 0/\z.cells.length = P.cellsOf elem/\z.oks = true/\P.bytesOf elem<=8192/\τ.ok = true/\τ.elemOk = true/\isOwn (levOf [z] + 1) = true then
    match asTy τ (levOf [z]) z with
    | some x=>(mkS x n).bind λl=>bif decide (c = n) then k (.t (.sl τ) (levOf [z] + 1) l) else none
    | none=>none
   else none
  | _,_,_,_=>none
 | _=>none
def tail? (yt:TypeDesc):TV->Option (Σ τ:Ty,Nat × List τ.den)
 | .t (.sl τ) o l=>match yt with
  | .slice _=>some ⟨τ,(nx o,l)⟩
  | _=>none
 | .clp τ l=>match yt with
  | .slice _=>some ⟨τ,(0,l)⟩
  | _=>none
 | .t .str _ s=>match yt with
  | .string=>some ⟨.int .u8,(0,s.map λc=>(c.toNat:Int))⟩
  | _=>none
 | _=>none
def tappend (argTypes:Array TypeId) (x y:TV) (R:Type) (k:TV->Option R):Option R :=
 match (argTypes[0]?).bind P.underlying,(argTypes[1]?).bind P.underlying with
 | some (.slice elem),some yt =>
  match y with
  | .empty _=>(match yt,x with
   | .slice _,.t (.sl τ) o l=>if isOwn o = true/\τ.ncells = P.cellsOf elem/\P.cellsOf elem ≠ 0/\((P.info? elem).bind (·.zero)).map (λz=>z.cells.size) = some (P.cellsOf elem)/\P.bytesOf elem<=8192/\τ.ok = true/\τ.elemOk = true then (app l []).bind λl'=>k (.t (.sl τ) o l') else none
   | .slice _,.empty o=>if isOwn o = true/\P.cellsOf elem ≠ 0/\((P.info? elem).bind (·.zero)).map (λz=>z.cells.size) = some (P.cellsOf elem)/\P.bytesOf elem<=8192 then k (.empty o) else none
   | _,_=>none)
  | y=>match tail? yt y with
  | none=>none
  | some ⟨τ,(o2,l2)⟩ =>
   if τ.ncells = P.cellsOf elem/\P.cellsOf elem ≠ 0/\((P.info? elem).bind (·.zero)).map (λz=>z.cells.size) = some (P.cellsOf elem)/\P.bytesOf elem<=8192/\τ.ok = true/\τ.elemOk = true then
    match x with
    | .t (.sl τ') o l=>if h:τ' = τ then (if isOwn o = true then (app (cast' (congrArg Ty.sl h) l:(Ty.sl τ).den) l2).bind λl'=>k (.t (.sl τ) (if fits τ.depth o2 (nx o) = true then o else 2001) l') else none) else none
    | .empty o=>if isOwn o = true/\isOwn (o2 + 1) = true then (app [] l2).bind λl'=>k (.t (.sl τ) (o2 + 1) l') else none
    | .clp τ' l=>if h:τ' = τ then (app (cast' (congrArg Ty.sl h) l:(Ty.sl τ).den) l2).bind λl'=>k (.t (.sl τ) 2000 l') else none
    | _=>none
   else none
 | _,_=>none
def tappendR (argTypes:Array TypeId) (x y:TV) (R:Type) (k:TV->Option R):Option R :=
 match (argTypes[0]?).bind P.underlying,(argTypes[1]?).bind P.underlying with
 | some (.slice elem),some yt =>
  if P.cellsOf elem ≠ 0/\((P.info? elem).bind (·.zero)).map (λz=>z.cells.size) = some (P.cellsOf elem)/\P.bytesOf elem<=8192 then
   match x,yt,y with
   | .val (.slice none 0 0),.int _,.t (.int .i64) _ n=>bif decide (0 < n) && decide (n<=4294967296) then k (.room 1 (P.cellsOf elem)) else none
   | x,yt,y=>match tail? yt y with
    | none=>none
    | some ⟨τ,(o2,l2)⟩ =>
     if τ.ncells = P.cellsOf elem/\τ.ok = true/\τ.elemOk = true/\isOwn (o2 + 1) = true then
      match x,y with
      | .val (.slice none 0 0),_=>bif List.isEmpty l2 then k (.val (.slice none 0 0)) else (app [] l2).bind λl'=>k (.t (.sl τ) (o2 + 1) l')
      | .room 0 s,.t ..=>if s = P.cellsOf elem then (match yt with
       | .slice _=>bif List.isEmpty l2 then k (.room 0 s) else (app [] l2).bind λl'=>k (.t (.sl τ) (o2 + 1) l')
       | _=>none) else none
      | _,_=>none
     else none
  else none
 | _,_=>none
def scal:TV->Bool
 | .t (.int _) _ _ | .t .bool _ _ | .t .str _ _=>true
 | _=>false
def teq:Nat->TypeId->TV->TV->Option Bool
 | 0,_,_,_=>none
 | d + 1,t,x,y=>match P.underlying t,x,y with
  | some (.int _),.t (.int k) _ a,.t (.int k') _ b=>if k = k' then some (decide (a = b)) else none
  | some .bool,.t .bool _ a,.t .bool _ b=>some (a == b)
  | some .string,.t .str _ a,.t .str _ b=>some (decide (a = b))
  | some (.struct fields),.agg xs,.agg ys=>if P.stoodInHeld t then none else
   fields.toList.foldr (fun fd acc => if fd.name = "_" then none else
    match ofCellsT P fd.type (xs.drop fd.offset),ofCellsT P fd.type (ys.drop fd.offset),acc with
    | some u,some v,some b=>(teq d fd.type u v).map λa=>bif a then b else false
    | _,_,_=>none) (some true)
  | _,_,_=>none
def notNilT:TypeDesc->TV->TV->Bool
 | .pointer _,.ptr ..,.val (.pointer none)=>true
 | .pointer _,.cptr ..,.val (.pointer none)=>true
 | .func ..,.fn ..,.val .nilFunc=>true
 | _,_,_=>false
def isNilT:TypeDesc->TV->TV->Bool
 | .slice _,.val (.slice none 0 0),.val (.slice none 0 0)=>true
 | .pointer _,.val (.pointer none),.val (.pointer none)=>true
 | .func ..,.val .nilFunc,.val .nilFunc=>true
 | _,_,_=>false
def tbin (op:BinOp) (t:TypeId) (x y:TV) (R:Type) (k:TV->Option R):Option R :=
 match x,y with
 | .t (.int k1) _ a,.t (.int k2) _ b =>
  match op with
  | .shl=>(shlI k1 a b).bind λn=>k (.t (.int k1) 0 n)
  | .shr=>(shrI k1 a b).bind λn=>k (.t (.int k1) 0 n)
  | _=>if k1 = k2 then (match op with
   | .and=>k (.t (.int k1) 0 (andI k1 a b))
   | .or=>k (.t (.int k1) 0 (orI k1 a b))
   | .xor=>k (.t (.int k1) 0 (xorI k1 a b))
   | .andNot=>k (.t (.int k1) 0 (andNotI k1 a b))
   | .add=>k (.t (.int k1) 0 (k1.wrap (a + b)))
   | .sub=>k (.t (.int k1) 0 (k1.wrap (a - b)))
   | .mul=>k (.t (.int k1) 0 (k1.wrap (a * b)))
   | .quo=>bif decide (b = 0) then none else k (.t (.int k1) 0 (k1.wrap (a.tdiv b)))
   | .rem=>bif decide (b = 0) then none else k (.t (.int k1) 0 (a.tmod b))
   | .eql=>k (.t .bool 0 (decide (a = b)))
   | .neq=>k (.t .bool 0 (!decide (a = b)))
   | .lss=>k (.t .bool 0 (decide (a < b)))
   | .leq=>k (.t .bool 0 (decide (a<=b)))
   | .gtr=>k (.t .bool 0 (decide (a > b)))
   | .geq=>k (.t .bool 0 (decide (a>=b)))
   | _=>none) else none
 | .t .cx _ a,.t .cx _ b =>
  match P.underlying t,op with
  | some (.complex .f64),.add=>(flo (a.1 + b.1)).bind λre=>(flo (a.2 + b.2)).bind λim=>k (.t .cx 0 (re,im))
  | some (.complex .f64),.mul=>(flo (a.1 * b.1)).bind λac=>(flo (a.2 * b.2)).bind λbd=>(flo (ac - bd)).bind λre=>(flo (a.1 * b.2)).bind λad=>(flo (a.2 * b.1)).bind λbc=>(flo (ad + bc)).bind λim=>k (.t .cx 0 (re,im))
  | _,_=>none
 | .t .str _ a,.t .str _ b =>
  match op with
  | .eql=>k (.t .bool 0 (decide (a = b)))
  | .neq=>k (.t .bool 0 (!decide (a = b)))
  | .lss=>k (.t .bool 0 (Op.bytesLess a b))
  | .add=>(app a b).bind λl=>k (.t .str 0 l)
  | _=>none
 | .t .bool _ a,.t .bool _ b =>
  match P.underlying t,op with
  | some .bool,.eql=>k (.t .bool 0 (a == b))
  | some .bool,.neq=>k (.t .bool 0 (!(a == b)))
  | _,_=>none
 | .agg l,.agg l'=>if P.eqGuardType P.depth t || !(l.all scal && l'.all scal) then none else (match teq P 9 t (.agg l) (.agg l') with
  | some b=>(match op with
   | .eql=>k (.t .bool 0 b)
   | .neq=>k (.t .bool 0 (!b))
   | _=>none)
  | none=>none)
 | .t (.sl τ) _ l,.val (.slice none 0 0) =>
  match P.underlying t with
  | some (.slice _)=>bif List.isEmpty l then none else (match op with
   | .eql=>k (.t .bool 0 false)
   | .neq=>k (.t .bool 0 true)
   | _=>none)
  | _=>none
 | x,y=>match P.underlying t with
  | some d =>
   if notNilT d x y then (match op with
   | .eql=>k (.t .bool 0 false)
   | .neq=>k (.t .bool 0 true)
   | _=>none)
   else if isNilT d x y then (match op with
   | .eql=>k (.t .bool 0 true)
   | .neq=>k (.t .bool 0 false)
   | _=>none)
   else none
  | none=>none
def tun (op:UnOp) (x:TV):Option TV :=
 match op,x with
 | .not,.t .bool _ b=>some (.t .bool 0 (!b))
 | .neg,.t (.int k) _ n=>some (.t (.int k) 0 (k.wrap (0 - n)))
 | _,_=>none
def tconv (src dst:TypeId) (x:TV) (R:Type) (k:TV->Option R):Option R :=
 match P.underlying src,P.underlying dst,x with
 | some _,some (.int kk),.t (.int _) _ n=>k (.t (.int kk) 0 (kk.wrap n))
 | some _,some (.float .f64),.t (.int _) _ n=>(flo n).bind λn=>k (.t .flt 0 n)
 | some _,some (.int .i64),.t .flt _ n=>(flo n).bind λn=>k (.t (.int .i64) 0 n)
 | some _,some .string,.t .str _ s=>k (.t .str 0 s)
 | some (.slice e),some .string,.t (.sl (.int .u8)) _ l=>match P.underlying e with
  | some (.int .u8)=>k (.t .str 0 (l.map λn=>UInt8.ofNat n.toNat))
  | _=>none
 | _,_,_=>none
def tints (k:IntKind):List TV->Option (List Int)
 | []=>some []
 | .t (.int k') _ n :: l=>if k = k' then (tints k l).map (n :: ·) else none
 | _=>none
def tbuiltin (b:Builtin) (argTypes:Array TypeId) (xs:List TV) (R:Type) (k:TV->Option R):Option R :=
 match b,xs with
 | .len,[.t (.sl _) _ l]=>match (argTypes[0]?).bind P.underlying with
  | some (.slice _)=>k (.t (.int .i64) 0 (l.length:Int))
  | _=>none
 | .len,[.clp _ l]=>match (argTypes[0]?).bind P.underlying with
  | some (.slice _)=>k (.t (.int .i64) 0 (l.length:Int))
  | _=>none
 | .len,[.empty _]=>match (argTypes[0]?).bind P.underlying with
  | some (.slice _)=>k (.t (.int .i64) 0 0)
  | _=>none
 | .len,[.t .str _ s]=>match (argTypes[0]?).bind P.underlying with
  | some .string=>k (.t (.int .i64) 0 (s.length:Int))
  | _=>none
 | .cap,[.val (.slice none 0 0)]=>match (argTypes[0]?).bind P.underlying with
  | some (.slice _)=>k (.t (.int .i64) 0 0)
  | _=>none
 | .len,[.val (.slice none 0 0)]=>match (argTypes[0]?).bind P.underlying with
  | some (.slice _)=>k (.t (.int .i64) 0 0)
  | _=>none
 | .append,[x,y]=>if x.bare then tappendR P argTypes x y R k else tappend P argTypes x y R k
 | .complex,[.t .flt _ a,.t .flt _ b]=>k (.t .cx 0 (a,b))
 | .real,[.t .cx _ a]=>k (.t .flt 0 a.1)
 | .imag,[.t .cx _ a]=>k (.t .flt 0 a.2)
 | .max,.t (.int kk) _ n :: xs=>match tints kk xs with
  | some l=>k (.t (.int kk) 0 (l.foldl max n))
  | none=>none
 | .min,.t (.int kk) _ n :: xs=>match tints kk xs with
  | some l=>k (.t (.int kk) 0 (l.foldl min n))
  | none=>none
 | _,_=>none
def topSem (tk:Bool) (o:Op) (xs:List TV) (bx:Option (List TV)) (R:Type) (k:TV->Option (List TV)->Option R):Option R :=
 let v (x:Option TV):Option R:=match x with
  | some x=>k x none
  | none=>none
 match o,xs with
 | .move _,[x] | .assign _,[x]=>k x none
 | .pick ..,[.t .bool _ c,a,b]=>bif c then k a none else k b none
 | .build t parts,xs=>v (tbuild P H f t (parts.toList.map (·.1) |>.zip xs))
 | .buildSlice t len parts,xs=>v (tbuildSlice P H f t len (parts.toList.map (·.1) |>.zip xs))
 | .load t _,[.cptr _ cs]=>v ((ofCellsT P t cs).map TV.dull)
 | .load t _,[.ptr _ off]=>match bx with
  | some cs=>if tk then (match ofCellsT P t (cs.drop off) with
    | some x=>k x (some (spliceT cs off (dullL ((cs.drop off).take (if isAggT P t then P.cellsOf t else 1)))))
    | none=>none)
   else v ((ofCellsT P t (cs.drop off)).map TV.dull)
  | none=>none
 | .store t _ _,[.ptr _ off,x]=>match bx with
  | some cs=>if P.cellsOf t ≠ 0/\x.cells.length = P.cellsOf t/\off + x.cells.length<=cs.length/\x.oks = true then k (.any []) (some (spliceT cs off x.cells)) else none
  | none=>none
 | .nilCheck _,[.ptr r off]=>k (.ptr r off) none
 | .nilCheck _,[.cptr s cs]=>k (.cptr s cs) none
 | .nilCheck _,[.fn g a b]=>k (.fn g a b) none
 | .binOp op t _ (.const _) _,[.t .err _ b,.val .nilIface]=>match P.underlying t,op with
  | some (.interface _),.eql=>k (.t .bool 0 b) none
  | some (.interface _),.neq=>k (.t .bool 0 (!b)) none
  | _,_=>none
 | .binOp op t _ _ _,[x,y]=>tbin P op t x y R λx=>k x none
 | .unOp op _ _,[x]=>v (tun op x)
 | .convert src dst _,[x]=>tconv P src dst x R λx=>k x none
 | .makeFunc (.func g) first _,xs=>k (.fn g (xs.take first.size) (xs.drop first.size)) none
 | .makeSlice t _ _,[l,c]=>tmakeSlice P H f t l c R λx=>k x none
 | .slice t _ lo hi mx,x :: rest =>
  let r1:=if lo.isSome then rest.tail else rest
  let r2:=if hi.isSome then r1.tail else r1
  if x.bare then tsliceR P t x (if lo.isSome then rest.head? else none) (if hi.isSome then r1.head? else none) (if mx.isSome then r2.head? else none) R λx=>k x none else
  tslice P t x (if lo.isSome then rest.head? else none) (if hi.isSome then r1.head? else none) (if mx.isSome then r2.head? else none) R λx=>k x none
 | .fieldAddr t _ fd,[x]=>v (tfieldAddr P t x fd)
 | .field t _ fd,[x]=>v (tfield P t x fd)
 | .sliceToArrayPointer t _,[x]=>tarrayAt P t x R λx=>k x none
 | .indexAddr t _ _,[x,.t (.int _) _ i]=>tindexAddr P t x i R λx=>k x none
 | .index t _ _,[x,.t (.int _) _ i]=>(match P.underlying t,x with
  | some (.array len elem),.agg cs=>tindex P elem len cs i R λx=>k x none
  | some .string,.t .str _ s=>(idx s i).bind λb=>k (.t (.int .u8) 0 (b.toNat:Int)) none
  | _,_=>none)
 | .extract _ i,[.tuple l]=>v l[i]?
 | .call { callee:=.builtin b,argTypes,.. },xs=>tbuiltin P b argTypes xs R λx=>k x none
 | _,_=>none
noncomputable def rdT (o:Oper) (E:Env):Operand->TV
 | .tmp t=>if takes H f o then E.get t else (E.get t).dull
 | .const v=>constTV (H.precise f || preciseOp o.op) v
 | .func g=>.fn g [] []
 | .global _=>.any []
noncomputable def dullAtT (E:Env) (ts:List Tmp):Env:=ts.foldl (λE t=>E.set t (E.get t).dull) E
def rootOfT:Op->List TV->Option Root
 | .load ..,.ptr r _ :: _=>some r
 | .store ..,.ptr r _ :: _=>some r
 | _,_=>none
def rangeOfT:Op->List TV->Nat × Nat
 | .load t _,.ptr _ off :: _=>(off,if isAggT P t then P.cellsOf t else 1)
 | .store ..,[.ptr _ off,x]=>(off,x.cells.length)
 | _,_=>(0,0)
def wptrsT:Op->List TV->List Root
 | .store ..,[_,x]=>x.ptrs
 | _,_=>[]
def looksCallT:TV->Bool
 | .fn g _ _=>H.peek g
 | _=>false
def pureCallT:TV->List TV->Bool
 | .fn _ first cap,args=>(ptrsTL (first ++ args ++ cap)).isEmpty
 | _,_=>false
end
def keyS:Ty->Bool
 | .int _ | .bool | .str=>true
 | _=>false
def keyR:Ty->Bool
 | .unit=>true
 | .pair a b=>keyS a && keyR b
 | _=>false
def keyTy:Ty->Bool
 | .pair a b=>keyS a && keyR b
 | τ=>keyS τ
def valS:(τ:Ty)->τ.den->Value
 | .int k,n=>.int k n
 | .bool,b=>.bool b
 | .str,s=>.string ⟨s.toArray⟩
 | _,_=>.tuple #[]
def valR:(τ:Ty)->τ.den->List Value
 | .pair a b,x=>valS a x.1 :: valR b x.2
 | _,_=>[]
def keyVal (τ:Ty) (x:τ.den):Value :=
 match τ,x with
 | .pair a b,x=>.agg (valS a x.1 :: valR b x.2).toArray
 | τ,x=>valS τ x
def eqS:(τ:Ty)->τ.den->τ.den->Bool
 | .int _,a,b=>decide (a = b)
 | .bool,a,b=>a == b
 | .str,a,b=>decide (a = b)
 | _,_,_=>false
def eqR:(τ:Ty)->τ.den->τ.den->Bool
 | .unit,_,_=>true
 | .pair a b,x,y=>bif eqS a x.1 y.1 then eqR b x.2 y.2 else false
 | _,_,_=>false
def eqK (τ:Ty) (x y:τ.den):Bool :=
 match τ,x,y with
 | .pair a b,x,y=>bif eqS a x.1 y.1 then eqR b x.2 y.2 else false
 | τ,x,y=>eqS τ x y
def memK (τ:Ty) (l:List τ.den) (k:τ.den):Bool:=l.any λx=>eqK τ k x
def insK (τ:Ty) (l:List τ.den) (k:τ.den):List τ.den:=bif memK τ l k then l else l ++ [k]
section
variable (P:Program) (H:Hints) (f:FuncId)
def scalT (t:TypeId) (τ:Ty):Bool :=
 match P.underlying t,τ with
 | some (.int k),.int k'=>decide (k = k')
 | some .bool,.bool=>true
 | some .string,.str=>true
 | _,_=>false
def fitsF:List Field->Nat->Ty->Bool
 | [],_,.unit=>true
 | fd :: fs, i, .pair a b => decide (fd.name ≠ "_") && decide (fd.offset = i) && scalT P fd.type a && fitsF fs (i + 1) b
 | _,_,_=>false
def keyFits (t:TypeId) (τ:Ty):Bool :=
 scalT P t τ || match P.underlying t,τ with
 | some (.struct fields),.pair a b=>!P.stoodInHeld t && fitsF P fields.toList 0 (.pair a b)
 | _,_=>false
def isMapOpT:Op->List TV->Bool
 | .makeMap ..,_ | .lookup ..,_ | .mapUpdate ..,_ | .insert ..,_=>true
 | .call { callee:=.builtin .len,.. },[.mref _]=>true
 | _,_=>false
def isConstIntT:List TV->Bool
 | []=>true
 | [.t (.int _) _ _]=>true
 | _=>false
def mapStepT (o:Oper) (xs:List TV) (st:TSt) (R:Type) (k:TV->TSt->Fp->Option R):Option R :=
 match o.op with
 | .makeMap t _=>match o.dst,P.underlying t with
  | some d,some (.map kt vt)=>match tyOf P kt with
   | some τ=>if (lookT st.B (mapSlot d)).isNone/\keyTy τ = true/\isConstIntT xs = true then
     k (.mref ⟨st.L.length,mapSlot d⟩) { st with B:=(mapSlot d,some [.t (.mset τ) 0 []]) :: st.B,Wb:=⟨st.L.length,mapSlot d⟩ :: st.Wb } (.fresh ⟨st.L.length,mapSlot d⟩) else none
   | none=>none
  | _,_=>none
 | .lookup t _ _ ok=>match xs with
  | [.mref r,x]=>match st.box r,P.underlying t with
   | some [.t (.mset τ) _ l],some (.map kt vt)=>if keyFits P kt τ = true then (match zeroT P H f vt,asTy τ 0 x with
     | some (.t .bool _ false),some y=>k (if ok then .tuple [.t .bool 0 (memK τ l y),.t .bool 0 (memK τ l y)] else .t .bool 0 (memK τ l y)) st .looks
     | _,_=>none) else none
   | _,_=>none
  | _=>none
 | .mapUpdate t _ _ _ | .insert t _ _ _=>match xs with
  | [.mref r,x,.t .bool _ true]=>match st.box r,P.underlying t with
   | some [.t (.mset τ) _ l],some (.map kt vt)=>if keyFits P kt τ = true then (match asTy τ 0 x with
     | some y=>k (.any []) (st.setBox r [.t (.mset τ) 0 (insK τ l y)]) (.mapw r)
     | none=>none) else none
   | _,_=>none
  | _=>none
 | .call { callee:=.builtin .len,argTypes,.. }=>match xs with
  | [.mref r]=>match st.box r,(argTypes[0]?).bind P.underlying with
   | some [.t (.mset τ) _ l],some (.map _ _)=>if argTypes.toList.any H.mapT then k (.t (.int .i64) 0 (l.length:Int)) st .looks else none
   | _,_=>none
  | _=>none
 | _=>none
end
mutual
/-- the map that it leads to lies elsewhere -/
def TV.adopt (q:Root):TV->TV
 | .mref _=>.mref q
 | .cptr s l=>.cptr s (adoptTL q l)
 | .fn g a b=>.fn g (adoptTL q a) (adoptTL q b)
 | .agg l=>.agg (adoptTL q l)
 | .tuple l=>.tuple (adoptTL q l)
 | v=>v
def adoptTL (q:Root):List TV->List TV
 | []=>[]
 | v :: l=>v.adopt q :: adoptTL q l
end
mutual
/-- nothing in it leads anywhere but to a map -/
def TV.onlyMaps:TV->Bool
 | .any _ | .ptr .. | .bsl .. | .iface .. | .yld _ | .lp ..=>false
 | .cptr _ l=>onlyMapsTL l
 | .fn _ a b=>onlyMapsTL a && onlyMapsTL b
 | .agg l=>onlyMapsTL l
 | .tuple l=>onlyMapsTL l
 | _=>true
def onlyMapsTL:List TV->Bool
 | []=>true
 | v :: l=>v.onlyMaps && onlyMapsTL l
end
def isSeqT (H:Hints):TV->Bool
 | .fn g _ _=>(H.seq g).isSome
 | _=>false
def isBornT (H:Hints):TV->Bool
 | .fn g _ _=>H.born g
 | _=>false
noncomputable def TSt.get (st:TSt) (p:Place):TV :=
 match p.lvl with
 | none=>st.E.get p.slot
 | some l=>match st.box ⟨l,p.slot⟩ with
  | some cs=>cs.getD p.cell (.any [])
  | none=>.any []
def subset (l m:List Root):Bool:=l.all λr=>m.contains r
def Place.isIn (lv:List Place) (l:Option Nat) (s c:Nat):Bool:=lv.any λp=>decide (p.lvl = l) && decide (p.slot = s) && decide (p.cell = c)
def isPtrT:TV->Root->Nat->Bool
 | .ptr r o,r',o'=>decide (r = r') && decide (o = o')
 | _,_,_=>false
noncomputable def TSt.keeps (st:TSt) (j:Join):Bool:=j.kp.all λp=>isPtrT (st.E.get p.1) p.2.1 p.2.2
noncomputable def putPs:TSt->List (Tmp × Root × Nat)->TSt
 | st,[]=>st
 | st,p :: l=>putPs { st with E:=st.E.set p.1 (.ptr p.2.1 p.2.2) } l
noncomputable def TSt.forgets (st:TSt) (j:Join):Bool :=
 (st.E.all λt v=>Bool.rec (motive:=λ_=>Bool) true (Place.isIn j.lv none t 0 || subset v.ptrs (j.rsAt t)) (j.D.has t)) &&
 (j.wr.all λr=>match st.cont r with
  | some cs=>!isRec cs && (List.range cs.length).all λi=>Place.isIn j.lv (some r.lvl) r.slot i || subset (cs.getD i (.any [])).ptrs j.rb
  | none=>true) && st.keeps j
def TSt.wrote (st:TSt) (j:Join):Bool:=st.Wt.sub j.D && (st.Wb.all λr=>j.wr.contains r || decide (st.L.length < r.lvl))
def anyB (rs:List Root) (b:TLevel) (s:Nat):TLevel :=
 match lookT b s with
 | none=>(s,none) :: b
 | some none=>b
 | some (some cs)=>setT b s (some (cs.map λ_=>.any rs))
def TSt.forget (st:TSt) (rs:List Root) (r:Root):TSt :=
 if r.lvl = st.L.length then { st with B:=anyB rs st.B r.slot } else { st with L:=st.L.modify r.lvl λb=>anyB rs b r.slot }
noncomputable def TSt.setPlace (st:TSt) (p:Place) (v:TV):TSt :=
 match p.lvl with
 | none=>{ st with E:=st.E.set p.slot v }
 | some l=>match st.box ⟨l,p.slot⟩ with
  | some cs=>{ st.setBox ⟨l,p.slot⟩ (cs.set p.cell v) with Wb:=st.Wb }
  | none=>st
noncomputable def setPlaces (st:TSt):List Place->List TV->TSt
 | p :: ps,v :: vs=>setPlaces (st.setPlace p v) ps vs
 | _,_=>st
noncomputable def TSt.rebuild0 (st:TSt) (j:Join) (vs:List TV):TSt :=
 setPlaces { j.wr.foldl (λst r=>st.forget j.rb r) { st with E:=forgetM j.D j.rsAt st.E } with Wt:=j.D ++ st.Wt,Wb:=j.wr ++ st.Wb } j.lv vs
noncomputable def TSt.rebuild (st:TSt) (j:Join) (vs:List TV):TSt:=putPs (st.rebuild0 j vs) j.kp
def TSt.fresh (st:TSt):TSt:={ st with Wt:=.empty,Wb:=[] }
def TSt.merge (st st0:TSt):TSt:={ st with Wt:=st.Wt ++ st0.Wt,Wb:=st.Wb ++ st0.Wb }
def TSt.like (st st0:TSt) (j:Join):Bool:=j.wr.all λr=>match st0.cont r with
 | some cs=>(match st.cont r with
  | some cs2=>decide (cs2.length = cs.length)
  | none=>false)
 | none=>true
noncomputable def TSt.outs (st st0:TSt) (j:Join):Option (denL (j.ps.map (·.1))) :=
 if st.forgets j && st.wrote j && st.like st0 j then asL j.ps (j.lv.map st.get) else none
noncomputable def joinT (j:Option Join) (st:TSt) (run:TSt->(R:Type)->(Ex->TSt->Option R)->Option R) (R:Type) (k:Ex->TSt->Option R):Option R :=
 match j with
 | none=>run st R k
 | some j =>
  if j.abn then
   (run st.fresh (denL (j.ps.map (·.1)) ⊕ R) λe st2=>match e with
    | .normal=>(st2.outs st j).map .inl
    | e=>(k e (st2.merge st)).map .inr).bind (Sum.elim (λx=>k .normal (st.rebuild j (ofL j.ps x))) some)
  else
   (run st.fresh (denL (j.ps.map (·.1))) λe st2=>match e with
    | .normal=>st2.outs st j
    | _=>none).bind λx=>k .normal (st.rebuild j (ofL j.ps x))
def clearTB (D:List Tmp):TLevel->TLevel
 | []=>[]
 | (k,c) :: l=>if D.contains k then clearTB D l else (k,c) :: clearTB D l
noncomputable def clearTE (D:List Tmp) (E:Env):Env:=forgetM (Mask.ofList D) (λ_=>[]) E
def ptrsTB:TLevel->List Root
 | []=>[]
 | (_,some c) :: l=>ptrsTL c ++ ptrsTB l
 | (_,none) :: l=>ptrsTB l
def fullB:TLevel->Bool
 | []=>true
 | (_,c) :: l=>c.isSome && fullB l
def goneB (D:List Tmp) (n:Nat):TLevel->List Root
 | []=>[]
 | (k,_) :: l=>if D.contains k then ⟨n,k⟩ :: goneB D n l else goneB D n l
def inE (st:TSt) (D:List Tmp):List Tmp:=D.filter λt=>decide (t < st.E.n)
noncomputable def TSt.clear (D:List Tmp) (st:TSt):Option TSt :=
 let E:=clearTE (inE st D) st.E
 let B:=clearTB D st.B
 if decide (B.length = st.B.length) || ((E.all λ_ v=>okPtrs st.L.length D v.ptrs) && okPtrs st.L.length D (ptrsTB B) && fullB B) then some { st with E,B,Wt:=Mask.ofList (inE st D) ++ st.Wt,Wb:=goneB D st.L.length st.B ++ st.Wb } else none
structure TOrc where
 call:List Tmp->FuncId->List TV->List TLevel->(R:Type)->(TV->List TLevel->List Root->Option R)->Option R
 code:List Tmp->FuncId->Nat->Code->TSt->(R:Type)->(Ex->TSt->Option R)->Option R
 born:List Tmp->FuncId->List TV->(R:Type)->(TV->TV->Option R)->Option R
def lastSplitT:List TLevel->Option (List TLevel × TLevel)
 | []=>none
 | [b]=>some ([],b)
 | b :: c :: l=>(lastSplitT (c :: l)).map λ(x,y)=>(b :: x,y)
section
variable (P:Program) (H:Hints) (J:TH) (T:CallT) (O:TOrc) (ctx:List Tmp) (f:FuncId)
noncomputable def zipSetT:Env->List Tmp->List TV->Env
 | E,t :: ts,v :: vs=>zipSetT (E.set t v) ts vs
 | E,_,_=>E
def TSt.setRec (st:TSt) (r:Root) (v:TV):TSt:={ st.setBox r [v] with Wb:=st.Wb }
noncomputable def roundT (d:Tmp) (r:Root) (args:List TV) (st:TSt) (R:Type) (k:TV->TSt->Option R):Option R :=
 match st.cont r with
 | some [.lp .ready none g env ps asz bo] =>
  if args.length ≠ ps.length then none else
  O.code (d :: ctx) g 0 asz { E:=zipSetT (Env.ofArgs env env.length) ps (dullL args),L:=st.L ++ [st.B],B:=[],Wt:=.empty,Wb:=[] } R λe s2=>match e with
   | .normal=>(match s2.cont r with
    | some [.lp .ready none g2 env2 ps2 as2 bo2] =>
     O.code (d :: ctx) g 0 bo (s2.setRec r (.lp .busy none g2 env2 ps2 as2 bo2)) R λex s3=>(match s3.cont r with
      | some [.lp _ _ g3 env3 ps3 as3 bo3] =>
       (match lastSplitT (s3.setRec r (.lp (if ex.code.isNone then .ready else .done) ex.code g3 env3 ps3 as3 bo3)).L with
       | some (L,B)=>if L.length = st.L.length then k (.t .bool 0 ex.code.isNone) { st with L,B,Wb:=(if ex.code.isNone then [] else [r]) ++ (s3.Wb ++ st.Wb) } else none
       | none=>none)
      | _=>none)
    | _=>none)
   | _=>none
 | _=>none
noncomputable def callVT (d:Tmp) (fv:TV) (args:List TV) (st:TSt) (R:Type) (k:TV->TSt->Option R):Option R :=
 match fv with
 | .fn g first cap =>
  if knownL (first ++ args ++ cap) then
   (if (ptrsTL (first ++ args ++ cap)).isEmpty then
    (if J.inl ctx f d then O.call (d :: ctx) g (shareL (first ++ args ++ cap)) [] R λr M _=>match M with
     | []=>k (if tightL (first ++ args ++ cap) then r else r.loosen) st
     | _=>none
    else T g (shareL (first ++ args ++ cap)) R λr=>k (if tightL (first ++ args ++ cap) then r else r.loosen) st)
   else if H.peek g then (match peekTL st.box (first ++ args ++ cap) with
    | some xs=>if (ptrsTL xs).isEmpty then T g xs R λr=>if r.mine then k r st else none else none
    | none=>none)
   else O.call (d :: ctx) g (dullL (first ++ args ++ cap)) (st.L ++ [st.B]) R λr M wb=>match lastSplitT M with
    | some (L,B)=>if L.length = st.L.length then k r { st with L,B,Wb:=wb ++ st.Wb } else none
    | none=>none)
  else none
 | .yld r=>roundT O ctx d r args st R k
 | _=>none
noncomputable def bornT (d:Option Tmp) (fv:TV) (args:List TV) (st:TSt) (R:Type) (k:TV->TSt->Fp->Option R):Option R :=
 match fv,d with
 | .fn g first cap,some d =>
  if knownL (first ++ args ++ cap) && (ptrsTL (first ++ args ++ cap)).isEmpty && tightL (first ++ args ++ cap) && (lookT st.B (mapSlot d)).isNone then
   O.born (d :: ctx) g (shareL (first ++ args ++ cap)) R λr c=>k (r.adopt ⟨st.L.length,mapSlot d⟩) { st with B:=(mapSlot d,some [c]) :: st.B,Wb:=⟨st.L.length,mapSlot d⟩ :: st.Wb } (.fresh ⟨st.L.length,mapSlot d⟩)
  else none
 | _,_=>none
noncomputable def seqT (d:Option Tmp) (fv:TV) (args:List TV) (st:TSt) (R:Type) (k:TV->TSt->Fp->Option R):Option R :=
 match fv,d with
 | .fn g first cap,some d=>match first ++ args ++ cap with
  | [.t .str _ s,.t .str _ sep]=>match H.seq g with
   | some clos=>if (lookT st.B d).isNone then k (.fn clos [] [.cptr true [.t .str 0 sep],.ptr ⟨st.L.length,d⟩ 0,.cptr true [.t (.int .i64) 0 0]]) { st with B:=(d,some [.t .str 0 s]) :: st.B,Wb:=⟨st.L.length,d⟩ :: st.Wb } (.fresh ⟨st.L.length,d⟩) else none
   | none=>none
  | _=>none
 | _,_=>none
def mcallOfT:TV->List TV->Option Root
 | .fn _ first cap,args=>if knownL (first ++ args ++ cap) then (match ptrsTL (first ++ args ++ cap) with
  | q :: rest=>if rest.all (λr=>decide (r = q)) && onlyMapsTL (first ++ args ++ cap) then some q else none
  | []=>none) else none
 | _,_=>none
def hideT (n:Nat) (q:Root) (c:List TV):List TLevel:=(List.range n).map λl=>if l = q.lvl then [(q.slot,some c)] else []
def lookMT (M:List TLevel) (r:Root):Option (Option (List TV)):=match M[r.lvl]? with
 | some b=>lookT b r.slot
 | none=>none
noncomputable def mcallT (d:Tmp) (g:FuncId) (args:List TV) (q:Root) (st:TSt) (R:Type) (k:TV->TSt->Option R):Option R :=
 match st.box q with
 | some [.t (.mset τ) o l]=>O.call (d :: ctx) g (dullL args) (hideT (st.L.length + 1) q [.t (.mset τ) o l]) R λr M _ =>
   if r.known && r.ptrs.isEmpty && !r.owns then (match lookMT M q with
    | some (some [.t (.mset τ') o' l'])=>k r (st.setBox q [.t (.mset τ') o' l'])
    | _=>none) else none
 | _=>none
def isSpecT (fv:TV) (args:List TV):Bool:=isBornT H fv || (isSeqT H fv || (mcallOfT fv args).isSome)
noncomputable def specT (d:Option Tmp) (fv:TV) (args:List TV) (st:TSt) (R:Type) (k:TV->TSt->Fp->Option R):Option R :=
 if isBornT H fv then bornT O ctx d fv args st R k else if isSeqT H fv then seqT H d fv args st R k else match fv,mcallOfT fv args with
  | .fn g first cap,some q=>mcallT O ctx (d.getD 0) g (first ++ args ++ cap) q st R λv s=>k v s (.mapw q)
  | _,_=>none
noncomputable def stepMT (o:Oper) (xs:List TV) (st:TSt) (R:Type) (k:TV->TSt->Fp->Option R):Option R :=
 match o.op with
 | .alloc t=>match o.dst,zeroT P H f t with
  | some d,some z=>if (lookT st.B d).isNone then k (.ptr ⟨st.L.length,d⟩ 0) { st with B:=(d,some z.cells) :: st.B,Wb:=⟨st.L.length,d⟩ :: st.Wb } (.fresh ⟨st.L.length,d⟩) else none
  | _,_=>none
 | .box t _=>match o.dst,xs with
  | some d,[x]=>if (lookT st.B d).isNone/\x.cells.length = P.cellsOf t/\x.oks = true then k (.ptr ⟨st.L.length,d⟩ 0) { st with B:=(d,some x.cells) :: st.B,Wb:=⟨st.L.length,d⟩ :: st.Wb } (.fresh ⟨st.L.length,d⟩) else none
  | _,_=>none
 | .call { callee:=.value _,.. }=>match xs with
  | fv :: args=>if isSpecT H fv args then specT H O ctx o.dst fv args st R k else callVT H J T O ctx f (o.dst.getD 0) fv args st R λv s=>k v s (if pureCallT fv args then .none else if looksCallT H fv then .looks else .all)
  | []=>none
 | op=>if isMapOpT op xs then mapStepT P H f o xs st R k else match rootOfT op xs with
  | none=>topSem P H f (takes H f o) op xs none R λv c=>match c with
   | none=>k v st .none
   | some _=>none
  | some r=>if 16384<=r.slot then none else topSem P H f (takes H f o) op xs (st.box r) R λv c=>match c with
   | none=>k v st (.root r (rangeOfT P op xs).1 (rangeOfT P op xs).2 false)
   | some c=>if (wptrsT op xs).all (λp=>decide (p.lvl<=r.lvl)) && decide ((rangeOfT P op xs).1 + (rangeOfT P op xs).2<=c.length) then k v (st.setBox r c) (.root r (rangeOfT P op xs).1 (rangeOfT P op xs).2 true) else none
noncomputable def stepFpT (o:Oper) (st:TSt) (R:Type) (k:TSt->Fp->Option R):Option R :=
 if takes H f o && !nodupT (tmpsOf o) then none else
 stepMT P H J T O ctx f o (o.op.operands.toList.map (rdT H f o st.E)) (if takes H f o then { st with E:=dullAtT st.E (tmpsOf o),Wt:=Mask.ofList ((tmpsOf o).filter (λt=>(st.E.get t).owns)) ++ st.Wt } else st) R λv s fp=>k (s.put o.dst v) fp
noncomputable def gateT (ops:Array Oper) (o:Oper) (st:TSt) (R:Type) (yes no:TSt->Option R):Option R :=
 match o.guard with
 | none=>yes st
 | some (j,want)=>match (ops[j]?).bind (·.dst) with
  | some t=>match st.E.get t with
   | .t .bool _ b=>bif b then (let st1:TSt:={ st with E:=st.E.set t (.t .bool 0 true) }; if want then yes st1 else no st1)
     else (let st1:TSt:={ st with E:=st.E.set t (.t .bool 0 false) }; if want then no st1 else yes st1)
   | .val (.tuple vs)=>if vs.size = 0 then no st else none
   | _=>none
  | none=>none
noncomputable def execT (ops:Array Oper):List Nat->TSt->(R:Type)->(TSt->Option R)->Option R
 | [],st,_,k=>k st
 | i :: rest,st,R,k =>
  match ops[i]? with
  | none=>none
  | some o=>gateT ops o st R (λst=>stepFpT P H J T O ctx f o st R λst' _=>execT ops rest st' R k) (λst=>execT ops rest (st.put o.dst (.val undef)) R k)
noncomputable def tookAtT (o:Oper) (E:Env):List Tmp:=if takes H f o then (tmpsOf o).filter λt=>(E.get t).owns else []
noncomputable def execRT (ops:Array Oper):List Nat->TSt->List (Nat × Foot)->(R:Type)->(TSt->List (Nat × Foot)->Option R)->Option R
 | [],st,fps,_,k=>k st fps
 | i :: rest,st,fps,R,k =>
  match ops[i]? with
  | none=>none
  | some o=>gateT ops o st R
    (λst=>stepFpT P H J T O ctx f o st R λst' fp=>execRT ops rest st' ((i,⟨fp,tookAtT H f o st.E,looksT H f ops o⟩) :: fps) R k)
    (λst=>execRT ops rest (st.put o.dst (.val undef)) ((i,⟨.none,[],looksT H f ops o⟩) :: fps) R k)
noncomputable def idxOfT (E:Env):Operand->Option Int
 | .tmp t=>tint (E.get t)
 | .const v=>match v with
  | .int _ n=>some n
  | _=>none
 | _=>none
noncomputable def lkPathT (ops:Array Oper) (E:Env):Nat->Nat->Tmp->Option (Rt × List (Int × Nat × Nat) × Bool)
 | 0,_,_=>none
 | n + 1,k,d=>if H.link f d = false then some (.tmp d,[],false) else
  match defAt ops k d with
  | none=>none
  | some c=>match (ops[c]?).map Oper.op with
   | some (.move (.tmp a))=>lkPathT ops E n c a
   | some (.indexAddr t (.tmp a) i) =>
    match lkPathT ops E n c a,idxOfT E i,P.underlying t with
    | some (r,p,false),some j,some (.slice elem)=>some (r,(j,0,P.cellsOf elem) :: p,true)
    | _,_,_=>none
   | some (.fieldAddr t (.tmp a) fd) =>
    match lkPathT ops E n c a,fieldOff P t fd with
    | some (r,(j,o,s) :: p,true),some o'=>some (r,(j,o + o',s) :: p,true)
    | _,_=>none
   | some (.load t (.tmp a)) =>
    if isAggT P t then none else
    if H.link f a then (match lkPathT ops E n c a with
     | some (r,p,true)=>some (r,p,false)
     | _=>none)
    else match E.get a with
     | .ptr r off=>some (.box r off,[],false)
     | _=>none
   | _=>none
def recellT (e:TV) (cs:List TV):TV :=
 match e with
 | .agg _=>.agg cs
 | _=>cs.headD (.any [])
def updT (ys:List TV):List (Int × Nat × Nat)->TV->(R:Type)->(TV->Option R)->Option R
 | (i,o,s) :: p,.t (.sl τ) lv l,R,k =>
  if isOwn lv = true/\τ.ncells = s/\s ≠ 0/\τ.ok = true/\τ.elemOk = true then
   (idx l i).bind λe=>match p with
    | []=>if o + ys.length<=s then (match asTy τ (nx lv) (recellT (ofTy τ (nx lv) e) (spliceT (ofTy τ (nx lv) e).cells o ys)) with
      | some e'=>k (.t (.sl τ) lv (l.set i.toNat e'))
      | none=>none) else none
    | _ :: _=>match (ofTy τ (nx lv) e).cells[o]? with
     | some z=>updT ys p z R λz'=>match asTy τ (nx lv) (recellT (ofTy τ (nx lv) e) ((ofTy τ (nx lv) e).cells.set o z')) with
      | some e'=>k (.t (.sl τ) lv (l.set i.toNat e'))
      | none=>none
     | none=>none
  else none
 | _,_,_,_=>none
def hardTB (b:TLevel):TLevel:=b.map λp=>(p.1,p.2.map (List.map TV.hard))
noncomputable def softT (E:Env):Mask:=E.mask λx=>!(x.firm || x.isAny)
def softB:TLevel->List Root
 | []=>[]
 | (_,none) :: b=>softB b
 | (k,some c) :: b=>if c.all TV.firm then softB b else ⟨0,k⟩ :: softB b
noncomputable def TSt.soften (st:TSt) (T:List Tmp):TSt :=
 { st with E:=(dullAtT st.E T).mapI (λ_ v=>v.hard),B:=hardTB st.B,Wt:=Mask.ofList (T.filter (λt=>(st.E.get t).owns)) ++ (softT (dullAtT st.E T) ++ st.Wt),Wb:=softB st.B ++ st.Wb }
structure Hole where
 r:Tmp
 τ:Ty
 lv:Nat
 l:List τ.den
 j:Int
noncomputable def fillH (hole:Option Hole) (r0:Tmp) (p:List (Int × Nat × Nat)) (x:TV) (st:TSt) (R:Type) (k:TSt->Option R):Option R :=
 match hole,p with
 | some h,[(i,0,1)]=>if h.r = r0 then (match x with
   | .t (.sl τ) o y=>(match asTy h.τ (nx h.lv) (.t (.sl τ) o y) with
    | some e=>bif decide (i = h.j) then (if (TV.t (.sl h.τ) h.lv (h.l.set h.j.toNat e)).firm then k (st.put (some r0) (.t (.sl h.τ) h.lv (h.l.set h.j.toNat e))) else none) else none
    | none=>none)
   | _=>none) else none
 | _,_=>none
noncomputable def lsT (ops:Array Oper) (s:Nat) (o:Oper) (st:TSt) (hole:Option Hole) (R:Type) (k:TSt->Option R):Option R :=
 match o.op with
 | .store t (.tmp d) xo =>
  let x:=rdT H f o st.E xo
  if st.L.isEmpty && noRecB st.B && st.B.all (λp=>decide (p.1 < 16384)) && o.dst.isNone && o.guard.isNone && nodupT (tmpsOf o) && decide (P.cellsOf t ≠ 0) && decide (x.cells.length = P.cellsOf t) && x.oks && x.ptrs.isEmpty then
   match lkPathT P H f ops st.E ops.size s d with
   | some (.tmp r,p,true)=>if (tmpsOf o).contains r then none else
    if hole.isSome then fillH hole r p x (st.soften (tmpsOf o)) R k else
    updT x.cells p.reverse (st.E.get r) R λy=>if y.firm then k ((st.soften (tmpsOf o)).put (some r) y) else none
   | some (.box q off,p,true)=>match st.box q with
    | some cs=>match cs[off]? with
     | some z=>updT x.cells p.reverse z R λy=>if y.firm then k ((st.soften (tmpsOf o)).setBox q ((cs.map TV.hard).set off y)) else none
     | none=>none
    | none=>none
   | _=>none
  else none
 | _=>none
noncomputable def apT (ops:Array Oper) (s:Nat) (o:Oper) (st:TSt) (R:Type) (k:TSt->Hole->Option R):Option R :=
 match o.op with
 | .call { args,.. }=>match (args[0]?:Option Operand) with
  | some (.tmp d)=>match lkPathT P H f ops st.E ops.size s d with
   | some (.tmp r,[(j,0,1)],false)=>if r = d\/st.E.n<=d then none else
    (match st.E.get r with
    | .t (.sl (.sl τ)) lv l=>if isOwn lv && isOwn (nx lv) then (idx l j).bind λe =>
      k { st with E:=(st.E.set r (.any [])).set d (.t (.sl τ) (nx lv) e),Wt:=Mask.ins r (Mask.ins d st.Wt) } ⟨r,.sl τ,lv,l,j⟩ else none
    | _=>none)
   | _=>none
  | _=>none
 | _=>none
def keepH (o:Oper):Option Hole->Option Hole
 | some h=>if o.dst = some h.r\/(tmpsOf o).contains h.r = true then none else some h
 | none=>none
def isCptrT:TV->Bool
 | .cptr ..=>true
 | _=>false
noncomputable def lkGateT (o:Oper) (E:Env):Bool :=
 !isLk H f o || ((match o.dst with
  | some d=>decide (d < E.n)
  | none=>true) && (match o.op with
  | .load _ (.tmp a)=>!H.link f a || isCptrT (E.get a)
  | _=>true))
noncomputable def execLT (ops:Array Oper):List Nat->TSt->Option Hole->List (Nat × Foot)->(R:Type)->(TSt->List (Nat × Foot)->Option R)->Option R
 | [],st,_,fps,_,k=>k st fps
 | i :: rest,st,hole,fps,R,k =>
  match ops[i]? with
  | none=>none
  | some o=>if isLs H f o then lsT P H f ops i o st hole R λst'=>execLT ops rest st' none ((i,⟨.all,[],looksAt ops o⟩) :: fps) R k
   else if isAp H f o then (if isLk H f o then none else apT P H f ops i o st R λst hole=>gateT ops o st R
    (λst=>stepFpT P H J T O ctx f o st R λst' fp=>execLT ops rest st' (keepH o (some hole)) ((i,⟨fp,tookAtT H f o st.E,looksT H f ops o⟩) :: fps) R k)
    (λst=>execLT ops rest (st.put o.dst (.val undef)) (keepH o (some hole)) ((i,⟨.none,[],looksT H f ops o⟩) :: fps) R k))
   else if lkGateT H f o st.E then gateT ops o st R
    (λst=>stepFpT P H J T O ctx f o st R λst' fp=>execLT ops rest st' (keepH o hole) ((i,⟨fp,tookAtT H f o st.E,looksT H f ops o⟩) :: fps) R k)
    (λst=>execLT ops rest (st.put o.dst (.val undef)) (keepH o hole) ((i,⟨.none,[],looksT H f ops o⟩) :: fps) R k)
   else none
def tmpOf:Operand->Tmp
 | .tmp t=>t
 | _=>0
def ancsM (ops:List Oper):List Mask :=
 ops.foldl (λacc o=>acc ++ [(boundE o).foldl (λm j=>Mask.ins j (m ++ acc.getD j .empty)) .empty]) []
def regionOkM (U:List (Nat × Nat)) (ops:Array Oper):Bool :=
 let asz:=ancsM ops.toList
 (List.range ops.size).all λi =>
  match ops[i]? with
  | none=>false
  | some y=>(boundE y).all (λj=>decide (j < i)) && (List.range i).all λj =>
   (asz.getD i .empty).has j || match ops[j]? with
    | none=>false
    | some x=>dstApart ops x y && (textApart H f ops x y || U.contains (j,i))
def beforM (draw:Bool) (asz:List Mask) (i c:Nat):Bool:=if draw then (asz.getD c .empty).has i else decide (i < c)
def linkOneM (draw:Bool) (asz:List Mask) (ops:Array Oper) (lone:Bool) (c:Nat) (oc:Oper):Bool :=
 (!isLk H f oc || (oc.guard.isNone && (match oc.dst with
   | some d=>!(tmpsOf oc).contains d
   | none=>true) && (List.range ops.size).all λi=>i == c || beforM draw asz i c || match ops[i]? with
    | some oi=>okAfter H f oc oi
    | none=>false)) &&
 (!isLs H f oc || (oc.guard.isNone && (List.range ops.size).all λi=>i == c || beforM draw asz i c || beforM draw asz c i)) &&
 (!(isLk H f oc && nestLoad H f oc) || lone) &&
 (!isAp H f oc || (List.range ops.size).any λs=>beforM draw asz c s && match ops[s]? with
  | some os=>isLs H f os
  | none=>false) &&
 (!isAp H f oc || (List.range ops.size).all λi=>i == c || beforM draw asz i c || beforM draw asz c i || match ops[i]? with
  | some oi=>freeMv H f ops c oc oi
  | none=>false)
def linkOkM (draw:Bool) (ops:Array Oper):Bool :=
 let asz:=ancsM ops.toList
 let lone:=decide ((ops.toList.filter (isLs H f)).length<=1)
 (List.range ops.size).all λc=>match ops[c]? with
  | some oc=>linkOneM H f draw asz ops lone c oc
  | none=>false
noncomputable def preT:List Tmp->TSt->Option TSt
 | [],st=>some st
 | D,st=>st.clear D
noncomputable def turnT (F:List Int->Option (List Int)) (t:Tmp) (d:Option Tmp) (st:TSt) (R:Type) (k:TSt->Option R):Option R :=
 if st.L.isEmpty && noRecB st.B then
  match st.E.get t with
  | .t (.sl (.int .i64)) o xs=>if isOwn o = true then (F xs).bind λys=>k (((st.soften []).put (some t) (.t (.sl (.int .i64)) o ys)).put d (.any [])) else none
  | _=>none
 else none
noncomputable def tx (bid:Nat):Code->TSt->(R:Type)->(Ex->TSt->Option R)->Option R
 | .skip,st,_,k=>k .normal st
 | .region id ops draw,st,R,k=>joinT (J.join ctx f (.region id)) st (λst R k =>
   match preT (H.pre f id) st with
   | none=>none
   | some st =>
   match turnOf H ops draw with
   | some (F,t,e,d)=>if e < st.E.n then turnT F t d (st.put (some e) (.any [])) R λst=>k .normal st else none
   | none =>
   if hasLs H f ops then
    (if linkOkM H f draw ops && (!draw || regionOkM H f (H.pairs f id) ops) then
     execLT P H J T O ctx f ops (List.range ops.size) st none [] R λst fps=>if !draw || noConf (H.pairs f id) fps then k .normal st else none
    else none)
   else if draw then
    (if regionOkM H f (H.pairs f id) ops then
     match H.pairs f id with
     | []=>execT P H J T O ctx f ops (List.range ops.size) st R λst=>k .normal st
     | U=>execRT P H J T O ctx f ops (List.range ops.size) st [] R λst fps=>if noConf U fps then k .normal st else none
    else none)
   else execT P H J T O ctx f ops (List.range ops.size) st R λst=>k .normal st) R k
 | .seq a b,st,R,k=>tx bid a st R λe st=>match e with
  | .normal=>tx bid b st R k
  | e=>k e st
 | .cond c a b,st,R,k=>joinT (J.join ctx f (.cond (tmpOf c))) st (λst R k=>match rdT H f default st.E c with
   | .t .bool _ t=>bif t then tx bid a st R k else tx bid b st R k
   | _=>none) R k
 | .block id c,st,R,k=>joinT (J.join ctx f (.block id)) st (λst R k=>tx id c st R λe st=>match e with
   | .exit i=>if i = id then k .normal st else k (.exit i) st
   | e=>k e st) R k
 | .loop c,st,R,k=>match J.join ctx f (.loop bid) with
  | some j =>
   if st.forgets j then
    (asL j.ps (j.lv.map st.get)).bind λx0 =>
     loopO (λx=>match (st.fresh.rebuild j (ofL j.ps x)).clear (H.clear f bid) with
      | some st1=>tx bid c st1 (denL (j.ps.map (·.1)) ⊕ R) λe st2=>match e with
       | .normal=>(st2.outs st j).map .inl
       | e=>(k e (st2.merge st)).map .inr
      | none=>none) x0
   else none
  | none=>match st.clear (H.clear f bid) with
   | some st=>tx bid c st R λe st=>match e with
    | .normal=>O.code ctx f bid (.loop c) st R k
    | e=>k e st
   | none=>none
 | .rangeFunc g ps asz bo,st,R,k =>
  match rdT H f default st.E g,ps.toList with
  | .fn h first cap,t :: ts =>
   if (lookT st.B t).isNone && decide (t < 16384) then
    callVT H J T O ctx f t (.fn h first cap) [.yld ⟨st.L.length,t⟩] { st with B:=(t,some [.lp .ready none f (dullL st.E.toL) (t :: ts) asz bo]) :: st.B,Wb:=⟨st.L.length,t⟩ :: st.Wb } R λ_ s =>
     if okPtrs st.L.length [t] (ptrsTB (clearTB [t] s.B)) && fullB (clearTB [t] s.B) then
      (match lookT s.B t with
      | some (some [.lp .ready none _ _ _ _ _])=>k .normal { s with B:=clearTB [t] s.B,Wb:=st.Wb ++ s.Wb.filter (λq=>!decide (q = ⟨st.L.length,t⟩)) }
      | some (some [.lp .done (some .ret) _ _ _ _ _])=>k .ret { s with B:=clearTB [t] s.B,Wb:=st.Wb ++ s.Wb.filter (λq=>!decide (q = ⟨st.L.length,t⟩)) }
      | some (some [.lp .done (some (.exit id)) _ _ _ _ _])=>k (.exit id) { s with B:=clearTB [t] s.B,Wb:=st.Wb ++ s.Wb.filter (λq=>!decide (q = ⟨st.L.length,t⟩)) }
      | _=>none)
     else none
   else none
  | _,_=>none
 | .exit id,st,_,k=>k (.exit id) st
 | .ret,st,_,k=>k .ret st
 | _,_,_,_=>none
noncomputable def resultT (st:TSt):ResultVar->Option TV
 | .tmp t=>some (st.E.get t)
 | .cell a t=>match st.E.get a with
  | .ptr r off=>match st.box r with
   | some cs=>if r.slot < 16384 then ofCellsT P t (cs.drop off) else none
   | none=>none
  | _=>none
def allSomeT:List (Option TV)->Option (List TV)
 | []=>some []
 | some v :: l=>(allSomeT l).map (v :: ·)
 | none :: _=>none
noncomputable def resultKeyT (st:TSt):ResultVar->Option (Bool × Nat × Nat)
 | .tmp t=>some (false,t,0)
 | .cell a _=>match st.E.get a with
  | .ptr r _=>some (true,r.lvl,r.slot)
  | _=>none
def allKeys:List (Option (Bool × Nat × Nat))->Option (List (Bool × Nat × Nat))
 | []=>some []
 | some v :: l=>(allKeys l).map (v :: ·)
 | none :: _=>none
def packedT:List TV->TV
 | [r]=>r
 | rs=>.tuple rs
noncomputable def runT (args:List TV) (M:List TLevel) (R:Type) (k:TV->List TLevel->List Root->Option R):Option R :=
 if J.lib f then none else
 match P.funcs[f]? with
 | some fn=>match fn.body with
  | some c=>joinT (J.join ctx f (.inl 0)) { E:=Env.ofArgs args fn.ntmps,L:=M,B:=[],Wt:=.empty,Wb:=[] }
    (λst R k=>tx P H J T O ctx f 0 c st R λe st=>match e with
     | .normal=>k .normal st
     | .ret=>k .normal st
     | _=>none) R λ_ st =>
   match allSomeT (fn.results.toList.map (resultT P st)),allKeys (fn.results.toList.map (resultKeyT st)) with
   | some rs,some ks=>if knownL rs && ((ptrsTL rs).all λr=>decide (r.lvl < M.length)) && keysOk M.length ks then k (packedT rs) st.L st.Wb
    else if knownL rs && M.isEmpty && keysOk M.length ks && !((ptrsTL rs).all λr=>decide (r.lvl < M.length)) then (match peekTL st.box rs with
     | some xs=>if knownL xs && (ptrsTL xs).isEmpty then k (packedT xs) st.L st.Wb else none
     | none=>none)
    else none
   | _,_=>none
  | none=>none
 | none=>none
noncomputable def bornRT (args:List TV) (R:Type) (k:TV->TV->Option R):Option R :=
 if J.lib f then none else
 match P.funcs[f]? with
 | some fn=>match fn.body with
  | some c=>tx P H J T O ctx f 0 c { E:=Env.ofArgs args fn.ntmps,L:=[],B:=[],Wt:=.empty,Wb:=[] } R λe st =>
   match e with
   | .exit _=>none
   | _=>match allSomeT (fn.results.toList.map (resultT P st)) with
    | some rs=>match peekTL st.box rs with
     | some xs=>match ptrsTL xs with
      | [r]=>if r.lvl = 0 then (match st.box r with
       | some [.t (.mset τ) o l]=>if knownL xs && onlyMapsTL xs then k (packedT xs) (.t (.mset τ) o l) else none
       | _=>none) else none
      | _=>none
     | none=>none
    | none=>none
  | none=>none
 | none=>none
end
def TV.denil:TV->TV
 | .val (.slice none 0 0)=>.empty 1
 | v=>v
def dnT (H:Hints) (g:FuncId) (l:List TV):List TV:=bif H.denil g then l.map TV.denil else l
noncomputable def torcN (P:Program) (H:Hints) (J:TH) (T:CallT):Nat->TOrc
 | 0=>{ call:=λ_ _ _ _ _ _=>none,code:=λ_ _ _ _ _ _ _=>none,born:=λ_ _ _ _ _=>none }
 | n + 1=>{
   call:=λctx g args M R k=>runT P H J T (torcN P H J T n) ctx g (dnT H g args) M R k
   code:=λctx f bid c st R k=>tx P H J T (torcN P H J T n) ctx f bid c st R k
   born:=λctx g args R k=>bornRT P H J T (torcN P H J T n) ctx g args R k }
def asRes:(rs:List (Ty × Nat))->TV->Option (denL (rs.map (·.1)))
 | [p],r=>asL [p] [r]
 | rs,.tuple l=>asL rs l
 | _,_=>none
noncomputable def fnT (P:Program) (H:Hints) (J:TH) (T:CallT) (n:Nat) (g:FuncId) (args:List TV) (rs:List (Ty × Nat)):Option (denL (rs.map (·.1))) :=
 (torcN P H J T n).call [] g args [] _ λr M _=>match M with
  | []=>asRes rs r
  | _=>none
inductive Cp where
 | v (τ:Ty)
 | p (τ:Ty)
@[reducible] def Cp.den:Cp->Type
 | .v τ=>τ.den
 | .p τ=>τ.den
@[reducible] def denC:List Cp->Type
 | []=>Unit
 | [c]=>c.den
 | c :: q :: l=>c.den × denC (q :: l)
inductive Pm where
 | ty (τ:Ty)
 | ptr (τ:Ty)
 | fn (g:FuncId) (caps:List Cp)
@[reducible] def Pm.den:Pm->Type
 | .ty τ=>τ.den
 | .ptr τ=>τ.den
 | .fn _ cs=>denC cs
@[reducible] def denP:List Pm->Type
 | []=>Unit
 | [p]=>p.den
 | p :: q :: l=>p.den × denP (q :: l)
def asCells (τ:Ty) (cs:List TV):Option τ.den :=
 if τ.one = true then (match cs with
  | [c]=>asTy τ 1000 c
  | _=>none) else asTy τ 1000 (.agg cs)
def asCp:(c:Cp)->TV->Option c.den
 | .v τ,v=>asTy τ 1000 v
 | .p τ,.cptr true cs=>asCells τ cs
 | .p _,_=>none
def ofCp:(c:Cp)->c.den->TV
 | .v τ,x=>ofTy τ 1000 x
 | .p τ,x=>.cptr true (ofTy τ 1000 x).cells
def asTys:(cs:List Cp)->List TV->Option (denC cs)
 | [],[]=>some ()
 | [c],[v]=>asCp c v
 | c :: q :: ps,v :: l=>(asCp c v).bind λx=>(asTys (q :: ps) l).bind λy=>some (x,y)
 | _,_=>none
def ofTys:(cs:List Cp)->denC cs->List TV
 | [],_=>[]
 | [c],x=>[ofCp c x]
 | c :: q :: ps,x=>ofCp c x.1 :: ofTys (q :: ps) x.2
def asPm:(p:Pm)->TV->Option p.den
 | .ty τ,v=>asTy τ 1000 v
 | .ptr τ,v=>asCp (.p τ) v
 | .fn g cs,.fn g' [] cap=>if g = g' then asTys cs cap else none
 | .fn _ _,_=>none
def ofPm:(p:Pm)->p.den->TV
 | .ty τ,x=>ofTy τ 1000 x
 | .ptr τ,x=>ofCp (.p τ) x
 | .fn g cs,x=>.fn g [] (ofTys cs x)
def asPms:(ps:List Pm)->List TV->Option (denP ps)
 | [],[]=>some ()
 | [p],[v]=>asPm p v
 | p :: q :: ps,v :: l=>(asPm p v).bind λx=>(asPms (q :: ps) l).bind λy=>some (x,y)
 | _,_=>none
def ofPms:(ps:List Pm)->denP ps->List TV
 | [],_=>[]
 | [p],x=>[ofPm p x]
 | p :: q :: ps,x=>ofPm p x.1 :: ofPms (q :: ps) x.2
structure Entry where
 g:FuncId
 ps:List Pm
 rs:List (Ty × Nat)
 F:denP ps->Option (denL (rs.map (·.1)))
def packT (rs:List (Ty × Nat)) (x:denL (rs.map (·.1))):TV:=packedT (ofL rs x)
def tabT:List Entry->CallT
 | [],_,_,_,_=>none
 | e :: l,g,args,R,k=>if e.g = g then (match asPms e.ps args with
   | some x=>(e.F x).bind λy=>k (packT e.rs y)
   | none=>tabT l g args R k) else tabT l g args R k
end Go.Tx
end
section
set_option maxRecDepth 100000
namespace Go.Fl
open Ieee
def Val (d:Datum) (n:Int):Prop:=∃ neg mag place,d = .number neg mag place/\mag * 2 ^ place.toNat = n.natAbs * 2 ^ (-place).toNat/\(neg = true->n<=0)/\(neg = false->0<=n)
def IsF (w:Nat) (n:Int):Prop:=Val (double.read w) n
theorem leastPlace_eq:double.leastPlace = -1074:=by decide
theorem binade_eq:double.binade = 2 ^ 52:=rfl
theorem infRung_eq:double.infRung = 2047 * 2 ^ 52:=rfl
theorem signWeight_eq:double.signWeight = 2 ^ 63:=rfl
theorem read_word (neg:Bool) {r:Nat} (h:r < 2 ^ 63):(double.word neg r) / 2 ^ 63 % 2 = (if neg then 1 else 0)/\(double.word neg r) % 2 ^ 63 = r:=by
 unfold Format.word;rw [signWeight_eq];cases neg
 ·simp only [Bool.false_eq_true,if_false] <;> omega
 ·simp only [if_true] <;> omega
theorem read_norm (neg:Bool) {k e:Nat} (h1:2 ^ 52<=k) (h2:k < 2 ^ 53) (he:e<=2000):double.read (double.word neg (e * 2 ^ 52 + k)) = .number neg k (-1074 + (e:Int)):=by
 have hr:=read_word neg (r:=e * 2 ^ 52 + k) (by omega);unfold Format.read;rw [signWeight_eq,binade_eq,infRung_eq,leastPlace_eq];simp only [hr.1,hr.2];have c1:¬ (e * 2 ^ 52 + k < 2 ^ 52):=by omega
 have c2:e * 2 ^ 52 + k < 2047 * 2 ^ 52:=by omega
 rw [if_neg c1,if_pos c2];have e1:(e * 2 ^ 52 + k) % 2 ^ 52 = k - 2 ^ 52:=by omega
 have e2:(e * 2 ^ 52 + k) / 2 ^ 52 = e + 1:=by omega
 rw [e1,e2];have e3:2 ^ 52 + (k - 2 ^ 52) = k:=by omega
 rw [e3];have e4:e + 1 - 1 = e:=by omega
 rw [e4];cases neg <;> rfl
theorem read_zero (neg:Bool):double.read (double.word neg 0) = .number neg 0 (-1074):=by
 cases neg <;> decide
theorem cut_exact (neg:Bool) {q d:Nat} (hq:0 < q):Toward.even.cut neg (q * 2 ^ d) d = q:=by
 unfold Toward.cut;have hl:d<=(q * 2 ^ d).log2:=by
  rw [Nat.le_log2 (by have:=Nat.pow_pos (n:=d) (show 0 < 2 by omega); have:=Nat.mul_pos hq this; omega)];exact Nat.le_mul_of_pos_left _ hq
 have hm:min d ((q * 2 ^ d).log2 + 2) = d:=by omega
 simp only [hm,Nat.one_shiftLeft];have hp:0 < 2 ^ d:=Nat.pow_pos (by omega);have e1:q * 2 ^ d / 2 ^ d = q:=Nat.mul_div_cancel _ hp;have e2:q * 2 ^ d % 2 ^ d = 0:=Nat.mul_mod_left _ _;rw [e1,e2];have c1:decide (2 ^ d < 2 * 0) = false:=by simp
 have c2:((2 ^ d == 2 * 0) && (q % 2 == 1)) = false:=by
  have:(2 ^ d == 2 * 0) = false:=by simp
  rw [this]; rfl
 simp [c2]
theorem log2_mul (m k:Nat) (hm:m ≠ 0):(m * 2 ^ k).log2 = m.log2 + k:=by
 have hp:0 < 2 ^ k:=Nat.pow_pos (by omega);have hne:m * 2 ^ k ≠ 0:=by have:=Nat.mul_pos (Nat.pos_of_ne_zero hm) hp; omega
 rw [Nat.log2_eq_iff hne];have h1:=Nat.log2_self_le hm;have h2:=@Nat.lt_log2_self m;constructor
 ·rw [Nat.pow_add]; exact Nat.mul_le_mul_right _ h1
 ·have:2 ^ (m.log2 + k + 1) = 2 ^ (m.log2 + 1) * 2 ^ k:=by rw [<- Nat.pow_add]; congr 1; omega
  rw [this]; exact Nat.mul_lt_mul_of_pos_right h2 hp
theorem aux_le (B q k:Nat) (h3:q<=1074 * B) (hk:k < 2 * B):q + k<=2047 * B:=by omega
theorem write_val {d:Datum} {n:Int} (h:Val d n) (hn:n.natAbs < 2 ^ 53):IsF (double.write d) n:=by
 obtain ⟨neg,mag,place,rfl,hv,hs1,hs2⟩:=h;unfold IsF;show Val (double.read (double.nearest neg mag place)) n;unfold Format.nearest;by_cases h0:mag = 0
 ·rw [if_pos h0,read_zero];subst h0;have hz:n.natAbs = 0:=by
   have hp:0 < 2 ^ (-place).toNat:=Nat.pow_pos (by omega);rw [Nat.zero_mul] at hv;rcases Nat.mul_eq_zero.1 hv.symm with h | h
   ·exact h
   ·omega
  exact ⟨neg,0,-1074,rfl,by rw [hz,Nat.zero_mul,Nat.zero_mul],hs1,hs2⟩
 rw [if_neg h0];have hnz:n.natAbs ≠ 0:=by
  intro hz;rw [hz,Nat.zero_mul] at hv;have hp:0 < 2 ^ place.toNat:=Nat.pow_pos (by omega);rcases Nat.mul_eq_zero.1 hv with h | h <;> omega
 have hlog:(mag.log2:Int) + place = n.natAbs.log2:=by
  have h1:=congrArg Nat.log2 hv;rw [log2_mul _ _ h0,log2_mul _ _ hnz] at h1;omega
 have hl53:n.natAbs.log2 < 53:=(Nat.log2_lt hnz).2 hn;generalize hL:n.natAbs.log2 = L at *;have hfb:(double.fractionBits:Int) = 52:=rfl;have hlast:max (place + (mag.log2:Int) - (double.fractionBits:Int)) double.leastPlace = (L:Int) - 52:=by
  rw [leastPlace_eq,hfb]; omega
 simp only [hlast];have hL2:L + 1022<=2000:=by omega
 have t2:(-((-1074:Int) + ((L + 1022:Nat):Int))).toNat = 52 - L:=by omega
 have t3:((-1074:Int) + ((L + 1022:Nat):Int)).toNat = 0:=by omega
 -- the significand
 have hkept:Toward.even.cut neg (mag <<< (place - ((L:Int) - 52)).toNat) (((L:Int) - 52) - place).toNat = n.natAbs * 2 ^ (52 - L):=by
  have hp52:0 < 2 ^ (52 - L):=Nat.pow_pos (by omega);have hq:0 < n.natAbs * 2 ^ (52 - L):=Nat.mul_pos (Nat.pos_of_ne_zero hnz) hp52;have key:mag <<< (place - ((L:Int) - 52)).toNat = n.natAbs * 2 ^ (52 - L) * 2 ^ (((L:Int) - 52) - place).toNat:=by
   rw [Nat.shiftLeft_eq]
   -- mag * 2^place = |n|
   refine Nat.eq_of_mul_eq_mul_right (Nat.pow_pos (n:=place.toNat + (-place).toNat) (show 0 < 2 by omega)) ?_;have a1:mag * 2 ^ (place - ((L:Int) - 52)).toNat * 2 ^ (place.toNat + (-place).toNat) = (mag * 2 ^ place.toNat) * 2 ^ ((place - ((L:Int) - 52)).toNat + (-place).toNat):=by
    rw [Nat.pow_add,Nat.pow_add]; ac_rfl
   have a2:n.natAbs * 2 ^ (52 - L) * 2 ^ (((L:Int) - 52) - place).toNat * 2 ^ (place.toNat + (-place).toNat) = n.natAbs * 2 ^ ((52 - L) + (((L:Int) - 52) - place).toNat + (place.toNat + (-place).toNat)):=by
    rw [Nat.mul_assoc,Nat.mul_assoc,<- Nat.pow_add,<- Nat.pow_add];congr 2
    omega
   rw [a1,hv,a2,Nat.mul_assoc,<- Nat.pow_add];congr 2
   omega
  rw [key,cut_exact neg hq]
 rw [hkept];have hk1:2 ^ 52<=n.natAbs * 2 ^ (52 - L):=by
  have h1:2 ^ L<=n.natAbs:=by rw [<- hL]; exact Nat.log2_self_le hnz
  have h2:2 ^ 52 = 2 ^ L * 2 ^ (52 - L):=by rw [<- Nat.pow_add]; congr 1; omega
  rw [h2]; exact Nat.mul_le_mul_right _ h1
 have hk2:n.natAbs * 2 ^ (52 - L) < 2 ^ 53:=by
  have h1:n.natAbs < 2 ^ (L + 1):=by rw [<- hL]; exact Nat.lt_log2_self
  have h2:2 ^ 53 = 2 ^ (L + 1) * 2 ^ (52 - L):=by rw [<- Nat.pow_add]; congr 1; omega
  rw [h2]; exact Nat.mul_lt_mul_of_pos_right h1 (Nat.pow_pos (by omega))
 have he:(((L:Int) - 52) - double.leastPlace).toNat = L + 1022:=by rw [leastPlace_eq]; omega
 rw [he,binade_eq,infRung_eq];have h3:(L + 1022) * 2 ^ 52<=1074 * 2 ^ 52:=Nat.mul_le_mul_right _ (by omega);have h5:2 ^ 53 = 2 * 2 ^ 52:=by rw [Nat.pow_succ,Nat.mul_comm]
 rw [h5] at hk2;have hmin:min ((L + 1022) * 2 ^ 52 + n.natAbs * 2 ^ (52 - L)) (2047 * 2 ^ 52) = (L + 1022) * 2 ^ 52 + n.natAbs * 2 ^ (52 - L):=Nat.min_eq_left (aux_le _ _ _ h3 hk2);rw [<- h5] at hk2;rw [hmin,read_norm neg hk1 hk2 hL2];refine ⟨neg,n.natAbs * 2 ^ (52 - L),-1074 + ((L + 1022:Nat):Int),rfl,?_,hs1,hs2⟩;rw [t2,t3,Nat.pow_zero,Nat.mul_one]
theorem val_at {neg:Bool} {mag:Nat} {place base:Int} {n:Int} (hv:mag * 2 ^ place.toNat = n.natAbs * 2 ^ (-place).toNat) (h1:neg = true->n<=0) (h2:neg = false->0<=n) (hb:base<=place) :
  signed neg mag (place - base).toNat * (2 ^ base.toNat:Nat) = n * (2 ^ (-base).toNat:Nat):=by
 have key:mag * 2 ^ (place - base).toNat * 2 ^ base.toNat = n.natAbs * 2 ^ (-base).toNat:=by
  refine Nat.eq_of_mul_eq_mul_right (Nat.pow_pos (n:=(-place).toNat) (show 0 < 2 by omega)) ?_;have a1:mag * 2 ^ (place - base).toNat * 2 ^ base.toNat * 2 ^ (-place).toNat = mag * 2 ^ place.toNat * 2 ^ (-base).toNat:=by
   rw [Nat.mul_assoc,Nat.mul_assoc,Nat.mul_assoc,<- Nat.pow_add,<- Nat.pow_add,<- Nat.pow_add];congr 2; omega
  rw [a1,hv,Nat.mul_assoc,Nat.mul_assoc,Nat.mul_comm (2 ^ (-place).toNat)]
 unfold signed;cases neg with
 | true =>
  have hn:=h1 rfl;have e:n = -(n.natAbs:Int):=by omega
  simp only [if_true,Nat.shiftLeft_eq];rw [Int.neg_mul,<- Int.natCast_mul,key];conv=>rhs; rw [e]
  rw [Int.neg_mul,Int.natCast_mul]
 | false =>
  have hn:=h2 rfl;have e:n = (n.natAbs:Int):=by omega
  simp only [Bool.false_eq_true,if_false,Nat.shiftLeft_eq];rw [<- Int.natCast_mul,key];conv=>rhs; rw [e]
  rw [Int.natCast_mul]
theorem sum_val {x y:Datum} {m n:Int} (hx:Val x m) (hy:Val y n):∃ d,x.sum y = some d/\Val d (m + n):=by
 obtain ⟨s,p,i,rfl,hv,h1,h2⟩:=hx;obtain ⟨t,q,j,rfl,hw,h3,h4⟩:=hy;have e1:=val_at (base:=min i j) hv h1 h2 (by omega);have e2:=val_at (base:=min i j) hw h3 h4 (by omega);refine ⟨_,rfl,?_⟩;generalize hb:min i j = base at *;generalize hT:signed s p (i - base).toNat + signed t q (j - base).toNat = total;have e3:total * (2 ^ base.toNat:Nat) = (m + n) * (2 ^ (-base).toNat:Nat):=by
  rw [<- hT,Int.add_mul,Int.add_mul,e1,e2]
 have hp:(0:Int) < (2 ^ base.toNat:Nat):=by have:=Nat.pow_pos (n:=base.toNat) (show 0 < 2 by omega); omega
 have hq:(0:Int) < (2 ^ (-base).toNat:Nat):=by have:=Nat.pow_pos (n:=(-base).toNat) (show 0 < 2 by omega); omega
 refine ⟨_,_,_,rfl,?_,?_,?_⟩
 ·have:=congrArg Int.natAbs e3;rw [Int.natAbs_mul,Int.natAbs_mul,Int.natAbs_natCast,Int.natAbs_natCast] at this;exact this
 ·intro h;by_cases h0:total = 0
  ·rw [h0,Int.zero_mul] at e3;rcases Int.mul_eq_zero.1 e3.symm with h9 | h9 <;> omega
  ·rw [if_neg h0] at h;have hneg:total < 0:=by simpa using h
   have h5:=Int.mul_neg_of_neg_of_pos hneg hp;rw [e3] at h5;rcases Int.lt_or_le 0 (m + n) with h6 | h6
   ·have:=Int.mul_pos h6 hq; omega
   ·exact h6
 ·intro h;by_cases h0:total = 0
  ·rw [h0,Int.zero_mul] at e3;rcases Int.mul_eq_zero.1 e3.symm with h9 | h9 <;> omega
  ·rw [if_neg h0] at h;have hpos:0<=total:=by
    have:¬ total < 0:=by simpa using h
    omega
   have h5:=Int.mul_nonneg hpos (by omega:(0:Int)<=(2 ^ base.toNat:Nat));rw [e3] at h5;rcases Int.lt_or_le (m + n) 0 with h6 | h6
   ·have:=Int.mul_neg_of_neg_of_pos h6 hq; omega
   ·exact h6
theorem opp_val {x:Datum} {m:Int} (hx:Val x m):Val x.opposite (-m):=by
 obtain ⟨s,p,i,rfl,hv,h1,h2⟩:=hx;refine ⟨!s,p,i,rfl,by rw [Int.natAbs_neg]; exact hv,λh=>?_,λh=>?_⟩
 ·have:=h2 (by cases s <;> simp_all); omega
 ·have:=h1 (by cases s <;> simp_all); omega
theorem product_val {x y:Datum} {m n:Int} (hx:Val x m) (hy:Val y n):∃ d,x.product y = some d/\Val d (m * n):=by
 obtain ⟨s,p,i,rfl,hv,h1,h2⟩:=hx;obtain ⟨t,q,j,rfl,hw,h3,h4⟩:=hy;refine ⟨_,rfl,_,_,_,rfl,?_,λh=>?_,λh=>?_⟩
 ·rw [Int.natAbs_mul];refine Nat.eq_of_mul_eq_mul_right (Nat.pow_pos (n:=(-i).toNat + (-j).toNat) (show 0 < 2 by omega)) ?_;have a1:p * q * 2 ^ (i + j).toNat * 2 ^ ((-i).toNat + (-j).toNat) = (p * 2 ^ i.toNat) * (q * 2 ^ j.toNat) * 2 ^ (-(i + j)).toNat:=by
   have b1:p * q * 2 ^ (i + j).toNat * 2 ^ ((-i).toNat + (-j).toNat) = p * q * 2 ^ ((i + j).toNat + ((-i).toNat + (-j).toNat)):=by rw [Nat.mul_assoc,<- Nat.pow_add]
   have b2:(p * 2 ^ i.toNat) * (q * 2 ^ j.toNat) * 2 ^ (-(i + j)).toNat = p * q * 2 ^ ((i.toNat + j.toNat) + (-(i + j)).toNat):=by
    rw [Nat.pow_add,Nat.pow_add]; ac_rfl
   rw [b1,b2]; congr 2; omega
  rw [a1,hv,hw];have b3:n.natAbs * 2 ^ (-j).toNat = n.natAbs * 2 ^ (-j).toNat:=rfl;rw [Nat.pow_add]; ac_rfl
 ·cases s <;> cases t <;> simp at h
  ·exact Int.mul_nonpos_of_nonneg_of_nonpos (h2 rfl) (h3 rfl)
  ·exact Int.mul_nonpos_of_nonpos_of_nonneg (h1 rfl) (h4 rfl)
 ·cases s <;> cases t <;> simp at h
  ·exact Int.mul_nonneg (h2 rfl) (h4 rfl)
  ·exact Int.mul_nonneg_of_nonpos_of_nonpos (h1 rfl) (h3 rfl)
theorem add_ok {a b:Nat} {m n:Int} (ha:IsF a m) (hb:IsF b n) (h:(m + n).natAbs < 2 ^ 53):∃ r,double.add a b = some r/\IsF r (m + n):=by
 obtain ⟨d,hd,hv⟩:=sum_val ha hb;exact ⟨_,by unfold Format.add; rw [hd]; rfl,write_val hv h⟩
theorem sub_ok {a b:Nat} {m n:Int} (ha:IsF a m) (hb:IsF b n) (h:(m - n).natAbs < 2 ^ 53):∃ r,double.sub a b = some r/\IsF r (m - n):=by
 obtain ⟨d,hd,hv⟩:=sum_val ha (opp_val hb);exact ⟨_,by unfold Format.sub; rw [hd]; rfl,write_val hv h⟩
theorem mul_ok {a b:Nat} {m n:Int} (ha:IsF a m) (hb:IsF b n) (h:(m * n).natAbs < 2 ^ 53):∃ r,double.mul a b = some r/\IsF r (m * n):=by
 obtain ⟨d,hd,hv⟩:=product_val ha hb;exact ⟨_,by unfold Format.mul; rw [hd]; rfl,write_val hv h⟩
theorem int_val (n:Int):Val (.number (n < 0) n.natAbs 0) n:=⟨_,_,_,rfl,rfl,λh=>Int.le_of_lt (by simpa using h),λh=>Int.not_lt.1 (by simpa using h)⟩
theorem ofInt_ok {n:Int} (h:n.natAbs < 2 ^ 53):IsF (double.write (.number (n < 0) n.natAbs 0)) n:=write_val (int_val n) h
theorem cut_zero (neg:Bool) {q d:Nat}:Toward.zero.cut neg (q * 2 ^ d) d = q:=by
 unfold Toward.cut;simp only [Nat.one_shiftLeft,Bool.toNat_false,Nat.add_zero];by_cases hq:q = 0
 ·rw [hq,Nat.zero_mul,Nat.zero_div]
 have hl:d<=(q * 2 ^ d).log2:=by
  have hp:=Nat.mul_pos (Nat.pos_of_ne_zero hq) (Nat.pow_pos (n:=d) (show 0 < 2 by omega));rw [Nat.le_log2 (by omega)];exact Nat.le_mul_of_pos_left _ (Nat.pos_of_ne_zero hq)
 rw [show min d ((q * 2 ^ d).log2 + 2) = d by omega];exact Nat.mul_div_cancel _ (Nat.pow_pos (by omega))
theorem toInt_ok {d:Datum} {n:Int} (h:Val d n):d.toInt .zero = some n:=by
 obtain ⟨neg,mag,place,rfl,hv,h1,h2⟩:=h;unfold Datum.toInt Datum.integral;simp only
 have hc:Toward.zero.cut neg (mag <<< place.toNat) (-place).toNat = n.natAbs:=by
  rw [Nat.shiftLeft_eq,hv]; exact cut_zero neg
 rw [hc];unfold signed;rw [Nat.shiftLeft_zero];cases neg with
 | true=>have:=h1 rfl; simp only [if_true]; congr 1; omega
 | false=>have:=h2 rfl; simp only [Bool.false_eq_true,if_false]; congr 1; omega
end Go.Fl
end
section
namespace Go.Fl
open Go Ieee
theorem fbits_add {a b:Nat} {m n:Int} (ha:IsF a m) (hb:IsF b n) (h:(m + n).natAbs < 2 ^ 53):∃ r,floatBits .add .f64 a b = some r/\IsF r (m + n):=add_ok ha hb h
theorem fbits_sub {a b:Nat} {m n:Int} (ha:IsF a m) (hb:IsF b n) (h:(m - n).natAbs < 2 ^ 53):∃ r,floatBits .sub .f64 a b = some r/\IsF r (m - n):=sub_ok ha hb h
theorem fbits_mul {a b:Nat} {m n:Int} (ha:IsF a m) (hb:IsF b n) (h:(m * n).natAbs < 2 ^ 53):∃ r,floatBits .mul .f64 a b = some r/\IsF r (m * n):=mul_ok ha hb h
theorem csum_ok {a b c d:Nat} {x y u v:Int} (ha:IsF a x) (hb:IsF b y) (hc:IsF c u) (hd:IsF d v) (h1:(x + u).natAbs < 2 ^ 53) (h2:(y + v).natAbs < 2 ^ 53) :
  ∃ re im,cSumBits .add .f64 a b c d = some (re,im)/\IsF re (x + u)/\IsF im (y + v):=by
 obtain ⟨re,e1,r1⟩:=fbits_add ha hc h1;obtain ⟨im,e2,r2⟩:=fbits_add hb hd h2;exact ⟨re,im,by unfold cSumBits; rw [e1,Option.bind_some,e2,Option.bind_some],r1,r2⟩
theorem cmul_ok {a b c d:Nat} {x y u v:Int} (ha:IsF a x) (hb:IsF b y) (hc:IsF c u) (hd:IsF d v)
  (h1:(x * u).natAbs < 2 ^ 53) (h2:(y * v).natAbs < 2 ^ 53) (h3:(x * u - y * v).natAbs < 2 ^ 53) (h4:(x * v).natAbs < 2 ^ 53) (h5:(y * u).natAbs < 2 ^ 53) (h6:(x * v + y * u).natAbs < 2 ^ 53) :
  ∃ re im,cMulBits a b c d = some (re,im)/\IsF re (x * u - y * v)/\IsF im (x * v + y * u):=by
 obtain ⟨ac,e1,r1⟩:=fbits_mul ha hc h1;obtain ⟨bd,e2,r2⟩:=fbits_mul hb hd h2;obtain ⟨re,e3,r3⟩:=fbits_sub r1 r2 h3;obtain ⟨ad,e4,r4⟩:=fbits_mul ha hd h4;obtain ⟨bc,e5,r5⟩:=fbits_mul hb hc h5;obtain ⟨im,e6,r6⟩:=fbits_add r4 r5 h6;exact ⟨re,im,by unfold cMulBits; rw [e1,Option.bind_some,e2,Option.bind_some,e3,Option.bind_some,e4,Option.bind_some,e5,Option.bind_some,e6,Option.bind_some],r3,r6⟩
theorem isF_zero:IsF 0 0:=by
 have h:=ofInt_ok (n:=0) (by decide);have e:double.write (.number (decide ((0:Int) < 0)) (0:Int).natAbs 0) = 0:=by decide
 rw [e] at h; exact h
theorem nearest_ok {n:Int} (h:n.natAbs < 2 ^ 53):IsF (FloatKind.f64.nearest n) n:=ofInt_ok h
end Go.Fl
end
section
namespace Go.Tx
open Go Go.Ab
inductive All2 {α β:Type} (R:α->β->Prop):List α->List β->Prop
 | nil:All2 R [] []
 | cons {a b l l'}:R a b->All2 R l l'->All2 R (a :: l) (b :: l')
section
variable {α β:Type} {R S:α->β->Prop}
theorem All2.length {l:List α} {l':List β} (h:All2 R l l'):l'.length = l.length:=by
 induction h with
 | nil=>rfl
 | cons _ _ ih=>simp [ih]
theorem All2.mono (hrs:∀ a b,R a b->S a b) {l:List α} {l':List β} (h:All2 R l l'):All2 S l l':=by
 induction h with
 | nil=>exact .nil
 | cons h1 _ ih=>exact .cons (hrs _ _ h1) ih
theorem All2.append {l m:List α} {l' m':List β} (h:All2 R l l') (h':All2 R m m'):All2 R (l ++ m) (l' ++ m'):=by
 induction h with
 | nil=>exact h'
 | cons h1 _ ih=>exact .cons h1 ih
theorem All2.take {l:List α} {l':List β} (h:All2 R l l'):∀ n,All2 R (l.take n) (l'.take n):=by
 induction h with
 | nil=>intro n; simp; exact .nil
 | cons h1 _ ih=>intro n; cases n with
  | zero=>exact .nil
  | succ n=>exact .cons h1 (ih n)
theorem All2.drop {l:List α} {l':List β} (h:All2 R l l'):∀ n,All2 R (l.drop n) (l'.drop n):=by
 induction h with
 | nil=>intro n; simp; exact .nil
 | cons h1 h2 ih=>intro n; cases n with
  | zero=>exact .cons h1 h2
  | succ n=>exact ih n
theorem All2.get {l:List α} {l':List β} (h:All2 R l l'):∀ {i:Nat} {a:α},l[i]? = some a->∃ b,l'[i]? = some b/\R a b:=by
 induction h with
 | nil=>intro i a h; simp at h
 | cons h1 h2 ih=>intro i a h; cases i with
  | zero=>simp at h; subst h; exact ⟨_,rfl,h1⟩
  | succ n=>exact ih (by simpa using h)
theorem All2.replicate {a:α} {b:β} (h:R a b):∀ n,All2 R (List.replicate n a) (List.replicate n b)
 | 0=>.nil
 | n + 1=>.cons h (All2.replicate h n)
theorem All2.map {γ:Type} {g:β->γ} {S:α->γ->Prop} (hrs:∀ a b,R a b->S a (g b)) {l:List α} {l':List β} (h:All2 R l l'):All2 S l (l'.map g):=by
 induction h with
 | nil=>exact .nil
 | cons h1 _ ih=>exact .cons (hrs _ _ h1) ih
theorem All2.all {p:β->Prop} (hp:∀ a b,R a b->p b) {l:List α} {l':List β} (h:All2 R l l'):∀ b ∈ l',p b:=by
 induction h with
 | nil=>simp
 | cons h1 _ ih =>
          intro b hb; rcases List.mem_cons.1 hb with rfl | hb
          ·exact hp _ _ h1
          ·exact ih b hb
end
def FlR (o:Nat) (f:Fl):Prop:=(o ≠ 2000->(f = .own ↔ isOwn o = true))/\(o = 1000->f = .shared)
def RTy:(τ:Ty)->Nat->τ.den->V->Prop
 | .int k,_,n,v=>v = .val (.int k n)
 | .bool,_,b,v=>v = .val (.bool b)
 | .str,_,s,v=>v = .val (.string ⟨s.toArray⟩)
 | .flt,_,n,v=>∃ b,v = .val (.float .f64 b)/\Fl.IsF b n
 | .cx,_,p,v=>∃ a b,v = .val (.complex .f64 a b)/\Fl.IsF a p.1/\Fl.IsF b p.2
 | .err,_,x,v=>(x = true/\v = .val .nilIface)\/(x = false/\∃ t,v = .iface t .undef)
 | .mset t,_,l,v=>keyTy t = true/\v = .mp (l.map λx=>(keyVal t x,.bool true))
 | .sl t,o,l,v=>∃ f c l',v = .sl f c l'/\FlR o f/\All2 (RTy t (nx o)) l l'
 | .unit,_,_,v=>v = .agg []
 | .pair a b,o,x,v=>∃ v1 l,v = .agg (v1 :: l)/\RTy a o x.1 v1/\RTy b o x.2 (.agg l)
mutual
def RV:TV->V->Prop
 | .any rs,v=>(∀ r ∈ v.ptrs,r ∈ rs)/\isLoop [v] = false
 | .t τ o x,v=>RTy τ o x v
 | .clp τ x,v=>∃ f l',v = .sl f true l'/\f ≠ .own/\All2 (RTy τ 0) x l'
 | .room a s,v=>(a < 2/\∃ n,v = .room s n/\(a = 0->n = 0))\/(2<=a/\(v = .undef\/∃ f,f ≠ .own/\v = .sl f false []))
 | .empty o,v=>∃ f c,v = .sl f c []/\FlR o f
 | .val u,v=>v = .val u
 | .agg l,v=>∃ l',v = .agg l'/\RVL l l'
 | .tuple l,v=>∃ l',v = .tuple l'/\RVL l l'
 | .fn g a b,v=>∃ a' b',v = .fn g a' b'/\RVL a a'/\RVL b b'
 | .ptr r o,v=>v = .ptr r o
 | .mref r,v=>v = .mref r
 | .bsl r o n,v=>v = .bsl r o n
 | .yld r,v=>v = .yld r
 | .lp ..,v=>False
 | .cptr s l,v=>∃ f l',v = .cptr f l'/\f ≠ .own/\(s = true->f = .shared)/\RVL l l'
 | .iface t x,v=>∃ y,v = .iface t y/\RV x y
def RVL:List TV->List V->Prop
 | [],l=>l = []
 | x :: l,l'=>∃ v m,l' = v :: m/\RV x v/\RVL l m
end
theorem rvl_cons {x:TV} {l:List TV} {v:V} {m:List V}:RVL (x :: l) (v :: m) ↔ RV x v/\RVL l m:=by
 simp only [RVL,List.cons.injEq];exact ⟨λ⟨_,_,⟨rfl,rfl⟩,h1,h2⟩=>⟨h1,h2⟩,λ⟨h1,h2⟩=>⟨_,_,⟨rfl,rfl⟩,h1,h2⟩⟩
theorem rvl_nil:RVL [] []:=by simp [RVL]
theorem RVL.length:∀ {l:List TV} {l':List V},RVL l l'->l'.length = l.length
 | [],l',h=>by simp only [RVL] at h; simp [h]
 | x :: l,l',h=>by simp only [RVL] at h; obtain ⟨v,m,rfl,_,h2⟩:=h; simp [RVL.length h2]
theorem RVL.append:∀ {l m:List TV} {l' m':List V},RVL l l'->RVL m m'->RVL (l ++ m) (l' ++ m')
 | [],m,l',m',h,h'=>by simp only [RVL] at h; simpa [h] using h'
 | x :: l,m,l',m',h,h'=>by
  simp only [RVL] at h; obtain ⟨v,n,rfl,h1,h2⟩:=h;exact rvl_cons.2 ⟨h1,RVL.append h2 h'⟩
theorem RVL.take:∀ {l:List TV} {l':List V} (n:Nat),RVL l l'->RVL (l.take n) (l'.take n)
 | _,_,0,h=>by simp [RVL]
 | [],l',n + 1,h=>by simp only [RVL] at h; simp [h,RVL]
 | x :: l,l',n + 1,h=>by
  simp only [RVL] at h; obtain ⟨v,m,rfl,h1,h2⟩:=h;exact rvl_cons.2 ⟨h1,RVL.take n h2⟩
theorem RVL.drop:∀ {l:List TV} {l':List V} (n:Nat),RVL l l'->RVL (l.drop n) (l'.drop n)
 | _,_,0,h=>by simpa using h
 | [],l',n + 1,h=>by simp only [RVL] at h; simp [h,RVL]
 | x :: l,l',n + 1,h=>by
  simp only [RVL] at h; obtain ⟨v,m,rfl,h1,h2⟩:=h;exact RVL.drop n h2
theorem RVL.get:∀ {l:List TV} {l':List V} {i:Nat} {x:TV},RVL l l'->l[i]? = some x->∃ v,l'[i]? = some v/\RV x v
 | [],l',i,x,h,hi=>by simp at hi
 | y :: l,l',0,x,h,hi=>by
  simp only [RVL] at h; obtain ⟨v,m,rfl,h1,h2⟩:=h;simp at hi; subst hi; exact ⟨v,rfl,h1⟩
 | y :: l,l',i + 1,x,h,hi=>by
  simp only [RVL] at h; obtain ⟨v,m,rfl,h1,h2⟩:=h;have hi':l[i]? = some x:=by simpa using hi
  obtain ⟨u,hu,hr⟩:=RVL.get h2 hi';exact ⟨u,by simpa using hu,hr⟩
theorem RVL.set:∀ {l:List TV} {l':List V} (i:Nat) {x:TV} {v:V},RVL l l'->RV x v->RVL (l.set i x) (l'.set i v)
 | [],l',i,x,v,h,hx=>by simp only [RVL] at h; simp [h,RVL]
 | y :: l,l',0,x,v,h,hx=>by
  simp only [RVL] at h; obtain ⟨u,m,rfl,h1,h2⟩:=h;exact rvl_cons.2 ⟨hx,h2⟩
 | y :: l,l',i + 1,x,v,h,hx=>by
  simp only [RVL] at h; obtain ⟨u,m,rfl,h1,h2⟩:=h;exact rvl_cons.2 ⟨h1,RVL.set i h2 hx⟩
theorem rv_undef (rs:List Root):RV (.any rs) .undef:=by simp [RV,V.ptrs,isLoop]
theorem RVL.getD {l:List TV} {l':List V} (h:RVL l l') (i:Nat):RV (l.getD i (.any [])) (l'.getD i .undef):=by
 cases hi:l[i]? with
 | some x=>obtain ⟨v,hv,hr⟩:=h.get hi; simpa [hi,hv] using hr
 | none =>
  have:l'[i]? = none:=by rw [List.getElem?_eq_none_iff] at hi ⊢; rw [h.length]; exact hi
  simp only [List.getD_eq_getElem?_getD,hi,this,Option.getD_none]; exact rv_undef []
theorem RVL.replicate {x:TV} {v:V} (h:RV x v):∀ n,RVL (List.replicate n x) (List.replicate n v)
 | 0=>by simp [RVL]
 | n + 1=>rvl_cons.2 ⟨h,RVL.replicate h n⟩
theorem RVL.flatten:∀ {n:Nat} {l:List TV} {l':List V},RVL l l'->RVL (List.replicate n l).flatten (List.replicate n l').flatten
 | 0,_,_,_=>by simp [RVL]
 | n + 1,l,l',h=>by simp only [List.replicate_succ,List.flatten_cons]; exact h.append (RVL.flatten h)
theorem RVL.head {l:List TV} {l':List V} {x:TV} (h:RVL l l') (hx:l.head? = some x):∃ v,l'.head? = some v/\RV x v:=by
 cases l with
 | nil=>simp at hx
 | cons y l =>
  simp only [RVL] at h; obtain ⟨u,m,rfl,h1,h2⟩:=h;simp at hx; subst hx; exact ⟨u,rfl,h1⟩
theorem isOwn_iff {o:Nat}:isOwn o = true ↔ o ≠ 0/\o ≠ 1000/\o ≠ 2000:=by unfold isOwn; simp
theorem isOwn_not {o:Nat}:isOwn o = false ↔ o = 0\/o = 1000\/o = 2000:=by
 have:=@isOwn_iff o;cases h:isOwn o with
 | true=>rw [h] at this; simp at this; simp <;> omega
 | false=>rw [h] at this; simp at this; simp <;> omega
theorem FlR.own {o:Nat} {f:Fl} (h:FlR o f) (ho:isOwn o = true):f = .own:=(h.1 (isOwn_iff.1 ho).2.2).2 ho
theorem FlR.not {o:Nat} {f:Fl} (h:FlR o f) (ho:isOwn o = false) (h2:o ≠ 2000):f ≠ .own:=λe=>by have:=(h.1 h2).1 e; rw [ho] at this; cases this
theorem flr_own {o:Nat} (h:isOwn o = true):FlR o .own:=⟨λ_=>by simp [h],λe=>absurd e (isOwn_iff.1 h).2.1⟩
theorem flr_of {o:Nat} {f:Fl} (ho:isOwn o = false) (hf:f ≠ .own) (h1:o = 1000->f = .shared):FlR o f:=⟨λ_=>by simp [hf,ho],h1⟩
theorem dl_not (o:Nat):isOwn (dl o) = false/\dl o ≠ 2000/\nx (dl o) = dl o:=by
 have h1:isOwn (dl o) = false:=by rw [isOwn_not]; unfold dl; split <;> simp
 refine ⟨h1,by unfold dl; split <;> simp,by unfold nx; rw [h1]; rfl⟩
theorem rty_ptrs:∀ (τ:Ty) (o:Nat) (x:τ.den) (v:V),RTy τ o x v->v.ptrs = []
 | .int _,_,_,v,h=>by simp only [RTy] at h; simp [h,V.ptrs]
 | .bool,_,_,v,h=>by simp only [RTy] at h; simp [h,V.ptrs]
 | .str,_,_,v,h=>by simp only [RTy] at h; simp [h,V.ptrs]
 | .flt,_,_,v,h=>by simp only [RTy] at h; obtain ⟨b9,rfl,h9⟩:=h; simp [V.ptrs]
 | .cx,_,_,v,h=>by simp only [RTy] at h; obtain ⟨a9,b9,rfl,h8,h9⟩:=h; simp [V.ptrs]
 | .err,_,_,v,h=>by simp only [RTy] at h; rcases h with ⟨_,rfl⟩ | ⟨_,t9,rfl⟩ <;> simp [V.ptrs]
 | .mset _,_,_,v,h=>by simp only [RTy] at h; obtain ⟨h8,rfl⟩:=h; simp [V.ptrs]
 | .sl t,o,l,v,h=>by simp only [RTy] at h; obtain ⟨f,c,l',rfl,_⟩:=h; simp [V.ptrs]
 | .unit,_,_,v,h=>by simp only [RTy] at h; simp [h,V.ptrs,ptrsL]
 | .pair a b,o,x,v,h=>by
  simp only [RTy] at h; obtain ⟨v1,l,rfl,h1,h2⟩:=h;have e1:=rty_ptrs a o _ _ h1;have e2:=rty_ptrs b o _ _ h2;simp only [V.ptrs] at e2;simp [V.ptrs,ptrsL,e1,e2]
theorem ptrsL_mem {l:List V} {r:Root}:r ∈ ptrsL l ↔ ∃ v ∈ l,r ∈ v.ptrs:=by
 induction l with
 | nil=>simp [ptrsL]
 | cons v l ih=>simp [ptrsL,ih]
mutual
theorem RV.ptrs:∀ (x:TV) (v:V),RV x v->∀ r ∈ v.ptrs,r ∈ x.ptrs
 | .any rs,v,h,r,hr=>by simp only [RV] at h; exact h.1 r hr
 | .t τ o x,v,h,r,hr=>by simp only [RV] at h; rw [rty_ptrs τ o x v h] at hr; cases hr
 | .clp τ x,v,h,r,hr=>by simp only [RV] at h; obtain ⟨f,l',rfl,_⟩:=h; simp [V.ptrs] at hr
 | .room a s,v,h,r,hr=>by simp only [RV] at h; obtain ⟨_,n,rfl,_⟩ | ⟨_,rfl | ⟨f,hf0,rfl⟩⟩:=h <;> simp [V.ptrs] at hr
 | .empty own,v,h,r,hr=>by simp only [RV] at h; obtain ⟨f,c,rfl,_⟩:=h; simp [V.ptrs] at hr
 | .val u,v,h,r,hr=>by simp only [RV] at h; simp [h,V.ptrs] at hr
 | .agg l,v,h,r,hr=>by simp only [RV] at h; obtain ⟨l',rfl,h⟩:=h; simp only [V.ptrs] at hr; exact RVL.ptrs l l' h r hr
 | .tuple l,v,h,r,hr=>by simp only [RV] at h; obtain ⟨l',rfl,h⟩:=h; simp only [V.ptrs] at hr; exact RVL.ptrs l l' h r hr
 | .fn g a b,v,h,r,hr=>by
  simp only [RV] at h; obtain ⟨a',b',rfl,h1,h2⟩:=h;simp only [V.ptrs,List.mem_append] at hr;simp only [TV.ptrs,List.mem_append];exact hr.imp (RVL.ptrs a a' h1 r) (RVL.ptrs b b' h2 r)
 | .ptr q o,v,h,r,hr=>by simp only [RV] at h; rw [h] at hr; simpa [V.ptrs,TV.ptrs] using hr
 | .mref q,v,h,r,hr=>by simp only [RV] at h; rw [h] at hr; simpa [V.ptrs,TV.ptrs] using hr
 | .bsl q _ _,v,h,r,hr=>by simp only [RV] at h; rw [h] at hr; simpa [V.ptrs,TV.ptrs] using hr
 | .yld q,v,h,r,hr=>by simp only [RV] at h; rw [h] at hr; simpa [V.ptrs,TV.ptrs] using hr
 | .lp ..,v,h,r,hr=>by simp only [RV] at h
 | .cptr _ l,v,h,r,hr=>by simp only [RV] at h; obtain ⟨_,l',rfl,_,_,h⟩:=h; simp only [V.ptrs] at hr; exact RVL.ptrs l l' h r hr
 | .iface t x,v,h,r,hr=>by simp only [RV] at h; obtain ⟨y,rfl,h⟩:=h; simp only [V.ptrs] at hr; exact RV.ptrs x y h r hr
theorem RVL.ptrs:∀ (l:List TV) (l':List V),RVL l l'->∀ r ∈ ptrsL l',r ∈ ptrsTL l
 | [],l',h,r,hr=>by simp only [RVL] at h; simp [h,ptrsL] at hr
 | x :: l,l',h,r,hr=>by
  simp only [RVL] at h; obtain ⟨v,m,rfl,h1,h2⟩:=h;simp only [ptrsL,List.mem_append] at hr;simp only [ptrsTL,List.mem_append];exact hr.imp (RV.ptrs x v h1 r) (RVL.ptrs l m h2 r)
end
mutual
theorem RV.ptrs_eq:∀ (x:TV) (v:V),x.known = true->RV x v->v.ptrs = x.ptrs
 | .any rs,v,hk,h=>by simp [TV.known] at hk
 | .t τ o x,v,_,h=>by simp only [RV] at h; rw [rty_ptrs τ o x v h]; simp [TV.ptrs]
 | .clp τ x,v,_,h=>by simp only [RV] at h; obtain ⟨f,l',rfl,_⟩:=h; simp [V.ptrs,TV.ptrs]
 | .room a s,v,_,h=>by simp only [RV] at h; obtain ⟨_,n,rfl,_⟩ | ⟨_,rfl | ⟨f,hf0,rfl⟩⟩:=h <;> simp [V.ptrs,TV.ptrs]
 | .empty own,v,_,h=>by simp only [RV] at h; obtain ⟨f,c,rfl,_⟩:=h; simp [V.ptrs,TV.ptrs]
 | .val u,v,_,h=>by simp only [RV] at h; simp [h,V.ptrs,TV.ptrs]
 | .agg l,v,hk,h=>by simp only [RV] at h; obtain ⟨l',rfl,h⟩:=h; simp only [TV.known] at hk; simp only [V.ptrs,TV.ptrs]; exact RVL.ptrs_eq l l' hk h
 | .tuple l,v,hk,h=>by simp only [RV] at h; obtain ⟨l',rfl,h⟩:=h; simp only [TV.known] at hk; simp only [V.ptrs,TV.ptrs]; exact RVL.ptrs_eq l l' hk h
 | .fn g a b,v,hk,h=>by
  simp only [RV] at h; obtain ⟨a',b',rfl,h1,h2⟩:=h;simp only [TV.known,Bool.and_eq_true] at hk;simp only [V.ptrs,TV.ptrs,RVL.ptrs_eq a a' hk.1 h1,RVL.ptrs_eq b b' hk.2 h2]
 | .ptr q o,v,_,h=>by simp only [RV] at h; simp [h,V.ptrs,TV.ptrs]
 | .mref q,v,_,h=>by simp only [RV] at h; simp [h,V.ptrs,TV.ptrs]
 | .bsl q _ _,v,_,h=>by simp only [RV] at h; simp [h,V.ptrs,TV.ptrs]
 | .yld q,v,_,h=>by simp only [RV] at h; simp [h,V.ptrs,TV.ptrs]
 | .lp ..,v,_,h=>by simp only [RV] at h
 | .cptr _ l,v,hk,h=>by simp only [RV] at h; obtain ⟨_,l',rfl,_,_,h⟩:=h; simp only [TV.known] at hk; simp only [V.ptrs,TV.ptrs]; exact RVL.ptrs_eq l l' hk h
 | .iface t x,v,hk,h=>by simp [TV.known] at hk
theorem RVL.ptrs_eq:∀ (l:List TV) (l':List V),knownL l = true->RVL l l'->ptrsL l' = ptrsTL l
 | [],l',_,h=>by simp only [RVL] at h; simp [h,ptrsL,ptrsTL]
 | x :: l,l',hk,h=>by
  simp only [RVL] at h; obtain ⟨v,m,rfl,h1,h2⟩:=h;simp only [knownL,Bool.and_eq_true] at hk;simp only [ptrsL,ptrsTL,RV.ptrs_eq x v hk.1 h1,RVL.ptrs_eq l m hk.2 h2]
end
theorem reflagL_map (g:Fl->Fl):∀ l:List V,reflagL g l = l.map (V.reflag g)
 | []=>rfl
 | v :: l=>by simp [reflagL,reflagL_map g l]
theorem nx_up {n:Nat} (h:isOwn (n + 1) = true):nx (n + 1) = n/\n + 1 ≠ 1000:=by
 have:=isOwn_iff.1 h;refine ⟨by unfold nx; rw [h]; simp,this.2.1⟩
theorem rty_dl0:∀ (τ:Ty) (o:Nat) (x:τ.den) (v:V),RTy τ (dl o) x v->RTy τ 0 x v
 | .int _,_,_,v,h=>by simpa only [RTy] using h
 | .bool,_,_,v,h=>by simpa only [RTy] using h
 | .str,_,_,v,h=>by simpa only [RTy] using h
 | .flt,_,_,v,h=>by simpa only [RTy] using h
 | .cx,_,_,v,h=>by simpa only [RTy] using h
 | .err,_,_,v,h=>by simpa only [RTy] using h
 | .mset _,_,_,v,h=>by simpa only [RTy] using h
 | .sl t,o,l,v,h=>by
  obtain ⟨hno,h20,hnx⟩:=dl_not o;simp only [RTy] at h ⊢; obtain ⟨f,c,l',rfl,h1,h⟩:=h;rw [hnx] at h;exact ⟨f,c,l',rfl,flr_of rfl (h1.not hno h20) (λh=>by cases h),h.mono λa b hab=>rty_dl0 t o a b hab⟩
 | .unit,_,_,v,h=>by simpa only [RTy] using h
 | .pair a b,o,x,v,h=>by
  simp only [RTy] at h ⊢; obtain ⟨v1,l,rfl,h1,h2⟩:=h;exact ⟨v1,l,rfl,rty_dl0 a o _ _ h1,rty_dl0 b o _ _ h2⟩
theorem rty_dull {g:Fl->Fl} (hg:∀ f,g f ≠ .own) (hs:g .shared = .shared):∀ (τ:Ty) (o:Nat) (x:τ.den) (v:V),RTy τ o x v->RTy τ (dl o) x (v.reflag g)
 | .int _,_,_,v,h=>by simp only [RTy] at h ⊢; simp [h,V.reflag]
 | .bool,_,_,v,h=>by simp only [RTy] at h ⊢; simp [h,V.reflag]
 | .str,_,_,v,h=>by simp only [RTy] at h ⊢; simp [h,V.reflag]
 | .flt,_,_,v,h=>by simp only [RTy] at h ⊢; obtain ⟨b9,rfl,h9⟩:=h; exact ⟨b9,by simp [V.reflag],h9⟩
 | .cx,_,_,v,h=>by simp only [RTy] at h ⊢; obtain ⟨a9,b9,rfl,h8,h9⟩:=h; exact ⟨a9,b9,by simp [V.reflag],h8,h9⟩
 | .err,_,_,v,h=>by simp only [RTy] at h ⊢; rcases h with ⟨hx,rfl⟩ | ⟨hx,t9,rfl⟩; exact .inl ⟨hx,by simp [V.reflag]⟩; exact .inr ⟨hx,t9,by simp [V.reflag]⟩
 | .mset _,_,_,v,h=>by simp only [RTy] at h ⊢; obtain ⟨h8,rfl⟩:=h; exact ⟨h8,by simp [V.reflag]⟩
 | .sl t,o,l,v,h=>by
  simp only [RTy] at h ⊢; obtain ⟨f,c,l',rfl,h0,h⟩:=h;obtain ⟨hno,h20,hnx⟩:=dl_not o;refine ⟨g f,c,reflagL g l',by simp [V.reflag],flr_of hno (hg f) (λh1=>?_),?_⟩
  ·have ho:o = 1000:=by
    unfold dl at h1;split at h1
    ·assumption
    ·cases h1
   rw [h0.2 ho]; exact hs
  ·rw [reflagL_map,hnx];refine h.map λa b hab=>?_;have h3:=rty_dull hg hs t _ a b hab;by_cases ho:o = 1000
   ·subst ho; exact h3
   ·have:dl o = 0:=by unfold dl; rw [if_neg ho]
    rw [this];exact rty_dl0 t _ a _ h3
 | .unit,_,_,v,h=>by simp only [RTy] at h ⊢; simp [h,V.reflag,reflagL]
 | .pair a b,o,x,v,h=>by
  simp only [RTy] at h ⊢; obtain ⟨v1,l,rfl,h1,h2⟩:=h;refine ⟨v1.reflag g,reflagL g l,by simp [V.reflag,reflagL],rty_dull hg hs a o _ _ h1,?_⟩;have:=rty_dull hg hs b o _ _ h2;simpa only [V.reflag] using this
theorem rty_keep {g:Fl->Fl} (hg:∀ f,g f = .own ↔ f = .own) (hs:g .shared = .shared):∀ (τ:Ty) (o:Nat) (x:τ.den) (v:V),RTy τ o x v->RTy τ o x (v.reflag g)
 | .int _,_,_,v,h=>by simp only [RTy] at h ⊢; simp [h,V.reflag]
 | .bool,_,_,v,h=>by simp only [RTy] at h ⊢; simp [h,V.reflag]
 | .str,_,_,v,h=>by simp only [RTy] at h ⊢; simp [h,V.reflag]
 | .flt,_,_,v,h=>by simp only [RTy] at h ⊢; obtain ⟨b9,rfl,h9⟩:=h; exact ⟨b9,by simp [V.reflag],h9⟩
 | .cx,_,_,v,h=>by simp only [RTy] at h ⊢; obtain ⟨a9,b9,rfl,h8,h9⟩:=h; exact ⟨a9,b9,by simp [V.reflag],h8,h9⟩
 | .err,_,_,v,h=>by simp only [RTy] at h ⊢; rcases h with ⟨hx,rfl⟩ | ⟨hx,t9,rfl⟩; exact .inl ⟨hx,by simp [V.reflag]⟩; exact .inr ⟨hx,t9,by simp [V.reflag]⟩
 | .mset _,_,_,v,h=>by simp only [RTy] at h ⊢; obtain ⟨h8,rfl⟩:=h; exact ⟨h8,by simp [V.reflag]⟩
 | .sl t,o,l,v,h=>by
  simp only [RTy] at h ⊢; obtain ⟨f,c,l',rfl,ho,h⟩:=h;refine ⟨g f,c,reflagL g l',by simp [V.reflag],⟨λh2=>by rw [hg f]; exact ho.1 h2,λh1=>by rw [ho.2 h1]; exact hs⟩,?_⟩;rw [reflagL_map];exact h.map λa b hab=>rty_keep hg hs t _ a b hab
 | .unit,_,_,v,h=>by simp only [RTy] at h ⊢; simp [h,V.reflag,reflagL]
 | .pair a b,o,x,v,h=>by
  simp only [RTy] at h ⊢; obtain ⟨v1,l,rfl,h1,h2⟩:=h;refine ⟨v1.reflag g,reflagL g l,by simp [V.reflag,reflagL],rty_keep hg hs a o _ _ h1,?_⟩;have:=rty_keep hg hs b o _ _ h2;simpa only [V.reflag] using this
theorem isLoop_reflag {g:Fl->Fl} {l:List V} (h:isLoop l = false):isLoop (reflagL g l) = false:=by
 cases l with
 | nil=>rfl
 | cons x l=>cases x with
  | lp=>simp [isLoop] at h
  | room s n =>
   simp only [reflagL,V.reflag];by_cases h1:g .own = .own
   ·rw [if_pos h1]; rfl
   ·rw [if_neg h1];by_cases h2:n = 0
    ·rw [if_pos h2]; rfl
    ·rw [if_neg h2]; rfl
  | _=>rfl
theorem isLoop_reflag1 {g:Fl->Fl} {v:V} (h:isLoop [v] = false):isLoop [v.reflag g] = false:=isLoop_reflag (g:=g) h
theorem ptrs_reflag1 (g:Fl->Fl) (v:V):(v.reflag g).ptrs = v.ptrs:=by
 have:=ptrsL_reflag g [v];simpa [reflagL,ptrsL] using this
mutual
theorem RV.dull' {g:Fl->Fl} (hg:∀ f,g f ≠ .own) (hs:g .shared = .shared):∀ (x:TV) (v:V),RV x v->RV x.dull (v.reflag g)
 | .any rs,v,h=>by simp only [TV.dull,RV] at h ⊢; rw [ptrs_reflag1]; exact ⟨h.1,isLoop_reflag1 h.2⟩
 | .t τ o x,v,h=>by simp only [TV.dull,RV] at h ⊢; exact rty_dull hg hs τ o x v h
 | .clp τ x,v,h=>by
  simp only [TV.dull,RV] at h ⊢; obtain ⟨f,l',rfl,_,h⟩:=h;refine ⟨g f,reflagL g l',by simp [V.reflag],hg f,?_⟩;rw [reflagL_map];exact h.map λa b hab=>rty_dl0 τ 0 a _ (rty_dull hg hs τ _ a b hab)
 | .room a s,v,h=>by
  simp only [RV] at h;rcases a with _ | a
  ·obtain ⟨_,n,rfl,h0⟩ | ⟨h9,_⟩:=h
   ·obtain rfl:=h0 rfl;simp only [TV.dull,RV,V.reflag,if_neg (hg .own),if_true];exact ⟨_,_,rfl,flr_of (by decide) (hg .own) (λh1=>by cases h1)⟩
   ·omega
  ·simp only [TV.dull,RV];refine .inr ⟨Nat.le_refl _,?_⟩;obtain ⟨_,n,rfl,_⟩ | ⟨_,rfl | ⟨f,hf0,rfl⟩⟩:=h
   ·simp only [V.reflag,if_neg (hg .own)];split
    ·exact .inr ⟨_,hg _,rfl⟩
    ·exact .inl rfl
   ·exact .inl rfl
   ·exact .inr ⟨g f,hg f,by simp [V.reflag,reflagL]⟩
 | .empty o,v,h=>by
  simp only [TV.dull,RV] at h ⊢; obtain ⟨f,c,rfl,h0⟩:=h;refine ⟨g f,c,by simp [V.reflag,reflagL],flr_of (dl_not o).1 (hg f) (λh1=>?_)⟩;have ho:o = 1000:=by
   unfold dl at h1;split at h1
   ·assumption
   ·cases h1
  rw [h0.2 ho]; exact hs
 | .val u,v,h=>by simp only [TV.dull,RV] at h ⊢; simp [h,V.reflag]
 | .agg l,v,h=>by simp only [TV.dull,RV] at h ⊢; obtain ⟨l',rfl,h⟩:=h; exact ⟨_,by simp only [V.reflag],RVL.dull' hg hs l l' h⟩
 | .tuple l,v,h=>by simp only [TV.dull,RV] at h ⊢; obtain ⟨l',rfl,h⟩:=h; exact ⟨_,by simp only [V.reflag],RVL.dull' hg hs l l' h⟩
 | .fn g' a b,v,h=>by simp only [TV.dull,RV] at h ⊢; obtain ⟨a',b',rfl,h1,h2⟩:=h; exact ⟨_,_,by simp only [V.reflag],RVL.dull' hg hs a a' h1,RVL.dull' hg hs b b' h2⟩
 | .ptr q o,v,h=>by simp only [TV.dull,RV] at h ⊢; simp [h,V.reflag]
 | .mref q,v,h=>by simp only [TV.dull,RV] at h ⊢; simp [h,V.reflag]
 | .bsl q _ _,v,h=>by simp only [TV.dull,RV] at h ⊢; simp [h,V.reflag]
 | .yld q,v,h=>by simp only [TV.dull,RV] at h ⊢; simp [h,V.reflag]
 | .lp ..,v,h=>by simp only [RV] at h
 | .cptr s l,v,h=>by simp only [TV.dull,RV] at h ⊢; obtain ⟨f,l',rfl,_,hsh,h⟩:=h; exact ⟨g f,_,by simp only [V.reflag],hg f,λe=>(by rw [hsh e]; exact hs),RVL.dull' hg hs l l' h⟩
 | .iface t x,v,h=>by simp only [TV.dull,RV] at h ⊢; obtain ⟨y,rfl,h⟩:=h; exact ⟨_,by simp only [V.reflag],RV.dull' hg hs x y h⟩
theorem RVL.dull' {g:Fl->Fl} (hg:∀ f,g f ≠ .own) (hs:g .shared = .shared):∀ (l:List TV) (l':List V),RVL l l'->RVL (dullL l) (reflagL g l')
 | [],l',h=>by simp only [RVL] at h; simp [h,dullL,reflagL,RVL]
 | x :: l,l',h=>by
  simp only [RVL] at h; obtain ⟨v,m,rfl,h1,h2⟩:=h;simp only [dullL,reflagL];exact rvl_cons.2 ⟨RV.dull' hg hs x v h1,RVL.dull' hg hs l m h2⟩
end
mutual
theorem RV.keep {g:Fl->Fl} (hg:∀ f,g f = .own ↔ f = .own) (hs:g .shared = .shared):∀ (x:TV) (v:V),RV x v->RV x (v.reflag g)
 | .any rs,v,h=>by simp only [RV] at h ⊢; rw [ptrs_reflag1]; exact ⟨h.1,isLoop_reflag1 h.2⟩
 | .t τ o x,v,h=>by simp only [RV] at h ⊢; exact rty_keep hg hs τ o x v h
 | .clp τ x,v,h=>by
  simp only [RV] at h ⊢; obtain ⟨f,l',rfl,h0,h⟩:=h;refine ⟨g f,reflagL g l',by simp [V.reflag],λe=>h0 ((hg f).1 e),?_⟩;rw [reflagL_map];exact h.map λa b hab=>rty_keep hg hs τ _ a b hab
 | .room a s,v,h=>by
  simp only [RV] at h ⊢;obtain ⟨h1,n,rfl,h0⟩ | ⟨h1,rfl | ⟨f,hf0,rfl⟩⟩:=h
  ·exact .inl ⟨h1,n,by simp only [V.reflag,if_pos ((hg .own).2 rfl)],h0⟩
  ·exact .inr ⟨h1,.inl rfl⟩
  ·exact .inr ⟨h1,.inr ⟨g f,λe=>hf0 ((hg f).1 e),by simp [V.reflag,reflagL]⟩⟩
 | .empty o,v,h=>by simp only [RV] at h ⊢; obtain ⟨f,c,rfl,h0⟩:=h; exact ⟨g f,c,by simp [V.reflag,reflagL],⟨λh2=>by rw [hg f]; exact h0.1 h2,λh1=>by rw [h0.2 h1]; exact hs⟩⟩
 | .val u,v,h=>by simp only [RV] at h ⊢; simp [h,V.reflag]
 | .agg l,v,h=>by simp only [RV] at h ⊢; obtain ⟨l',rfl,h⟩:=h; exact ⟨_,by simp only [V.reflag],RVL.keep hg hs l l' h⟩
 | .tuple l,v,h=>by simp only [RV] at h ⊢; obtain ⟨l',rfl,h⟩:=h; exact ⟨_,by simp only [V.reflag],RVL.keep hg hs l l' h⟩
 | .fn g' a b,v,h=>by simp only [RV] at h ⊢; obtain ⟨a',b',rfl,h1,h2⟩:=h; exact ⟨_,_,by simp only [V.reflag],RVL.keep hg hs a a' h1,RVL.keep hg hs b b' h2⟩
 | .ptr q o,v,h=>by simp only [RV] at h ⊢; simp [h,V.reflag]
 | .mref q,v,h=>by simp only [RV] at h ⊢; simp [h,V.reflag]
 | .bsl q _ _,v,h=>by simp only [RV] at h ⊢; simp [h,V.reflag]
 | .yld q,v,h=>by simp only [RV] at h ⊢; simp [h,V.reflag]
 | .lp ..,v,h=>by simp only [RV] at h
 | .cptr s l,v,h=>by simp only [RV] at h ⊢; obtain ⟨f,l',rfl,h0,hsh,h⟩:=h; exact ⟨g f,_,by simp only [V.reflag],λe=>h0 ((hg f).1 e),λe=>(by rw [hsh e]; exact hs),RVL.keep hg hs l l' h⟩
 | .iface t x,v,h=>by simp only [RV] at h ⊢; obtain ⟨y,rfl,h⟩:=h; exact ⟨_,by simp only [V.reflag],RV.keep hg hs x y h⟩
theorem RVL.keep {g:Fl->Fl} (hg:∀ f,g f = .own ↔ f = .own) (hs:g .shared = .shared):∀ (l:List TV) (l':List V),RVL l l'->RVL l (reflagL g l')
 | [],l',h=>by simp only [RVL] at h; simp [h,reflagL,RVL]
 | x :: l,l',h=>by
  simp only [RVL] at h; obtain ⟨v,m,rfl,h1,h2⟩:=h;simp only [reflagL];exact rvl_cons.2 ⟨RV.keep hg hs x v h1,RVL.keep hg hs l m h2⟩
end
theorem flDull_own (f:Fl):flDull f ≠ .own:=by cases f <;> simp [flDull]
theorem RV.dull {x:TV} {v:V} (h:RV x v):RV x.dull v.dull:=RV.dull' flDull_own rfl x v h
theorem RVL.dull {l:List TV} {l':List V} (h:RVL l l'):RVL (dullL l) (reflagL flDull l'):=RVL.dull' flDull_own rfl l l' h
theorem RVL.map_dull {g:Fl->Fl} (hg:∀ f,g f ≠ .own) (hs:g .shared = .shared) {l:List TV} {l':List V} (h:RVL l l'):RVL (dullL l) (l'.map (V.reflag g)):=by
 rw [<- reflagL_map]; exact RVL.dull' hg hs l l' h
theorem ownsL_iff {l:List V}:ownsL l = true ↔ ∃ v ∈ l,v.owns = true:=by
 induction l with
 | nil=>simp [ownsL]
 | cons v l ih=>simp [ownsL,ih]
theorem all2_mem {α β:Type} {R:α->β->Prop} {l:List α} {l':List β} (h:All2 R l l'):∀ b ∈ l',∃ a ∈ l,R a b:=by
 induction h with
 | nil=>simp
 | cons h1 _ ih =>
  intro b hb;rcases List.mem_cons.1 hb with rfl | hb
  ·exact ⟨_,by simp,h1⟩
  ·obtain ⟨a,ha,hr⟩:=ih b hb; exact ⟨a,by simp [ha],hr⟩
theorem rty_owns:∀ (τ:Ty) (o:Nat) (x:τ.den) (v:V),RTy τ o x v->v.owns = true->(isOwn o = true\/o = 2000)/\0 < τ.depth
 | .int _,_,_,v,h,ho=>by simp only [RTy] at h; simp [h,V.owns] at ho
 | .bool,_,_,v,h,ho=>by simp only [RTy] at h; simp [h,V.owns] at ho
 | .str,_,_,v,h,ho=>by simp only [RTy] at h; simp [h,V.owns] at ho
 | .flt,_,_,v,h,ho=>by simp only [RTy] at h; obtain ⟨b9,rfl,h9⟩:=h; simp [V.owns] at ho
 | .cx,_,_,v,h,ho=>by simp only [RTy] at h; obtain ⟨a9,b9,rfl,h8,h9⟩:=h; simp [V.owns] at ho
 | .err,_,_,v,h,ho=>by simp only [RTy] at h; rcases h with ⟨_,rfl⟩ | ⟨_,t9,rfl⟩ <;> simp [V.owns] at ho
 | .mset _,_,_,v,h,ho=>by simp only [RTy] at h; obtain ⟨h8,rfl⟩:=h; simp [V.owns] at ho
 | .sl t,o,l,v,h,ho=>by
  simp only [RTy] at h; obtain ⟨f,c,l',rfl,hf,h⟩:=h;simp only [V.owns,Bool.or_eq_true,decide_eq_true_eq] at ho;simp only [Ty.depth];refine ⟨?_,by omega⟩;by_cases h2:o = 2000
  ·exact .inr h2
  left
  rcases ho with ho | ho
  ·exact (hf.1 h2).1 ho
  ·obtain ⟨b,hb,hbo⟩:=ownsL_iff.1 ho;obtain ⟨a,_,hr⟩:=all2_mem h b hb;have:=(rty_owns t _ a b hr hbo).1;cases hno:isOwn o with
   | true=>rfl
   | false =>
    unfold nx at this;rw [hno] at this;simp only [Bool.false_eq_true,if_false,hno,false_or] at this;exact absurd this h2
 | .unit,_,_,v,h,ho=>by simp only [RTy] at h; simp [h,V.owns,ownsL] at ho
 | .pair a b,o,x,v,h,ho=>by
  simp only [RTy] at h; obtain ⟨v1,l,rfl,h1,h2⟩:=h;simp only [V.owns,ownsL,Bool.or_eq_true] at ho;simp only [Ty.depth];rcases ho with ho | ho
  ·have:=rty_owns a o _ _ h1 ho; exact ⟨this.1,by omega⟩
  ·have:=rty_owns b o _ _ h2 (by simpa only [V.owns] using ho); exact ⟨this.1,by omega⟩
mutual
theorem RV.owns:∀ (x:TV) (v:V),RV x v->v.owns = true->x.owns = true
 | .any rs,v,h,ho=>by simp [TV.owns]
 | .t τ o x,v,h,ho=>by simp only [RV] at h; have:=rty_owns τ o x v h ho; simpa [TV.owns] using this
 | .clp τ x,v,h,ho=>by
  simp only [RV] at h; obtain ⟨f,l',rfl,hf,h⟩:=h;simp only [V.owns,Bool.or_eq_true,decide_eq_true_eq] at ho;rcases ho with ho | ho
  ·exact absurd ho hf
  ·obtain ⟨b,hb,hbo⟩:=ownsL_iff.1 ho;obtain ⟨a,_,hr⟩:=all2_mem h b hb;have:=(rty_owns τ _ a b hr hbo).1;simp [isOwn] at this
 | .room a s,v,h,ho=>rfl
 | .empty o,v,h,ho=>by
  simp only [RV] at h; obtain ⟨f,c,rfl,hf⟩:=h;simp only [V.owns,ownsL,Bool.or_false,decide_eq_true_eq] at ho;simp only [TV.owns,Bool.or_eq_true,decide_eq_true_eq];by_cases h2:o = 2000
  ·exact .inr h2
  ·exact .inl ((hf.1 h2).1 ho)
 | .val u,v,h,ho=>by simp only [RV] at h; simp [h,V.owns] at ho
 | .agg l,v,h,ho=>by simp only [RV] at h; obtain ⟨l',rfl,h⟩:=h; simp only [V.owns,TV.owns] at ho ⊢; exact RVL.owns l l' h ho
 | .tuple l,v,h,ho=>by simp only [RV] at h; obtain ⟨l',rfl,h⟩:=h; simp only [V.owns,TV.owns] at ho ⊢; exact RVL.owns l l' h ho
 | .fn g a b,v,h,ho=>by
  simp only [RV] at h; obtain ⟨a',b',rfl,h1,h2⟩:=h;simp only [V.owns,TV.owns,Bool.or_eq_true] at ho ⊢;exact ho.imp (RVL.owns a a' h1) (RVL.owns b b' h2)
 | .ptr q o,v,h,ho=>by simp only [RV] at h; simp [h,V.owns] at ho
 | .mref q,v,h,ho=>by simp only [RV] at h; simp [h,V.owns] at ho
 | .bsl q _ _,v,h,ho=>by simp only [RV] at h; simp [h,V.owns] at ho
 | .yld q,v,h,ho=>by simp only [RV] at h; simp [h,V.owns] at ho
 | .lp ..,v,h,ho=>by simp only [RV] at h
 | .cptr _ l,v,h,ho=>by simp only [RV] at h; obtain ⟨f,l',rfl,h0,_,h⟩:=h; simp only [V.owns,TV.owns,h0,decide_false,Bool.false_or] at ho ⊢; exact RVL.owns l l' h ho
 | .iface t x,v,h,ho=>by simp only [RV] at h; obtain ⟨y,rfl,h⟩:=h; simp only [V.owns,TV.owns] at ho ⊢; exact RV.owns x y h ho
theorem RVL.owns:∀ (l:List TV) (l':List V),RVL l l'->ownsL l' = true->ownsTL l = true
 | [],l',h,ho=>by simp only [RVL] at h; simp [h,ownsL] at ho
 | x :: l,l',h,ho=>by
  simp only [RVL] at h; obtain ⟨v,m,rfl,h1,h2⟩:=h;simp only [ownsL,ownsTL,Bool.or_eq_true] at ho ⊢;exact ho.imp (RV.owns x v h1) (RVL.owns l m h2)
end
theorem rty_one {τ:Ty} (h1:τ.one = true) {o:Nat} {x:τ.den} {v:V} (h:RTy τ o x v):v.one = true:=by
 cases τ with
 | unit=>simp [Ty.one] at h1
 | pair a b=>simp [Ty.one] at h1
 | sl t=>simp only [RTy] at h; obtain ⟨f,c,l',rfl,_⟩:=h; rfl
 | flt=>simp only [RTy] at h; obtain ⟨b9,rfl,_⟩:=h; rfl
 | cx=>simp only [RTy] at h; obtain ⟨a9,b9,rfl,_⟩:=h; rfl
 | err=>simp only [RTy] at h; rcases h with ⟨_,rfl⟩ | ⟨_,t9,rfl⟩ <;> rfl
 | mset t=>simp [Ty.one] at h1
 | _=>simp only [RTy] at h; subst h; rfl
theorem RV.one {x:TV} {v:V} (h1:x.one = true) (h:RV x v):v.one = true:=by
 cases x with
 | any rs=>simp [TV.one] at h1
 | t τ o x=>simp only [RV] at h; exact rty_one h1 h
 | clp τ x=>simp only [RV] at h; obtain ⟨f,l',rfl,_⟩:=h; rfl
 | room a s=>simp [TV.one] at h1
 | empty own=>simp only [RV] at h; obtain ⟨f,c,rfl,_⟩:=h; rfl
 | val u=>simp only [RV] at h; subst h; exact h1
 | agg l=>simp [TV.one] at h1
 | tuple l=>simp [TV.one] at h1
 | fn g a b=>simp only [RV] at h; obtain ⟨a',b',rfl,_⟩:=h; rfl
 | ptr r o=>simp only [RV] at h; subst h; rfl
 | mref r=>simp only [RV] at h; subst h; rfl
 | bsl r o n=>simp only [RV] at h; subst h; rfl
 | yld r=>simp only [RV] at h; subst h; rfl
 | lp s pe g env ps a b=>simp only [RV] at h
 | cptr _ l=>simp only [RV] at h; obtain ⟨_,l',rfl,_⟩:=h; rfl
 | iface t x=>simp only [RV] at h; obtain ⟨y,rfl,_⟩:=h; rfl
theorem cells_one {v:V} (h:v.one = true):v.cells = [v]:=by cases v <;> first | rfl | simp [V.one] at h
theorem RVL.ones:∀ {l:List TV} {l':List V},l.all TV.one = true->RVL l l'->l'.all V.one = true
 | [],l',_,h=>by simp only [RVL] at h; simp [h]
 | x :: l,l',h1,h=>by
  simp only [RVL] at h; obtain ⟨v,m,rfl,h2,h3⟩:=h;simp only [List.all_cons,Bool.and_eq_true] at h1 ⊢;exact ⟨RV.one h1.1 h2,RVL.ones h1.2 h3⟩
theorem RV.cells {x:TV} {v:V} (hk:x.oks = true) (h:RV x v):RVL x.cells v.cells/\v.oks = true:=by
 by_cases hx:∃ l,x = .agg l
 ·obtain ⟨l,rfl⟩:=hx;simp only [RV] at h;obtain ⟨l',rfl,h⟩:=h;simp only [TV.oks,TV.cells] at hk;exact ⟨h,RVL.ones hk h⟩
 ·have hc:x.cells = [x]:=by cases x <;> first | rfl | exact absurd ⟨_,rfl⟩ hx
  have h1:x.one = true:=by simpa [TV.oks,hc] using hk
  have hv:=RV.one h1 h;have hcv:=cells_one hv;rw [hc,hcv];exact ⟨rvl_cons.2 ⟨h,rvl_nil⟩,by simp [V.oks,hcv,hv]⟩
theorem isLp_split {c:List V} (h1:isLoop c = false) (h2:isMp c = false):isLp c = false:=by
 cases c with
 | nil=>rfl
 | cons x l=>cases x <;> first | rfl | (simp [isLoop] at h1; done) | (simp [isMp] at h2)
theorem rvl_notLoop {l:List TV} {l':List V} (h:RVL l l'):isLoop l' = false:=by
 cases l with
 | nil=>simp only [RVL] at h; simp [h,isLoop]
 | cons x l =>
  simp only [RVL] at h; obtain ⟨v,m,rfl,h1,_⟩:=h;cases v with
  | lp s pe g env ps a b =>
   exfalso
   cases x with
   | any rs=>simp [RV,isLoop] at h1
   | t τ o x =>
    cases τ <;> simp [RV,RTy] at h1
   | lp=>simp only [RV] at h1
   | _=>simp [RV] at h1
  | _=>rfl
mutual
theorem rv_ofTy:∀ (τ:Ty) (o:Nat) (x:τ.den) (v:V),RTy τ o x v->RV (ofTy τ o x) v
 | .int _,_,_,v,h=>by simpa only [ofTy,RV] using h
 | .bool,_,_,v,h=>by simpa only [ofTy,RV] using h
 | .str,_,_,v,h=>by simpa only [ofTy,RV] using h
 | .flt,_,_,v,h=>by simpa only [ofTy,RV] using h
 | .cx,_,_,v,h=>by simpa only [ofTy,RV] using h
 | .err,_,_,v,h=>by simpa only [ofTy,RV] using h
 | .mset _,_,_,v,h=>by simpa only [ofTy,RV] using h
 | .sl t,o,l,v,h=>by simpa only [ofTy,RV] using h
 | .unit,_,_,v,h=>by simp only [RTy] at h; simp [h,ofTy,RV,RVL]
 | .pair a b,o,x,v,h=>by
  simp only [RTy] at h; obtain ⟨v1,l,rfl,h1,h2⟩:=h;simp only [ofTy,RV];exact ⟨_,rfl,rvl_cons.2 ⟨rv_ofTy a o _ _ h1,rv_ofTyC b o _ l h2⟩⟩
theorem rv_ofTyC:∀ (τ:Ty) (o:Nat) (x:τ.den) (l:List V),RTy τ o x (.agg l)->RVL (ofTyC τ o x) l
 | .int _,_,_,l,h=>by simp [RTy] at h
 | .bool,_,_,l,h=>by simp [RTy] at h
 | .str,_,_,l,h=>by simp [RTy] at h
 | .flt,_,_,l,h=>by simp [RTy] at h
 | .cx,_,_,l,h=>by simp [RTy] at h
 | .err,_,_,l,h=>by simp [RTy] at h
 | .mset _,_,_,l,h=>by simp [RTy] at h
 | .sl t,o,x,l,h=>by simp [RTy] at h
 | .unit,_,_,l,h=>by simp only [RTy,V.agg.injEq] at h; simp [h,ofTyC,RVL]
 | .pair a b,o,x,l,h=>by
  simp only [RTy,V.agg.injEq] at h; obtain ⟨v1,m,rfl,h1,h2⟩:=h;simp only [ofTyC];exact rvl_cons.2 ⟨rv_ofTy a o _ _ h1,rv_ofTyC b o _ m h2⟩
end
theorem ofTy_one {τ:Ty} (h:τ.one = true) (o:Nat) (x:τ.den):(ofTy τ o x).one = true:=by cases τ <;> first | rfl | simp [Ty.one] at h
theorem ofTyC_ones:∀ (τ:Ty),τ.rowOk = true->∀ (o:Nat) (x:τ.den),(ofTyC τ o x).all TV.one = true
 | .unit,_,o,x=>rfl
 | .pair a b,h,o,x=>by
  simp only [Ty.rowOk,Bool.and_eq_true] at h;simp only [ofTyC,List.all_cons,Bool.and_eq_true];exact ⟨ofTy_one h.1 o _,ofTyC_ones b h.2 o _⟩
 | .int _,h,_,_ | .bool,h,_,_ | .str,h,_,_ | .flt,h,_,_ | .cx,h,_,_ | .err,h,_,_ | .mset _,h,_,_ | .sl _,h,_,_=>by simp [Ty.rowOk] at h
theorem ofTy_oks {τ:Ty} (h:τ.elemOk = true) (o:Nat) (x:τ.den):(ofTy τ o x).oks = true:=by
 cases τ with
 | unit=>rfl
 | pair a b =>
  simp only [Ty.elemOk,Bool.and_eq_true] at h;simp only [ofTy,TV.oks,TV.cells,List.all_cons,Bool.and_eq_true];exact ⟨ofTy_one h.1 o _,ofTyC_ones b h.2 o _⟩
 | mset t=>simp [Ty.elemOk] at h
 | _=>rfl
theorem ofTyC_length:∀ (τ:Ty),τ.rowOk = true->∀ (o:Nat) (x:τ.den),(ofTyC τ o x).length = τ.ncells
 | .unit,_,o,x=>rfl
 | .pair a b,h,o,x=>by
  simp only [Ty.rowOk,Bool.and_eq_true] at h;simp [ofTyC,Ty.ncells,ofTyC_length b h.2 o x.2]
 | .int _,h,_,_ | .bool,h,_,_ | .str,h,_,_ | .flt,h,_,_ | .cx,h,_,_ | .err,h,_,_ | .mset _,h,_,_ | .sl _,h,_,_=>by simp [Ty.rowOk] at h
theorem ofTy_ncells {τ:Ty} (h:τ.elemOk = true) (o:Nat) (x:τ.den):(ofTy τ o x).cells.length = τ.ncells:=by
 cases τ with
 | unit=>rfl
 | pair a b =>
  simp only [Ty.elemOk,Bool.and_eq_true] at h;simp [ofTy,TV.cells,Ty.ncells,ofTyC_length b h.2 o x.2]
 | _=>rfl
theorem rty_ncells {τ:Ty} (h:τ.elemOk = true) {o:Nat} {x:τ.den} {v:V} (hr:RTy τ o x v):v.cells.length = τ.ncells/\v.oks = true:=by
 obtain ⟨h1,h2⟩:=RV.cells (ofTy_oks h o x) (rv_ofTy τ o x v hr);exact ⟨by rw [h1.length,ofTy_ncells h],h2⟩
theorem fits_le:∀ {d d':Nat} {o' o:Nat},d'<=d->fits d o' o = true->fits d' o' o = true
 | _,0,_,_,_,_=>rfl
 | 0,d' + 1,_,_,h,_=>by omega
 | d + 1,d' + 1,o',o,h,hf=>by
  simp only [fits,Bool.or_eq_true,Bool.and_eq_true] at hf ⊢;exact hf.imp id λhf=>⟨hf.1,fits_le (by omega) hf.2⟩
theorem fits_flr {o' o d:Nat} {f:Fl} (h:fits (d + 1) o' o = true) (hf:FlR o' f):FlR o f/\(o = 2000\/fits d (nx o') (nx o) = true):=by
 simp only [fits,Bool.or_eq_true,Bool.and_eq_true,decide_eq_true_eq,beq_iff_eq,Bool.not_eq_true',decide_eq_false_iff_not] at h;rcases h with rfl | ⟨⟨⟨h1,h2⟩,h3⟩,h4⟩
 ·exact ⟨⟨λh=>absurd rfl h,λh=>by cases h⟩,.inl rfl⟩
 ·exact ⟨⟨λ_=>by rw [hf.1 h2,h1],λh=>hf.2 (h3.resolve_left λh5=>h5 h)⟩,.inr h4⟩
theorem fits_2000:∀ (d o:Nat),fits d o 2000 = true
 | 0,_=>rfl
 | d + 1,o=>by simp [fits]
theorem rty_lev:∀ (τ:Ty) (o o':Nat) (x:τ.den) (v:V),fits τ.depth o o' = true->RTy τ o x v->RTy τ o' x v
 | .int _,_,_,_,v,_,h=>by simpa only [RTy] using h
 | .bool,_,_,_,v,_,h=>by simpa only [RTy] using h
 | .str,_,_,_,v,_,h=>by simpa only [RTy] using h
 | .flt,_,_,_,v,_,h=>by simpa only [RTy] using h
 | .cx,_,_,_,v,_,h=>by simpa only [RTy] using h
 | .err,_,_,_,v,_,h=>by simpa only [RTy] using h
 | .mset _,_,_,_,v,_,h=>by simpa only [RTy] using h
 | .unit,_,_,_,v,_,h=>by simpa only [RTy] using h
 | .sl t,o,o',l,v,hm,h=>by
  simp only [Ty.depth] at hm;simp only [RTy] at h ⊢; obtain ⟨f,c,l',rfl,hf,h⟩:=h;obtain ⟨h1,h2⟩:=fits_flr hm hf;refine ⟨f,c,l',rfl,h1,h.mono λa b hab=>rty_lev t _ _ a b ?_ hab⟩;rcases h2 with rfl | h2
  ·exact fits_2000 _ _
  ·exact h2
 | .pair a b,o,o',x,v,hm,h=>by
  simp only [Ty.depth] at hm;simp only [RTy] at h ⊢; obtain ⟨v1,l,rfl,h3,h4⟩:=h;exact ⟨v1,l,rfl,rty_lev a _ _ _ _ (fits_le (by omega) hm) h3,rty_lev b _ _ _ _ (fits_le (by omega) hm) h4⟩
theorem asTy_ok:∀ (τ:Ty) (o:Nat) (w:TV) (x:τ.den) (v:V),asTy τ o w = some x->RV w v->RTy τ o x v:=by
 have dflt:∀ (τ:Ty) (o:Nat) (τ':Ty) (o':Nat) (y:τ'.den) (x:τ.den) (v:V),(if h:τ' = τ then (if fits τ.depth o' o = true then some (cast' h y) else none) else none) = some x->RTy τ' o' y v->RTy τ o x v:=by
  intro τ o τ' o' y x v h hr;split at h
  ·rename_i he;split at h
   ·rename_i hm;simp only [Option.some.injEq] at h;subst h;subst he;exact rty_lev _ _ _ _ _ hm hr
   ·cases h
  ·cases h
 intro τ;induction τ with
 | int k =>
  intro o w x v h hr;cases w <;> simp only [asTy] at h <;> first | cases h | exact dflt _ _ _ _ _ _ _ h (by simpa only [RV] using hr)
 | bool =>
  intro o w x v h hr;cases w <;> simp only [asTy] at h <;> first | cases h | exact dflt _ _ _ _ _ _ _ h (by simpa only [RV] using hr)
 | str =>
  intro o w x v h hr;cases w <;> simp only [asTy] at h <;> first | cases h | exact dflt _ _ _ _ _ _ _ h (by simpa only [RV] using hr)
 | flt =>
  intro o w x v h hr;cases w <;> simp only [asTy] at h <;> first | cases h | exact dflt _ _ _ _ _ _ _ h (by simpa only [RV] using hr)
 | cx =>
  intro o w x v h hr;cases w <;> simp only [asTy] at h <;> first | cases h | exact dflt _ _ _ _ _ _ _ h (by simpa only [RV] using hr)
 | err =>
  intro o w x v h hr;cases w <;> simp only [asTy] at h <;> first | cases h | exact dflt _ _ _ _ _ _ _ h (by simpa only [RV] using hr)
 | mset t =>
  intro o w x v h hr;cases w <;> simp only [asTy] at h <;> first | cases h | exact dflt _ _ _ _ _ _ _ h (by simpa only [RV] using hr)
 | sl t ih =>
  intro o w x v h hr;cases w with
  | empty own =>
   simp only [asTy] at h;split at h
   ·rename_i ho;simp only [Option.some.injEq] at h;subst h;simp only [RV] at hr;obtain ⟨f,c,rfl,hf⟩:=hr;simp only [RTy];exact ⟨f,c,[],rfl,(fits_flr ho hf).1,.nil⟩
   ·cases h
  | t τ' o' y=>simp only [asTy] at h; exact dflt _ _ _ _ _ _ _ h (by simpa only [RV] using hr)
  | _=>simp [asTy] at h
 | unit =>
  intro o w x v h hr;cases w with
  | agg l =>
   cases l with
   | nil=>simp only [RV] at hr; obtain ⟨l',rfl,h1⟩:=hr; simp only [RVL] at h1; simp [RTy,h1]
   | cons=>simp [asTy] at h
  | t τ' o' y=>simp only [asTy] at h; exact dflt _ _ _ _ _ _ _ h (by simpa only [RV] using hr)
  | _=>simp [asTy] at h
 | pair a b iha ihb =>
  intro o w x v h hr;cases w with
  | agg l =>
   cases l with
   | nil=>simp [asTy] at h
   | cons u l =>
    simp only [asTy] at h;obtain ⟨y,hy,h⟩:=Option.bind_eq_some_iff.1 h;obtain ⟨z,hz,h⟩:=Option.bind_eq_some_iff.1 h;simp only [Option.some.injEq] at h;subst h;simp only [RV] at hr;obtain ⟨l',rfl,hl⟩:=hr;simp only [RVL] at hl;obtain ⟨v1,m,rfl,h1,h2⟩:=hl;simp only [RTy];exact ⟨v1,m,rfl,iha _ _ _ _ hy h1,ihb _ _ _ _ hz (by simp only [RV]; exact ⟨m,rfl,h2⟩)⟩
  | t τ' o' y=>simp only [asTy] at h; exact dflt _ _ _ _ _ _ _ h (by simpa only [RV] using hr)
  | _=>simp [asTy] at h
theorem asL_ok:∀ (ps:List (Ty × Nat)) (l:List TV) (x:denL (ps.map (·.1))) (l':List V),asL ps l = some x->RVL l l'->RVL (ofL ps x) l'
 | [],l,x,l',h,hr=>by
  cases l with
  | nil=>simpa [ofL] using hr
  | cons=>simp [asL] at h
 | [(τ,o)],l,x,l',h,hr=>by
  match l,h,hr with
  | [v],h,hr =>
   simp only [asL] at h;simp only [RVL] at hr;obtain ⟨u,m,rfl,h1,rfl⟩:=hr;simp only [ofL];exact rvl_cons.2 ⟨rv_ofTy _ _ _ _ (asTy_ok _ _ _ _ _ h h1),rvl_nil⟩
  | [],h,hr=>simp [asL] at h
  | _ :: _ :: _,h,hr=>simp [asL] at h
 | (τ,o) :: q :: ps,l,x,l',h,hr=>by
  match l,h,hr with
  | [],h,hr=>simp [asL] at h
  | v :: l,h,hr =>
   simp only [asL] at h;obtain ⟨y,hy,h⟩:=Option.bind_eq_some_iff.1 h;obtain ⟨z,hz,h⟩:=Option.bind_eq_some_iff.1 h;simp only [Option.some.injEq] at h;subst h;simp only [RVL] at hr;obtain ⟨u,m,rfl,h1,h2⟩:=hr;simp only [ofL];exact rvl_cons.2 ⟨rv_ofTy _ _ _ _ (asTy_ok _ _ _ _ _ hy h1),asL_ok (q :: ps) l _ _ hz h2⟩
theorem asAll_ok {τ:Ty} {o:Nat}:∀ (l:List TV) (x:List τ.den) (l':List V),asAll τ o l = some x->RVL l l'->All2 (RTy τ o) x l'
 | [],x,l',h,hr=>by simp only [asAll,Option.some.injEq] at h; simp only [RVL] at hr; subst h; subst hr; exact .nil
 | v :: l,x,l',h,hr=>by
  simp only [asAll] at h;obtain ⟨y,hy,h⟩:=Option.bind_eq_some_iff.1 h;obtain ⟨z,hz,h⟩:=Option.bind_eq_some_iff.1 h;simp only [Option.some.injEq] at h;subst h;simp only [RVL] at hr;obtain ⟨u,m,rfl,h1,h2⟩:=hr;exact .cons (asTy_ok _ _ _ _ _ hy h1) (asAll_ok l _ _ hz h2)
theorem rv_zero (p:Bool) (u:Value):RV (zeroTV p u) (ofZero p u):=by
 unfold zeroTV ofZero;split
 ·simp [RV,RTy]
 ·simp [RV,RTy]
 ·simp [RV,RTy]
 ·simp only [RV,RTy]; exact ⟨0,rfl,Fl.isF_zero⟩
 ·simp only [RV,RTy]; exact ⟨0,0,rfl,Fl.isF_zero,Fl.isF_zero⟩
 ·cases p
  ·simp only [RV,nilSlice,Bool.false_eq_true,if_false]; exact ⟨_,_,rfl,flr_own rfl⟩
  ·simp [RV,nilSlice]
 ·rename_i h1 h2 h3 h4 h5 h6;split
  ·exact absurd rfl h6
  ·simp [RV]
theorem rvl_map {g:Value->TV} {h:Value->V} (hr:∀ u,RV (g u) (h u)):∀ l:List Value,RVL (l.map g) (l.map h)
 | []=>rvl_nil
 | u :: l=>rvl_cons.2 ⟨hr u,rvl_map hr l⟩
theorem rv_const (p:Bool) (u:Value):RV (constTV p u) (ofConst p u):=by
 have key:=rv_zero p u;cases u <;> first | exact key | (simp only [constTV,ofConst,RV]; exact ⟨_,rfl,rvl_map (rv_zero p) _⟩)
theorem rty_share:∀ (τ:Ty) (o:Nat) (x:τ.den) (v:V),RTy τ o x v->RTy τ 1000 x (v.reflag flShare)
 | .int _,_,_,v,h=>by simp only [RTy] at h ⊢; simp [h,V.reflag]
 | .bool,_,_,v,h=>by simp only [RTy] at h ⊢; simp [h,V.reflag]
 | .str,_,_,v,h=>by simp only [RTy] at h ⊢; simp [h,V.reflag]
 | .flt,_,_,v,h=>by simp only [RTy] at h ⊢; obtain ⟨b9,rfl,h9⟩:=h; exact ⟨b9,by simp [V.reflag],h9⟩
 | .cx,_,_,v,h=>by simp only [RTy] at h ⊢; obtain ⟨a9,b9,rfl,h8,h9⟩:=h; exact ⟨a9,b9,by simp [V.reflag],h8,h9⟩
 | .err,_,_,v,h=>by simp only [RTy] at h ⊢; rcases h with ⟨hx,rfl⟩ | ⟨hx,t9,rfl⟩; exact .inl ⟨hx,by simp [V.reflag]⟩; exact .inr ⟨hx,t9,by simp [V.reflag]⟩
 | .mset _,_,_,v,h=>by simp only [RTy] at h ⊢; obtain ⟨h8,rfl⟩:=h; exact ⟨h8,by simp [V.reflag]⟩
 | .sl t,o,l,v,h=>by
  simp only [RTy] at h ⊢; obtain ⟨f,c,l',rfl,_,h⟩:=h;refine ⟨.shared,c,reflagL flShare l',by simp [V.reflag,flShare],flr_of rfl (by simp) (λ_=>rfl),?_⟩;rw [reflagL_map];exact h.map λa b hab=>rty_share t _ a b hab
 | .unit,_,_,v,h=>by simp only [RTy] at h ⊢; simp [h,V.reflag,reflagL]
 | .pair a b,o,x,v,h=>by
  simp only [RTy] at h ⊢; obtain ⟨v1,l,rfl,h1,h2⟩:=h;refine ⟨v1.reflag flShare,reflagL flShare l,by simp [V.reflag,reflagL],rty_share a o _ _ h1,?_⟩;have:=rty_share b o _ _ h2;simpa only [V.reflag] using this
mutual
theorem RV.share:∀ (x:TV) (v:V),RV x v->RV x.share (v.reflag flShare)
 | .any rs,v,h=>by simp only [TV.share,RV] at h ⊢; rw [ptrs_reflag1]; exact ⟨h.1,isLoop_reflag1 h.2⟩
 | .t τ o x,v,h=>by simp only [TV.share,RV] at h ⊢; exact rty_share τ o x v h
 | .clp τ x,v,h=>by
  simp only [TV.share,RV,RTy] at h ⊢; obtain ⟨f,l',rfl,_,h⟩:=h;refine ⟨.shared,true,reflagL flShare l',by simp [V.reflag,flShare],flr_of rfl (by simp) (λ_=>rfl),?_⟩;rw [reflagL_map];exact h.map λa b hab=>rty_share τ _ a b hab
 | .room a s,v,h=>by
  simp only [RV] at h;rcases a with _ | a
  ·obtain ⟨_,n,rfl,h0⟩ | ⟨h9,_⟩:=h
   ·obtain rfl:=h0 rfl;simp only [TV.share,RV,V.reflag,flShare];exact ⟨.shared,false,by simp,flr_of rfl (by simp) (λ_=>rfl)⟩
   ·omega
  ·simp only [TV.share,RV];refine .inr ⟨Nat.le_refl _,?_⟩;obtain ⟨_,n,rfl,_⟩ | ⟨_,rfl | ⟨f,hf0,rfl⟩⟩:=h
   ·by_cases hn:n = 0
    ·exact .inr ⟨.shared,by simp,by simp [V.reflag,flShare,hn]⟩
    ·exact .inl (by simp [V.reflag,flShare,hn])
   ·exact .inl rfl
   ·exact .inr ⟨.shared,by simp,by simp [V.reflag,reflagL,flShare]⟩
 | .empty own,v,h=>by simp only [TV.share,RV] at h ⊢; obtain ⟨f,c,rfl,_⟩:=h; exact ⟨.shared,c,by simp [V.reflag,reflagL,flShare],flr_of rfl (by simp) (λ_=>rfl)⟩
 | .val u,v,h=>by simp only [TV.share,RV] at h ⊢; simp [h,V.reflag]
 | .agg l,v,h=>by simp only [TV.share,RV] at h ⊢; obtain ⟨l',rfl,h⟩:=h; exact ⟨_,by simp only [V.reflag],RVL.share l l' h⟩
 | .tuple l,v,h=>by simp only [TV.share,RV] at h ⊢; obtain ⟨l',rfl,h⟩:=h; exact ⟨_,by simp only [V.reflag],RVL.share l l' h⟩
 | .fn g' a b,v,h=>by simp only [TV.share,RV] at h ⊢; obtain ⟨a',b',rfl,h1,h2⟩:=h; exact ⟨_,_,by simp only [V.reflag],RVL.share a a' h1,RVL.share b b' h2⟩
 | .ptr q o,v,h=>by simp only [TV.share,RV] at h ⊢; simp [h,V.reflag]
 | .mref q,v,h=>by simp only [TV.share,RV] at h ⊢; simp [h,V.reflag]
 | .bsl q _ _,v,h=>by simp only [TV.share,RV] at h ⊢; simp [h,V.reflag]
 | .yld q,v,h=>by simp only [TV.share,RV] at h ⊢; simp [h,V.reflag]
 | .lp ..,v,h=>by simp only [RV] at h
 | .cptr _ l,v,h=>by simp only [TV.share,RV] at h ⊢; obtain ⟨f,l',rfl,_,_,h⟩:=h; exact ⟨.shared,_,by simp only [V.reflag,flShare],by simp,λ_=>rfl,RVL.share l l' h⟩
 | .iface t x,v,h=>by simp only [TV.share,RV] at h ⊢; obtain ⟨y,rfl,h⟩:=h; exact ⟨_,by simp only [V.reflag],RV.share x y h⟩
theorem RVL.share:∀ (l:List TV) (l':List V),RVL l l'->RVL (shareL l) (reflagL flShare l')
 | [],l',h=>by simp only [RVL] at h; simp [h,shareL,reflagL,RVL]
 | x :: l,l',h=>by
  simp only [RVL] at h; obtain ⟨v,m,rfl,h1,h2⟩:=h;simp only [shareL,reflagL];exact rvl_cons.2 ⟨RV.share x v h1,RVL.share l m h2⟩
end
theorem isOwn_lo {o:Nat}:isOwn (lo o) = isOwn o:=by
 rw [Bool.eq_iff_iff,isOwn_iff,isOwn_iff];unfold lo; split <;> omega
theorem nx_lo {o:Nat}:nx (lo o) = lo (nx o):=by
 have h1:=@isOwn_lo o;unfold nx;rw [h1];cases ho:isOwn o with
 | false=>rfl
 | true =>
  have:=isOwn_iff.1 ho;simp only [if_true];unfold lo; split <;> split <;> omega
theorem lo_2000 {o:Nat}:lo o = 2000 ↔ o = 2000:=by unfold lo; split <;> omega
theorem flr_lo {g:Fl->Fl} (hg:∀ f,g f = .own ↔ f = .own) {o:Nat} {f:Fl} (h:FlR o f):FlR (lo o) (g f) :=
 ⟨λh2=>by rw [hg f,isOwn_lo]; exact h.1 (λe=>h2 (lo_2000.2 e)),λh1=>by unfold lo at h1; split at h1 <;> omega⟩
theorem rty_lo {g:Fl->Fl} (hg:∀ f,g f = .own ↔ f = .own):∀ (τ:Ty) (o:Nat) (x:τ.den) (v:V),RTy τ o x v->RTy τ (lo o) x (v.reflag g)
 | .int _,_,_,v,h=>by simp only [RTy] at h ⊢; simp [h,V.reflag]
 | .bool,_,_,v,h=>by simp only [RTy] at h ⊢; simp [h,V.reflag]
 | .str,_,_,v,h=>by simp only [RTy] at h ⊢; simp [h,V.reflag]
 | .flt,_,_,v,h=>by simp only [RTy] at h ⊢; obtain ⟨b9,rfl,h9⟩:=h; exact ⟨b9,by simp [V.reflag],h9⟩
 | .cx,_,_,v,h=>by simp only [RTy] at h ⊢; obtain ⟨a9,b9,rfl,h8,h9⟩:=h; exact ⟨a9,b9,by simp [V.reflag],h8,h9⟩
 | .err,_,_,v,h=>by simp only [RTy] at h ⊢; rcases h with ⟨hx,rfl⟩ | ⟨hx,t9,rfl⟩; exact .inl ⟨hx,by simp [V.reflag]⟩; exact .inr ⟨hx,t9,by simp [V.reflag]⟩
 | .mset _,_,_,v,h=>by simp only [RTy] at h ⊢; obtain ⟨h8,rfl⟩:=h; exact ⟨h8,by simp [V.reflag]⟩
 | .sl t,o,l,v,h=>by
  simp only [RTy] at h ⊢; obtain ⟨f,c,l',rfl,hf,h⟩:=h;refine ⟨g f,c,reflagL g l',by simp [V.reflag],flr_lo hg hf,?_⟩;rw [reflagL_map,nx_lo];exact h.map λa b hab=>rty_lo hg t _ a b hab
 | .unit,_,_,v,h=>by simp only [RTy] at h ⊢; simp [h,V.reflag,reflagL]
 | .pair a b,o,x,v,h=>by
  simp only [RTy] at h ⊢; obtain ⟨v1,l,rfl,h1,h2⟩:=h;refine ⟨v1.reflag g,reflagL g l,by simp [V.reflag,reflagL],rty_lo hg a o _ _ h1,?_⟩;have:=rty_lo hg b o _ _ h2;simpa only [V.reflag] using this
mutual
theorem RV.lo {g:Fl->Fl} (hg:∀ f,g f = .own ↔ f = .own):∀ (x:TV) (v:V),RV x v->RV x.loosen (v.reflag g)
 | .any rs,v,h=>by simp only [TV.loosen,RV] at h ⊢; rw [ptrs_reflag1]; exact ⟨h.1,isLoop_reflag1 h.2⟩
 | .t τ o x,v,h=>by simp only [TV.loosen,RV] at h ⊢; exact rty_lo hg τ o x v h
 | .clp τ x,v,h=>by
  simp only [TV.loosen,RV] at h ⊢; obtain ⟨f,l',rfl,h0,h⟩:=h;refine ⟨g f,reflagL g l',by simp [V.reflag],λe=>h0 ((hg f).1 e),?_⟩;rw [reflagL_map];exact h.map λa b hab=>rty_lo hg τ 0 a b hab
 | .room a s,v,h=>by
  simp only [TV.loosen,RV] at h ⊢;obtain ⟨h1,n,rfl,h0⟩ | ⟨h1,rfl | ⟨f,hf0,rfl⟩⟩:=h
  ·exact .inl ⟨h1,n,by simp only [V.reflag,if_pos ((hg .own).2 rfl)],h0⟩
  ·exact .inr ⟨h1,.inl rfl⟩
  ·exact .inr ⟨h1,.inr ⟨g f,λe=>hf0 ((hg f).1 e),by simp [V.reflag,reflagL]⟩⟩
 | .empty own,v,h=>by simp only [TV.loosen,RV] at h ⊢; obtain ⟨f,c,rfl,h0⟩:=h; exact ⟨g f,c,by simp [V.reflag,reflagL],flr_lo hg h0⟩
 | .val u,v,h=>by simp only [TV.loosen,RV] at h ⊢; simp [h,V.reflag]
 | .agg l,v,h=>by simp only [TV.loosen,RV] at h ⊢; obtain ⟨l',rfl,h⟩:=h; exact ⟨_,by simp only [V.reflag],RVL.lo hg l l' h⟩
 | .tuple l,v,h=>by simp only [TV.loosen,RV] at h ⊢; obtain ⟨l',rfl,h⟩:=h; exact ⟨_,by simp only [V.reflag],RVL.lo hg l l' h⟩
 | .fn g' a b,v,h=>by simp only [TV.loosen,RV] at h ⊢; obtain ⟨a',b',rfl,h1,h2⟩:=h; exact ⟨_,_,by simp only [V.reflag],RVL.lo hg a a' h1,RVL.lo hg b b' h2⟩
 | .ptr q o,v,h=>by simp only [TV.loosen,RV] at h ⊢; simp [h,V.reflag]
 | .mref q,v,h=>by simp only [TV.loosen,RV] at h ⊢; simp [h,V.reflag]
 | .bsl q _ _,v,h=>by simp only [TV.loosen,RV] at h ⊢; simp [h,V.reflag]
 | .yld q,v,h=>by simp only [TV.loosen,RV] at h ⊢; simp [h,V.reflag]
 | .lp ..,v,h=>by simp only [RV] at h
 | .cptr _ l,v,h=>by simp only [TV.loosen,RV] at h ⊢; obtain ⟨f,l',rfl,h0,_,h⟩:=h; exact ⟨g f,_,by simp only [V.reflag],λe=>h0 ((hg f).1 e),λe=>(by cases e),RVL.lo hg l l' h⟩
 | .iface t x,v,h=>by simp only [TV.loosen,RV] at h ⊢; obtain ⟨y,rfl,h⟩:=h; exact ⟨_,by simp only [V.reflag],RV.lo hg x y h⟩
theorem RVL.lo {g:Fl->Fl} (hg:∀ f,g f = .own ↔ f = .own):∀ (l:List TV) (l':List V),RVL l l'->RVL (loosenL l) (reflagL g l')
 | [],l',h=>by simp only [RVL] at h; simp [h,loosenL,reflagL,RVL]
 | x :: l,l',h=>by
  simp only [RVL] at h; obtain ⟨v,m,rfl,h1,h2⟩:=h;simp only [loosenL,reflagL];exact rvl_cons.2 ⟨RV.lo hg x v h1,RVL.lo hg l m h2⟩
end
mutual
theorem reflag_id:∀ v:V,v.reflag (λf=>f) = v
 | .undef | .val _ | .ptr .. | .yld _ | .mref _ | .bsl .. | .mp _ | .lp ..=>by simp [V.reflag]
 | .cptr _ l=>by simp only [V.reflag,reflagL_id l]
 | .room ..=>by simp [V.reflag]
 | .sl f c l=>by simp only [V.reflag,reflagL_id l]
 | .fn g a b=>by simp only [V.reflag,reflagL_id a,reflagL_id b]
 | .iface t x=>by simp only [V.reflag,reflag_id x]
 | .agg l=>by simp only [V.reflag,reflagL_id l]
 | .tuple l=>by simp only [V.reflag,reflagL_id l]
theorem reflagL_id:∀ l:List V,reflagL (λf=>f) l = l
 | []=>rfl
 | v :: l=>by simp only [reflagL,reflag_id v,reflagL_id l]
end
theorem RV.lo0 {x:TV} {v:V} (h:RV x v):RV x.loosen v:=by
 have:=RV.lo (g:=λf=>f) (λf=>Iff.rfl) x v h
 rwa [reflag_id] at this
theorem sure_nx {o d:Nat} (h:sure o (d + 1) = true):sure (nx o) d = true:=by
 unfold nx;cases ho:isOwn o with
 | false =>
  rcases isOwn_not.1 ho with rfl | rfl | rfl
  ·simp [sure] at h
  ·simp [sure]
  ·simp [sure] at h
 | true =>
  have:=isOwn_iff.1 ho;simp only [if_true];unfold sure at h ⊢;by_cases h1:o < 1000
  ·rw [if_pos h1] at h;rw [if_pos (by omega)];simp only [decide_eq_true_eq] at h ⊢; omega
  ·by_cases h2:o < 2000
   ·by_cases h3:o - 1 < 1000
    ·omega
    ·rw [if_neg h3,if_pos (by omega)]
   ·rw [if_neg h1,if_neg h2] at h;simp only [decide_eq_true_eq] at h;rw [if_neg (by omega),if_neg (by omega)];simp only [decide_eq_true_eq] <;> omega
theorem sure_le {o d d':Nat} (h:sure o d = true) (hd:d'<=d):sure o d' = true:=by
 unfold sure at h ⊢;by_cases h1:o < 1000
 ·rw [if_pos h1] at h ⊢;simp only [decide_eq_true_eq] at h ⊢; omega
 ·by_cases h2:o < 2000
  ·rw [if_neg h1,if_pos h2]
  ·rw [if_neg h1,if_neg h2] at h ⊢;simp only [decide_eq_true_eq] at h ⊢; omega
theorem sure_flr {o d:Nat} {f:Fl} (h:sure o (d + 1) = true) (hf:FlR o f):f ≠ .dull:=by
 cases ho:isOwn o with
 | true=>rw [hf.own ho]; simp
 | false =>
  rcases isOwn_not.1 ho with rfl | rfl | rfl
  ·simp [sure] at h
  ·rw [hf.2 rfl]; simp
  ·simp [sure] at h
theorem loose_of {l:List V} (h:∀ x ∈ l,x.loose = false):looseL l = false:=by
 induction l with
 | nil=>rfl
 | cons a l ih =>
  simp only [looseL,Bool.or_eq_false_iff];exact ⟨h a (by simp),ih λx hx=>h x (by simp [hx])⟩
theorem rty_tight:∀ (τ:Ty) (o:Nat) (x:τ.den) (v:V),sure o τ.depth = true->RTy τ o x v->v.soft = false/\v.loose = false
 | .int _,_,_,v,_,h=>by simp only [RTy] at h; subst h; exact ⟨rfl,rfl⟩
 | .bool,_,_,v,_,h=>by simp only [RTy] at h; subst h; exact ⟨rfl,rfl⟩
 | .str,_,_,v,_,h=>by simp only [RTy] at h; subst h; exact ⟨rfl,rfl⟩
 | .flt,_,_,v,_,h=>by simp only [RTy] at h; obtain ⟨b9,rfl,h9⟩:=h; exact ⟨rfl,rfl⟩
 | .cx,_,_,v,_,h=>by simp only [RTy] at h; obtain ⟨a9,b9,rfl,h8,h9⟩:=h; exact ⟨rfl,rfl⟩
 | .err,_,_,v,_,h=>by simp only [RTy] at h; rcases h with ⟨_,rfl⟩ | ⟨_,t9,rfl⟩ <;> exact ⟨rfl,rfl⟩
 | .mset _,_,_,v,_,h=>by simp only [RTy] at h; obtain ⟨h8,rfl⟩:=h; exact ⟨rfl,rfl⟩
 | .sl t,o,l,v,hf,h=>by
  simp only [RTy] at h; obtain ⟨f,c,l',rfl,ho,h⟩:=h;simp only [Ty.depth] at hf;have hnd:=sure_flr hf ho;have hall:∀ b ∈ l',b.soft = false/\b.loose = false:=λb hb=>by
   obtain ⟨a,_,hr⟩:=all2_mem h b hb;exact rty_tight t _ a b (sure_nx hf) hr
  simp only [V.soft,V.loose,Bool.or_eq_false_iff,decide_eq_false_iff_not,Bool.and_eq_false_iff];exact ⟨⟨.inl hnd,softL_of λb hb=>(hall b hb).1⟩,hnd,loose_of λb hb=>(hall b hb).2⟩
 | .unit,_,_,v,_,h=>by simp only [RTy] at h; subst h; exact ⟨rfl,rfl⟩
 | .pair a b,o,x,v,hf,h=>by
  simp only [RTy] at h; obtain ⟨v1,l,rfl,h1,h2⟩:=h;simp only [Ty.depth] at hf;have e1:=rty_tight a o _ _ (sure_le hf (by omega)) h1;have e2:=rty_tight b o _ _ (sure_le hf (by omega)) h2;simp only [V.soft,softL,V.loose,looseL,Bool.or_eq_false_iff] at e2 ⊢;exact ⟨⟨e1.1,e2.1⟩,e1.2,e2.2⟩
mutual
theorem RV.firm:∀ (x:TV) (v:V),x.firm = true->RV x v->v.soft = false
 | .any rs,v,hf,h=>by simp [TV.firm] at hf
 | .t τ o x,v,hf,h=>by simp only [TV.firm] at hf; simp only [RV] at h; exact (rty_tight τ o x v hf h).1
 | .clp τ x,v,hf,h=>by simp [TV.firm] at hf
 | .room a s,v,hf,h=>by simp [TV.firm] at hf
 | .empty own,v,hf,h=>by simp only [RV] at h; obtain ⟨f,c,rfl,_⟩:=h; simp [V.soft,softL]
 | .val u,v,hf,h=>by simp only [RV] at h; subst h; rfl
 | .agg l,v,hf,h=>by simp only [RV] at h; obtain ⟨l',rfl,h⟩:=h; simp only [TV.firm] at hf; simp only [V.soft]; exact RVL.firm l l' hf h
 | .tuple l,v,hf,h=>by simp only [RV] at h; obtain ⟨l',rfl,h⟩:=h; simp only [TV.firm] at hf; simp only [V.soft]; exact RVL.firm l l' hf h
 | .fn g a b,v,hf,h=>by
  simp only [RV] at h; obtain ⟨a',b',rfl,h1,h2⟩:=h;simp only [TV.firm,Bool.and_eq_true] at hf;simp only [V.soft,Bool.or_eq_false_iff];exact ⟨RVL.firm a a' hf.1 h1,RVL.firm b b' hf.2 h2⟩
 | .ptr q o,v,hf,h=>by simp only [RV] at h; subst h; rfl
 | .mref q,v,hf,h=>by simp only [RV] at h; subst h; rfl
 | .bsl q _ _,v,hf,h=>by simp only [RV] at h; subst h; rfl
 | .yld q,v,hf,h=>by simp only [RV] at h; subst h; rfl
 | .lp ..,v,hf,h=>by simp only [RV] at h
 | .cptr s l,v,hf,h=>by
  simp only [TV.firm,Bool.and_eq_true] at hf;simp only [RV] at h; obtain ⟨f,l',rfl,_,hsh,h⟩:=h;have:=hsh hf.1;subst this;simp only [V.soft,RVL.firm l l' hf.2 h] <;> rfl
 | .iface t x,v,hf,h=>by simp only [RV] at h; obtain ⟨y,rfl,h⟩:=h; simp only [TV.firm] at hf; simp only [V.soft]; exact RV.firm x y hf h
theorem RVL.firm:∀ (l:List TV) (l':List V),firmL l = true->RVL l l'->softL l' = false
 | [],l',hf,h=>by simp only [RVL] at h; subst h; rfl
 | x :: l,l',hf,h=>by
  simp only [RVL] at h; obtain ⟨v,m,rfl,h1,h2⟩:=h;simp only [firmL,Bool.and_eq_true] at hf;simp only [softL,Bool.or_eq_false_iff];exact ⟨RV.firm x v hf.1 h1,RVL.firm l m hf.2 h2⟩
end
mutual
theorem RV.tight:∀ (x:TV) (v:V),x.tight = true->RV x v->v.loose = false
 | .any rs,v,hf,h=>by simp [TV.tight] at hf
 | .t τ o x,v,hf,h=>by simp only [TV.tight] at hf; simp only [RV] at h; exact (rty_tight τ o x v hf h).2
 | .clp τ x,v,hf,h=>by simp [TV.tight] at hf
 | .room a s,v,hf,h=>by simp [TV.tight] at hf
 | .empty o,v,hf,h=>by simp only [TV.tight] at hf; simp only [RV] at h; obtain ⟨f,c,rfl,h0⟩:=h; simp [V.loose,looseL,sure_flr hf h0]
 | .val u,v,hf,h=>by simp only [RV] at h; subst h; rfl
 | .agg l,v,hf,h=>by simp only [RV] at h; obtain ⟨l',rfl,h⟩:=h; simp only [TV.tight] at hf; simp only [V.loose]; exact RVL.tight l l' hf h
 | .tuple l,v,hf,h=>by simp only [RV] at h; obtain ⟨l',rfl,h⟩:=h; simp only [TV.tight] at hf; simp only [V.loose]; exact RVL.tight l l' hf h
 | .fn g a b,v,hf,h=>by
  simp only [RV] at h; obtain ⟨a',b',rfl,h1,h2⟩:=h;simp only [TV.tight,Bool.and_eq_true] at hf;simp only [V.loose,Bool.or_eq_false_iff];exact ⟨RVL.tight a a' hf.1 h1,RVL.tight b b' hf.2 h2⟩
 | .ptr q o,v,hf,h=>by simp only [RV] at h; subst h; rfl
 | .mref q,v,hf,h=>by simp only [RV] at h; subst h; rfl
 | .bsl q _ _,v,hf,h=>by simp only [RV] at h; subst h; rfl
 | .yld q,v,hf,h=>by simp only [RV] at h; subst h; rfl
 | .lp ..,v,hf,h=>by simp only [RV] at h
 | .cptr s l,v,hf,h=>by
  simp only [TV.tight,Bool.and_eq_true] at hf;simp only [RV] at h; obtain ⟨f,l',rfl,_,hsh,h⟩:=h;have:=hsh hf.1;subst this;simp only [V.loose,RVL.tight l l' hf.2 h] <;> rfl
 | .iface t x,v,hf,h=>by simp only [RV] at h; obtain ⟨y,rfl,h⟩:=h; simp only [TV.tight] at hf; simp only [V.loose]; exact RV.tight x y hf h
theorem RVL.tight:∀ (l:List TV) (l':List V),tightL l = true->RVL l l'->looseL l' = false
 | [],l',hf,h=>by simp only [RVL] at h; subst h; rfl
 | x :: l,l',hf,h=>by
  simp only [RVL] at h; obtain ⟨v,m,rfl,h1,h2⟩:=h;simp only [tightL,Bool.and_eq_true] at hf;simp only [looseL,Bool.or_eq_false_iff];exact ⟨RV.tight x v hf.1 h1,RVL.tight l m hf.2 h2⟩
end
theorem rty_peek {bx:Root->Option (List V)}:∀ (τ:Ty) (o:Nat) (x:τ.den) (v:V),τ.isSet = false->RTy τ o x v->peekV bx v = some (v.reflag flShare)
 | .int _,o,x,v,hns,h=>by simp only [RTy] at h; subst h; rfl
 | .bool,o,x,v,hns,h=>by simp only [RTy] at h; subst h; rfl
 | .str,o,x,v,hns,h=>by simp only [RTy] at h; subst h; rfl
 | .flt,o,x,v,hns,h=>by simp only [RTy] at h; obtain ⟨b9,rfl,h9⟩:=h; rfl
 | .cx,o,x,v,hns,h=>by simp only [RTy] at h; obtain ⟨a9,b9,rfl,h8,h9⟩:=h; rfl
 | .err,o,x,v,hns,h=>by simp only [RTy] at h; rcases h with ⟨_,rfl⟩ | ⟨_,t9,rfl⟩ <;> rfl
 | .mset _,o,x,v,hns,h=>by simp [Ty.isSet] at hns
 | .sl _,o,x,v,hns,h=>by simp only [RTy] at h; obtain ⟨f,c,l',rfl,_⟩:=h; rfl
 | .unit,o,x,v,hns,h=>by simp only [RTy] at h; subst h; rfl
 | .pair a b,o,x,v,hns,h=>by
  simp only [RTy] at h;simp only [Ty.isSet,Bool.or_eq_false_iff] at hns;obtain ⟨v1,l,rfl,h1,h2⟩:=h;have e1:=rty_peek (bx:=bx) a o x.1 v1 hns.1 h1;have e2:=rty_peek (bx:=bx) b o x.2 _ hns.2 h2;simp only [peekV,V.reflag] at e2 ⊢;obtain ⟨m,hm,he⟩:=Option.map_eq_some_iff.1 e2;simp only [V.agg.injEq] at he;subst he;simp only [peekL,e1,hm,reflagL,Option.map_some]
theorem asInts_ok {k:IntKind}:∀ {l:List TV} {xs:List Int} {l':List V},asInts k l = some xs->RVL l l'->l' = xs.map λx=>V.val (.int k x)
 | [],xs,l',h,hr=>by
  simp only [asInts,Option.some.injEq] at h; subst h;simp only [RVL] at hr; rw [hr] <;> rfl
 | .t (.int k') o x :: l,xs,l',h,hr=>by
  simp only [asInts] at h;split at h
  ·rename_i hk;obtain ⟨m,hm,rfl⟩:=Option.map_eq_some_iff.1 h;simp only [RVL] at hr;obtain ⟨v,vs,rfl,h1,h2⟩:=hr;simp only [RV,RTy] at h1;rw [h1,asInts_ok hm h2,hk]; rfl
  ·cases h
theorem ints_plain {k:IntKind} (xs:List Int):reflagL flShare (xs.map λx=>V.val (.int k x)) = (xs.map λx=>V.val (.int k x))/\(xs.map λx=>V.val (.int k x)).all V.one = true/\ptrsL (xs.map λx=>V.val (.int k x)) = []:=by
 induction xs with
 | nil=>exact ⟨rfl,rfl,rfl⟩
 | cons x xs ih=>simp only [List.map_cons,reflagL,V.reflag,List.all_cons,ptrsL,V.ptrs,ih.1,ih.2.1,ih.2.2]; exact ⟨trivial,by simp [V.one],rfl⟩
theorem all2_ints {k:IntKind} {o:Nat}:∀ (xs:List Int),All2 (RTy (.int k) o) xs (xs.map λx=>V.val (.int k x))
 | []=>.nil
 | x :: xs=>.cons (by simp only [RTy]) (all2_ints xs)
mutual
theorem peekTV_ok {bt:Root->Option (List TV)} {bx:Root->Option (List V)} (hb:∀ r c,bt r = some c->∃ c',bx r = some c'/\RVL c c'/\(r.slot < 16384->isMp c' = false)):∀ (x y:TV) (v:V),peekTV bt x = some y->RV x v->∃ u,peekV bx v = some u/\RV y u
 | .any _,y,v,h,hr=>by simp [peekTV] at h
 | .val w,y,v,h,hr=>by
  simp only [peekTV,Option.some.injEq] at h; subst h;simp only [RV] at hr; subst hr;exact ⟨.val w,rfl,by simp [RV]⟩
 | .t τ o x,y,v,h,hr=>by
  simp only [peekTV] at h;cases hs:τ.isSet with
  | true=>rw [hs] at h; cases h
  | false =>
   rw [hs] at h;simp only [cond_false,Option.some.injEq] at h; subst h;simp only [RV] at hr;exact ⟨_,rty_peek τ o x v hs hr,by simp only [RV]; exact rty_share τ o x v hr⟩
 | .mref _,y,v,h,hr=>by simp [peekTV] at h
 | .yld _,y,v,h,hr=>by simp [peekTV] at h
 | .lp ..,y,v,h,hr=>by simp [peekTV] at h
 | .bsl r off n,y,v,h,hr=>by
  simp only [peekTV] at h;split at h
  ·rename_i c hc;split at h
   ·rename_i hle;obtain ⟨xs,hxs,rfl⟩:=Option.map_eq_some_iff.1 h;simp only [RV] at hr; subst hr;obtain ⟨c',hc',hrc,hmp⟩:=hb r c hc;have hl:=asInts_ok hxs ((hrc.drop off).take n);obtain ⟨e1,e2,e3⟩:=ints_plain (k:=.i64) xs;refine ⟨.sl .shared false (reflagL flShare ((c'.drop off).take n)),?_,?_⟩
    ·simp only [peekV,hc'];rw [if_pos ⟨isLp_split (rvl_notLoop hrc) (hmp hle.2),by rw [hrc.length]; exact hle.1,by rw [hl,e1]; exact e2,by rw [hl]; exact e3⟩]
    ·simp only [RV,RTy];refine ⟨.shared,false,_,rfl,⟨λ_=>by simp [isOwn],λ_=>rfl⟩,?_⟩;rw [hl,e1];exact all2_ints (o:=0) xs
   ·cases h
  ·cases h
 | .clp τ x,y,v,h,hr=>by
  simp only [peekTV,Option.some.injEq] at h; subst h;have h2:=RV.share (.clp τ x) v hr;simp only [RV] at hr;obtain ⟨f,l',rfl,_,_⟩:=hr;exact ⟨_,rfl,h2⟩
 | .room a s,y,v,h,hr=>by simp [peekTV] at h
 | .empty o,y,v,h,hr=>by
  simp only [peekTV,Option.some.injEq] at h; subst h;have h2:=RV.share (.empty o) v hr;simp only [RV] at hr;obtain ⟨f,c,rfl,_⟩:=hr;exact ⟨_,rfl,h2⟩
 | .agg l,y,v,h,hr=>by
  simp only [peekTV] at h;obtain ⟨m,hm,rfl⟩:=Option.map_eq_some_iff.1 h;simp only [RV] at hr;obtain ⟨l',rfl,hl⟩:=hr;obtain ⟨u,hu,hru⟩:=peekTL_ok hb l m l' hm hl;exact ⟨.agg u,by simp only [peekV,hu,Option.map_some],by simp only [RV]; exact ⟨u,rfl,hru⟩⟩
 | .tuple l,y,v,h,hr=>by
  simp only [peekTV] at h;obtain ⟨m,hm,rfl⟩:=Option.map_eq_some_iff.1 h;simp only [RV] at hr;obtain ⟨l',rfl,hl⟩:=hr;obtain ⟨u,hu,hru⟩:=peekTL_ok hb l m l' hm hl;exact ⟨.tuple u,by simp only [peekV,hu,Option.map_some],by simp only [RV]; exact ⟨u,rfl,hru⟩⟩
 | .fn g a b,y,v,h,hr=>by
  simp only [peekTV] at h;split at h
  ·rename_i p q hp hq;simp only [Option.some.injEq] at h; subst h;simp only [RV] at hr;obtain ⟨a',b',rfl,h1,h2⟩:=hr;obtain ⟨u,hu,hru⟩:=peekTL_ok hb a p a' hp h1;obtain ⟨w,hw,hrw⟩:=peekTL_ok hb b q b' hq h2;exact ⟨.fn g u w,by simp only [peekV,hu,hw],by simp only [RV]; exact ⟨u,w,rfl,hru,hrw⟩⟩
  ·cases h
 | .ptr r off,y,v,h,hr=>by
  simp only [peekTV] at h;split at h
  ·rename_i c hc;split at h
   ·rename_i hle;simp only [Option.some.injEq] at h; subst h;simp only [RV] at hr; subst hr;obtain ⟨c',hc',hrc,hmp⟩:=hb r c hc;refine ⟨.cptr .shared (reflagL flShare (c'.drop off)),?_,?_⟩
    ·simp only [peekV,hc'];rw [if_pos ⟨isLp_split (rvl_notLoop hrc) (hmp hle.2),by rw [hrc.length]; exact hle.1⟩]
    ·simp only [RV];exact ⟨.shared,_,rfl,by simp,λ_=>rfl,RVL.share _ _ (hrc.drop off)⟩
   ·cases h
  ·cases h
 | .cptr _ cs,y,v,h,hr=>by
  simp only [peekTV,Option.some.injEq] at h; subst h;simp only [RV] at hr;obtain ⟨f,l',rfl,_,_,hl⟩:=hr;refine ⟨.cptr .shared (reflagL flShare l'),rfl,?_⟩;simp only [RV];exact ⟨.shared,_,rfl,by simp,λ_=>rfl,RVL.share _ _ hl⟩
 | .iface t x,y,v,h,hr=>by
  simp only [peekTV] at h;obtain ⟨m,hm,rfl⟩:=Option.map_eq_some_iff.1 h;simp only [RV] at hr;obtain ⟨l',rfl,hl⟩:=hr;obtain ⟨u,hu,hru⟩:=peekTV_ok hb x m l' hm hl;exact ⟨.iface t u,by simp only [peekV,hu,Option.map_some],by simp only [RV]; exact ⟨u,rfl,hru⟩⟩
theorem peekTL_ok {bt:Root->Option (List TV)} {bx:Root->Option (List V)} (hb:∀ r c,bt r = some c->∃ c',bx r = some c'/\RVL c c'/\(r.slot < 16384->isMp c' = false)):∀ (l m:List TV) (l':List V),peekTL bt l = some m->RVL l l'->∃ u,peekL bx l' = some u/\RVL m u
 | [],m,l',h,hr=>by
  simp only [peekTL,Option.some.injEq] at h; subst h;simp only [RVL] at hr; subst hr;exact ⟨[],rfl,rvl_nil⟩
 | x :: l,m,l',h,hr=>by
  simp only [peekTL] at h;split at h
  ·rename_i p q hp hq;simp only [Option.some.injEq] at h; subst h;simp only [RVL] at hr;obtain ⟨v,vs,rfl,h1,h2⟩:=hr;obtain ⟨u,hu,hru⟩:=peekTV_ok hb x p v hp h1;obtain ⟨w,hw,hrw⟩:=peekTL_ok hb l q vs hq h2;exact ⟨u :: w,by simp only [peekL,hu,hw],rvl_cons.2 ⟨hru,hrw⟩⟩
  ·cases h
end
theorem mineL_of {l:List V} (h:∀ x ∈ l,x.mine = true):mineL l = true:=by
 induction l with
 | nil=>rfl
 | cons x l ih=>simp only [mineL,Bool.and_eq_true]; exact ⟨h x (by simp),ih λy hy=>h y (by simp [hy])⟩
theorem rty_mine:∀ (τ:Ty) (o:Nat) (x:τ.den) (v:V),tmine τ o = true->RTy τ o x v->v.mine = true
 | .int _,o,x,v,hm,h=>by simp only [RTy] at h; subst h; rfl
 | .bool,o,x,v,hm,h=>by simp only [RTy] at h; subst h; rfl
 | .str,o,x,v,hm,h=>by simp only [RTy] at h; subst h; rfl
 | .flt,o,x,v,hm,h=>by simp only [RTy] at h; obtain ⟨b9,rfl,h9⟩:=h; rfl
 | .cx,o,x,v,hm,h=>by simp only [RTy] at h; obtain ⟨a9,b9,rfl,h8,h9⟩:=h; rfl
 | .err,o,x,v,hm,h=>by simp only [RTy] at h; rcases h with ⟨_,rfl⟩ | ⟨_,t9,rfl⟩ <;> rfl
 | .mset _,o,x,v,hm,h=>by simp [tmine] at hm
 | .sl t,o,x,v,hm,h=>by
  simp only [tmine,Bool.and_eq_true] at hm;simp only [RTy] at h; obtain ⟨f,c,l',rfl,hf,hall⟩:=h;simp only [V.mine,Bool.and_eq_true,decide_eq_true_eq];refine ⟨hf.own hm.1,mineL_of λy hy=>?_⟩;obtain ⟨a,_,ha⟩:=all2_mem hall y hy;exact rty_mine t _ a y hm.2 ha
 | .unit,o,x,v,hm,h=>by simp only [RTy] at h; subst h; rfl
 | .pair a b,o,x,v,hm,h=>by
  simp only [tmine,Bool.and_eq_true] at hm;simp only [RTy] at h;obtain ⟨v1,l,rfl,h1,h2⟩:=h;have e1:=rty_mine a o x.1 v1 hm.1 h1;have e2:=rty_mine b o x.2 _ hm.2 h2;simp only [V.mine] at e2 ⊢;simp only [mineL,Bool.and_eq_true];exact ⟨e1,e2⟩
mutual
theorem RV.mine:∀ (x:TV) (v:V),x.mine = true->RV x v->v.mine = true
 | .any _,v,hm,hr=>by simp [TV.mine] at hm
 | .val w,v,hm,hr=>by simp only [RV] at hr; subst hr; rfl
 | .t τ o x,v,hm,hr=>by simp only [RV] at hr; exact rty_mine τ o x v (by simpa only [TV.mine] using hm) hr
 | .clp τ x,v,hm,hr=>by simp [TV.mine] at hm
 | .room a s,v,hm,hr=>by simp [TV.mine] at hm
 | .empty o,v,hm,hr=>by
  simp only [TV.mine] at hm;simp only [RV] at hr; obtain ⟨f,c,rfl,hf⟩:=hr;simp only [V.mine,Bool.and_eq_true,decide_eq_true_eq];exact ⟨hf.own hm,rfl⟩
 | .agg l,v,hm,hr=>by
  simp only [TV.mine] at hm;simp only [RV] at hr; obtain ⟨l',rfl,hl⟩:=hr;simp only [V.mine]; exact RVL.mine l l' hm hl
 | .tuple l,v,hm,hr=>by
  simp only [TV.mine] at hm;simp only [RV] at hr; obtain ⟨l',rfl,hl⟩:=hr;simp only [V.mine]; exact RVL.mine l l' hm hl
 | .fn g a b,v,hm,hr=>by
  simp only [TV.mine,Bool.and_eq_true] at hm;simp only [RV] at hr; obtain ⟨a',b',rfl,h1,h2⟩:=hr;simp only [V.mine,Bool.and_eq_true]; exact ⟨RVL.mine a a' hm.1 h1,RVL.mine b b' hm.2 h2⟩
 | .ptr ..,v,hm,hr=>by simp [TV.mine] at hm
 | .mref _,v,hm,hr=>by simp [TV.mine] at hm
 | .bsl ..,v,hm,hr=>by simp [TV.mine] at hm
 | .yld _,v,hm,hr=>by simp [TV.mine] at hm
 | .lp ..,v,hm,hr=>by simp [TV.mine] at hm
 | .cptr ..,v,hm,hr=>by simp [TV.mine] at hm
 | .iface t x,v,hm,hr=>by
  simp only [TV.mine] at hm;simp only [RV] at hr; obtain ⟨y,rfl,hy⟩:=hr;simp only [V.mine]; exact RV.mine x y hm hy
theorem RVL.mine:∀ (l:List TV) (l':List V),mineTL l = true->RVL l l'->mineL l' = true
 | [],l',hm,hr=>by simp only [RVL] at hr; subst hr; rfl
 | x :: l,l',hm,hr=>by
  simp only [mineTL,Bool.and_eq_true] at hm;simp only [RVL] at hr; obtain ⟨v,m,rfl,h1,h2⟩:=hr;simp only [mineL,Bool.and_eq_true]; exact ⟨RV.mine x v hm.1 h1,RVL.mine l m hm.2 h2⟩
end
end Go.Tx
end
section
namespace Go.Tx
open Go Go.Ab
variable {P:Program} {H:Hints} {f:FuncId}
theorem cells_zero (p:Bool) (u:Value):RVL (zeroTV p u).cells (ofZero p u).cells:=by
 have h:=rv_zero p u;have h1:(zeroTV p u).cells = [zeroTV p u]:=by unfold zeroTV; split <;> (try split) <;> rfl
 have h2:(ofZero p u).cells = [ofZero p u]:=by unfold ofZero nilSlice; split <;> (try split) <;> rfl
 rw [h1,h2]; exact rvl_cons.2 ⟨h,rvl_nil⟩
theorem cells_const (p:Bool) (u:Value):RVL (constTV p u).cells (ofConst p u).cells:=by
 have key:=cells_zero p u;cases u <;> first | exact key | exact rvl_map (rv_zero p) _
theorem zeroT_ok {t:TypeId} {z:TV} (h:zeroT P H f t = some z):∃ z',zeroOf P H f t = some z'/\RV z z'/\RVL z.cells z'.cells:=by
 unfold zeroT at h;obtain ⟨u,hu,rfl⟩:=Option.map_eq_some_iff.1 h;exact ⟨ofConst (H.precise f) u,by unfold zeroOf; rw [hu]; rfl,rv_const _ _,cells_const _ _⟩
theorem splice_ok {cs vs:List TV} {cs' vs':List V} {off:Nat} (h:RVL cs cs') (hv:RVL vs vs'):RVL (spliceT cs off vs) (splice cs' off vs'):=by
 unfold spliceT splice;rw [hv.length];exact ((h.take off).append hv).append (h.drop _)
theorem fillT_ok (place:Nat->Option (Nat × Nat)):∀ (is:List Nat) (xs:List TV) (ys:List V) (cs r:List TV) (cs':List V),RVL xs ys->RVL cs cs'->fillT place cs (is.zip xs) = some r ->
  ∃ r',fillV place cs' (is.zip ys) = some r'/\RVL r r'
 | [],xs,ys,cs,r,cs',hx,hc,h=>by simp only [List.zip_nil_left,fillT,Option.some.injEq] at h; subst h; exact ⟨cs',by simp [fillV],hc⟩
 | i :: is,[],ys,cs,r,cs',hx,hc,h=>by
  simp only [RVL] at hx; subst hx;simp only [List.zip_nil_right,fillT,Option.some.injEq] at h; subst h; exact ⟨cs',by simp [fillV],hc⟩
 | i :: is,x :: xs,ys,cs,r,cs',hx,hc,h=>by
  simp only [RVL] at hx; obtain ⟨v,m,rfl,h1,h2⟩:=hx;simp only [List.zip_cons_cons,fillT] at h;simp only [List.zip_cons_cons,fillV];split at h
  ·cases h
  ·rename_i off size hp;rw [hp];simp only
   split at h
   ·cases h
   ·rename_i hn;simp only [not_or,Decidable.not_not,Bool.not_eq_false] at hn;obtain ⟨hl,ho,hk⟩:=hn;obtain ⟨hcells,hko⟩:=RV.cells hk h1;rw [if_neg]
    ·exact fillT_ok place is xs m _ r _ h2 (splice_ok hc hcells) h
    ·rw [hcells.length,hc.length,hko];simp only [not_or,Decidable.not_not,Bool.not_eq_false];exact ⟨hl,ho,trivial⟩
theorem tbuild_ok {t:TypeId} {is:List Nat} {xs:List TV} {ys:List V} {x:TV} (hx:RVL xs ys) (h:tbuild P H f t (is.zip xs) = some x) :
  ∃ v,vbuild P H f t (is.zip ys) = some v/\RV x v:=by
 unfold tbuild at h;unfold vbuild;split at h
 ·rename_i z fields hz hu;obtain ⟨z',hz',_,hcz⟩:=zeroT_ok hz;split at h
  ·rename_i places hpl;obtain ⟨l,hl,rfl⟩:=Option.map_eq_some_iff.1 h;obtain ⟨l',hl',hr⟩:=fillT_ok _ _ _ _ _ _ _ hx hcz hl;refine ⟨.agg l',?_,by simp only [RV]; exact ⟨l',rfl,hr⟩⟩;rw [hz',hu]; simp only [hpl,hl',Option.map_some]
  ·cases h
 ·rename_i z n elem hz hu;obtain ⟨z',hz',_,hcz⟩:=zeroT_ok hz;split at h
  ·rename_i ie hie;obtain ⟨l,hl,rfl⟩:=Option.map_eq_some_iff.1 h;obtain ⟨l',hl',hr⟩:=fillT_ok _ _ _ _ _ _ _ hx hcz hl;refine ⟨.agg l',?_,by simp only [RV]; exact ⟨l',rfl,hr⟩⟩;rw [hz',hu]; simp only [hie,hl',Option.map_some]
  ·cases h
 ·cases h
theorem chunk_ok {agg:Bool} {s:Nat}:∀ (n:Nat) {cs:List TV} {cs':List V},RVL cs cs'->RVL (chunkT agg s n cs) (chunk agg s n cs')
 | 0,_,_,_=>by simp [chunkT,chunk,RVL]
 | n + 1,cs,cs',h=>by
  simp only [chunkT,chunk];refine rvl_cons.2 ⟨?_,chunk_ok n (h.drop s)⟩;cases agg with
  | true=>simp only [if_true,RV]; exact ⟨_,rfl,h.take s⟩
  | false =>
   simp only [Bool.false_eq_true,if_false];cases cs with
   | nil=>simp only [RVL] at h; subst h; exact rv_undef []
   | cons y cs=>simp only [RVL] at h; obtain ⟨v,m,rfl,h1,_⟩:=h; exact h1
theorem tbuildSlice_ok {t:TypeId} {len:Nat} {is:List Nat} {xs:List TV} {ys:List V} {x:TV} (hx:RVL xs ys) (h:tbuildSlice P H f t len (is.zip xs) = some x) :
  ∃ v,vbuildSlice P H f t len (is.zip ys) = some v/\RV x v:=by
 unfold tbuildSlice at h;unfold vbuildSlice;split at h
 ·rename_i elem hu;rw [hu]; simp only;split at h
  ·rename_i ie z τ hie hz hτ;obtain ⟨z',hz',_,hcz⟩:=zeroT_ok hz;rw [hie,hz']; simp only;split at h
   ·cases h
   ·rename_i hn;simp only [not_or] at hn;rw [if_neg (by rw [hcz.length]; simp only [not_or]; exact ⟨hn.1,hn.2.1,hn.2.2.1,hn.2.2.2.1⟩)];split at h
    ·rename_i cs hcs;obtain ⟨cs',hcs',hr⟩:=fillT_ok _ _ _ _ _ _ _ hx (RVL.flatten hcz) hcs;rw [hcs']; simp only;split at h
     ·rename_i hc;simp only [Bool.and_eq_true,List.isEmpty_iff] at hc;obtain ⟨hc,hup⟩:=hc;obtain ⟨hup1,hup2⟩:=nx_up hup;obtain ⟨l,hl,rfl⟩:=Option.map_eq_some_iff.1 h;have hp:ptrsL cs' = []:=by
       apply List.eq_nil_iff_forall_not_mem.2;intro r hrr;have:=RVL.ptrs cs cs' hr r hrr;rw [hc.2] at this; cases this
      rw [if_pos ⟨RVL.ones hc.1 hr,by rw [hp]; rfl⟩];refine ⟨_,rfl,?_⟩;simp only [RV,RTy];exact ⟨.own,false,_,rfl,flr_own hup,by rw [hup1]; exact asAll_ok _ _ _ hl (chunk_ok _ hr)⟩
     ·cases h
    ·cases h
  ·cases h
 ·cases h
theorem ofCellsT_ok {t:TypeId} {cs:List TV} {cs':List V} {x:TV} (h:ofCellsT P t cs = some x) (hc:RVL cs cs'):∃ v,ofCells P t cs' = some v/\RV x v:=by
 unfold ofCellsT at h;unfold ofCells;split at h
 ·cases h
 ·rename_i d hd;rw [hd]; simp only;split at h
  ·rename_i ha;rw [if_pos ha];split at h
   ·rename_i hl;cases h;rw [if_pos (by rw [hc.length]; exact hl)];exact ⟨_,rfl,by simp only [RV]; exact ⟨_,rfl,hc.take _⟩⟩
   ·cases h
  ·rename_i ha;rw [if_neg ha];obtain ⟨v,hv,hr⟩:=RVL.head hc h;exact ⟨v,hv,hr⟩
theorem tfield_ok {t:TypeId} {x y:TV} {v:V} {fd:Nat} (h:tfield P t x fd = some y) (hx:RV x v):∃ u,vfield P t v fd = some u/\RV y u:=by
 unfold tfield at h;split at h
 ·rename_i fields cs hu;simp only [RV] at hx; obtain ⟨cs',rfl,hc⟩:=hx;unfold vfield;rw [hu]; simp only;split at h
  ·rename_i d hd;rw [hd]; simp only;exact ofCellsT_ok h (hc.drop _)
  ·cases h
 ·cases h
theorem tfieldAddr_ok {t:TypeId} {x y:TV} {v:V} {fd:Nat} (h:tfieldAddr P t x fd = some y) (hx:RV x v):∃ u,vfieldAddr P t v fd = some u/\RV y u:=by
 unfold tfieldAddr at h;unfold vfieldAddr;split at h
 ·rename_i fields hu;rw [hu]; simp only;split at h
  ·rename_i d hd;rw [hd]; simp only;split at h
   ·cases h
   ·rename_i h0;rw [if_neg h0];split at h
    ·rename_i r off;cases h;simp only [RV] at hx; subst hx;exact ⟨_,rfl,by simp [RV]⟩
    ·rename_i sh cs;simp only [RV] at hx; obtain ⟨f',cs',rfl,hf0,hsh,hc⟩:=hx;split at h
     ·rename_i hl;cases h;simp only
      rw [if_pos (by rw [hc.length]; exact hl)];exact ⟨_,rfl,by simp only [RV]; exact ⟨_,_,rfl,hf0,hsh,hc.drop _⟩⟩
     ·cases h
    ·cases h
  ·cases h
 ·cases h
theorem upTo_some {R:Type} {i:Int} {k:Nat->Option R} {r:R}:∀ {n j:Nat},upTo R i k n j = some r->∃ m,j<=m/\m < j + n/\i = (m:Int)/\k m = some r
 | 0,j,h=>by simp [upTo] at h
 | n + 1,j,h=>by
  simp only [upTo] at h;cases hd:decide (i = (j:Int)) with
  | true=>rw [hd] at h; exact ⟨j,Nat.le_refl _,by omega,of_decide_eq_true hd,h⟩
  | false =>
   rw [hd] at h;obtain ⟨m,h1,h2,h3,h4⟩:=upTo_some (n:=n) (j:=j + 1) h;exact ⟨m,by omega,by omega,h3,h4⟩
theorem tint_ok {x:TV} {n:Int} {v:V} (h:tint x = some n) (hx:RV x v):∃ k,v = .val (.int k n):=by
 unfold tint at h;split at h
 ·rename_i k o m;cases h;simp only [RV,RTy] at hx;exact ⟨k,hx⟩
 ·cases h
theorem natOf_int {k:IntKind} {n:Int} (h:0<=n):natOf (.val (.int k n)) = some n.toNat:=by simp [natOf,h]
theorem slc_some {α:Type} {l r:List α} {a b:Int} (h:slc l a b = some r):0<=a/\a<=b/\b<=l.length/\r = (l.take b.toNat).drop a.toNat:=by
 unfold slc at h;split at h
 ·rename_i hc; cases h; exact ⟨hc.1,hc.2.1,hc.2.2,rfl⟩
 ·cases h
theorem idx_some {α:Type} {l:List α} {n:Int} {e:α} (h:idx l n = some e):0<=n/\l[n.toNat]? = some e:=by
 unfold idx at h;split at h
 ·rename_i hc; exact ⟨hc,h⟩
 ·cases h
theorem app_some {α:Type} {l l2 r:List α} (h:app l l2 = some r):l.length + l2.length<=4294967296/\r = l ++ l2:=by
 unfold app at h;split at h
 ·rename_i hc; cases h; exact ⟨hc,rfl⟩
 ·cases h
theorem mkS_some {α:Type} {z:α} {n:Int} {r:List α} (h:mkS z n = some r):0<=n/\n<=4294967296/\r = List.replicate n.toNat z:=by
 unfold mkS at h;split at h
 ·rename_i hc; cases h; exact ⟨hc.1,hc.2,rfl⟩
 ·cases h
theorem all2_cells {τ:Ty} (he:τ.elemOk = true) {o:Nat} {l:List τ.den} {l':List V} (h:All2 (RTy τ o) l l'):∀ e ∈ l',e.cells.length = τ.ncells/\e.oks = true/\e.ptrs = []:=λe he'=>by
 obtain ⟨a,_,hr⟩:=all2_mem h e he';obtain ⟨h1,h2⟩:=rty_ncells he hr;exact ⟨h1,h2,rty_ptrs _ _ _ _ hr⟩
theorem all2_ptrs {τ:Ty} {o:Nat} {l:List τ.den} {l':List V} (h:All2 (RTy τ o) l l'):ptrsL l' = []:=by
 apply List.eq_nil_iff_forall_not_mem.2;intro r hr;obtain ⟨v,hv,hrv⟩:=ptrsL_mem.1 hr;obtain ⟨a,_,h2⟩:=all2_mem h v hv;rw [rty_ptrs _ _ _ _ h2] at hrv; cases hrv
theorem cells_ptrs {v:V} (h:v.ptrs = []):ptrsL v.cells = []:=by
 cases v <;> first | exact h | (simp only [V.cells,ptrsL,List.append_nil]; exact h)
theorem indexAddr_elem {τ:Ty} {elem:TypeId} {o:Nat} {l:List τ.den} {l':List V} {n:Int} {e:τ.den} {k:IntKind} {t:TypeId} {fl:Fl} {c sh:Bool} (hsh:sh = true->fl = .shared) (hu:P.underlying t = some (.slice elem)) (hall:All2 (RTy τ o) l l') (hc:P.cellsOf elem = τ.ncells) (h0:τ.ncells ≠ 0) (he:τ.elemOk = true)
  (h:idx l n = some e):∃ v,vindexAddr P t (.sl fl c l') (.val (.int k n)) = some v/\RV (.cptr sh (ofTy τ (dl o) e).cells) v:=by
 obtain ⟨h1,h2⟩:=idx_some h;obtain ⟨b,hb,hr⟩:=hall.get h2;obtain ⟨hl,hk⟩:=rty_ncells he hr;refine ⟨.cptr (flDull fl) (reflagL flDull b.cells),?_,?_⟩
 ·simp only [vindexAddr,hu];rw [if_pos h1,hb];simp only
  rw [if_pos ⟨by rw [hl,hc],hk,by rw [hc]; exact h0,by rw [cells_ptrs (rty_ptrs _ _ _ _ hr)]; rfl⟩]
 ·have hd:=rty_dull flDull_own rfl τ o e b hr;have hcells:=(RV.cells (ofTy_oks he (dl o) e) (rv_ofTy τ (dl o) e _ hd)).1;simp only [RV];refine ⟨_,_,rfl,by cases fl <;> simp [flDull],λe=>(by rw [hsh e]; rfl),?_⟩;have hre:(b.reflag flDull).cells = reflagL flDull b.cells:=cells_reflag flDull b;rw [<- hre]; exact hcells
theorem tindexAddr_ok {t:TypeId} {x:TV} {k0:IntKind} {i:Int} {R:Type} {k:TV->Option R} {r:R} {v:V} (h:tindexAddr P t x i R k = some r) (hx:RV x v) :
  ∃ y u,k y = some r/\vindexAddr P t v (.val (.int k0 i)) = some u/\RV y u:=by
 unfold tindexAddr at h;split at h
 ·rename_i len elem q off hu;split at h
  ·cases h
  ·rename_i h0;obtain ⟨m,_,hm,rfl,hk⟩:=upTo_some h;simp only [RV] at hx; subst hx;refine ⟨_,.ptr q (off + m * P.cellsOf elem),hk,?_,by simp [RV]⟩;simp only [vindexAddr,hu];rw [if_pos ⟨by omega,by omega,h0⟩]; simp
 ·rename_i len elem sh cs hu;split at h
  ·cases h
  ·rename_i h0;obtain ⟨m,_,hm,rfl,hk⟩:=upTo_some h;split at hk
   ·rename_i hl;simp only [RV] at hx; obtain ⟨f',cs',rfl,hf0,hsh,hc⟩:=hx;refine ⟨_,.cptr f' (cs'.drop (m * P.cellsOf elem)),hk,?_,by simp only [RV]; exact ⟨_,_,rfl,hf0,hsh,hc.drop _⟩⟩;simp only [vindexAddr,hu];rw [if_pos ⟨by omega,by omega,h0,by rw [hc.length]; simpa using hl⟩]; simp
   ·cases hk
 ·rename_i elem τ o l hu;split at h
  ·rename_i hc;obtain ⟨e,he,hk⟩:=Option.bind_eq_some_iff.1 h;simp only [RV,RTy] at hx; obtain ⟨fl,c,l',rfl,hfl,hall⟩:=hx;obtain ⟨u,hu',hr⟩:=indexAddr_elem (k:=k0) (fl:=fl) (c:=c) (sh:=decide (o = 1000)) (λe=>hfl.2 (of_decide_eq_true e)) hu hall hc.1 hc.2.1 hc.2.2.2 he;exact ⟨_,u,hk,hu',hr⟩
  ·cases h
 ·rename_i elem τ l hu;split at h
  ·rename_i hc;obtain ⟨e,he,hk⟩:=Option.bind_eq_some_iff.1 h;simp only [RV] at hx; obtain ⟨fl,l',rfl,_,hall⟩:=hx;obtain ⟨u,hu',hr⟩:=indexAddr_elem (k:=k0) (fl:=fl) (c:=true) (sh:=false) (λe=>by cases e) hu hall hc.1 hc.2.1 hc.2.2.2 he;exact ⟨_,u,hk,hu',hr⟩
  ·cases h
 ·cases h
theorem tindex_ok {elem t:TypeId} {len:Nat} {cs:List TV} {cs':List V} {k0:IntKind} {i:Int} {R:Type} {k:TV->Option R} {r:R} (hu:P.underlying t = some (.array len elem)) (h:tindex P elem len cs i R k = some r) (hc:RVL cs cs') :
  ∃ y u,k y = some r/\vindex P t (.agg cs') (.val (.int k0 i)) = some u/\RV y u:=by
 unfold tindex at h;split at h
 ·cases h
 ·rename_i h0;obtain ⟨m,_,hm,rfl,hk⟩:=upTo_some h;split at hk
  ·rename_i v hv;obtain ⟨u,hu',hr⟩:=ofCellsT_ok hv (hc.drop _);refine ⟨_,u,hk,?_,hr⟩;simp only [vindex,hu];rw [if_pos ⟨by omega,by omega,h0⟩];simpa using hu'
  ·cases hk
def RVO:Option TV->Option V->Prop
 | none,none=>True
 | some x,some v=>RV x v
 | _,_=>False
theorem rvo_none {b:Option V} (h:RVO none b):b = none:=by cases b <;> simp_all [RVO]
theorem rvo_some {x:TV} {b:Option V} (h:RVO (some x) b):∃ v,b = some v/\RV x v:=by
 cases b with
 | none=>simp [RVO] at h
 | some v=>exact ⟨v,rfl,h⟩
theorem natOr_ok {d:Nat} {d0:Int} {lo:Option TV} {lo':Option V} {a:Int} (h:(match lo with | none=>some d0 | some v=>tint v) = some a) (hlo:RVO lo lo') (hd:d0 = d) (h0:0<=a):natOr d lo' = some a.toNat:=by
 cases lo with
 | none=>rw [rvo_none hlo]; simp only [Option.some.injEq] at h; subst h; subst hd; simp [natOr]
 | some x =>
  obtain ⟨v,rfl,hr⟩:=rvo_some hlo;obtain ⟨k,rfl⟩:=tint_ok h hr;simp [natOr,natOf_int h0]
theorem bcond {R:Type} {c:Prop} [Decidable c] {x:Option R} {r:R} (h:(bif decide c then x else none) = some r):c/\x = some r:=by
 cases hd:decide c with
 | true=>rw [hd] at h; exact ⟨of_decide_eq_true hd,h⟩
 | false=>rw [hd] at h; cases h
theorem tslice_ok {t:TypeId} {x:TV} {v:V} {lo hi mx:Option TV} {lo' hi' mx':Option V} {R:Type} {k:TV->Option R} {r:R} (hx:RV x v) (hlo:RVO lo lo') (hhi:RVO hi hi') (hmx:RVO mx mx')
  (h:tslice P t x lo hi mx R k = some r):∃ y u,k y = some r/\vslice P t v lo' hi' mx' = some u/\RV y u:=by
 unfold tslice at h;simp only at h;split at h
 ·rename_i elem τ oo l hu;simp only [RV,RTy] at hx; obtain ⟨fl,c,l',rfl,hfl,hall⟩:=hx;split at h
  ·cases h
  ·rename_i hn;simp only [not_or,Decidable.not_not,Bool.not_eq_false,Bool.not_eq_true] at hn;obtain ⟨hoo,hoo2,h0,hcl,hok,hel⟩:=hn;have hown:fl ≠ .own:=hfl.not hoo hoo2;have hnx:nx oo = oo:=by unfold nx; rw [hoo]; rfl
   have hcells:l'.all (λe=>decide (e.cells.length = P.cellsOf elem)) = true:=by
    rw [List.all_eq_true]; intro e he; rw [(all2_cells hel hall e he).1,hcl]; simp
   have hvs:∀ (mx:Option V),vslice P t (.sl fl c l') lo' hi' mx = (match natOr 0 lo',natOr l'.length hi' with
     | some a,some b =>
      match mx with
      | none=>if a<=b/\b<=l'.length then some (.sl fl (c && decide (b = l'.length)) ((l'.take b).drop a)) else none
      | some m=>if natOf m = some b/\hi'.isSome/\a<=b/\b<=l'.length then some (.sl fl true ((l'.take b).drop a)) else none
     | _,_=>none):=λmx=>by
    unfold vslice;rw [hu]; simp only;rw [if_neg (by simp only [not_or,Bool.not_eq_false]; exact ⟨hown,h0,hcells⟩)];rfl
   split at h
   ·rename_i a b ha hb;have hfin:∀ q,slc l a b = some q->natOr 0 lo' = some a.toNat/\natOr l'.length hi' = some b.toNat/\a.toNat<=b.toNat/\b.toNat<=l'.length/\All2 (RTy τ (nx oo)) q ((l'.take b.toNat).drop a.toNat):=λq hq=>by
     obtain ⟨h1,h2,h3,rfl⟩:=slc_some hq;have hl:=hall.length;refine ⟨natOr_ok ha hlo rfl h1,natOr_ok hb hhi (by rw [hl]) (by omega),by omega,by omega,(hall.take _).drop _⟩
    split at h
    ·obtain ⟨q,hq,hk⟩:=Option.bind_eq_some_iff.1 h;obtain ⟨e1,e2,e3,e4,e5⟩:=hfin q hq;rw [rvo_none hmx];refine ⟨_,.sl fl (c && decide (b.toNat = l'.length)) ((l'.take b.toNat).drop a.toNat),hk,?_,?_⟩
     ·rw [hvs,e1,e2]; simp only; rw [if_pos ⟨e3,e4⟩]
     ·simp only [RV,RTy]; exact ⟨fl,_,_,rfl,hfl,e5⟩
    ·rename_i m;obtain ⟨vm,hvm,hrm⟩:=rvo_some hmx;split at h
     ·rename_i cc hcc;split at h
      ·rename_i hs;obtain ⟨q,hq,hk⟩:=Option.bind_eq_some_iff.1 h;obtain ⟨hcb,hk⟩:=bcond hk;obtain ⟨e1,e2,e3,e4,e5⟩:=hfin q hq;obtain ⟨h1,h2,_,_⟩:=slc_some hq;obtain ⟨k3,rfl⟩:=tint_ok hcc hrm;have hs':hi'.isSome = true:=by
        cases hi with
        | none=>simp at hs
        | some x=>obtain ⟨v,rfl,_⟩:=rvo_some hhi; rfl
       refine ⟨_,.sl fl true ((l'.take b.toNat).drop a.toNat),hk,?_,?_⟩
       ·rw [hvm,hvs,e1,e2]; simp only; rw [if_pos ⟨by rw [hcb]; exact natOf_int (by omega),hs',e3,e4⟩]
       ·simp only [RV]; exact ⟨fl,_,rfl,hown,e5.mono λx y hxy=>by
         rw [hnx] at hxy;refine rty_dl0 τ oo x y ?_;rcases isOwn_not.1 hoo with h | h | h
         ·subst h; exact hxy
         ·subst h; exact hxy
         ·exact absurd h hoo2⟩
      ·cases h
     ·cases h
   ·cases h
 ·rename_i elem oo hu;simp only [RV] at hx; obtain ⟨fl,c,rfl,hfl⟩:=hx;split at h
  ·cases h
  ·rename_i hn0;simp only [not_or,Bool.not_eq_true] at hn0;obtain ⟨hoo,hoo2,h0⟩:=hn0;have hown:fl ≠ .own:=hfl.not hoo hoo2;split at h
   ·rename_i a b ha hb;cases hd:(decide (a = 0) && decide (b = 0)) with
    | false=>rw [hd] at h; cases h
    | true =>
     rw [hd] at h;simp only [Bool.and_eq_true,decide_eq_true_eq] at hd;obtain ⟨rfl,rfl⟩:=hd;rw [rvo_none hmx];refine ⟨_,.sl fl (c && decide (0 = ([]:List V).length)) [],h,?_,?_⟩
     ·unfold vslice;rw [hu]; simp only;rw [if_neg (by simp only [not_or]; exact ⟨hown,h0,by simp⟩)];rw [natOr_ok (d:=0) ha hlo rfl (by omega),natOr_ok (d:=([]:List V).length) hb hhi rfl (by omega)];simp
     ·simp only [RV]; exact ⟨fl,_,rfl,hfl⟩
   ·cases h
 ·rename_i s hu;simp only [RV,RTy] at hx; subst hx;split at h
  ·rename_i a b ha hb;obtain ⟨q,hq,hk⟩:=Option.bind_eq_some_iff.1 h;obtain ⟨h1,h2,h3,rfl⟩:=slc_some hq;rw [rvo_none hmx];have hsz:(⟨s.toArray⟩:ByteArray).size = s.length:=by simp [ByteArray.size]
   refine ⟨_,.val (.string ((⟨s.toArray⟩:ByteArray).extract a.toNat b.toNat)),hk,?_,?_⟩
   ·unfold vslice;rw [hu]; simp only;rw [natOr_ok (d:=0) ha hlo rfl h1,natOr_ok (d:=(⟨s.toArray⟩:ByteArray).size) hb hhi (by rw [hsz]) (by omega)];simp only
    rw [if_pos ⟨rfl,by omega,by rw [hsz]; omega⟩]
   ·simp only [RV,RTy,V.val.injEq,Value.string.injEq];apply ByteArray.ext;rw [ByteArray.data_extract];apply Array.ext';simp [List.drop_take]
  ·cases h
 ·cases h
theorem vslice_room {t elem:TypeId} {s n:Nat} {lo hi mx:Option V} (hu:P.underlying t = some (.slice elem)):vslice P t (.room s n) lo hi mx = none:=by
 unfold vslice; rw [hu]
theorem tsliceR_ok {t:TypeId} {x:TV} {v:V} {lo hi mx:Option TV} {lo' hi' mx':Option V} {R:Type} {k:TV->Option R} {r:R} (hx:RV x v) (hlo:RVO lo lo') (hhi:RVO hi hi') (hmx:RVO mx mx')
  (h:tsliceR P t x lo hi mx R k = some r):∃ y u,k y = some r/\(vslice P t v lo' hi' mx').or (vsliceR P t v lo' hi' mx') = some u/\RV y u:=by
 unfold tsliceR at h;split at h
 ·rename_i elem hu;simp only [RV] at hx; subst hx;split at h
  ·cases h
  ·rename_i h0;split at h
   ·rename_i a b ha hb;cases hd:(decide (a = 0) && decide (b = 0)) with
    | false=>rw [hd] at h; cases h
    | true =>
     rw [hd] at h;simp only [Bool.and_eq_true,decide_eq_true_eq] at hd;obtain ⟨rfl,rfl⟩:=hd;rw [rvo_none hmx];refine ⟨_,.val (.slice none 0 0),h,?_,by simp only [RV]⟩;have e:vslice P t (.val (.slice none 0 0)) lo' hi' none = some (.val (.slice none 0 0)):=by
      unfold vslice;rw [hu]; simp only;rw [if_neg h0,natOr_ok (d:=0) ha hlo rfl (by omega),natOr_ok (d:=0) hb hhi rfl (by omega)];simp [natOr]
     rw [e]; rfl
   ·cases h
 ·rename_i elem a s hu;split at h
  ·cases h
  ·rename_i hcond;simp only [not_or,Nat.not_le] at hcond;obtain ⟨h0,ha⟩:=hcond;simp only [RV] at hx;obtain ⟨_,n,rfl,_⟩ | ⟨h9,_⟩:=hx
   case inr=>omega
   split at h
   ·rename_i kk oo b;obtain ⟨rfl,hk⟩:=bcond h;rw [rvo_none hlo,rvo_none hmx];obtain ⟨w,rfl,hw⟩:=rvo_some hhi;simp only [RV,RTy] at hw; subst hw;refine ⟨_,.room s 0,hk,?_,by simp [RV]⟩;rw [vslice_room hu];unfold vsliceR;rw [hu]; simp only;rw [if_pos h0]; rfl
   ·cases h
 ·rename_i n elem r' off hu;split at h
  ·rename_i h1;simp only [RV] at hx; subst hx;split at h
   ·rw [rvo_none hlo,rvo_none hhi,rvo_none hmx];refine ⟨_,.bsl r' off n,h,?_,by simp only [RV]⟩;have e:vslice P t (.ptr r' off) none none none = none:=by unfold vslice; rw [hu]
    rw [e];unfold vsliceR;rw [hu]; simp only;rw [if_pos h1]; rfl
   ·cases h
  ·cases h
 ·cases h
end Go.Tx
end
section
namespace Go.Tx
open Go Go.Ab
variable {P:Program} {H:Hints} {f:FuncId}
theorem tmakeSlice_ok {t:TypeId} {len cap:TV} {len' cap':V} {R:Type} {k:TV->Option R} {r:R} (hl:RV len len') (hc:RV cap cap') (h:tmakeSlice P H f t len cap R k = some r) :
  ∃ y u,k y = some r/\vmakeSlice P H f t len' cap' = some u/\RV y u:=by
 unfold tmakeSlice at h;split at h
 ·rename_i elem hu;split at h
  ·rename_i z τ n c hz hτ hn hcc;obtain ⟨z',hz',hzr,hzc⟩:=zeroT_ok hz;obtain ⟨k1,rfl⟩:=tint_ok hn hl;obtain ⟨k2,rfl⟩:=tint_ok hcc hc;split at h
   ·rename_i hcond;obtain ⟨h0,hcl,hok,hby,_,_,hup⟩:=hcond;obtain ⟨hup1,hup2⟩:=nx_up hup;split at h
    ·rename_i x hx;obtain ⟨q,hq,hk⟩:=Option.bind_eq_some_iff.1 h;obtain ⟨hcn,hk1⟩:=bcond hk;subst hcn;obtain ⟨h1,h2,rfl⟩:=mkS_some hq;have hrt:=asTy_ok _ _ _ _ _ hx hzr;refine ⟨_,.sl .own false (List.replicate c.toNat z'),hk1,?_,?_⟩
     ·unfold vmakeSlice;rw [hu]; simp only;rw [hz',natOf_int h1,natOf_int h1];simp only
      have hbb:P.bytesOf elem * c.toNat<=8192 * 4294967296:=Nat.mul_le_mul hby (by omega);rw [if_pos ⟨Nat.le_refl _,λh=>h,h0,by rw [hzc.length]; exact hcl,(RV.cells hok hzr).2,by rw [rty_ptrs _ _ _ _ hrt]; rfl,by omega,by omega⟩]
     ·simp only [RV,RTy];exact ⟨.own,false,_,rfl,flr_own hup,by rw [hup1]; exact All2.replicate hrt _⟩
    ·cases h
   ·cases h
  ·cases h
 ·cases h
theorem big {s b:Nat} (h1:s<=4294967296) (h2:b<=8192):(s + 512) * b<=70368744177664:=by
 have:=Nat.mul_le_mul (Nat.add_le_add_right h1 512) h2;omega
def tailV (yt:TypeDesc) (y:V):Option (List V):=match yt,y with
 | .slice _,.sl _ _ l=>some l
 | .slice _,.val (.slice none 0 0)=>some []
 | .string,.val (.string b)=>some (b.data.toList.map λc=>.val (.int .u8 c.toNat))
 | _,_=>none
theorem vappend_eq {argTypes:Array TypeId} {elem:TypeId} {yt:TypeDesc} {x y:V} (h0:(argTypes[0]?).bind P.underlying = some (.slice elem)) (h1:(argTypes[1]?).bind P.underlying = some yt) :
  vappend P argTypes x y = match tailV yt y with
  | none=>none
  | some l2 =>
   if P.cellsOf elem = 0\/((P.info? elem).bind (·.zero)).map (λz=>z.cells.size) ≠ some (P.cellsOf elem)\/l2.all (λe=>decide (e.cells.length = P.cellsOf elem) && e.oks) = false\/(ptrsL l2).isEmpty = false then none else
   match x with
   | .val (.slice none 0 0)=>if l2.isEmpty then some x else if (l2.length + 512) * P.bytesOf elem<=70368744177664/\l2.length<=70368744177664 then some (.sl .own false l2) else none
   | .sl fl c l =>
    if l.all (λe=>decide (e.cells.length = P.cellsOf elem)) = true/\(l.length + l2.length + 512) * P.bytesOf elem<=70368744177664/\l.length + l2.length<=70368744177664 then
     (if fl = .own then some (.sl .own false (l ++ l2))
     else if c then (if l2.isEmpty then some x else some (.sl .own false (l ++ l2)))
     else none)
    else none
   | _=>none:=by
 unfold vappend;rw [h0,h1];rfl
theorem tail_ok {yt:TypeDesc} {y:TV} {τ:Ty} {o:Nat} {l:List τ.den} {v:V} (h:tail? yt y = some ⟨τ,(o,l)⟩) (hy:RV y v) :
  ∃ l',tailV yt v = some l'/\All2 (RTy τ o) l l':=by
 unfold tail? at h;split at h
 ·split at h
  ·simp only [Option.some.injEq,Sigma.mk.injEq] at h;obtain ⟨rfl,h⟩:=h;obtain ⟨rfl,rfl⟩:=Prod.mk.inj (eq_of_heq h);simp only [RV,RTy] at hy; obtain ⟨f,c,l',rfl,_,hall⟩:=hy;exact ⟨l',rfl,hall⟩
  ·cases h
 ·split at h
  ·simp only [Option.some.injEq,Sigma.mk.injEq] at h;obtain ⟨rfl,h⟩:=h;obtain ⟨rfl,rfl⟩:=Prod.mk.inj (eq_of_heq h);simp only [RV] at hy; obtain ⟨f,l',rfl,_,hall⟩:=hy;exact ⟨l',rfl,hall⟩
  ·cases h
 ·rename_i s;split at h
  ·simp only [Option.some.injEq,Sigma.mk.injEq] at h;obtain ⟨rfl,h⟩:=h;obtain ⟨rfl,rfl⟩:=Prod.mk.inj (eq_of_heq h);simp only [RV,RTy] at hy; subst hy;refine ⟨_,rfl,?_⟩;simp only
   clear h;have:∀ s':List UInt8,All2 (RTy (.int .u8) 0) (s'.map λc=>(c.toNat:Int)) (s'.map λc=>V.val (.int .u8 c.toNat)):=λs'=>by
    induction s' with
    | nil=>exact .nil
    | cons c s ih=>exact .cons (by simp [RTy]) ih
   simpa using this s
  ·cases h
 ·cases h
theorem vappend_own {argTypes:Array TypeId} {elem:TypeId} {yt:TypeDesc} {l l2:List V} {y:V}
  (h0:(argTypes[0]?).bind P.underlying = some (.slice elem)) (h1:(argTypes[1]?).bind P.underlying = some yt)
  (hy:tailV yt y = some l2)
  (hs0:P.cellsOf elem ≠ 0) (hz:((P.info? elem).bind (·.zero)).map (λz=>z.cells.size) = some (P.cellsOf elem))
  (hl2:∀ e ∈ l2,e.cells.length = P.cellsOf elem/\e.oks = true/\e.ptrs = []) (hl:∀ e ∈ l,e.cells.length = P.cellsOf elem)
  (hn:l.length + l2.length<=4294967296) (hb:P.bytesOf elem<=8192) :
  (∀ c,vappend P argTypes (.sl .own c l) y = some (.sl .own false (l ++ l2)))/\(l2 ≠ []->∀ f,f ≠ .own->vappend P argTypes (.sl f true l) y = some (.sl .own false (l ++ l2)))/\(l2 = []->∀ f,f ≠ .own->vappend P argTypes (.sl f true l) y = some (.sl f true l)):=by
 have hp:ptrsL l2 = []:=by
  apply List.eq_nil_iff_forall_not_mem.2;intro r hr;obtain ⟨v,hv,hrv⟩:=ptrsL_mem.1 hr;rw [(hl2 v hv).2.2] at hrv; cases hrv
 have hall2:l2.all (λe=>decide (e.cells.length = P.cellsOf elem) && e.oks) = true:=by
  rw [List.all_eq_true]; intro e he; simp [(hl2 e he).1,(hl2 e he).2.1]
 have hall:l.all (λe=>decide (e.cells.length = P.cellsOf elem)) = true:=by
  rw [List.all_eq_true]; intro e he; simp [hl e he]
 have hbig:=big (s:=l.length + l2.length) hn hb;have hun:∀ (f:Fl) (c:Bool),vappend P argTypes (.sl f c l) y = if l.all (λe=>decide (e.cells.length = P.cellsOf elem)) = true/\(l.length + l2.length + 512) * P.bytesOf elem<=70368744177664/\l.length + l2.length<=70368744177664 then
     (if f = .own then some (.sl .own false (l ++ l2))
     else if c then (if l2.isEmpty then some (.sl f c l) else some (.sl .own false (l ++ l2)))
     else none)
    else none:=λf c=>by
  rw [vappend_eq h0 h1,hy]; simp only;rw [if_neg (by simp only [not_or,Decidable.not_not,Bool.not_eq_false]; exact ⟨hs0,hz,hall2,by rw [hp]; rfl⟩)]
 refine ⟨λc=>?_,λhne f hf=>?_,λhne f hf=>?_⟩
 ·rw [hun,if_pos ⟨hall,hbig,by omega⟩,if_pos rfl]
 ·rw [hun,if_pos ⟨hall,hbig,by omega⟩,if_neg hf,if_pos rfl,if_neg (by simpa using hne)]
 ·rw [hun,if_pos ⟨hall,hbig,by omega⟩,if_neg hf,if_pos rfl,if_pos (by simp [hne])]
theorem tappend_ok {argTypes:Array TypeId} {x y:TV} {x' y':V} {R:Type} {k:TV->Option R} {r:R} (hx:RV x x') (hy:RV y y') (h:tappend P argTypes x y R k = some r) :
  ∃ z u,k z = some r/\vappend P argTypes x' y' = some u/\RV z u:=by
 unfold tappend at h;split at h
 ·rename_i elem yt h0 h1;split at h
  ·-- nothing is appended
   rename_i ow;simp only [RV] at hy; obtain ⟨fy,cy,rfl,_⟩:=hy;split at h
   ·rename_i e τ o l;split at h
    ·rename_i hc;obtain ⟨ho,hcl,hs0,hz,hb,hok,hel⟩:=hc;obtain ⟨q,hq,hk⟩:=Option.bind_eq_some_iff.1 h;obtain ⟨hn,rfl⟩:=app_some hq;simp only [RV,RTy] at hx; obtain ⟨fx,cx,l',rfl,hfx,hall⟩:=hx;have hfo:fx = .own:=hfx.own ho;subst hfo;have hv:=(vappend_own (l:=l') (l2:=[]) (y:=.sl fy cy []) h0 h1 rfl hs0 hz (by simp) (λe he=>by rw [(all2_cells hel hall e he).1,hcl]) (by rw [hall.length]; exact hn) hb).1 cx;refine ⟨_,_,hk,hv,?_⟩;simp only [RV,RTy];exact ⟨.own,false,_,rfl,flr_own ho,by simpa using hall⟩
    ·cases h
   ·rename_i e;split at h
    ·rename_i hc;obtain ⟨hoe,hs0,hz,hb⟩:=hc;simp only [RV] at hx; obtain ⟨fx,cx,rfl,hfx⟩:=hx;have hfo:fx = .own:=hfx.own hoe;subst hfo;have hv:=(vappend_own (l:=[]) (l2:=[]) (y:=.sl fy cy []) h0 h1 rfl hs0 hz (by simp) (by simp) (by simp) hb).1 cx;exact ⟨_,_,h,hv,by simp only [RV]; exact ⟨_,_,rfl,hfx⟩⟩
    ·cases h
   ·cases h
  ·split at h
   ·cases h
   ·rename_i τ o2 l2 ht;obtain ⟨l2',hl2',hall2⟩:=tail_ok ht hy;split at h
    ·rename_i hc;obtain ⟨hcl,hs0,hz,hb,hok,hel⟩:=hc;have hc2:∀ e ∈ l2',e.cells.length = P.cellsOf elem/\e.oks = true/\e.ptrs = []:=λe he=>by
      obtain ⟨h1,h2,h3⟩:=all2_cells hel hall2 e he;exact ⟨by rw [h1,hcl],h2,h3⟩
     split at h
     ·rename_i τ' o l;split at h
      ·rename_i he;subst he;split at h
       ·rename_i hoo;obtain ⟨q,hq,hk⟩:=Option.bind_eq_some_iff.1 h;obtain ⟨hn,rfl⟩:=app_some hq;simp only [RV,RTy] at hx; obtain ⟨fx,cx,l',rfl,hfx,hall⟩:=hx;have hfo:fx = .own:=hfx.own hoo;subst hfo;have hv:=(vappend_own (l:=l') (l2:=l2') h0 h1 hl2' hs0 hz hc2 (λe he=>by rw [(all2_cells hel hall e he).1,hcl]) (by rw [hall.length,hall2.length]; exact hn) hb).1 cx;refine ⟨_,_,hk,hv,?_⟩;simp only [RV,RTy];split
        ·rename_i hf;exact ⟨.own,false,_,rfl,flr_own hoo,hall.append (hall2.mono λa b hab=>rty_lev _ _ _ _ _ hf hab)⟩
        ·have hall':∀ d o',fits d o' (nx 2001) = true:=λd o'=>by cases d <;> rfl
         exact ⟨.own,false,_,rfl,flr_own rfl,(hall.mono λa b hab=>rty_lev _ _ _ _ _ (hall' _ _) hab).append (hall2.mono λa b hab=>rty_lev _ _ _ _ _ (hall' _ _) hab)⟩
       ·cases h
      ·cases h
     ·split at h
      ·rename_i hup0;obtain ⟨hoe,hup⟩:=hup0;obtain ⟨hup1,hup2⟩:=nx_up hup;obtain ⟨q,hq,hk⟩:=Option.bind_eq_some_iff.1 h;obtain ⟨hn,rfl⟩:=app_some hq;simp only [RV] at hx; obtain ⟨fx,cx,rfl,hfx⟩:=hx;have hfo:fx = .own:=hfx.own hoe;subst hfo;have hv:=(vappend_own (l:=[]) (l2:=l2') h0 h1 hl2' hs0 hz hc2 (by simp) (by rw [hall2.length]; simpa using hn) hb).1 cx;refine ⟨_,_,hk,hv,?_⟩;simp only [RV,RTy];exact ⟨.own,false,_,rfl,flr_own hup,by rw [hup1]; simpa using hall2⟩
      ·cases h
     ·rename_i τ' l;split at h
      ·rename_i he;subst he;obtain ⟨q,hq,hk⟩:=Option.bind_eq_some_iff.1 h;obtain ⟨hn,rfl⟩:=app_some hq;simp only [RV] at hx; obtain ⟨fx,l',rfl,hfx,hall⟩:=hx;have hup:∀ {o:Nat} {m:List τ'.den} {m':List V},All2 (RTy τ' o) m m'->All2 (RTy τ' (nx 2000)) m m':=λhm=>hm.mono λa b hab=>rty_lev _ _ _ _ _ (fits_2000 _ _) hab;have hv2:=vappend_own (l:=l') (l2:=l2') h0 h1 hl2' hs0 hz hc2 (λe he=>by rw [(all2_cells hel hall e he).1,hcl]) (by rw [hall.length,hall2.length]; exact hn) hb;by_cases hne:l2' = []
       ·refine ⟨_,_,hk,hv2.2.2 hne fx hfx,?_⟩;subst hne;cases hall2;simp only [RV,RTy];exact ⟨fx,true,l',rfl,⟨λe=>absurd rfl e,λe=>by cases e⟩,by simpa [cast'] using hup hall⟩
       ·refine ⟨_,_,hk,hv2.2.1 hne fx hfx,?_⟩;simp only [RV,RTy];exact ⟨.own,false,_,rfl,⟨λe=>absurd rfl e,λe=>by cases e⟩,(hup hall).append (hup hall2)⟩
      ·cases h
     ·cases h
    ·cases h
 ·cases h
theorem vbin_val {op:BinOp} {t:TypeId} {xo yo:Operand} {a b u:Value} (h:Ab.valOf P (do eqGuard op t xo yo a b; Go.binOp op t a b) = some u):vbin P op t xo yo (.val a) (.val b) = some (ofVal u):=by
 unfold vbin;simp only [V.toVal,h,Option.map_some]
theorem valOf_bind {α β:Type} (s:Sem α) (g:α->Sem β):Ab.valOf P (s >>= g) = (Ab.valOf P s).bind λa=>Ab.valOf P (g a):=by
 induction s with
 | pure a=>rfl
 | program k ih=>exact ih P
 | mark m k ih=>exact ih
 | _=>rfl
theorem valOf_pure {α:Type} (a:α):Ab.valOf P (pure a) = some a:=rfl
theorem vbin_shl {t:TypeId} {xo yo:Operand} {k1 k2:IntKind} {a b n:Int} (h:shlI k1 a b = some n):vbin P .shl t xo yo (.val (.int k1 a)) (.val (.int k2 b)) = some (.val (.int k1 n)):=by
 unfold shlI at h;split at h
 ·rename_i h0;cases h;exact vbin_val (u:=.int k1 _) (by simp [eqGuard,Go.binOp,Op.shift,Int.not_lt.2 h0,valOf_pure])
 ·cases h
theorem vbin_shr {t:TypeId} {xo yo:Operand} {k1 k2:IntKind} {a b n:Int} (h:shrI k1 a b = some n):vbin P .shr t xo yo (.val (.int k1 a)) (.val (.int k2 b)) = some (.val (.int k1 n)):=by
 unfold shrI at h;split at h
 ·rename_i h0;cases h;exact vbin_val (u:=.int k1 _) (by simp [eqGuard,Go.binOp,Op.shift,Int.not_lt.2 h0,valOf_pure])
 ·cases h
theorem tbin_int {op:BinOp} {t:TypeId} {xo yo:Operand} {k1:IntKind} {a b:Int} {R:Type} {k:TV->Option R} {r:R} {o1 o2:Nat} (h:tbin P op t (.t (.int k1) o1 a) (.t (.int k1) o2 b) R k = some r) :
  ∃ z u,k z = some r/\vbin P op t xo yo (.val (.int k1 a)) (.val (.int k1 b)) = some u/\RV z u:=by
 have hrem:∀ {z:TV},(bif decide (b = 0) then none else k z) = some r->b ≠ 0/\k z = some r:=λ{z} h=>by
  cases hd:decide (b = 0) with
  | true=>rw [hd] at h; cases h
  | false=>rw [hd] at h; exact ⟨of_decide_eq_false hd,h⟩
 cases op <;> simp only [tbin,if_true] at h <;> try (cases h; done)
 case quo =>
  obtain ⟨h0,h⟩:=hrem h;refine ⟨_,.val (.int k1 (k1.wrap (a.tdiv b))),h,?_,by simp [RV,RTy]⟩;exact vbin_val (u:=.int k1 (k1.wrap (a.tdiv b))) (by simp [eqGuard,Go.binOp,Op.intDiv,h0,valOf_pure])
 case rem =>
  obtain ⟨h0,h⟩:=hrem h;refine ⟨_,.val (.int k1 (a.tmod b)),h,?_,by simp [RV,RTy]⟩;exact vbin_val (u:=.int k1 (a.tmod b)) (by simp [eqGuard,Go.binOp,Op.intDiv,h0,valOf_pure])
 case add =>
  refine ⟨_,.val (.int k1 (k1.wrap (a + b))),h,?_,by simp [RV,RTy]⟩;exact vbin_val (u:=.int k1 (k1.wrap (a + b))) (by simp [eqGuard,Go.binOp,Op.intArith,valOf_pure])
 case sub =>
  refine ⟨_,.val (.int k1 (k1.wrap (a - b))),h,?_,by simp [RV,RTy]⟩;exact vbin_val (u:=.int k1 (k1.wrap (a - b))) (by simp [eqGuard,Go.binOp,Op.intArith,valOf_pure])
 case mul =>
  refine ⟨_,.val (.int k1 (k1.wrap (a * b))),h,?_,by simp [RV,RTy]⟩;exact vbin_val (u:=.int k1 (k1.wrap (a * b))) (by simp [eqGuard,Go.binOp,Op.intArith,valOf_pure])
 case eql =>
  refine ⟨_,.val (.bool (decide (a = b))),h,?_,by simp [RV,RTy]⟩;exact vbin_val (u:=.bool (decide (a = b))) (by simp [eqGuard,Go.binOp,Op.intCmp,valOf_pure]; rfl)
 case neq =>
  refine ⟨_,.val (.bool (!decide (a = b))),h,?_,by simp [RV,RTy]⟩;exact vbin_val (u:=.bool (!decide (a = b))) (by simp [eqGuard,Go.binOp,Op.intCmp,valOf_pure,bne]; rfl)
 case lss =>
  refine ⟨_,.val (.bool (decide (a < b))),h,?_,by simp [RV,RTy]⟩;exact vbin_val (u:=.bool (decide (a < b))) (by simp [eqGuard,Go.binOp,Op.intCmp,valOf_pure])
 case leq =>
  refine ⟨_,.val (.bool (decide (a<=b))),h,?_,by simp [RV,RTy]⟩;exact vbin_val (u:=.bool (decide (a<=b))) (by simp [eqGuard,Go.binOp,Op.intCmp,valOf_pure])
 case gtr =>
  refine ⟨_,.val (.bool (decide (a > b))),h,?_,by simp [RV,RTy]⟩;exact vbin_val (u:=.bool (decide (a > b))) (by simp [eqGuard,Go.binOp,Op.intCmp,valOf_pure])
 case geq =>
  refine ⟨_,.val (.bool (decide (a>=b))),h,?_,by simp [RV,RTy]⟩;exact vbin_val (u:=.bool (decide (a>=b))) (by simp [eqGuard,Go.binOp,Op.intCmp,valOf_pure])
 case and =>
  refine ⟨_,.val (.int k1 (andI k1 a b)),h,?_,by simp [RV,RTy]⟩;exact vbin_val (u:=.int k1 (andI k1 a b)) (by simp [eqGuard,Go.binOp,Op.intBits,valOf_pure,andI])
 case or =>
  refine ⟨_,.val (.int k1 (orI k1 a b)),h,?_,by simp [RV,RTy]⟩;exact vbin_val (u:=.int k1 (orI k1 a b)) (by simp [eqGuard,Go.binOp,Op.intBits,valOf_pure,orI])
 case xor =>
  refine ⟨_,.val (.int k1 (xorI k1 a b)),h,?_,by simp [RV,RTy]⟩;exact vbin_val (u:=.int k1 (xorI k1 a b)) (by simp [eqGuard,Go.binOp,Op.intBits,valOf_pure,xorI])
 case andNot =>
  refine ⟨_,.val (.int k1 (andNotI k1 a b)),h,?_,by simp [RV,RTy]⟩;exact vbin_val (u:=.int k1 (andNotI k1 a b)) (by simp [eqGuard,Go.binOp,Op.intBits,valOf_pure,andNotI])
 case shl =>
  obtain ⟨n,hn,hk⟩:=Option.bind_eq_some_iff.1 h;exact ⟨_,_,hk,vbin_shl hn,by simp [RV,RTy]⟩
 case shr =>
  obtain ⟨n,hn,hk⟩:=Option.bind_eq_some_iff.1 h;exact ⟨_,_,hk,vbin_shr hn,by simp [RV,RTy]⟩
theorem tbin_shift {op:BinOp} (hop:op = .shl\/op = .shr) {t:TypeId} {xo yo:Operand} {k1 k2:IntKind} {a b:Int} {R:Type} {k:TV->Option R} {r:R} {o1 o2:Nat} (h:tbin P op t (.t (.int k1) o1 a) (.t (.int k2) o2 b) R k = some r) :
  ∃ z u,k z = some r/\vbin P op t xo yo (.val (.int k1 a)) (.val (.int k2 b)) = some u/\RV z u:=by
 rcases hop with rfl | rfl
 ·simp only [tbin] at h;obtain ⟨n,hn,hk⟩:=Option.bind_eq_some_iff.1 h;exact ⟨_,_,hk,vbin_shl hn,by simp [RV,RTy]⟩
 ·simp only [tbin] at h;obtain ⟨n,hn,hk⟩:=Option.bind_eq_some_iff.1 h;exact ⟨_,_,hk,vbin_shr hn,by simp [RV,RTy]⟩
theorem valOf_floatArith {op:BinOp} {k:FloatKind} {x y r:Nat} (h:floatBits op k x y = some r):Ab.valOf P (Op.floatArith op k x y) = some (.float k r):=by
 unfold floatBits at h;cases op <;> simp only at h <;> first | (cases h; done) | skip
 all_goals (simp [Op.floatArith,h]; rfl)
theorem valOf_carith {op:BinOp} {k:FloatKind} {x y r:Nat} (h:floatBits op k x y = some r):Ab.valOf P (Op.Complex.arith op k x y) = some r:=by
 unfold Op.Complex.arith;rw [valOf_bind,valOf_floatArith h]; rfl
theorem valOf_csum {t:TypeId} {a b c d re im:Nat} (h:cSumBits .add .f64 a b c d = some (re,im)):Ab.valOf P (Go.binOp .add t (.complex .f64 a b) (.complex .f64 c d)) = some (.complex .f64 re im):=by
 unfold cSumBits at h;obtain ⟨x,h1,h⟩:=Option.bind_eq_some_iff.1 h;obtain ⟨y,h2,h⟩:=Option.bind_eq_some_iff.1 h;cases h;simp only [Go.binOp,ne_eq,not_true,if_false,Op.complexOp];rw [valOf_bind,valOf_carith h1,Option.bind_some,valOf_bind,valOf_carith h2];rfl
theorem valOf_cmul {t:TypeId} {a b c d re im:Nat} (h:cMulBits a b c d = some (re,im)):Ab.valOf P (Go.binOp .mul t (.complex .f64 a b) (.complex .f64 c d)) = some (.complex .f64 re im):=by
 unfold cMulBits at h;obtain ⟨ac,h1,h⟩:=Option.bind_eq_some_iff.1 h;obtain ⟨bd,h2,h⟩:=Option.bind_eq_some_iff.1 h;obtain ⟨x,h3,h⟩:=Option.bind_eq_some_iff.1 h;obtain ⟨ad,h4,h⟩:=Option.bind_eq_some_iff.1 h;obtain ⟨bc,h5,h⟩:=Option.bind_eq_some_iff.1 h;obtain ⟨y,h6,h⟩:=Option.bind_eq_some_iff.1 h;cases h;have hp:Ab.valOf P (Op.Complex.product a b c d) = some (re,im):=by
  unfold Op.Complex.product Op.Complex.mul Op.Complex.sub Op.Complex.add;rw [valOf_bind,valOf_carith h1,Option.bind_some,valOf_bind,valOf_carith h2,Option.bind_some,valOf_bind,valOf_carith h3,Option.bind_some,valOf_bind,valOf_carith h4,Option.bind_some,valOf_bind,valOf_carith h5,Option.bind_some,valOf_bind,valOf_carith h6];rfl
 have hc:∀ x,Ab.valOf P (Op.Complex.conv .f64 x .f64) = some x:=λx=>by unfold Op.Complex.conv; simp [valOf_pure]
 simp only [Go.binOp,ne_eq,not_true,if_false,Op.complexOp];rw [valOf_bind,hc,Option.bind_some,valOf_bind,hc,Option.bind_some,valOf_bind,hc,Option.bind_some,valOf_bind,hc,Option.bind_some];simp only [beq_self_eq_true,if_true];rw [valOf_bind,hp,Option.bind_some,valOf_bind,hc,Option.bind_some,valOf_bind,hc];rfl
theorem flo_some {n m:Int} (h:flo n = some m):m = n/\n.natAbs < 2 ^ 53:=by
 unfold flo at h;split at h
 ·rename_i h1; cases h; exact ⟨rfl,h1⟩
 ·cases h
theorem tbin_cx {op:BinOp} {t:TypeId} {xo yo:Operand} {a b:Int × Int} {x y:V} {o1 o2:Nat} {R:Type} {k:TV->Option R} {r:R} (hx:RV (.t .cx o1 a) x) (hy:RV (.t .cx o2 b) y) (h:tbin P op t (.t .cx o1 a) (.t .cx o2 b) R k = some r) :
  ∃ z u,k z = some r/\vbin P op t xo yo x y = some u/\RV z u:=by
 simp only [RV,RTy] at hx hy;obtain ⟨b1,b2,rfl,i1,i2⟩:=hx;obtain ⟨c1,c2,rfl,j1,j2⟩:=hy;unfold tbin at h;simp only at h;split at h
 ·obtain ⟨re,h1,h⟩:=Option.bind_eq_some_iff.1 h;obtain ⟨im,h2,h⟩:=Option.bind_eq_some_iff.1 h;obtain ⟨rfl,g1⟩:=flo_some h1;obtain ⟨rfl,g2⟩:=flo_some h2;obtain ⟨re,im,e,r1,r2⟩:=Fl.csum_ok i1 i2 j1 j2 g1 g2;refine ⟨_,.val (.complex .f64 re im),h,vbin_val (u:=.complex .f64 re im) ?_,by simp only [RV,RTy]; exact ⟨re,im,rfl,r1,r2⟩⟩;rw [valOf_bind];show (some ()).bind (λ_=>Ab.valOf P (Go.binOp .add t (.complex .f64 b1 b2) (.complex .f64 c1 c2))) = _;exact valOf_csum e
 ·obtain ⟨ac,h1,h⟩:=Option.bind_eq_some_iff.1 h;obtain ⟨bd,h2,h⟩:=Option.bind_eq_some_iff.1 h;obtain ⟨rfl,g1⟩:=flo_some h1;obtain ⟨rfl,g2⟩:=flo_some h2;obtain ⟨x,h3,h⟩:=Option.bind_eq_some_iff.1 h;obtain ⟨rfl,g3⟩:=flo_some h3;obtain ⟨ad,h4,h⟩:=Option.bind_eq_some_iff.1 h;obtain ⟨bc,h5,h⟩:=Option.bind_eq_some_iff.1 h;obtain ⟨rfl,g4⟩:=flo_some h4;obtain ⟨rfl,g5⟩:=flo_some h5;obtain ⟨y,h6,h⟩:=Option.bind_eq_some_iff.1 h;obtain ⟨rfl,g6⟩:=flo_some h6;obtain ⟨re,im,e,r1,r2⟩:=Fl.cmul_ok i1 i2 j1 j2 g1 g2 g3 g4 g5 g6;refine ⟨_,.val (.complex .f64 re im),h,vbin_val (u:=.complex .f64 re im) ?_,by simp only [RV,RTy]; exact ⟨re,im,rfl,r1,r2⟩⟩;rw [valOf_bind];show (some ()).bind (λ_=>Ab.valOf P (Go.binOp .mul t (.complex .f64 b1 b2) (.complex .f64 c1 c2))) = _;exact valOf_cmul e
 ·cases h
theorem tbin_str {op:BinOp} {t:TypeId} {xo yo:Operand} {a b:List UInt8} {R:Type} {k:TV->Option R} {r:R} {o1 o2:Nat} (h:tbin P op t (.t .str o1 a) (.t .str o2 b) R k = some r) :
  ∃ z u,k z = some r/\vbin P op t xo yo (.val (.string ⟨a.toArray⟩)) (.val (.string ⟨b.toArray⟩)) = some u/\RV z u:=by
 cases op <;> simp only [tbin] at h <;> try (cases h; done)
 case eql =>
  refine ⟨_,.val (.bool (decide (a = b))),h,?_,by simp [RV,RTy]⟩;exact vbin_val (u:=.bool (decide (a = b))) (by simp [eqGuard,binOp_string_eql,valOf_pure]; rw [Bool.eq_iff_iff]; simp)
 case neq =>
  refine ⟨_,.val (.bool (!decide (a = b))),h,?_,by simp [RV,RTy]⟩;exact vbin_val (u:=.bool (!decide (a = b))) (by simp [eqGuard,binOp_string_neq,valOf_pure]; rw [Bool.eq_iff_iff]; simp)
 case lss =>
  refine ⟨_,.val (.bool (Op.bytesLess a b)),h,?_,by simp [RV,RTy]⟩;exact vbin_val (u:=.bool (Op.bytesLess a b)) (by simp [eqGuard,binOp_string_lss,valOf_pure])
 case add =>
  obtain ⟨q,hq,hk⟩:=Option.bind_eq_some_iff.1 h;obtain ⟨hn,rfl⟩:=app_some hq;refine ⟨_,.val (.string ⟨(a ++ b).toArray⟩),hk,?_,by simp [RV,RTy]⟩;refine vbin_val (u:=.string ⟨(a ++ b).toArray⟩) ?_;have h1:(⟨a.toArray⟩:ByteArray).size = a.length:=by simp [ByteArray.size]
  have h2:(⟨b.toArray⟩:ByteArray).size = b.length:=by simp [ByteArray.size]
  have h3:(⟨a.toArray⟩ ++ ⟨b.toArray⟩:ByteArray) = ⟨(a ++ b).toArray⟩:=by apply ByteArray.ext; simp
  have h4:¬ (((⟨a.toArray⟩:ByteArray).size + (⟨b.toArray⟩:ByteArray).size:Nat):Int) > IntKind.i64.max:=by
   rw [h1,h2]; simp only [IntKind.max,IntKind.signed,IntKind.bits,if_true] <;> omega
  have h5:Go.binOp .add t (.string ⟨a.toArray⟩) (.string ⟨b.toArray⟩) = pure (.string ⟨(a ++ b).toArray⟩):=by
   simp only [Go.binOp,Op.stringOp];rw [if_neg h4,h3]
  simp only [eqGuard];rw [h5];rfl
theorem valOf_underlying {t:TypeId} {d:TypeDesc} (h:P.underlying t = some d):Ab.valOf P (underlying t) = some d:=by
 unfold Go.underlying;simp only [valOf_bind];have h1:Ab.valOf P Go.program = some P:=rfl;simp only [h1,Option.bind_some,h];rfl
theorem equalIn_bool {n:Nat} {t:TypeId} (h:P.underlying t = some .bool) (a b:Bool):Ab.valOf P (Op.equalIn (n + 1) t (.bool a) (.bool b)) = some (a == b):=by
 unfold Op.equalIn;rw [valOf_bind,valOf_underlying h];rfl
theorem equalIn_int {n:Nat} {t:TypeId} {k0:IntKind} (h:P.underlying t = some (.int k0)) (k:IntKind) (a b:Int):Ab.valOf P (Op.equalIn (n + 1) t (.int k a) (.int k b)) = some (decide (a = b)):=by
 unfold Op.equalIn;rw [valOf_bind,valOf_underlying h];simp only [Option.bind_some,if_true];rfl
theorem equalIn_str {n:Nat} {t:TypeId} (h:P.underlying t = some .string) (a b:List UInt8):Ab.valOf P (Op.equalIn (n + 1) t (.string ⟨a.toArray⟩) (.string ⟨b.toArray⟩)) = some (decide (a = b)):=by
 unfold Op.equalIn;rw [valOf_bind,valOf_underlying h];simp only [Option.bind_some];show some ((⟨a.toArray⟩:ByteArray) == ⟨b.toArray⟩) = _;rw [Option.some.injEq,Bool.eq_iff_iff];first
 | (show (a.toArray == b.toArray) = true ↔ decide (a = b) = true; simp)
 | (show decide ((⟨a.toArray⟩:ByteArray) = ⟨b.toArray⟩) = true ↔ decide (a = b) = true; simp)
def RelV (x:TV) (u:Value):Prop:=(scal x = true/\RV x (.val u))\/∃ (l:List TV) (vs:List Value),x = .agg l/\u = .agg vs.toArray/\l.all scal = true/\RVL l (vs.map .val)
theorem scal_val {x:TV} {v:V} (h:scal x = true) (hr:RV x v):∃ u,v = .val u:=by
 cases x with
 | t τ o x=>cases τ <;> simp only [RV,RTy] at hr <;> first | exact ⟨_,hr⟩ | simp [scal] at h
 | _=>simp [scal] at h
theorem scal_vals:∀ {l:List TV} {l':List V},l.all scal = true->RVL l l'->∃ vs:List Value,l' = vs.map .val
 | [],l',_,h=>by simp only [RVL] at h; exact ⟨[],by simp [h]⟩
 | x :: l,l',h1,h=>by
  simp only [RVL] at h; obtain ⟨v,m,rfl,h2,h3⟩:=h;simp only [List.all_cons,Bool.and_eq_true] at h1;obtain ⟨u,rfl⟩:=scal_val h1.1 h2;obtain ⟨vs,rfl⟩:=scal_vals h1.2 h3;exact ⟨u :: vs,rfl⟩
theorem toValL_vals:∀ vs:List Value,toValL (vs.map .val) = some vs
 | []=>rfl
 | u :: vs=>by simp [toValL,V.toVal,toValL_vals vs]
theorem valOf_typeInfo {t:TypeId} {i:TypeInfo} (h:P.info? t = some i):Ab.valOf P (typeInfo t) = some i:=by
 unfold typeInfo;simp only [valOf_bind];have h1:Ab.valOf P Go.program = some P:=rfl;simp only [h1,Option.bind_some,h];rfl
theorem underlying_info {t:TypeId} {d:TypeDesc} (h:P.underlying t = some d):∃ i,P.info? t = some i:=by
 unfold Program.underlying at h;cases hi:P.info? t with
 | none=>rw [hi] at h; cases h
 | some i=>exact ⟨i,rfl⟩
theorem part_ok {t:TypeId} {xs:List TV} {vs:List Value} {off:Nat} {u:TV} (hs:xs.all scal = true) (hr:RVL xs (vs.map .val)) (h:ofCellsT P t (xs.drop off) = some u) :
  ∃ w,Ab.valOf P (part t vs.toArray off) = some w/\RelV u w:=by
 unfold ofCellsT at h;split at h
 ·cases h
 ·rename_i d hd;obtain ⟨i,hi⟩:=underlying_info hd;have hsz:Ab.valOf P (sizeOf t) = some (P.cellsOf t):=by
   unfold sizeOf;rw [valOf_bind,valOf_typeInfo hi];simp [Program.cellsOf,hi,valOf_pure]
  have hag:Ab.valOf P (isAgg t) = some (isAggT P t):=by
   unfold isAgg isAggT;rw [valOf_bind,valOf_underlying hd,hd];cases d <;> rfl
  unfold part;rw [valOf_bind,hag];simp only [Option.bind_some];split at h
  ·rename_i ha;rw [if_pos ha];split at h
   ·rename_i hl;cases h;rw [valOf_bind,hsz];refine ⟨_,rfl,.inr ⟨_,(vs.drop off).take (P.cellsOf t),rfl,?_,?_,?_⟩⟩
    ·congr 1
     apply Array.ext';simp [List.take_drop]
    ·rw [List.all_eq_true] at hs ⊢;exact λy hy=>hs y (List.mem_of_mem_drop (List.mem_of_mem_take hy))
    ·rw [List.map_take,List.map_drop];exact (hr.drop off).take _
   ·cases h
  ·rename_i ha;rw [if_neg ha];have hx:xs[off]? = some u:=by simpa [List.head?_drop] using h
   obtain ⟨v,hv,hrv⟩:=hr.get hx;rw [List.getElem?_map] at hv;obtain ⟨w,hw,rfl⟩:=Option.map_eq_some_iff.1 hv;have hw':vs.toArray[off]? = some w:=by simpa using hw
   rw [hw'];refine ⟨w,rfl,.inl ⟨?_,hrv⟩⟩;rw [List.all_eq_true] at hs;exact hs u (List.mem_of_getElem? hx)
theorem teq_ok:∀ (d:Nat) (t:TypeId) (x y:TV) (b:Bool),teq P d t x y = some b->∀ n,d<=n->∀ u v,RelV x u->RelV y v->Ab.valOf P (Op.equalIn n t u v) = some b
 | 0,t,x,y,b,h,n,hn,u,v,hu,hv=>by simp [teq] at h
 | d + 1,t,x,y,b,h,n,hn,u,v,hu,hv=>by
  obtain ⟨n,rfl⟩:∃ m,n = m + 1:=⟨n - 1,by omega⟩
  unfold teq at h;split at h
  ·rename_i k0 k o a k' o' a' ht;split at h
   ·rename_i hk;subst hk;cases h;rcases hu with ⟨_,hu⟩ | ⟨_,_,hu,_⟩
    ·rcases hv with ⟨_,hv⟩ | ⟨_,_,hv,_⟩
     ·simp only [RV,RTy,V.val.injEq] at hu hv;subst hu; subst hv;exact equalIn_int ht _ _ _
     ·cases hv
    ·cases hu
   ·cases h
  ·rename_i o a o' a' ht;cases h;rcases hu with ⟨_,hu⟩ | ⟨_,_,hu,_⟩
   ·rcases hv with ⟨_,hv⟩ | ⟨_,_,hv,_⟩
    ·simp only [RV,RTy,V.val.injEq] at hu hv;subst hu; subst hv;exact equalIn_bool ht _ _
    ·cases hv
   ·cases hu
  ·rename_i o a o' a' ht;cases h;rcases hu with ⟨_,hu⟩ | ⟨_,_,hu,_⟩
   ·rcases hv with ⟨_,hv⟩ | ⟨_,_,hv,_⟩
    ·simp only [RV,RTy,V.val.injEq] at hu hv;subst hu; subst hv;exact equalIn_str ht _ _
    ·cases hv
   ·cases hu
  ·rename_i fields xs ys ht;split at h
   ·cases h
   ·rename_i hheld;rcases hu with ⟨hu,_⟩ | ⟨l,vs,hl,rfl,hsx,hrx⟩
    ·simp [scal] at hu
    ·rcases hv with ⟨hv,_⟩ | ⟨m,ws,hm,rfl,hsy,hry⟩
     ·simp [scal] at hv
     ·cases hl; cases hm
      unfold Op.equalIn;rw [valOf_bind, valOf_underlying ht];simp only [Option.bind_some];rw [valOf_bind];have h1 : Ab.valOf P Go.program = some P := rfl;simp only [h1, Option.bind_some];rw [if_neg hheld, valOf_bind, <- Array.forIn_toList];have key : ∀ (fs : List Field) (b : Bool), fs.foldr (fun fd acc => if fd.name = "_" then none else
        match ofCellsT P fd.type (xs.drop fd.offset),ofCellsT P fd.type (ys.drop fd.offset),acc with
        | some u,some v,some b=>(teq P d fd.type u v).map λa=>bif a then b else false
        | _,_,_=>none) (some true) = some b ->
        Ab.valOf P (forIn fs ((none:Option Bool),()) λf __s=>(
         if f.name ≠ "_" then do
          let __do_lift <- part f.type vs.toArray f.offset
          let __do_lift_1 <- part f.type ws.toArray f.offset
          let __do_lift <- Op.equalIn n f.type __do_lift __do_lift_1
          if (!__do_lift) = true then pure (ForInStep.done (some false,()))
           else pure (ForInStep.yield (none,()))
         else pure (ForInStep.yield (none,())):Sem _)) = some (if b then (none,()) else (some false,())):=by
       intro fs;induction fs with
       | nil=>intro b hb; simp only [List.foldr_nil,Option.some.injEq] at hb; subst hb; rfl
       | cons fd fs ih =>
        intro b hb;simp only [List.foldr_cons] at hb;split at hb
        ·cases hb
        ·rename_i hname;split at hb
         ·rename_i u v b' hu hv hacc;obtain ⟨a,ha,rfl⟩:=Option.map_eq_some_iff.1 hb;obtain ⟨w1,hw1,hr1⟩:=part_ok hsx hrx hu;obtain ⟨w2,hw2,hr2⟩:=part_ok hsy hry hv;have he:=teq_ok d fd.type u v a ha n (by omega) w1 w2 hr1 hr2;have ih':=ih b' hacc;rw [List.forIn_cons,valOf_bind,if_pos hname,valOf_bind,hw1];simp only [Option.bind_some];rw [valOf_bind,hw2];simp only [Option.bind_some];rw [valOf_bind,he];simp only [Option.bind_some];cases a with
          | true =>
           simp only [Bool.not_true,Bool.false_eq_true,if_false,valOf_pure,Option.bind_some,cond_true];exact ih'
          | false =>
           simp only [Bool.not_false,if_true,valOf_pure,Option.bind_some,cond_false,Bool.false_eq_true,if_false]
         ·cases hb
      have hkey:=key fields.toList b h;rw [hkey];simp only [Option.bind_some];cases b <;> rfl
  ·cases h
theorem maxDepth_le:9<=Op.maxDepth:=by unfold Op.maxDepth; omega
theorem tbin_agg {op:BinOp} {t:TypeId} {xo yo:Operand} {l m:List TV} {l' m':List V} {R:Type} {k:TV->Option R} {r:R} (hl:RVL l l') (hm:RVL m m') (h:tbin P op t (.agg l) (.agg m) R k = some r) :
  ∃ z u,k z = some r/\vbin P op t xo yo (.agg l') (.agg m') = some u/\RV z u:=by
 simp only [tbin] at h;split at h
 ·cases h
 ·rename_i hc;simp only [Bool.or_eq_true,Bool.not_eq_true',not_or,Bool.not_eq_true,Bool.not_eq_false,Bool.and_eq_true] at hc;obtain ⟨hg,hs1,hs2⟩:=hc;split at h
  ·rename_i b hb;obtain ⟨vs,rfl⟩:=scal_vals hs1 hl;obtain ⟨ws,rfl⟩:=scal_vals hs2 hm;have he:=teq_ok 9 t _ _ b hb Op.maxDepth maxDepth_le _ _ (.inr ⟨l,vs,rfl,rfl,hs1,hl⟩) (.inr ⟨m,ws,rfl,rfl,hs2,hm⟩);have hv:∀ u,Ab.valOf P (do eqGuard op t xo yo (.agg vs.toArray) (.agg ws.toArray); Go.binOp op t (.agg vs.toArray) (.agg ws.toArray)) = some u->vbin P op t xo yo (.agg (vs.map .val)) (.agg (ws.map .val)) = some (ofVal u):=λu hu=>by
    unfold vbin;simp only [V.toVal,toValL_vals,Option.map_some,hu]
   have hguard:∀ op,(op = .eql\/op = .neq)->Ab.valOf P (eqGuard op t xo yo (.agg vs.toArray) (.agg ws.toArray)) = some ():=λop hop=>by
    have h1:Ab.valOf P Go.program = some P:=rfl;rcases hop with rfl | rfl <;> simp only [eqGuard] <;> (simp only [Bool.not_true,Bool.false_eq_true,if_false,valOf_bind,h1,Option.bind_some,hg,Bool.not_false,if_true]; rfl)
   split at h
   ·refine ⟨_,.val (.bool b),h,?_,by simp [RV,RTy]⟩;refine hv (.bool b) ?_;rw [valOf_bind,hguard .eql (.inl rfl)];simp only [Option.bind_some];show Ab.valOf P (Op.equal t _ _ >>= λx=>(pure (Value.bool x):Sem Value)) = _;rw [valOf_bind]; unfold Op.equal; rw [he]; rfl
   ·refine ⟨_,.val (.bool (!b)),h,?_,by simp [RV,RTy]⟩;refine hv (.bool (!b)) ?_;rw [valOf_bind,hguard .neq (.inr rfl)];simp only [Option.bind_some];show Ab.valOf P (Op.equal t _ _ >>= λx=>(pure (Value.bool (!x)):Sem Value)) = _;rw [valOf_bind]; unfold Op.equal; rw [he]; rfl
   ·cases h
  ·cases h
theorem equal_bool {t:TypeId} (h:P.underlying t = some .bool) (a b:Bool):Ab.valOf P (Op.equal t (.bool a) (.bool b)) = some (a == b):=by
 unfold Op.equal;obtain ⟨n,hn⟩:∃ n,Op.maxDepth = n + 1:=⟨Op.maxDepth - 1,by have:=maxDepth_le; omega⟩
 rw [hn]; exact equalIn_bool h a b
theorem tbin_bool {op:BinOp} {t:TypeId} {xo yo:Operand} {a b:Bool} {R:Type} {k:TV->Option R} {r:R} {o1 o2:Nat} (h:tbin P op t (.t .bool o1 a) (.t .bool o2 b) R k = some r) :
  ∃ z u,k z = some r/\vbin P op t xo yo (.val (.bool a)) (.val (.bool b)) = some u/\RV z u:=by
 simp only [tbin] at h;split at h
 ·rename_i hu;refine ⟨_,.val (.bool (a == b)),h,?_,by simp [RV,RTy]⟩;refine vbin_val (u:=.bool (a == b)) ?_;show Ab.valOf P (Op.equal t _ _ >>= λx=>(pure (Value.bool x):Sem Value)) = _;rw [valOf_bind,equal_bool hu]; rfl
 ·rename_i hu;refine ⟨_,.val (.bool (!(a == b))),h,?_,by simp [RV,RTy]⟩;refine vbin_val (u:=.bool (!(a == b))) ?_;show Ab.valOf P (Op.equal t _ _ >>= λx=>(pure (Value.bool (!x)):Sem Value)) = _;rw [valOf_bind,equal_bool hu]; rfl
 ·cases h
theorem vappend_room {argTypes:Array TypeId} {s n:Nat} {y:V}:vappend P argTypes (.room s n) y = none:=by
 unfold vappend;split
 ·simp only
  split
  ·rfl
  ·split
   ·rfl
   ·rfl
 ·rfl
theorem vappendN_room {argTypes:Array TypeId} {s n:Nat} {y:V}:vappendN P argTypes (.room s n) y = none:=by
 unfold vappendN;split
 ·rename_i h; cases h
 ·rfl
theorem tappendR_ok {argTypes:Array TypeId} {x y:TV} {x' y':V} {R:Type} {k:TV->Option R} {r:R} (hx:RV x x') (hy:RV y y') (h:tappendR P argTypes x y R k = some r) :
  ∃ z u,k z = some r/\(vappend P argTypes x' y').or ((vappendN P argTypes x' y').or (vappendR P argTypes x' y')) = some u/\RV z u:=by
 unfold tappendR at h;split at h
 ·rename_i elem yt h0 h1;split at h
  ·rename_i hc0;obtain ⟨hs0,hz,hb⟩:=hc0;split at h
   ·rename_i ik o n;simp only [RV] at hx; subst hx;simp only [RV,RTy] at hy; subst hy;cases hd:(decide (0 < n) && decide (n<=4294967296)) with
    | false=>rw [hd] at h; cases h
    | true =>
     rw [hd] at h;simp only [Bool.and_eq_true,decide_eq_true_eq] at hd;have key:∀ m:Int,0 < m->m<=4294967296->m.toNat<=4294967296/\m<=70368744177664:=λm _ _=>by omega
     obtain ⟨key1,key2⟩:=key n hd.1 hd.2;refine ⟨_,.room (P.cellsOf elem) n.toNat,h,?_,by simp [RV]⟩;have e1:vappend P argTypes (.val (.slice none 0 0)) (.val (.int .i64 n)) = none:=by
      rw [vappend_eq h0 h1]; rfl
     have hbig:n.toNat * P.bytesOf elem<=4294967296 * 8192:=Nat.mul_le_mul key1 hb;have e2:vappendN P argTypes (.val (.slice none 0 0)) (.val (.int .i64 n)) = some (.room (P.cellsOf elem) n.toNat):=by
      unfold vappendN;rw [h0,h1]; simp only;rw [if_pos ⟨hd.1,key2,hs0,hz,by omega⟩]
     rw [e1,e2]; rfl
   ·split at h
    ·cases h
    ·rename_i τ o2 l2 ht;obtain ⟨l2',hl2',hall2⟩:=tail_ok ht hy;split at h
     ·rename_i hc;obtain ⟨hcl,hok,hel,hup⟩:=hc;obtain ⟨hup1,hup2⟩:=nx_up hup;have hc2:∀ e ∈ l2',e.cells.length = P.cellsOf elem/\e.oks = true/\e.ptrs = []:=λe he=>by
       obtain ⟨h1,h2,h3⟩:=all2_cells hel hall2 e he;exact ⟨by rw [h1,hcl],h2,h3⟩
      have hp:ptrsL l2' = []:=by
       apply List.eq_nil_iff_forall_not_mem.2;intro r hr;obtain ⟨v,hv,hrv⟩:=ptrsL_mem.1 hr;rw [(hc2 v hv).2.2] at hrv; cases hrv
      have hall2':l2'.all (λe=>decide (e.cells.length = P.cellsOf elem) && e.oks) = true:=by
       rw [List.all_eq_true]; intro e he; simp [(hc2 e he).1,(hc2 e he).2.1]
      have hlen:=hall2.length;split at h
      ·-- behind nil
       simp only [RV] at hx; subst hx;have hv:vappend P argTypes (.val (.slice none 0 0)) y' = if l2'.isEmpty then some (.val (.slice none 0 0)) else if (l2'.length + 512) * P.bytesOf elem<=70368744177664/\l2'.length<=70368744177664 then some (.sl .own false l2') else none:=by
        rw [vappend_eq h0 h1,hl2']; simp only;rw [if_neg (by simp only [not_or,Decidable.not_not,Bool.not_eq_false]; exact ⟨hs0,hz,hall2',by rw [hp]; rfl⟩)]
       cases hem:List.isEmpty l2 with
       | true =>
        rw [hem] at h;have hem':l2'.isEmpty = true:=by rw [List.isEmpty_iff] at hem ⊢; subst hem; cases hall2; rfl
        exact ⟨_,.val (.slice none 0 0),h,by rw [hv,if_pos hem']; rfl,by simp only [RV]⟩
       | false =>
        rw [hem] at h;obtain ⟨q,hq,hk⟩:=Option.bind_eq_some_iff.1 h;obtain ⟨hn,rfl⟩:=app_some hq;have hem':¬ l2'.isEmpty = true:=by
         intro h9;rw [List.isEmpty_iff] at h9;subst h9;cases hall2;cases hem
        have hbig:=big (s:=l2'.length) (by rw [hlen]; simpa using hn) hb;refine ⟨_,.sl .own false l2',hk,by rw [hv,if_neg hem',if_pos ⟨hbig,by rw [hlen]; simp at hn; omega⟩]; rfl,?_⟩;simp only [RV,RTy];exact ⟨.own,false,_,rfl,flr_own hup,by rw [hup1]; simpa using hall2⟩
      ·rename_i s τ2 o3 y2 _;split at h
       ·rename_i hs;subst hs;split at h
        ·rename_i q0;simp only [RV] at hx;obtain ⟨_,n,rfl,hn0⟩ | ⟨h9,_⟩:=hx
         case inr=>omega
         obtain rfl:=hn0 trivial;have hy2:∃ fl cl,y' = .sl fl cl l2':=by
          cases τ2 with
          | sl t2=>simp only [RV,RTy] at hy; obtain ⟨f,c,l',rfl,_,_⟩:=hy; simp only [tailV] at hl2'; exact ⟨f,c,by simpa using hl2'⟩
          | _=>simp [tail?] at ht
         obtain ⟨fl,cl,rfl⟩:=hy2;have hn:l2.length<=4294967296\/List.isEmpty l2 = true:=by
          cases hem:List.isEmpty l2 with
          | true=>exact .inr rfl
          | false =>
           rw [hem] at h;obtain ⟨q,hq,hk⟩:=Option.bind_eq_some_iff.1 h;obtain ⟨hn,rfl⟩:=app_some hq;exact .inl (by simpa using hn)
         have hnl:l2'.length<=4294967296:=by
          rw [hlen];rcases hn with hn | hn
          ·exact hn
          ·rw [List.isEmpty_iff] at hn; rw [hn]; simp
         have hbig:l2'.length * P.bytesOf elem<=4294967296 * 8192:=Nat.mul_le_mul hnl hb;have hv:vappendR P argTypes (.room (P.cellsOf elem) 0) (.sl fl cl l2') = if l2'.isEmpty = true then some (.room (P.cellsOf elem) 0) else some (.sl .own false l2'):=by
          unfold vappendR;rw [h0,h1]; simp only;rw [if_pos ⟨trivial,hz,hall2',by rw [hp]; rfl,by omega,by omega⟩]
         rw [vappend_room,vappendN_room,hv];cases hem:List.isEmpty l2 with
         | true =>
          rw [hem] at h;have hem':l2'.isEmpty = true:=by rw [List.isEmpty_iff] at hem ⊢; subst hem; cases hall2; rfl
          exact ⟨_,.room (P.cellsOf elem) 0,h,by rw [if_pos hem']; rfl,by simp [RV]⟩
         | false =>
          rw [hem] at h;obtain ⟨q,hq,hk⟩:=Option.bind_eq_some_iff.1 h;obtain ⟨hn,rfl⟩:=app_some hq;have hem':¬ l2'.isEmpty = true:=by
           intro h9;rw [List.isEmpty_iff] at h9;subst h9;cases hall2;cases hem
          refine ⟨_,.sl .own false l2',hk,by rw [if_neg hem']; rfl,?_⟩;simp only [RV,RTy];exact ⟨.own,false,_,rfl,flr_own hup,by rw [hup1]; simpa using hall2⟩
        ·cases h
       ·cases h
      ·cases h
     ·cases h
  ·cases h
 ·cases h
end Go.Tx
end
section
namespace Go.Tx
open Go Go.Ab
variable {P:Program} {H:Hints} {f:FuncId}
theorem equal_nil {t:TypeId} {d:TypeDesc} (hd:P.underlying t = some d) {x y:Value} (h:(∃ e,d = .slice e/\x = .slice none 0 0/\y = .slice none 0 0)\/(∃ e,d = .pointer e/\x = .pointer none/\y = .pointer none)\/(∃ a b c,d = .func a b c/\x = .nilFunc/\y = .nilFunc)) :
  Ab.valOf P (Op.equal t x y) = some true:=by
 unfold Op.equal;obtain ⟨n,hn⟩:∃ n,Op.maxDepth = n + 1:=⟨Op.maxDepth - 1,by have:=maxDepth_le; omega⟩
 rw [hn];unfold Op.equalIn;rw [valOf_bind,valOf_underlying hd];rcases h with ⟨e,rfl,rfl,rfl⟩ | ⟨e,rfl,rfl,rfl⟩ | ⟨a,b,c,rfl,rfl,rfl⟩ <;> rfl
theorem equal_nilI {t:TypeId} {ms:_} (hd:P.underlying t = some (.interface ms)):Ab.valOf P (Op.equal t .nilIface .nilIface) = some true:=by
 unfold Op.equal;obtain ⟨n,hn⟩:∃ n,Op.maxDepth = n + 1:=⟨Op.maxDepth - 1,by have:=maxDepth_le; omega⟩
 rw [hn];unfold Op.equalIn;rw [valOf_bind,valOf_underlying hd];rfl
theorem tbin_ok {op:BinOp} {t:TypeId} {xo yo:Operand} {x y:TV} {x' y':V} {R:Type} {k:TV->Option R} {r:R} (hx:RV x x') (hy:RV y y') (h:tbin P op t x y R k = some r) :
  ∃ z u,k z = some r/\vbin P op t xo yo x' y' = some u/\RV z u:=by
 by_cases h1:∃ k1 o1 a k2 o2 b,x = .t (.int k1) o1 a/\y = .t (.int k2) o2 b
 ·obtain ⟨k1,o1,a,k2,o2,b,rfl,rfl⟩:=h1;simp only [RV,RTy] at hx hy;subst hx; subst hy;by_cases hs:op = .shl\/op = .shr
  ·exact tbin_shift hs h
  by_cases hk:k1 = k2
  ·subst hk; exact tbin_int h
  ·unfold tbin at h;cases op <;> first | exact absurd (.inl rfl) hs | exact absurd (.inr rfl) hs | simp [hk] at h
 by_cases h2:∃ o1 a o2 b,x = .t .str o1 a/\y = .t .str o2 b
 ·obtain ⟨o1,a,o2,b,rfl,rfl⟩:=h2;simp only [RV,RTy] at hx hy;subst hx; subst hy;exact tbin_str h
 by_cases h3:∃ o1 a o2 b,x = .t .bool o1 a/\y = .t .bool o2 b
 ·obtain ⟨o1,a,o2,b,rfl,rfl⟩:=h3;simp only [RV,RTy] at hx hy;subst hx; subst hy;exact tbin_bool h
 by_cases h5:∃ o1 a o2 b,x = .t .cx o1 a/\y = .t .cx o2 b
 ·obtain ⟨o1,a,o2,b,rfl,rfl⟩:=h5;exact tbin_cx hx hy h
 by_cases h4:∃ l m,x = .agg l/\y = .agg m
 ·obtain ⟨l,m,rfl,rfl⟩:=h4;simp only [RV] at hx hy;obtain ⟨l',rfl,hl⟩:=hx;obtain ⟨m',rfl,hm⟩:=hy;exact tbin_agg hl hm h
 unfold tbin at h;split at h
 ·exact absurd ⟨_,_,_,_,_,_,rfl,rfl⟩ h1
 ·exact absurd ⟨_,_,_,_,rfl,rfl⟩ h5
 ·exact absurd ⟨_,_,_,_,rfl,rfl⟩ h2
 ·exact absurd ⟨_,_,_,_,rfl,rfl⟩ h3
 ·exact absurd ⟨_,_,rfl,rfl⟩ h4
 ·rename_i τ o l;simp only [RV,RTy] at hx hy;obtain ⟨fx,cx,l',rfl,_,hall⟩:=hx;subst hy;split at h
  ·rename_i el hu;cases hall with
   | nil=>simp at h
   | cons ha hb =>
    simp only [List.isEmpty_cons,cond_false] at h;have hv:∀ v m op,vbin P op t xo yo (.sl fx cx (v :: m)) (.val (.slice none 0 0)) = (match op with
      | .eql=>some (.val (.bool false))
      | .neq=>some (.val (.bool true))
      | _=>none):=λv m op=>by
     unfold vbin;simp only [V.toVal,hu,notNil,if_true];cases op <;> rfl
    split at h
    ·exact ⟨_,_,h,hv _ _ _,by simp [RV,RTy]⟩
    ·exact ⟨_,_,h,hv _ _ _,by simp [RV,RTy]⟩
    ·cases h
  ·cases h
 ·split at h
  ·rename_i d hd;split at h
   ·rename_i hn;have hv:x'.toVal = none/\notNil d x' y' = true:=by
     unfold notNilT at hn;split at hn
     ·simp only [RV] at hx hy; subst hx; subst hy; exact ⟨rfl,rfl⟩
     ·simp only [RV] at hx hy; obtain ⟨_,l',rfl,_⟩:=hx; subst hy; exact ⟨rfl,rfl⟩
     ·simp only [RV] at hx hy; obtain ⟨a',b',rfl,_⟩:=hx; subst hy; exact ⟨rfl,rfl⟩
     ·cases hn
    have hv2:∀ op,vbin P op t xo yo x' y' = (match op with
      | .eql=>some (.val (.bool false))
      | .neq=>some (.val (.bool true))
      | _=>none):=λop=>by
     unfold vbin;simp only [hv.1,hd,hv.2,if_true];cases op <;> rfl
    split at h
    ·exact ⟨_,_,h,hv2 _,by simp [RV,RTy]⟩
    ·exact ⟨_,_,h,hv2 _,by simp [RV,RTy]⟩
    ·cases h
   ·split at h
    ·rename_i hn;have hv:∃ u v,x' = .val u/\y' = .val v/\Ab.valOf P (Op.equal t u v) = some true/\(∀ op,op = .eql\/op = .neq->Ab.valOf P (do eqGuard op t xo yo u v; Go.binOp op t u v) = Ab.valOf P (Op.equal t u v >>= λb=>(pure (Value.bool (if op = .eql then b else !b)):Sem Value))):=by
      unfold isNilT at hn;split at hn
      ·simp only [RV] at hx hy; subst hx; subst hy;refine ⟨_,_,rfl,rfl,equal_nil hd (.inl ⟨_,rfl,rfl,rfl⟩),?_⟩;rintro op (rfl | rfl) <;> rfl
      ·simp only [RV] at hx hy; subst hx; subst hy;refine ⟨_,_,rfl,rfl,equal_nil hd (.inr (.inl ⟨_,rfl,rfl,rfl⟩)),?_⟩;rintro op (rfl | rfl) <;> rfl
      ·simp only [RV] at hx hy; subst hx; subst hy;refine ⟨_,_,rfl,rfl,equal_nil hd (.inr (.inr ⟨_,_,_,rfl,rfl,rfl⟩)),?_⟩;rintro op (rfl | rfl) <;> rfl
      ·cases hn
     obtain ⟨u,v,rfl,rfl,he,hg⟩:=hv;split at h
     ·refine ⟨_,.val (.bool true),h,?_,by simp [RV,RTy]⟩;refine vbin_val (u:=.bool true) ?_;rw [hg _ (.inl rfl),valOf_bind,he]; rfl
     ·refine ⟨_,.val (.bool false),h,?_,by simp [RV,RTy]⟩;refine vbin_val (u:=.bool false) ?_;rw [hg _ (.inr rfl),valOf_bind,he]; rfl
     ·cases h
    ·cases h
  ·cases h
theorem tun_ok {op:UnOp} {x y:TV} {v:V} (hx:RV x v) (h:tun op x = some y):∃ u,v.toVal.bind (λa=>(Ab.valOf P (Go.Op.unary op a)).map ofVal) = some u/\RV y u:=by
 unfold tun at h;split at h
 ·cases h;simp only [RV,RTy] at hx; subst hx;exact ⟨_,rfl,by simp [RV,RTy,ofVal]⟩
 ·cases h;simp only [RV,RTy] at hx; subst hx;exact ⟨_,rfl,by simp [RV,RTy,ofVal]⟩
 ·cases h
theorem tconv_ok {src dst:TypeId} {x:TV} {v:V} {R:Type} {k:TV->Option R} {r:R} (hx:RV x v) (h:tconv P src dst x R k = some r):∃ z u,k z = some r/\vconv P src dst v = some u/\RV z u:=by
 unfold tconv at h;split at h
 ·rename_i d1 kk k0 o n h1 h2;simp only [RV,RTy] at hx; subst hx;refine ⟨_,.val (.int kk (kk.wrap n)),h,?_,by simp [RV,RTy]⟩;unfold vconv vconvert;simp only [V.toVal];unfold Go.convert;rw [valOf_bind,valOf_underlying h1];simp only [Option.bind_some];rw [valOf_bind,valOf_underlying h2];rfl
 ·rename_i d1 k0 o n h1 h2;obtain ⟨n',hn',hk'⟩:=Option.bind_eq_some_iff.1 h;obtain ⟨rfl,hn⟩:=flo_some hn';simp only [RV,RTy] at hx; subst hx;refine ⟨_,.val (.float .f64 (FloatKind.f64.nearest n')),hk',?_,by simp only [RV,RTy]; exact ⟨_,rfl,Fl.nearest_ok hn⟩⟩;unfold vconv vconvert;simp only [V.toVal];unfold Go.convert;rw [valOf_bind,valOf_underlying h1];simp only [Option.bind_some];rw [valOf_bind,valOf_underlying h2];rfl
 ·rename_i o n h1 h2;obtain ⟨n',hn',hk'⟩:=Option.bind_eq_some_iff.1 h;obtain ⟨rfl,hn⟩:=flo_some hn';simp only [RV,RTy] at hx;obtain ⟨b,rfl,hb⟩:=hx;refine ⟨_,.val (.int .i64 n'),hk',?_,by simp [RV,RTy]⟩;unfold vconv vconvert;simp only [V.toVal];unfold Go.convert;rw [valOf_bind,valOf_underlying h1];simp only [Option.bind_some];rw [valOf_bind,valOf_underlying h2];have h3:(FloatKind.f64.decode b).toInt .zero = some n':=Fl.toInt_ok hb;have h4:IntKind.i64.min<=n'/\n'<=IntKind.i64.max:=by
   simp only [IntKind.min,IntKind.max,IntKind.signed,IntKind.bits,if_true] <;> omega
  show ((Ab.valOf P (Conv.floatToInt .f64 b .i64)).map ofVal) = _;unfold Conv.floatToInt;simp only [h3];rw [if_pos h4];rfl
 ·rename_i d1 o s h1 h2;simp only [RV,RTy] at hx; subst hx;refine ⟨_,.val (.string ⟨s.toArray⟩),h,?_,by simp [RV,RTy]⟩;unfold vconv vconvert;simp only [V.toVal];unfold Go.convert;rw [valOf_bind,valOf_underlying h1];simp only [Option.bind_some];rw [valOf_bind,valOf_underlying h2];rfl
 ·rename_i e o l h1 h2;split at h
  ·rename_i he;simp only [RV,RTy] at hx;obtain ⟨f,c,l',rfl,_,hall⟩:=hx;refine ⟨_,.val (.string ⟨(l.map λn=>UInt8.ofNat n.toNat).toArray⟩),h,?_,by simp [RV,RTy]⟩;simp only [vconv,vbytes,h1,h2,he];have hb:∀ {l:List Int} {l':List V},All2 (λ(n:Int) v=>v = .val (.int .u8 n)) l l'->bytesOf l' = some (l.map λn=>UInt8.ofNat n.toNat):=by
    intro l l' hall;induction hall with
    | nil=>rfl
    | cons h1 _ ih=>subst h1; simp only [bytesOf,ih,Option.map_some,List.map_cons]
   rw [hb (hall.mono λn v h=>by simpa only [RTy] using h)]; rfl
  ·cases h
 ·cases h
theorem tints_ok {k:IntKind}:∀ {xs:List TV} {ys:List V} {l:List Int},tints k xs = some l->RVL xs ys->ys = l.map λn=>.val (.int k n)
 | [],ys,l,h,hr=>by simp only [tints,Option.some.injEq] at h; simp only [RVL] at hr; subst h; subst hr; rfl
 | x :: xs,ys,l,h,hr=>by
  simp only [RVL] at hr; obtain ⟨v,m,rfl,h1,h2⟩:=hr;cases x with
  | t τ o x =>
   cases τ with
   | int k' =>
    simp only [tints] at h;split at h
    ·rename_i hk;subst hk;obtain ⟨l',hl',rfl⟩:=Option.map_eq_some_iff.1 h;simp only [RV,RTy] at h1; subst h1;rw [tints_ok hl' h2]; rfl
    ·cases h
   | _=>simp [tints] at h
  | _=>simp [tints] at h
theorem toValL_ints (k:IntKind):∀ l:List Int,toValL (l.map λn=>V.val (.int k n)) = some (l.map λn=>Value.int k n)
 | []=>rfl
 | n :: l=>by simp [toValL,V.toVal,toValL_ints k l]
theorem maxL_ok (k:IntKind):∀ (l:List Int) (n:Int),Ab.valOf P ((l.map λn=>Value.int k n).foldlM Go.Builtin.max2 (.int k n)) = some (.int k (l.foldl max n))
 | [],n=>rfl
 | m :: l,n=>by
  simp only [List.map_cons,List.foldlM_cons,List.foldl_cons];rw [valOf_bind];have:Ab.valOf P (Go.Builtin.max2 (.int k n) (.int k m)) = some (.int k (max n m)):=by
   show some (Value.int k (if m > n then m else n)) = _;congr 2; split <;> omega
  rw [this];exact maxL_ok k l _
theorem minL_ok (k:IntKind):∀ (l:List Int) (n:Int),Ab.valOf P ((l.map λn=>Value.int k n).foldlM Go.Builtin.min2 (.int k n)) = some (.int k (l.foldl min n))
 | [],n=>rfl
 | m :: l,n=>by
  simp only [List.map_cons,List.foldlM_cons,List.foldl_cons];rw [valOf_bind];have:Ab.valOf P (Go.Builtin.min2 (.int k n) (.int k m)) = some (.int k (min n m)):=by
   show some (Value.int k (if m < n then m else n)) = _;congr 2; split <;> omega
  rw [this];exact minL_ok k l _
theorem tbuiltin_ok {b:Builtin} {argTypes:Array TypeId} {ty:TypeId} {xs:List TV} {ys:List V} {R:Type} {k:TV->Option R} {r:R} (hx:RVL xs ys) (h:tbuiltin P b argTypes xs R k = some r) :
  ∃ z u,k z = some r/\vbuiltin P b argTypes ty ys = some u/\RV z u:=by
 unfold tbuiltin at h;split at h
 ·rename_i τ o l;simp only [RVL] at hx; obtain ⟨v,m,rfl,h1,rfl⟩:=hx;simp only [RV,RTy] at h1; obtain ⟨fx,c,l',rfl,_,hall⟩:=h1;split at h
  ·rename_i e he;refine ⟨_,.val (.int .i64 l'.length),h,?_,by simp [RV,RTy,hall.length]⟩;simp only [vbuiltin,he]
  ·cases h
 ·rename_i τ l;simp only [RVL] at hx; obtain ⟨v,m,rfl,h1,rfl⟩:=hx;simp only [RV] at h1; obtain ⟨fx,l',rfl,_,hall⟩:=h1;split at h
  ·rename_i e he;refine ⟨_,.val (.int .i64 l'.length),h,?_,by simp [RV,RTy,hall.length]⟩;simp only [vbuiltin,he]
  ·cases h
 ·rename_i ow;simp only [RVL] at hx; obtain ⟨v,m,rfl,h1,rfl⟩:=hx;simp only [RV] at h1; obtain ⟨fx,c,rfl,_⟩:=h1;split at h
  ·rename_i e he;refine ⟨_,.val (.int .i64 ([]:List V).length),h,?_,by simp [RV,RTy]⟩;simp only [vbuiltin,he]
  ·cases h
 ·rename_i o s;simp only [RVL] at hx; obtain ⟨v,m,rfl,h1,rfl⟩:=hx;simp only [RV,RTy] at h1; subst h1;split at h
  ·rename_i he;refine ⟨_,.val (.int .i64 s.length),h,?_,by simp [RV,RTy]⟩;obtain ⟨t,ht,hu⟩:=Option.bind_eq_some_iff.1 he;have hl:Ab.valOf P (Go.Builtin.len_ argTypes ty #[.string ⟨s.toArray⟩]) = some (.int .i64 s.length):=by
    unfold Go.Builtin.len_;have ha:(#[Value.string ⟨s.toArray⟩]:Array Value)[0]? = some (.string ⟨s.toArray⟩):=rfl;simp only [ht,ha];rw [valOf_bind,valOf_underlying hu];simp only [Option.bind_some];show some (goInt (⟨s.toArray⟩:ByteArray).size) = _;simp [goInt,ByteArray.size]
   show ((toValL [V.val (.string ⟨s.toArray⟩)]).bind λvs=>(Ab.valOf P (Go.Builtin.len_ argTypes ty vs.toArray)).map ofVal) = _;simp only [toValL,V.toVal,Option.bind_some];rw [show [Value.string ⟨s.toArray⟩].toArray = #[Value.string ⟨s.toArray⟩] from rfl,hl];rfl
  ·cases h
 ·simp only [RVL] at hx; obtain ⟨v,m,rfl,h1,rfl⟩:=hx;simp only [RV] at h1; subst h1;split at h
  ·rename_i e he;refine ⟨_,.val (.int .i64 0),h,?_,by simp [RV,RTy]⟩;obtain ⟨t,ht,hu⟩:=Option.bind_eq_some_iff.1 he;have hl:Ab.valOf P (Go.Builtin.cap_ argTypes ty #[.slice none 0 0]) = some (.int .i64 0):=by
    unfold Go.Builtin.cap_;have ha:(#[Value.slice none 0 0]:Array Value)[0]? = some (.slice none 0 0):=rfl;simp only [ht,ha];rw [valOf_bind,valOf_underlying hu];rfl
   show ((toValL [V.val (.slice none 0 0)]).bind λvs=>(Ab.valOf P (Go.Builtin.cap_ argTypes ty vs.toArray)).map ofVal) = _;simp only [toValL,V.toVal,Option.bind_some];rw [show [Value.slice none 0 0].toArray = #[Value.slice none 0 0] from rfl,hl];rfl
  ·cases h
 ·simp only [RVL] at hx; obtain ⟨v,m,rfl,h1,rfl⟩:=hx;simp only [RV] at h1; subst h1;split at h
  ·rename_i e he;refine ⟨_,.val (.int .i64 0),h,?_,by simp [RV,RTy]⟩;obtain ⟨t,ht,hu⟩:=Option.bind_eq_some_iff.1 he;have hl:Ab.valOf P (Go.Builtin.len_ argTypes ty #[.slice none 0 0]) = some (.int .i64 0):=by
    unfold Go.Builtin.len_;have ha:(#[Value.slice none 0 0]:Array Value)[0]? = some (.slice none 0 0):=rfl;simp only [ht,ha];rw [valOf_bind,valOf_underlying hu];rfl
   show ((toValL [V.val (.slice none 0 0)]).bind λvs=>(Ab.valOf P (Go.Builtin.len_ argTypes ty vs.toArray)).map ofVal) = _;simp only [toValL,V.toVal,Option.bind_some];rw [show [Value.slice none 0 0].toArray = #[Value.slice none 0 0] from rfl,hl];rfl
  ·cases h
 ·rename_i x y;simp only [RVL] at hx; obtain ⟨v,m,rfl,h1,v2,m2,rfl,h2,rfl⟩:=hx;split at h
  ·obtain ⟨z,u,hz,hu,hr⟩:=tappendR_ok h1 h2 h;exact ⟨z,u,hz,by simp only [vbuiltin,hu],hr⟩
  ·obtain ⟨z,u,hz,hu,hr⟩:=tappend_ok h1 h2 h;exact ⟨z,u,hz,by simp only [vbuiltin,hu,Option.some_or],hr⟩
 ·rename_i o1 a o2 b;simp only [RVL] at hx; obtain ⟨v,m,rfl,h1,v2,m2,rfl,h2,rfl⟩:=hx;simp only [RV,RTy] at h1 h2;obtain ⟨b1,rfl,i1⟩:=h1;obtain ⟨b2,rfl,i2⟩:=h2;exact ⟨_,.val (.complex .f64 b1 b2),h,rfl,by simp only [RV,RTy]; exact ⟨b1,b2,rfl,i1,i2⟩⟩
 ·rename_i o1 a;simp only [RVL] at hx; obtain ⟨v,m,rfl,h1,rfl⟩:=hx;simp only [RV,RTy] at h1;obtain ⟨b1,b2,rfl,i1,i2⟩:=h1;exact ⟨_,.val (.float .f64 b1),h,rfl,by simp only [RV,RTy]; exact ⟨b1,rfl,i1⟩⟩
 ·rename_i o1 a;simp only [RVL] at hx; obtain ⟨v,m,rfl,h1,rfl⟩:=hx;simp only [RV,RTy] at h1;obtain ⟨b1,b2,rfl,i1,i2⟩:=h1;exact ⟨_,.val (.float .f64 b2),h,rfl,by simp only [RV,RTy]; exact ⟨b2,rfl,i2⟩⟩
 ·rename_i kk o n xs;split at h
  ·rename_i l hl;simp only [RVL] at hx; obtain ⟨v,m,rfl,h1,h2⟩:=hx;simp only [RV,RTy] at h1; subst h1;rw [tints_ok hl h2];refine ⟨_,.val (.int kk (l.foldl max n)),h,?_,by simp [RV,RTy]⟩;show ((toValL ((n :: l).map λn=>V.val (.int kk n))).bind λvs=>(Ab.valOf P (Go.Builtin.max_ argTypes ty vs.toArray)).map ofVal) = _;rw [toValL_ints];simp only [Option.bind_some];have:Ab.valOf P (Go.Builtin.max_ argTypes ty ((n :: l).map λn=>Value.int kk n).toArray) = some (.int kk (l.foldl max n)):=maxL_ok kk l n;rw [this]; rfl
  ·cases h
 ·rename_i kk o n xs;split at h
  ·rename_i l hl;simp only [RVL] at hx; obtain ⟨v,m,rfl,h1,h2⟩:=hx;simp only [RV,RTy] at h1; subst h1;rw [tints_ok hl h2];refine ⟨_,.val (.int kk (l.foldl min n)),h,?_,by simp [RV,RTy]⟩;show ((toValL ((n :: l).map λn=>V.val (.int kk n))).bind λvs=>(Ab.valOf P (Go.Builtin.min_ argTypes ty vs.toArray)).map ofVal) = _;rw [toValL_ints];simp only [Option.bind_some];have:Ab.valOf P (Go.Builtin.min_ argTypes ty ((n :: l).map λn=>Value.int kk n).toArray) = some (.int kk (l.foldl min n)):=minL_ok kk l n;rw [this]; rfl
  ·cases h
 ·cases h
def BxR:Option (List TV)->Option (List V)->Prop
 | none,b=>True
 | some c,b=>∃ c',b = some c'/\RVL c c'
def BxO:Option (List TV)->Option (List V)->Prop
 | none,b=>b = none
 | some c,b=>∃ c',b = some c'/\RVL c c'
theorem tarr_ok {R:Type} {mk:Int->TV} {l:List Int} {r:R}:∀ (n i:Nat) (acc:List TV) (k:List TV->Option R),tarr R mk l n i acc k = some r->i<=l.length->n + i<=l.length/\k (acc ++ ((l.drop i).take n).map mk) = some r
 | 0,i,acc,k,h,hi=>⟨by omega,by simpa [tarr] using h⟩
 | n + 1,i,acc,k,h,hi=>by
  unfold tarr at h;obtain ⟨e,he,hk⟩:=Option.bind_eq_some_iff.1 h;rw [show idx l (i:Int) = l[i]? from by simp [idx]] at he;have hlt:=(List.getElem?_eq_some_iff.1 he).1;obtain ⟨h1,h2⟩:=tarr_ok n (i + 1) _ k hk (by omega);refine ⟨by omega,?_⟩;have e1:(l.drop i).take (n + 1) = e :: (l.drop (i + 1)).take n:=by
   rw [List.drop_eq_getElem_cons hlt,List.take_succ_cons];rw [(List.getElem?_eq_some_iff.1 he).2]
  rw [e1,List.map_cons];simpa using h2
theorem tarrayAt_ok {t:TypeId} {x:TV} {R:Type} {k:TV->Option R} {r:R} {v:V} (h:tarrayAt P t x R k = some r) (hx:RV x v):∃ y u,k y = some r/\varrayAt P t v = some u/\RV y u:=by
 unfold tarrayAt at h;split at h
 ·rename_i n elem kk o l hu;split at h
  ·cases h
  ·rename_i h0;obtain ⟨h1,h2⟩:=tarr_ok n 0 [] _ h (Nat.zero_le _);simp only [RV,RTy] at hx;obtain ⟨fl,c,l',rfl,hfl,hall⟩:=hx;have hl:=hall.length;have hv:∀ {l:List Int} {l':List V},All2 (λ(n:Int) v=>v = .val (.int kk n)) l l'->(valsOf l').isSome = true:=by
    intro l l' h;induction h with
    | nil=>rfl
    | cons h1 _ ih=>subst h1; simpa [valsOf] using ih
   have hall':=hall.mono λn v (h:RTy (.int kk) (nx o) n v)=>(by simpa only [RTy] using h:v = .val (.int kk n))
   refine ⟨_,.cptr (flDull fl) (l'.take n),h2,?_,?_⟩
   ·simp only [varrayAt,hu];rw [if_pos ⟨by omega,h0,hv hall'⟩]
   ·simp only [RV];refine ⟨_,_,rfl,by cases fl <;> simp [flDull],λe=>by rw [hfl.2 (of_decide_eq_true e)]; rfl,?_⟩;have ht:∀ {l:List Int} {l':List V},All2 (λ(n:Int) v=>v = .val (.int kk n)) l l'->∀ n,RVL ((l.take n).map λe=>.t (.int kk) 0 e) (l'.take n):=by
     intro l l' h;induction h with
     | nil=>intro n; simp only [List.take_nil,List.map_nil]; exact rvl_nil
     | cons h1 _ ih =>
      intro n;cases n with
      | zero=>simp only [List.take_zero,List.map_nil]; exact rvl_nil
      | succ n =>
       subst h1;simp only [List.take_succ_cons,List.map_cons];exact rvl_cons.2 ⟨by simp only [RV,RTy],ih n⟩
    simpa using ht hall' n
 ·cases h
theorem topSem_ok {tk:Bool} {o:Op} {ty:TypeId} {xs:List TV} {ys:List V} {bx:Option (List TV)} {bx':Option (List V)} {R:Type} {k:TV->Option (List TV)->Option R} {r:R} (hx:RVL xs ys) (hb:BxR bx bx') (hmp:∀ c,bx' = some c->isMp c = false)
  (h:topSem P H f tk o xs bx R k = some r):∃ z c u c',k z c = some r/\opSem P H f tk o ty ys bx' = some (u,c')/\RV z u/\BxO c c':=by
 have fin:∀ {x:Option TV} {y:Option V},(match x with | some x=>k x none | none=>none) = some r->(∀ z,x = some z->∃ u,y = some u/\RV z u)->∃ z c u c',k z c = some r/\(y.map λx=>(x,(none:Option (List V)))) = some (u,c')/\RV z u/\BxO c c':=by
  intro x y h1 h2;cases x with
  | none=>cases h1
  | some z =>
   obtain ⟨u,hu,hr⟩:=h2 z rfl;exact ⟨z,none,u,none,h1,by rw [hu]; rfl,hr,rfl⟩
 have fin2:∀ {y:Option V},(∃ z u,k z none = some r/\y = some u/\RV z u)->∃ z c u c',k z c = some r/\(y.map λx=>(x,(none:Option (List V)))) = some (u,c')/\RV z u/\BxO c c':=by
  rintro y ⟨z,u,h1,rfl,hr⟩;exact ⟨z,none,u,none,h1,rfl,hr,rfl⟩
 unfold topSem at h;simp only at h;split at h
 ·simp only [RVL] at hx; obtain ⟨v,m,rfl,h1,rfl⟩:=hx;exact ⟨_,none,v,none,h,rfl,h1,rfl⟩
 ·simp only [RVL] at hx; obtain ⟨v,m,rfl,h1,rfl⟩:=hx;exact ⟨_,none,v,none,h,rfl,h1,rfl⟩
 ·rename_i o' c a b;simp only [RVL] at hx; obtain ⟨v,m,rfl,h1,va,ma,rfl,ha,vb,mb,rfl,hb',rfl⟩:=hx;simp only [RV,RTy] at h1; subst h1;cases c with
  | true=>exact ⟨_,none,va,none,h,rfl,ha,rfl⟩
  | false=>exact ⟨_,none,vb,none,h,rfl,hb',rfl⟩
 ·rename_i t parts xs;exact fin h λz hz=>tbuild_ok hx hz
 ·rename_i t len parts xs;exact fin h λz hz=>tbuildSlice_ok hx hz
 ·rename_i t a cs;simp only [RVL] at hx; obtain ⟨v,m,rfl,h1,rfl⟩:=hx;simp only [RV] at h1; obtain ⟨_,cs',rfl,_,_,hc⟩:=h1;refine fin h λz hz=>?_;obtain ⟨w,hw,rfl⟩:=Option.map_eq_some_iff.1 hz;obtain ⟨u,hu,hr⟩:=ofCellsT_ok hw hc;exact ⟨u.dull,by rw [hu]; rfl,hr.dull⟩
 ·rename_i t a q off;simp only [RVL] at hx; obtain ⟨v,m,rfl,h1,rfl⟩:=hx;simp only [RV] at h1; subst h1;split at h
  ·rename_i cs;obtain ⟨cs',rfl,hc⟩:=hb;have hlp:=isLp_split (rvl_notLoop hc) (hmp _ rfl);split at h
   ·rename_i htk;split at h
    ·rename_i x hxx;obtain ⟨u,hu,hr⟩:=ofCellsT_ok hxx (hc.drop off);refine ⟨_,_,u,_,h,?_,hr,⟨_,rfl,splice_ok hc (RVL.dull ((hc.drop off).take _))⟩⟩;simp only [opSem,hlp,Bool.false_eq_true,if_false,htk,if_true,hu,Option.map_some]
    ·cases h
   ·rename_i htk;obtain ⟨z,c,u,c',h1,h2,h3,h4⟩:=fin (y:=(ofCells P t (cs'.drop off)).map V.dull) h λz hz=>by
     obtain ⟨w,hw,rfl⟩:=Option.map_eq_some_iff.1 hz;obtain ⟨u,hu,hr⟩:=ofCellsT_ok hw (hc.drop off);exact ⟨u.dull,by rw [hu]; rfl,hr.dull⟩
    refine ⟨z,c,u,c',h1,?_,h3,h4⟩;simp only [opSem,hlp,Bool.false_eq_true,if_false];rw [if_neg htk];exact h2
  ·cases h
 ·rename_i t a b q off x;simp only [RVL] at hx; obtain ⟨v,m,rfl,h1,v2,m2,rfl,h2,rfl⟩:=hx;simp only [RV] at h1; subst h1;split at h
  ·rename_i cs;obtain ⟨cs',rfl,hc⟩:=hb;have hlp:=isLp_split (rvl_notLoop hc) (hmp _ rfl);split at h
   ·rename_i hcond;obtain ⟨h0,hl,ho,hk⟩:=hcond;obtain ⟨hcells,hko⟩:=RV.cells hk h2;refine ⟨_,_,.undef,_,h,?_,rv_undef [],⟨_,rfl,splice_ok hc hcells⟩⟩;simp only [opSem];rw [if_pos ⟨hlp,h0,by rw [hcells.length]; exact hl,by rw [hcells.length,hc.length]; exact ho,hko⟩]
   ·cases h
  ·cases h
 ·simp only [RVL] at hx; obtain ⟨v,m,rfl,h1,rfl⟩:=hx;simp only [RV] at h1; subst h1;exact ⟨_,none,_,none,h,rfl,by simp [RV],rfl⟩
 ·simp only [RVL] at hx; obtain ⟨v,m,rfl,h1,rfl⟩:=hx;have h1':=h1;simp only [RV] at h1; obtain ⟨_,l',rfl,_,h1⟩:=h1;exact ⟨_,none,_,none,h,rfl,h1',rfl⟩
 ·simp only [RVL] at hx; obtain ⟨v,m,rfl,h1,rfl⟩:=hx;have h1':=h1;simp only [RV] at h1; obtain ⟨a',b',rfl,_⟩:=h1;exact ⟨_,none,_,none,h,rfl,h1',rfl⟩
 ·rename_i op' t xo c0 yt o0 b;simp only [RVL] at hx; obtain ⟨v,m,rfl,h1,v2,m2,rfl,h2,rfl⟩:=hx;simp only [RV,RTy] at h1 h2;subst h2;have hv:∀ op ms,(op = .eql\/op = .neq)->P.underlying t = some (.interface ms)->vbin P op t xo (.const c0) v (.val .nilIface) = some (.val (.bool (if op = .eql then b else !b))):=by
   intro op ms hop hu;rcases h1 with ⟨rfl,rfl⟩ | ⟨rfl,t9,rfl⟩
   ·have he:Ab.valOf P (Op.equal t .nilIface .nilIface) = some true:=equal_nilI hu;have hg:∀ op,Ab.valOf P (eqGuard op t xo (.const c0) .nilIface .nilIface) = some ():=by
     intro op;unfold eqGuard;cases op <;> cases xo <;> rfl
    unfold vbin;simp only [V.toVal];rcases hop with rfl | rfl
    ·rw [valOf_bind,hg];simp only [Option.bind_some];show ((Ab.valOf P (Op.equal t .nilIface .nilIface >>= λb=>(pure (Value.bool b):Sem Value))).map ofVal) = _;rw [valOf_bind,he]; rfl
    ·rw [valOf_bind,hg];simp only [Option.bind_some];show ((Ab.valOf P (Op.equal t .nilIface .nilIface >>= λb=>(pure (Value.bool (!b)):Sem Value))).map ofVal) = _;rw [valOf_bind,he]; rfl
   ·unfold vbin;simp only [V.toVal,Option.map_none,hu,notNil,if_true];rcases hop with rfl | rfl <;> rfl
  split at h
  ·rename_i ms hu;exact fin2 ⟨_,_,h,hv .eql ms (.inl rfl) hu,by simp [RV,RTy]⟩
  ·rename_i ms hu;exact fin2 ⟨_,_,h,hv .neq ms (.inr rfl) hu,by simp [RV,RTy]⟩
  ·cases h
 ·simp only [RVL] at hx; obtain ⟨v,m,rfl,h1,v2,m2,rfl,h2,rfl⟩:=hx;exact fin2 (tbin_ok h1 h2 h)
 ·simp only [RVL] at hx; obtain ⟨v,m,rfl,h1,rfl⟩:=hx;exact fin h λz hz=>tun_ok h1 hz
 ·simp only [RVL] at hx; obtain ⟨v,m,rfl,h1,rfl⟩:=hx;exact fin2 (tconv_ok h1 h)
 ·refine ⟨_,none,_,none,h,rfl,?_,rfl⟩;simp only [RV];exact ⟨_,_,rfl,hx.take _,hx.drop _⟩
 ·simp only [RVL] at hx; obtain ⟨v,m,rfl,h1,v2,m2,rfl,h2,rfl⟩:=hx;exact fin2 (tmakeSlice_ok h1 h2 h)
 ·rename_i t a lo hi mx x rest;simp only [RVL] at hx; obtain ⟨v,m,rfl,h1,h2⟩:=hx;have hhead:∀ {l:List TV} {l':List V},RVL l l'->RVO l.head? l'.head?:=λ{l l'} h=>by
   cases l with
   | nil=>simp only [RVL] at h; subst h; trivial
   | cons y l=>simp only [RVL] at h; obtain ⟨u,n,rfl,h3,_⟩:=h; exact h3
  have htail:∀ {l:List TV} {l':List V},RVL l l'->RVL l.tail l'.tail:=λ{l l'} h=>by
   rw [<- List.drop_one,<- List.drop_one]; exact h.drop 1
  have hr1:RVL (if lo.isSome = true then rest.tail else rest) (if lo.isSome = true then m.tail else m):=by
   split
   ·exact htail h2
   ·exact h2
  have hr2:RVL (if hi.isSome = true then (if lo.isSome = true then rest.tail else rest).tail else (if lo.isSome = true then rest.tail else rest)) (if hi.isSome = true then (if lo.isSome = true then m.tail else m).tail else (if lo.isSome = true then m.tail else m)):=by
   split
   ·exact htail hr1
   ·exact hr1
  have ho:∀ {q:Bool} {l:List TV} {l':List V},RVL l l'->RVO (if q = true then l.head? else none) (if q = true then l'.head? else none):=λ{q l l'} h=>by
   split
   ·exact hhead h
   ·trivial
  split at h
  ·obtain ⟨y,u,hk,hv,hr⟩:=tsliceR_ok h1 (ho h2) (ho hr1) (ho hr2) h;exact fin2 ⟨y,u,hk,hv,hr⟩
  ·obtain ⟨y,u,hk,hv,hr⟩:=tslice_ok h1 (ho h2) (ho hr1) (ho hr2) h;exact fin2 ⟨y,u,hk,by rw [hv]; rfl,hr⟩
 ·simp only [RVL] at hx; obtain ⟨v,m,rfl,h1,rfl⟩:=hx;exact fin h λz hz=>tfieldAddr_ok hz h1
 ·simp only [RVL] at hx; obtain ⟨v,m,rfl,h1,rfl⟩:=hx;exact fin h λz hz=>tfield_ok hz h1
 ·simp only [RVL] at hx; obtain ⟨v,m,rfl,h1,rfl⟩:=hx;obtain ⟨y,u,hk,hu,hr⟩:=tarrayAt_ok h h1;exact fin2 ⟨y,u,hk,hu,hr⟩
 ·simp only [RVL] at hx; obtain ⟨v,m,rfl,h1,v2,m2,rfl,h2,rfl⟩:=hx;simp only [RV,RTy] at h2; subst h2;obtain ⟨y,u,hk,hu,hr⟩:=tindexAddr_ok h h1;exact fin2 ⟨y,u,hk,hu,hr⟩
 ·simp only [RVL] at hx; obtain ⟨v,m,rfl,h1,v2,m2,rfl,h2,rfl⟩:=hx;simp only [RV,RTy] at h2; subst h2;split at h
  ·rename_i len elem cs hu;simp only [RV] at h1; obtain ⟨cs',rfl,hc⟩:=h1;obtain ⟨y,u,hk,hv,hr⟩:=tindex_ok hu h hc;exact fin2 ⟨y,u,hk,hv,hr⟩
  ·rename_i o s hu;simp only [RV,RTy] at h1; subst h1;obtain ⟨b,hb',hk⟩:=Option.bind_eq_some_iff.1 h;obtain ⟨h0,hi⟩:=idx_some hb';refine fin2 ⟨_,.val (.int .u8 b.toNat),hk,?_,by simp [RV,RTy]⟩;simp only [vindex,hu];rw [if_pos h0];have key:∀ j:Nat,s[j]? = some b->(⟨s.toArray⟩:ByteArray)[j]? = some b:=λj hj=>by
    have hlt:=(List.getElem?_eq_some_iff.1 hj).1;rw [getElem?_pos (⟨s.toArray⟩:ByteArray) j (by simpa [ByteArray.size] using hlt)];have:=(List.getElem?_eq_some_iff.1 hj).2;simp only [Option.some.injEq];rw [<- this];rfl
   rw [key _ hi];rfl
  ·cases h
 ·simp only [RVL] at hx; obtain ⟨v,m,rfl,h1,rfl⟩:=hx;simp only [RV] at h1; obtain ⟨l',rfl,hl⟩:=h1;exact fin h λz hz=>hl.get hz
 ·exact fin2 (tbuiltin_ok hx h)
 ·cases h
end Go.Tx
end
