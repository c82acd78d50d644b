/-
  ONE LAW OF A CHAPTER: its program side is run by an interpreter that is proved sound; what it computes is shown to be what the law says. No conditions. Part 4 of 9.
-/
import Derived.Test.YteiciemjanhdcaaGreatDoorMstc
import Ieee.Arith
import Derived.Laws.ComplexArith
import Derived.Laws.Strings
set_option linter.unusedSimpArgs false
set_option linter.unusedVariables false
set_option linter.unnecessarySimpa false
section
namespace Go.Tx
open Go Go.Ab
inductive Ty where
 | int (k:IntKind)
 | bool
 | str
 /-- whole numbers asz floats,and asz complex numbers -/
 | flt
 | cx
 /-- an error: is it nil? -/
 | err
 /-- what lies in a map's box: a set of keys -/
 | mset (t:Ty)
 | sl (t:Ty)
 | unit
 | pair (a b:Ty)
 deriving DecidableEq
@[reducible] def Ty.den:Ty->Type
 | .int _=>Int
 | .bool=>Bool
 | .str=>List UInt8
 | .flt=>Int
 | .cx=>Int × Int
 | .err=>Bool
 | .mset t=>List t.den
 | .sl t=>List t.den
 | .unit=>Unit
 | .pair a b=>a.den × b.den
def Ty.depth:Ty->Nat
 | .sl t=>t.depth + 1
 | .pair a b=>max a.depth b.depth
 | _=>0
def Ty.one:Ty->Bool
 | .unit | .pair .. | .mset _=>false
 | _=>true
def Ty.qbx:Ty->Nat
 | .unit=>0
 | .pair _ b=>b.qbx + 1
 | _=>1
def Ty.isSet:Ty->Bool
 | .mset _=>true
 | .pair a b=>a.isSet || b.isSet
 | _=>false
def Ty.qoH:Ty->Bool
 | .unit=>true
 | .pair a b=>a.one && b.qoH
 | _=>false
def Ty.qcq:Ty->Bool
 | .unit=>true
 | .mset _=>false
 | .pair a b=>a.one && b.qoH
 | _=>true
def Ty.ok:Ty->Bool
 | .sl t=>t.qcq && t.ok
 | .pair a b=>a.one && a.ok && b.qoH && b.ok
 | _=>true
def qbl (o:Nat):Bool:=!(decide (o = 0) || (decide (o = 1000) || decide (o = 2000)))
def nx (o:Nat):Nat:=if qbl o then o - 1 else o
def dl (o:Nat):Nat:=if o = 1000 then 1000 else 0
def lo (o:Nat):Nat:=if 1000<=o/\o < 2000 then o - 1000 else o
def sure (o d:Nat):Bool:=if o < 1000 then decide (d<=o) else if o < 2000 then true else decide (d<=o - 2000)
def nf (o d:Nat):Nat:=if o < 1000 then min o d else o
def fits:Nat->Nat->Nat->Bool
 | 0,_,_=>true
 | d + 1,o',o=>decide (o = 2000) || ((qbl o' == qbl o) && !decide (o' = 2000) && (!decide (o = 1000) || decide (o' = 1000)) && fits d (nx o') (nx o))
inductive TV where
 | any (rs:List Root)
 | t (τ:Ty) (own:Nat) (x:τ.den)
 | clp (τ:Ty) (x:List τ.den)
 /-- room for elements of so many cells: 0: none there; 1: some of which nothing is known; 2: gone -/
 | room (a s:Nat)
 | empty (o:Nat)
 | val (v:Value)
 | agg (l:List TV)
 | tuple (l:List TV)
 | fn (g:FuncId) (first cap:List TV)
 | ptr (r:Root) (off:Nat)
 /-- to cells: surely frozen? -/
 | cptr (sh:Bool) (l:List TV)
 | iface (t:TypeId) (v:TV)
 | mref (r:Root)
 /-- a slice of a box's cells -/
 | bsl (r:Root) (off n:Nat)
 /-- what a function is handed to call at each round of a loop; the loop's record (a box's one cell) -/
 | yld (r:Root)
 | lp (state:LoopState) (pend:Option Code) (f:FuncId) (env:List TV) (params:List Tmp) (assign body:Code)
instance:Inhabited TV:=⟨.any []⟩
structure Env where
 n:Nat
 t:Tr TV
noncomputable def Env.get (e:Env) (i:Nat):TV:=Env.rec (motive:=λ_=>TV) (λn t=>Bool.rec (motive:=λ_=>TV) (.any []) (t.get (.any []) i) (Nat.ble (Nat.succ i) n)) e
noncomputable def Env.set (e:Env) (i:Nat) (v:TV):Env:=Env.rec (motive:=λ_=>Env) (λn t=>⟨n,t.set (.any []) i v⟩) e
noncomputable def Env.qvC (f:Nat->TV->TV) (e:Env):Env:=Env.rec (motive:=λ_=>Env) (λn t=>⟨n,t.qvC (.any []) n f 1 0⟩) e
noncomputable def Env.all (p:Nat->TV->Bool) (e:Env):Bool:=e.t.allI p 1 0
noncomputable def Env.mask (p:TV->Bool) (e:Env):Mask:=⟨e.t.qyB p 1 0⟩
noncomputable def qt9:List TV->Nat->Tr TV->Tr TV
 | [],_,t=>t
 | v :: l,i,t=>qt9 l (i + 1) (t.set (.any []) i v)
noncomputable def Env.qhs (args:List TV) (n:Nat):Env:=⟨args.length + (n - args.length),qt9 args 0 .nil⟩
noncomputable def Env.toL (e:Env):List TV:=(List.range e.n).map λi=>e.t.get (.any []) i
noncomputable def qep (D:Mask) (rs:Nat->List Root) (e:Env):Env:=e.qvC λi v=>Bool.rec (motive:=λ_=>TV) v (.any (rs i)) (D.has i)
def TV.cells:TV->List TV
 | .agg l=>l
 | v=>[v]
def TV.one:TV->Bool
 | .any _ | .agg _ | .tuple _ | .room .. | .lp ..=>false
 | .t τ _ _=>τ.one
 | .val u=>match u with
  | .agg _=>false
  | .tuple _=>false
  | _=>true
 | _=>true
def TV.oks (x:TV):Bool:=x.cells.all TV.one
mutual
def TV.qaj:TV->TV
 | .any rs=>.any rs
 | .t τ o x=>.t τ (dl o) x
 | .clp τ x=>.clp τ x
 | .room a s=>match a with
  | 0=>.empty 0
  | _ + 1=>.room 2 s
 | .empty o=>.empty (dl o)
 | .val v=>.val v
 | .agg l=>.agg (dullL l)
 | .tuple l=>.tuple (dullL l)
 | .fn g a b=>.fn g (dullL a) (dullL b)
 | .ptr r o=>.ptr r o
 | .mref r=>.mref r
 | .bsl r o n=>.bsl r o n
 | .yld r=>.yld r
 | .lp s pe f env ps a b=>.lp s pe f env ps a b
 | .cptr s l=>.cptr s (dullL l)
 | .iface t v=>.iface t v.qaj
def dullL:List TV->List TV
 | []=>[]
 | v :: l=>v.qaj :: dullL l
end
mutual
/-- what is handed to a function without boxes: never to be written again -/
def TV.share:TV->TV
 | .any rs=>.any rs
 | .t τ _ x=>.t τ 1000 x
 | .clp τ x=>.t (.sl τ) 1000 x
 | .room a s=>match a with
  | 0=>.empty 1000
  | _ + 1=>.room 2 s
 | .empty _=>.empty 1000
 | .val v=>.val v
 | .agg l=>.agg (shareL l)
 | .tuple l=>.tuple (shareL l)
 | .fn g a b=>.fn g (shareL a) (shareL b)
 | .ptr r o=>.ptr r o
 | .mref r=>.mref r
 | .bsl r o n=>.bsl r o n
 | .yld r=>.yld r
 | .lp s pe f env ps a b=>.lp s pe f env ps a b
 | .cptr _ l=>.cptr true (shareL l)
 | .iface t v=>.iface t v.share
def shareL:List TV->List TV
 | []=>[]
 | v :: l=>v.share :: shareL l
end
mutual
def TV.qbk:TV->TV
 | .any rs=>.any rs
 | .t τ o x=>.t τ (lo o) x
 | .clp τ x=>.clp τ x
 | .room a s=>.room a s
 | .empty o=>.empty (lo o)
 | .val v=>.val v
 | .agg l=>.agg (loosenL l)
 | .tuple l=>.tuple (loosenL l)
 | .fn g a b=>.fn g (loosenL a) (loosenL b)
 | .ptr r o=>.ptr r o
 | .mref r=>.mref r
 | .bsl r o n=>.bsl r o n
 | .yld r=>.yld r
 | .lp s pe f env ps a b=>.lp s pe f env ps a b
 | .cptr _ l=>.cptr false (loosenL l)
 | .iface t v=>.iface t v.qbk
def loosenL:List TV->List TV
 | []=>[]
 | v :: l=>v.qbk :: loosenL l
end
mutual
def TV.qx:TV->List Root
 | .any rs=>rs
 | .ptr r _=>[r]
 | .mref r=>[r]
 | .bsl r _ _=>[r]
 | .yld r=>[r]
 | .lp _ _ _ env _ _ _=>ptrsTL env
 | .cptr _ cs=>ptrsTL cs
 | .fn _ a b=>ptrsTL a ++ ptrsTL b
 | .iface _ v=>v.qx
 | .agg l=>ptrsTL l
 | .tuple l=>ptrsTL l
 | _=>[]
def ptrsTL:List TV->List Root
 | []=>[]
 | v :: l=>v.qx ++ ptrsTL l
end
mutual
/-- may it hold an owner? -/
def TV.owns:TV->Bool
 | .any _=>true
 | .t τ o _=>(qbl o || decide (o = 2000)) && decide (0 < τ.depth)
 | .room ..=>true
 | .empty o=>qbl o || decide (o = 2000)
 | .fn _ a b=>ownsTL a || ownsTL b
 | .cptr _ l=>ownsTL l
 | .iface _ v=>v.owns
 | .agg l=>ownsTL l
 | .tuple l=>ownsTL l
 | _=>false
def ownsTL:List TV->Bool
 | []=>false
 | v :: l=>v.owns || ownsTL l
end
mutual
/-- is all of it known? -/
def TV.known:TV->Bool
 | .any _=>false
 | .lp _ _ _ env _ _ _=>knownL env
 | .fn _ a b=>knownL a && knownL b
 | .cptr _ l=>knownL l
 | .iface _ _=>false
 | .agg l=>knownL l
 | .tuple l=>knownL l
 | _=>true
def knownL:List TV->Bool
 | []=>true
 | v :: l=>v.known && knownL l
end
mutual
/-- surely without elements that somebody may write -/
def TV.firm:TV->Bool
 | .any _=>false
 | .room ..=>false
 | .t τ o _=>sure o τ.depth
 | .clp _ _=>false
 | .fn _ a b=>firmL a && firmL b
 | .cptr s l=>s && firmL l
 | .iface _ v=>v.firm
 | .agg l=>firmL l
 | .tuple l=>firmL l
 | _=>true
def firmL:List TV->Bool
 | []=>true
 | v :: l=>v.firm && firmL l
end
mutual
/-- surely without anything that belongs to others -/
def TV.tight:TV->Bool
 | .any _=>false
 | .room ..=>false
 | .t τ o _=>sure o τ.depth
 | .empty o=>sure o 1
 | .clp _ _=>false
 | .fn _ a b=>tightL a && tightL b
 | .cptr s l=>s && tightL l
 | .iface _ v=>v.tight
 | .agg l=>tightL l
 | .tuple l=>tightL l
 | _=>true
def tightL:List TV->Bool
 | []=>true
 | v :: l=>v.tight && tightL l
end
def TV.isAny:TV->Bool
 | .any _=>true
 | _=>false
def TV.qeM (x:TV):TV:=if x.firm then x else .any x.qx
def qsv (k:IntKind):List TV->Option (List Int)
 | []=>some []
 | .t (.int k') _ x :: l=>if k' = k then (qsv k l).map λm=>x :: m else none
 | _ :: _=>none
section
variable (bx:Root->Option (List TV))
mutual
/-- a copy for looking at: pointers to boxes lead to frozen cells -/
def peekTV:TV->Option TV
 | .ptr r off=>match bx r with
  | some c=>if off<=c.length/\r.slot < 16384 then some (.cptr true (shareL (c.drop off))) else none
  | none=>none
 | .fn g a b=>match peekTL a,peekTL b with
  | some x,some y=>some (.fn g x y)
  | _,_=>none
 | .iface t v=>(peekTV v).map (.iface t)
 | .agg l=>(peekTL l).map .agg
 | .tuple l=>(peekTL l).map .tuple
 | .cptr _ cs=>some (.cptr true (shareL cs))
 | .t τ _ x=>bif τ.isSet then none else some (.t τ 1000 x)
 | .mref _=>none
 | .bsl r off n=>match bx r with
  | some c=>if off + n<=c.length/\r.slot < 16384 then (qsv .i64 ((c.drop off).take n)).map λl=>.t (.sl (.int .i64)) 1000 l else none
  | none=>none
 | .clp τ x=>some (.t (.sl τ) 1000 x)
 | .room ..=>none
 | .empty _=>some (.empty 1000)
 | .val v=>some (.val v)
 | .any _=>none
 | .yld _=>none
 | .lp ..=>none
def peekTL:List TV->Option (List TV)
 | []=>some []
 | v :: l=>match peekTV v,peekTL l with
  | some x,some xs=>some (x :: xs)
  | _,_=>none
end
end
def qsN:Ty->Nat->Bool
 | .sl t,o=>qbl o && qsN t (nx o)
 | .pair a b,o=>qsN a o && qsN b o
 | .mset _,_=>false
 | _,_=>true
mutual
def TV.qc2:TV->Bool
 | .t τ o _=>qsN τ o
 | .empty o=>qbl o
 | .val _=>true
 | .fn _ a b=>mineTL a && mineTL b
 | .iface _ v=>v.qc2
 | .agg l=>mineTL l
 | .tuple l=>mineTL l
 | _=>false
def mineTL:List TV->Bool
 | []=>true
 | v :: l=>v.qc2 && mineTL l
end
mutual
def ofTy:(τ:Ty)->Nat->τ.den->TV
 | .unit,_,_=>.agg []
 | .pair a b,o,x=>.agg (ofTy a o x.1 :: ofTyC b o x.2)
 | .int k,o,x=>.t (.int k) o x
 | .bool,o,x=>.t .bool o x
 | .str,o,x=>.t .str o x
 | .flt,o,x=>.t .flt o x
 | .cx,o,x=>.t .cx o x
 | .err,o,x=>.t .err o x
 | .mset t,o,x=>.t (.mset t) o x
 | .sl t,o,x=>.t (.sl t) o x
def ofTyC:(τ:Ty)->Nat->τ.den->List TV
 | .pair a b,o,x=>ofTy a o x.1 :: ofTyC b o x.2
 | _,_,_=>[]
end
def cast' {τ τ':Ty} (h:τ' = τ) (x:τ'.den):τ.den:=h ▸ x
def qhu:(τ:Ty)->Nat->TV->Option τ.den
 | .unit,_,.agg []=>some ()
 | .pair a b,o,.agg (v :: l)=>(qhu a o v).bind λx=>(qhu b o (.agg l)).bind λy=>some (x,y)
 | .sl _,o,.empty o'=>if fits 1 o' o = true then some [] else none
 | τ,o,.t τ' o' x=>if h:τ' = τ then (if fits τ.depth o' o = true then some (cast' h x) else none) else none
 | _,_,_=>none
@[reducible] def denL:List Ty->Type
 | []=>Unit
 | [τ]=>τ.den
 | τ :: τ' :: l=>τ.den × denL (τ' :: l)
def asL:(ps:List (Ty × Nat))->List TV->Option (denL (ps.map (·.1)))
 | [],[]=>some ()
 | [(τ,o)],[v]=>qhu τ o v
 | (τ,o) :: q :: ps,v :: l=>(qhu τ o v).bind λx=>(asL (q :: ps) l).bind λy=>some (x,y)
 | _,_=>none
def ofL:(ps:List (Ty × Nat))->denL (ps.map (·.1))->List TV
 | [],_=>[]
 | [(τ,o)],x=>[ofTy τ o x]
 | (τ,o) :: q :: ps,x=>ofTy τ o x.1 :: ofL (q :: ps) x.2
def idx {α:Type} (l:List α) (n:Int):Option α:=if 0<=n then l[n.toNat]? else none
def app {α:Type} (l l2:List α):Option (List α):=if l.length + l2.length<=4294967296 then some (l ++ l2) else none
def slc {α:Type} (l:List α) (lo hi:Int):Option (List α):=if 0<=lo/\lo<=hi/\hi<=l.length then some ((l.take hi.toNat).drop lo.toNat) else none
def mkS {α:Type} (z:α) (n:Int):Option (List α):=if 0<=n/\n<=4294967296 then some (List.replicate n.toNat z) else none
def qi2 {σ ρ:Type} (f:σ->Option (σ ⊕ ρ)):Nat->σ->Option ρ
 | 0,_=>none
 | n + 1,s=>match f s with
  | some (.inl s')=>qi2 f n s'
  | some (.inr r)=>some r
  | none=>none
open Classical in
noncomputable def qab {σ ρ:Type} (f:σ->Option (σ ⊕ ρ)) (s:σ):Option ρ :=
 if h:∃ n r,qi2 f n s = some r then some (Classical.choose (Classical.choose_spec h)) else none
abbrev qT:=List (Nat × Option (List TV))
structure TSt where
 E:Env
 L:List qT
 B:qT
 /-- what was written: temporaries,boxes -/
 Wt:Mask
 Wb:List Root
def q7:qT->Nat->Option (Option (List TV))
 | [],_=>none
 | (k,c) :: l,s=>if k = s then some c else q7 l s
def qwb:qT->Nat->Option (List TV)->qT
 | [],_,_=>[]
 | (k,c) :: l,s,c'=>if k = s then (k,c') :: l else (k,c) :: qwb l s c'
def isRec:List TV->Bool
 | .lp .. :: _=>true
 | _=>false
def qog (b:qT):Bool:=b.all λp=>match p.2 with
 | some c=>!isRec c
 | none=>true
def TSt.cont (st:TSt) (r:Root):Option (List TV) :=
 match if r.lvl = st.L.length then q7 st.B r.slot else match st.L[r.lvl]? with | some b=>q7 b r.slot | none=>none with
 | some (some c)=>some c
 | _=>none
def TSt.box (st:TSt) (r:Root):Option (List TV) :=
 match st.cont r with
 | some c=>if isRec c then none else some c
 | none=>none
def TSt.qv (st:TSt) (r:Root) (c:List TV):TSt :=
 if r.lvl = st.L.length then { st with B:=qwb st.B r.slot (some c),Wb:=r :: st.Wb }
 else { st with L:=st.L.modify r.lvl λb=>qwb b r.slot (some c),Wb:=r :: st.Wb }
noncomputable def TSt.put (st:TSt) (d:Option Tmp) (v:TV):TSt :=
 match d with
 | some t=>{ st with E:=st.E.set t v,Wt:=Mask.ins t st.Wt }
 | none=>st
def qmy (precise:Bool):Value->TV
 | .int k n=>.t (.int k) 0 n
 | .bool b=>.t .bool 0 b
 | .string s=>.t .str 0 s.data.toList
 | .float .f64 0=>.t .flt 0 0
 | .complex .f64 0 0=>.t .cx 0 (0,0)
 | .slice none 0 0=>if precise then .val (.slice none 0 0) else .empty 1
 | v=>.val v
def qnX (precise:Bool):Value->TV
 | .agg cs=>.agg (cs.toList.map (qmy precise))
 | v=>qmy precise v
structure Place where
 /-- none: a temporary; else the box's level -/
 lvl:Option Nat
 slot:Nat
 cell:Nat
structure Join where
 lv:List Place
 ps:List (Ty × Nat)
 abn:Bool:=false
 /-- temporaries and boxes that are forgotten; what boxes these may point to -/
 D:Mask
 wr:List Root:=[]
 rs:List Root:=[]
 /-- what forgotten boxes point to -/
 rb:List Root:=[]
 /-- temporaries that point nowhere when they are forgotten -/
 Dn:Mask:=.empty
 /-- temporaries that were written,but point where they pointed -/
 kp:List (Tmp × Root × Nat):=[]
noncomputable def Join.qzS (j:Join) (t:Nat):List Root:=Bool.rec (motive:=λ_=>List Root) j.rs [] (j.Dn.has t)
inductive Kind where
 | loop (id:Nat) | block (id:Nat) | cond (t:Tmp) | region (id:Nat) | inl (d:Tmp)
 deriving DecidableEq
structure TH where
 /-- library functions: never run in place -/
 lib:FuncId->Bool:=λ_=>false
 join:List Tmp->FuncId->Kind->Option Join
 inl:List Tmp->FuncId->Tmp->Bool
abbrev qss:=FuncId->List TV->(R:Type)->(TV->Option R)->Option R
section
variable (P:Program) (H:Hints) (f:FuncId)
def qb3:Nat->TypeId->Option (List Ty)
 | 0,_=>none
 | d + 1,t=>match P.underlying t with
  | some (.int k)=>some [.int k]
  | some .bool=>some [.bool]
  | some .string=>some [.str]
  | some (.float .f64)=>some [.flt]
  | some (.complex .f64)=>some [.cx]
  | some (.slice e)=>match qb3 d e,P.underlying e with
   | some cs,some (.struct _)=>some [.sl (cs.foldr .pair .unit)]
   | some cs,some (.array ..)=>some [.sl (cs.foldr .pair .unit)]
   | some [τ],_=>some [.sl τ]
   | _,_=>none
  | some (.struct fields)=>(fields.toList.mapM λfd=>qb3 d fd.type).map List.flatten
  | some (.array n e)=>(qb3 d e).map λcs=>(List.replicate n cs).flatten
  | _=>none
def qCR (t:TypeId):Option Ty :=
 match qb3 P 10 t with
 | some cs=>if qY P t then some (cs.foldr .pair .unit) else cs.head?
 | none=>none
def qba (t:TypeId) (cs:List TV):Option TV :=
 match P.underlying t with
 | none=>none
 | some _=>if qY P t then (if P.cellsOf t<=cs.length then some (.agg (cs.take (P.cellsOf t))) else none) else cs.head?
def qtz (t:TypeId):Option TV:=((P.info? t).bind (·.zero)).map (qnX (H.precise f))
def qmg (cs:List TV) (off:Nat) (vs:List TV):List TV:=cs.take off ++ vs ++ cs.drop (off + vs.length)
def qtK (place:Nat->Option (Nat × Nat)) (cs:List TV):List (Nat × TV)->Option (List TV)
 | []=>some cs
 | (i,v) :: rest =>
  match place i with
  | none=>none
  | some (off,size)=>if v.cells.length ≠ size\/off + v.cells.length > cs.length\/v.oks = false then none else qtK place (qmg cs off v.cells) rest
def qzz (t:TypeId) (parts:List (Nat × TV)):Option TV :=
 match qtz P H f t,P.underlying t with
 | some z,some (.struct fields) =>
  match fields.toList.mapM (λf=>(P.info? f.type).map λi=>(f.offset,i.size)) with
  | some places=>(qtK (places.toArray[·]?) z.cells parts).map .agg
  | none=>none
 | some z,some (.array _ elem) =>
  match P.info? elem with
  | some ie=>(qtK (λi=>some (i * ie.size,ie.size)) z.cells parts).map .agg
  | none=>none
 | _,_=>none
def qmI (agg:Bool) (s:Nat):Nat->List TV->List TV
 | 0,_=>[]
 | n + 1,cs=>(if agg then .agg (cs.take s) else cs.headD (.any [])) :: qmI agg s n (cs.drop s)
mutual
/-- the level of ownership of the slices in it: asz its first slice has it -/
def TV.lev:TV->Option Nat
 | .t τ o _=>if τ.depth = 0 then none else some (nf o τ.depth)
 | .empty o=>if qbl o then none else some o
 | .agg l=>levL l
 | _=>none
def levL:List TV->Option Nat
 | []=>none
 | v :: l=>match v.lev with
  | some n=>some n
  | none=>levL l
end
mutual
def TV.hasEmpty:TV->Bool
 | .empty _=>true
 | .agg l=>hasEmptyL l
 | _=>false
def hasEmptyL:List TV->Bool
 | []=>false
 | v :: l=>v.hasEmpty || hasEmptyL l
end
def qxL (l:List TV):Nat:=(levL l).getD (if hasEmptyL l then 1 else 0)
def qz2 (τ:Ty) (o:Nat):List TV->Option (List τ.den)
 | []=>some []
 | v :: l=>(qhu τ o v).bind λx=>(qz2 τ o l).bind λy=>some (x :: y)
def qjt (t:TypeId) (len:Nat) (parts:List (Nat × TV)):Option TV :=
 match P.underlying t with
 | some (.slice elem) =>
  match P.info? elem,qtz P H f elem,qCR P elem with
  | some ie,some z,some τ =>
   if ie.size = 0\/(qY P elem = false/\ie.size ≠ 1)\/z.cells.length ≠ ie.size\/len * ie.size > 16777216\/τ.ok = false\/τ.qcq = false then none else
   match qtK (λi=>some (i * ie.size,ie.size)) ((List.replicate len z.cells).flatten) parts with
   | some cs=>if cs.all TV.one && (ptrsTL cs).isEmpty && qbl (qxL (qmI (qY P elem) ie.size len cs) + 1) then
     (qz2 τ (qxL (qmI (qY P elem) ie.size len cs)) (qmI (qY P elem) ie.size len cs)).map λl=>.t (.sl τ) (qxL (qmI (qY P elem) ie.size len cs) + 1) l else none
   | none=>none
  | _,_,_=>none
 | _=>none
def qAj (t:TypeId) (x:TV) (fd:Nat):Option TV :=
 match P.underlying t,x with
 | some (.struct fields),.agg cs =>
  match fields[fd]? with
  | some d=>qba P d.type (cs.drop d.offset)
  | none=>none
 | _,_=>none
def qlH (t:TypeId) (x:TV) (fd:Nat):Option TV :=
 match P.underlying t with
 | some (.struct fields) =>
  match fields[fd]? with
  | some d=>if P.cellsOf d.type = 0 then none else
   match x with
   | .ptr r off=>some (.ptr r (off + d.offset))
   | .cptr s cs=>if d.offset<=cs.length then some (.cptr s (cs.drop d.offset)) else none
   | _=>none
  | none=>none
 | _=>none
def qD9 (R:Type) (i:Int) (k:Nat->Option R):Nat->Nat->Option R
 | 0,_=>none
 | n + 1,j=>bif decide (i = (j:Int)) then k j else qD9 R i k n (j + 1)
def qAB (elem:TypeId) (len:Nat) (cs:List TV) (i:Int) (R:Type) (k:TV->Option R):Option R :=
 if P.cellsOf elem = 0 then none else
 qD9 R i (λj=>match qba P elem (cs.drop (j * P.cellsOf elem)) with
  | some v=>k v
  | none=>none) len 0
def ql2 (t:TypeId) (x:TV) (i:Int) (R:Type) (k:TV->Option R):Option R :=
 match P.underlying t,x with
 | some (.array len elem),.ptr r off=>if P.cellsOf elem = 0 then none else qD9 R i (λj=>k (.ptr r (off + j * P.cellsOf elem))) len 0
 | some (.array len elem),.cptr s cs=>if P.cellsOf elem = 0 then none else qD9 R i (λj=>if j * P.cellsOf elem<=cs.length then k (.cptr s (cs.drop (j * P.cellsOf elem))) else none) len 0
 | some (.slice elem),.t (.sl τ) o l=>if P.cellsOf elem = τ.qbx/\τ.qbx ≠ 0/\τ.ok = true/\τ.qcq = true then (idx l i).bind λe=>k (.cptr (decide (o = 1000)) (ofTy τ (dl (nx o)) e).cells) else none
 | some (.slice elem),.clp τ l=>if P.cellsOf elem = τ.qbx/\τ.qbx ≠ 0/\τ.ok = true/\τ.qcq = true then (idx l i).bind λe=>k (.cptr false (ofTy τ 0 e).cells) else none
 | _,_=>none
def qEN {α:Type} (R:Type) (mk:α->TV) (l:List α):Nat->Nat->List TV->(List TV->Option R)->Option R
 | 0,_,acc,k=>k acc
 | n + 1,i,acc,k=>(idx l (i:Int)).bind λe=>qEN R mk l n (i + 1) (acc ++ [mk e]) k
def qr8 (t:TypeId) (x:TV) (R:Type) (k:TV->Option R):Option R :=
 match P.underlying t,x with
 | some (.array n _),.t (.sl (.int kk)) o l=>if n = 0 then none else qEN R (λe:Int=>.t (.int kk) 0 e) l n 0 [] λcs=>k (.cptr (decide (o = 1000)) cs)
 | _,_=>none
def flo (n:Int):Option Int:=if n.natAbs < 9007199254740992 then some n else none
def qF9 (k:IntKind) (a b:Int):Option Int:=if 0<=b then some (k.wrap (a * 2 ^ (min b.toNat k.bits))) else none
def qFG (k:IntKind) (a b:Int):Option Int:=if 0<=b then some (a.fdiv (2 ^ (min b.toNat k.bits))) else none
def qFA (k:IntKind) (a b:Int):Int:=k.wrap (BitVec.ofInt k.bits a &&& BitVec.ofInt k.bits b).toNat
def orI (k:IntKind) (a b:Int):Int:=k.wrap (BitVec.ofInt k.bits a ||| BitVec.ofInt k.bits b).toNat
def qFy (k:IntKind) (a b:Int):Int:=k.wrap (BitVec.ofInt k.bits a ^^^ BitVec.ofInt k.bits b).toNat
def qrg (k:IntKind) (a b:Int):Int:=k.wrap (BitVec.ofInt k.bits a &&& ~~~ BitVec.ofInt k.bits b).toNat
def qxu:TV->Option Int
 | .t (.int _) _ n=>some n
 | _=>none
def qzn (t:TypeId) (x:TV) (lo hi mx:Option TV) (R:Type) (k:TV->Option R):Option R :=
 let lo':Option Int:=match lo with | none=>some 0 | some v=>qxu v
 match P.underlying t,x with
 | some (.slice elem),.t (.sl τ) o l =>
  if qbl o = true\/o = 2000\/P.cellsOf elem = 0\/P.cellsOf elem ≠ τ.qbx\/τ.ok = false\/τ.qcq = false then none else
  match lo',(match hi with | none=>some (l.length:Int) | some v=>qxu v) with
  | some a,some b =>
   match mx with
   | none=>(slc l a b).bind λl'=>k (.t (.sl τ) o l')
   | some m=>match qxu m with
    | some c=>if hi.isSome then (slc l a b).bind λl'=>bif decide (c = b) then k (.clp τ l') else none else none
    | none=>none
  | _,_=>none
 | some (.slice elem),.empty o =>
  if qbl o = true\/o = 2000\/P.cellsOf elem = 0 then none else
  match lo',(match hi with | none=>some 0 | some v=>qxu v),mx with
  | some a,some b,none=>bif decide (a = 0) && decide (b = 0) then k (.empty o) else none
  | _,_,_=>none
 | some .string,.t .str _ s =>
  match lo',(match hi with | none=>some (s.length:Int) | some v=>qxu v),mx with
  | some a,some b,none=>(slc s a b).bind λl'=>k (.t .str 0 l')
  | _,_,_=>none
 | _,_=>none
def qvE (t:TypeId) (x:TV) (lo hi mx:Option TV) (R:Type) (k:TV->Option R):Option R :=
 match P.underlying t,x with
 | some (.slice elem),.val (.slice none 0 0) =>
  if P.cellsOf elem = 0 then none else
  match (match lo with | none=>some 0 | some v=>qxu v),(match hi with | none=>some 0 | some v=>qxu v),mx with
  | some a,some b,none=>bif decide (a = 0) && decide (b = 0) then k (.val (.slice none 0 0)) else none
  | _,_,_=>none
 | some (.slice elem),.room a s =>
  if P.cellsOf elem = 0\/2<=a then none else
  match lo,hi,mx with
  | none,some (.t (.int _) _ b),none=>bif decide (b = 0) then k (.room 0 s) else none
  | _,_,_=>none
 | some (.array n elem),.ptr r off=>if P.cellsOf elem = 1 then (match lo,hi,mx with
  | none,none,none=>k (.bsl r off n)
  | _,_,_=>none) else none
 | _,_=>none
def TV.bare:TV->Bool
 | .val (.slice none 0 0)=>true
 | .room ..=>true
 | .ptr ..=>true
 | _=>false
def qlL (t:TypeId) (len cap:TV) (R:Type) (k:TV->Option R):Option R :=
 match P.underlying t with
 | some (.slice elem) =>
  match qtz P H f elem,qCR P elem,qxu len,qxu cap with
  | some z,some τ,some n,some c =>
   if P.cellsOf elem ≠ 0/\z.cells.length = P.cellsOf elem/\z.oks = true/\P.bytesOf elem<=8192/\τ.ok = true/\τ.qcq = true/\qbl (qxL [z] + 1) = true then
    match qhu τ (qxL [z]) z with
    | some x=>(mkS x n).bind λl=>bif decide (c = n) then k (.t (.sl τ) (qxL [z] + 1) l) else none
    | none=>none
   else none
  | _,_,_,_=>none
 | _=>none
def tail? (yt:TypeDesc):TV->Option (Σ τ:Ty,Nat × List τ.den)
 | .t (.sl τ) o l=>match yt with
  | .slice _=>some ⟨τ,(nx o,l)⟩
  | _=>none
 | .clp τ l=>match yt with
  | .slice _=>some ⟨τ,(0,l)⟩
  | _=>none
 | .t .str _ s=>match yt with
  | .string=>some ⟨.int .u8,(0,s.map λc=>(c.toNat:Int))⟩
  | _=>none
 | _=>none
def quB (argTypes:Array TypeId) (x y:TV) (R:Type) (k:TV->Option R):Option R :=
 match (argTypes[0]?).bind P.underlying,(argTypes[1]?).bind P.underlying with
 | some (.slice elem),some yt =>
  match y with
  | .empty _=>(match yt,x with
   | .slice _,.t (.sl τ) o l=>if qbl o = true/\τ.qbx = P.cellsOf elem/\P.cellsOf elem ≠ 0/\((P.info? elem).bind (·.zero)).map (λz=>z.cells.size) = some (P.cellsOf elem)/\P.bytesOf elem<=8192/\τ.ok = true/\τ.qcq = true then (app l []).bind λl'=>k (.t (.sl τ) o l') else none
   | .slice _,.empty o=>if qbl o = true/\P.cellsOf elem ≠ 0/\((P.info? elem).bind (·.zero)).map (λz=>z.cells.size) = some (P.cellsOf elem)/\P.bytesOf elem<=8192 then k (.empty o) else none
   | _,_=>none)
  | y=>match tail? yt y with
  | none=>none
  | some ⟨τ,(o2,l2)⟩ =>
   if τ.qbx = P.cellsOf elem/\P.cellsOf elem ≠ 0/\((P.info? elem).bind (·.zero)).map (λz=>z.cells.size) = some (P.cellsOf elem)/\P.bytesOf elem<=8192/\τ.ok = true/\τ.qcq = true then
    match x with
    | .t (.sl τ') o l=>if h:τ' = τ then (if qbl o = true then (app (cast' (congrArg Ty.sl h) l:(Ty.sl τ).den) l2).bind λl'=>k (.t (.sl τ) (if fits τ.depth o2 (nx o) = true then o else 2001) l') else none) else none
    | .empty o=>if qbl o = true/\qbl (o2 + 1) = true then (app [] l2).bind λl'=>k (.t (.sl τ) (o2 + 1) l') else none
    | .clp τ' l=>if h:τ' = τ then (app (cast' (congrArg Ty.sl h) l:(Ty.sl τ).den) l2).bind λl'=>k (.t (.sl τ) 2000 l') else none
    | _=>none
   else none
 | _,_=>none
def qq7 (argTypes:Array TypeId) (x y:TV) (R:Type) (k:TV->Option R):Option R :=
 match (argTypes[0]?).bind P.underlying,(argTypes[1]?).bind P.underlying with
 | some (.slice elem),some yt =>
  if P.cellsOf elem ≠ 0/\((P.info? elem).bind (·.zero)).map (λz=>z.cells.size) = some (P.cellsOf elem)/\P.bytesOf elem<=8192 then
   match x,yt,y with
   | .val (.slice none 0 0),.int _,.t (.int .i64) _ n=>bif decide (0 < n) && decide (n<=4294967296) then k (.room 1 (P.cellsOf elem)) else none
   | x,yt,y=>match tail? yt y with
    | none=>none
    | some ⟨τ,(o2,l2)⟩ =>
     if τ.qbx = P.cellsOf elem/\τ.ok = true/\τ.qcq = true/\qbl (o2 + 1) = true then
      match x,y with
      | .val (.slice none 0 0),_=>bif List.isEmpty l2 then k (.val (.slice none 0 0)) else (app [] l2).bind λl'=>k (.t (.sl τ) (o2 + 1) l')
      | .room 0 s,.t ..=>if s = P.cellsOf elem then (match yt with
       | .slice _=>bif List.isEmpty l2 then k (.room 0 s) else (app [] l2).bind λl'=>k (.t (.sl τ) (o2 + 1) l')
       | _=>none) else none
      | _,_=>none
     else none
  else none
 | _,_=>none
def qxX:TV->Bool
 | .t (.int _) _ _ | .t .bool _ _ | .t .str _ _=>true
 | _=>false
def teq:Nat->TypeId->TV->TV->Option Bool
 | 0,_,_,_=>none
 | d + 1,t,x,y=>match P.underlying t,x,y with
  | some (.int _),.t (.int k) _ a,.t (.int k') _ b=>if k = k' then some (decide (a = b)) else none
  | some .bool,.t .bool _ a,.t .bool _ b=>some (a == b)
  | some .string,.t .str _ a,.t .str _ b=>some (decide (a = b))
  | some (.struct fields),.agg xs,.agg ys=>if P.stoodInHeld t then none else
   fields.toList.foldr (fun fd acc => if fd.name = "_" then none else
    match qba P fd.type (xs.drop fd.offset),qba P fd.type (ys.drop fd.offset),acc with
    | some u,some v,some b=>(teq d fd.type u v).map λa=>bif a then b else false
    | _,_,_=>none) (some true)
  | _,_,_=>none
def qyR:TypeDesc->TV->TV->Bool
 | .pointer _,.ptr ..,.val (.pointer none)=>true
 | .pointer _,.cptr ..,.val (.pointer none)=>true
 | .func ..,.fn ..,.val .nilFunc=>true
 | _,_,_=>false
def qCY:TypeDesc->TV->TV->Bool
 | .slice _,.val (.slice none 0 0),.val (.slice none 0 0)=>true
 | .pointer _,.val (.pointer none),.val (.pointer none)=>true
 | .func ..,.val .nilFunc,.val .nilFunc=>true
 | _,_,_=>false
def qtA (op:BinOp) (t:TypeId) (x y:TV) (R:Type) (k:TV->Option R):Option R :=
 match x,y with
 | .t (.int k1) _ a,.t (.int k2) _ b =>
  match op with
  | .shl=>(qF9 k1 a b).bind λn=>k (.t (.int k1) 0 n)
  | .shr=>(qFG k1 a b).bind λn=>k (.t (.int k1) 0 n)
  | _=>if k1 = k2 then (match op with
   | .and=>k (.t (.int k1) 0 (qFA k1 a b))
   | .or=>k (.t (.int k1) 0 (orI k1 a b))
   | .xor=>k (.t (.int k1) 0 (qFy k1 a b))
   | .andNot=>k (.t (.int k1) 0 (qrg k1 a b))
   | .add=>k (.t (.int k1) 0 (k1.wrap (a + b)))
   | .sub=>k (.t (.int k1) 0 (k1.wrap (a - b)))
   | .mul=>k (.t (.int k1) 0 (k1.wrap (a * b)))
   | .quo=>bif decide (b = 0) then none else k (.t (.int k1) 0 (k1.wrap (a.tdiv b)))
   | .rem=>bif decide (b = 0) then none else k (.t (.int k1) 0 (a.tmod b))
   | .eql=>k (.t .bool 0 (decide (a = b)))
   | .neq=>k (.t .bool 0 (!decide (a = b)))
   | .lss=>k (.t .bool 0 (decide (a < b)))
   | .leq=>k (.t .bool 0 (decide (a<=b)))
   | .gtr=>k (.t .bool 0 (decide (a > b)))
   | .geq=>k (.t .bool 0 (decide (a>=b)))
   | _=>none) else none
 | .t .cx _ a,.t .cx _ b =>
  match P.underlying t,op with
  | some (.complex .f64),.add=>(flo (a.1 + b.1)).bind λre=>(flo (a.2 + b.2)).bind λim=>k (.t .cx 0 (re,im))
  | some (.complex .f64),.mul=>(flo (a.1 * b.1)).bind λac=>(flo (a.2 * b.2)).bind λbd=>(flo (ac - bd)).bind λre=>(flo (a.1 * b.2)).bind λad=>(flo (a.2 * b.1)).bind λbc=>(flo (ad + bc)).bind λim=>k (.t .cx 0 (re,im))
  | _,_=>none
 | .t .str _ a,.t .str _ b =>
  match op with
  | .eql=>k (.t .bool 0 (decide (a = b)))
  | .neq=>k (.t .bool 0 (!decide (a = b)))
  | .lss=>k (.t .bool 0 (Op.bytesLess a b))
  | .add=>(app a b).bind λl=>k (.t .str 0 l)
  | _=>none
 | .t .bool _ a,.t .bool _ b =>
  match P.underlying t,op with
  | some .bool,.eql=>k (.t .bool 0 (a == b))
  | some .bool,.neq=>k (.t .bool 0 (!(a == b)))
  | _,_=>none
 | .agg l,.agg l'=>if P.eqGuardType P.depth t || !(l.all qxX && l'.all qxX) then none else (match teq P 9 t (.agg l) (.agg l') with
  | some b=>(match op with
   | .eql=>k (.t .bool 0 b)
   | .neq=>k (.t .bool 0 (!b))
   | _=>none)
  | none=>none)
 | .t (.sl τ) _ l,.val (.slice none 0 0) =>
  match P.underlying t with
  | some (.slice _)=>bif List.isEmpty l then none else (match op with
   | .eql=>k (.t .bool 0 false)
   | .neq=>k (.t .bool 0 true)
   | _=>none)
  | _=>none
 | x,y=>match P.underlying t with
  | some d =>
   if qyR d x y then (match op with
   | .eql=>k (.t .bool 0 false)
   | .neq=>k (.t .bool 0 true)
   | _=>none)
   else if qCY d x y then (match op with
   | .eql=>k (.t .bool 0 true)
   | .neq=>k (.t .bool 0 false)
   | _=>none)
   else none
  | none=>none
def tun (op:UnOp) (x:TV):Option TV :=
 match op,x with
 | .not,.t .bool _ b=>some (.t .bool 0 (!b))
 | .neg,.t (.int k) _ n=>some (.t (.int k) 0 (k.wrap (0 - n)))
 | _,_=>none
def qDE (src dst:TypeId) (x:TV) (R:Type) (k:TV->Option R):Option R :=
 match P.underlying src,P.underlying dst,x with
 | some _,some (.int kk),.t (.int _) _ n=>k (.t (.int kk) 0 (kk.wrap n))
 | some _,some (.float .f64),.t (.int _) _ n=>(flo n).bind λn=>k (.t .flt 0 n)
 | some _,some (.int .i64),.t .flt _ n=>(flo n).bind λn=>k (.t (.int .i64) 0 n)
 | some _,some .string,.t .str _ s=>k (.t .str 0 s)
 | some (.slice e),some .string,.t (.sl (.int .u8)) _ l=>match P.underlying e with
  | some (.int .u8)=>k (.t .str 0 (l.map λn=>UInt8.ofNat n.toNat))
  | _=>none
 | _,_,_=>none
def qsy (k:IntKind):List TV->Option (List Int)
 | []=>some []
 | .t (.int k') _ n :: l=>if k = k' then (qsy k l).map (n :: ·) else none
 | _=>none
def qq4 (b:Builtin) (argTypes:Array TypeId) (xs:List TV) (R:Type) (k:TV->Option R):Option R :=
 match b,xs with
 | .len,[.t (.sl _) _ l]=>match (argTypes[0]?).bind P.underlying with
  | some (.slice _)=>k (.t (.int .i64) 0 (l.length:Int))
  | _=>none
 | .len,[.clp _ l]=>match (argTypes[0]?).bind P.underlying with
  | some (.slice _)=>k (.t (.int .i64) 0 (l.length:Int))
  | _=>none
 | .len,[.empty _]=>match (argTypes[0]?).bind P.underlying with
  | some (.slice _)=>k (.t (.int .i64) 0 0)
  | _=>none
 | .len,[.t .str _ s]=>match (argTypes[0]?).bind P.underlying with
  | some .string=>k (.t (.int .i64) 0 (s.length:Int))
  | _=>none
 | .cap,[.val (.slice none 0 0)]=>match (argTypes[0]?).bind P.underlying with
  | some (.slice _)=>k (.t (.int .i64) 0 0)
  | _=>none
 | .len,[.val (.slice none 0 0)]=>match (argTypes[0]?).bind P.underlying with
  | some (.slice _)=>k (.t (.int .i64) 0 0)
  | _=>none
 | .append,[x,y]=>if x.bare then qq7 P argTypes x y R k else quB P argTypes x y R k
 | .complex,[.t .flt _ a,.t .flt _ b]=>k (.t .cx 0 (a,b))
 | .real,[.t .cx _ a]=>k (.t .flt 0 a.1)
 | .imag,[.t .cx _ a]=>k (.t .flt 0 a.2)
 | .max,.t (.int kk) _ n :: xs=>match qsy kk xs with
  | some l=>k (.t (.int kk) 0 (l.foldl max n))
  | none=>none
 | .min,.t (.int kk) _ n :: xs=>match qsy kk xs with
  | some l=>k (.t (.int kk) 0 (l.foldl min n))
  | none=>none
 | _,_=>none
def qda (tk:Bool) (o:Op) (xs:List TV) (bx:Option (List TV)) (R:Type) (k:TV->Option (List TV)->Option R):Option R :=
 let v (x:Option TV):Option R:=match x with
  | some x=>k x none
  | none=>none
 match o,xs with
 | .move _,[x] | .assign _,[x]=>k x none
 | .pick ..,[.t .bool _ c,a,b]=>bif c then k a none else k b none
 | .build t parts,xs=>v (qzz P H f t (parts.toList.map (·.1) |>.zip xs))
 | .buildSlice t len parts,xs=>v (qjt P H f t len (parts.toList.map (·.1) |>.zip xs))
 | .load t _,[.cptr _ cs]=>v ((qba P t cs).map TV.qaj)
 | .load t _,[.ptr _ off]=>match bx with
  | some cs=>if tk then (match qba P t (cs.drop off) with
    | some x=>k x (some (qmg cs off (dullL ((cs.drop off).take (if qY P t then P.cellsOf t else 1)))))
    | none=>none)
   else v ((qba P t (cs.drop off)).map TV.qaj)
  | none=>none
 | .store t _ _,[.ptr _ off,x]=>match bx with
  | some cs=>if P.cellsOf t ≠ 0/\x.cells.length = P.cellsOf t/\off + x.cells.length<=cs.length/\x.oks = true then k (.any []) (some (qmg cs off x.cells)) else none
  | none=>none
 | .nilCheck _,[.ptr r off]=>k (.ptr r off) none
 | .nilCheck _,[.cptr s cs]=>k (.cptr s cs) none
 | .nilCheck _,[.fn g a b]=>k (.fn g a b) none
 | .binOp op t _ (.const _) _,[.t .err _ b,.val .nilIface]=>match P.underlying t,op with
  | some (.interface _),.eql=>k (.t .bool 0 b) none
  | some (.interface _),.neq=>k (.t .bool 0 (!b)) none
  | _,_=>none
 | .binOp op t _ _ _,[x,y]=>qtA P op t x y R λx=>k x none
 | .unOp op _ _,[x]=>v (tun op x)
 | .convert src dst _,[x]=>qDE P src dst x R λx=>k x none
 | .makeFunc (.func g) first _,xs=>k (.fn g (xs.take first.size) (xs.drop first.size)) none
 | .makeSlice t _ _,[l,c]=>qlL P H f t l c R λx=>k x none
 | .slice t _ lo hi mx,x :: rest =>
  let r1:=if lo.isSome then rest.tail else rest
  let r2:=if hi.isSome then r1.tail else r1
  if x.bare then qvE P t x (if lo.isSome then rest.head? else none) (if hi.isSome then r1.head? else none) (if mx.isSome then r2.head? else none) R λx=>k x none else
  qzn P t x (if lo.isSome then rest.head? else none) (if hi.isSome then r1.head? else none) (if mx.isSome then r2.head? else none) R λx=>k x none
 | .fieldAddr t _ fd,[x]=>v (qlH P t x fd)
 | .field t _ fd,[x]=>v (qAj P t x fd)
 | .sliceToArrayPointer t _,[x]=>qr8 P t x R λx=>k x none
 | .indexAddr t _ _,[x,.t (.int _) _ i]=>ql2 P t x i R λx=>k x none
 | .index t _ _,[x,.t (.int _) _ i]=>(match P.underlying t,x with
  | some (.array len elem),.agg cs=>qAB P elem len cs i R λx=>k x none
  | some .string,.t .str _ s=>(idx s i).bind λb=>k (.t (.int .u8) 0 (b.toNat:Int)) none
  | _,_=>none)
 | .extract _ i,[.tuple l]=>v l[i]?
 | .call { callee:=.builtin b,argTypes,.. },xs=>qq4 P b argTypes xs R λx=>k x none
 | _,_=>none
noncomputable def rdT (o:Oper) (E:Env):Operand->TV
 | .tmp t=>if qao H f o then E.get t else (E.get t).qaj
 | .const v=>qnX (H.precise f || qst o.op) v
 | .func g=>.fn g [] []
 | .global _=>.any []
noncomputable def qb4 (E:Env) (ts:List Tmp):Env:=ts.foldl (λE t=>E.set t (E.get t).qaj) E
def qlS:Op->List TV->Option Root
 | .load ..,.ptr r _ :: _=>some r
 | .store ..,.ptr r _ :: _=>some r
 | _,_=>none
def qct:Op->List TV->Nat × Nat
 | .load t _,.ptr _ off :: _=>(off,if qY P t then P.cellsOf t else 1)
 | .store ..,[.ptr _ off,x]=>(off,x.cells.length)
 | _,_=>(0,0)
def qvK:Op->List TV->List Root
 | .store ..,[_,x]=>x.qx
 | _,_=>[]
def qer:TV->Bool
 | .fn g _ _=>H.qjd g
 | _=>false
def qgr:TV->List TV->Bool
 | .fn _ first cap,args=>(ptrsTL (first ++ args ++ cap)).isEmpty
 | _,_=>false
end
def qow:Ty->Bool
 | .int _ | .bool | .str=>true
 | _=>false
def qrf:Ty->Bool
 | .unit=>true
 | .pair a b=>qow a && qrf b
 | _=>false
def qhL:Ty->Bool
 | .pair a b=>qow a && qrf b
 | τ=>qow τ
def qqM:(τ:Ty)->τ.den->Value
 | .int k,n=>.int k n
 | .bool,b=>.bool b
 | .str,s=>.string ⟨s.toArray⟩
 | _,_=>.tuple #[]
def qyn:(τ:Ty)->τ.den->List Value
 | .pair a b,x=>qqM a x.1 :: qyn b x.2
 | _,_=>[]
def qcX (τ:Ty) (x:τ.den):Value :=
 match τ,x with
 | .pair a b,x=>.agg (qqM a x.1 :: qyn b x.2).toArray
 | τ,x=>qqM τ x
def eqS:(τ:Ty)->τ.den->τ.den->Bool
 | .int _,a,b=>decide (a = b)
 | .bool,a,b=>a == b
 | .str,a,b=>decide (a = b)
 | _,_,_=>false
def eqR:(τ:Ty)->τ.den->τ.den->Bool
 | .unit,_,_=>true
 | .pair a b,x,y=>bif eqS a x.1 y.1 then eqR b x.2 y.2 else false
 | _,_,_=>false
def eqK (τ:Ty) (x y:τ.den):Bool :=
 match τ,x,y with
 | .pair a b,x,y=>bif eqS a x.1 y.1 then eqR b x.2 y.2 else false
 | τ,x,y=>eqS τ x y
def qmL (τ:Ty) (l:List τ.den) (k:τ.den):Bool:=l.any λx=>eqK τ k x
def qEl (τ:Ty) (l:List τ.den) (k:τ.den):List τ.den:=bif qmL τ l k then l else l ++ [k]
section
variable (P:Program) (H:Hints) (f:FuncId)
def qjx (t:TypeId) (τ:Ty):Bool :=
 match P.underlying t,τ with
 | some (.int k),.int k'=>decide (k = k')
 | some .bool,.bool=>true
 | some .string,.str=>true
 | _,_=>false
def qkB:List Field->Nat->Ty->Bool
 | [],_,.unit=>true
 | fd :: fs, i, .pair a b => decide (fd.name ≠ "_") && decide (fd.offset = i) && qjx P fd.type a && qkB fs (i + 1) b
 | _,_,_=>false
def qfF (t:TypeId) (τ:Ty):Bool :=
 qjx P t τ || match P.underlying t,τ with
 | some (.struct fields),.pair a b=>!P.stoodInHeld t && qkB P fields.toList 0 (.pair a b)
 | _,_=>false
def qkV:Op->List TV->Bool
 | .makeMap ..,_ | .lookup ..,_ | .mapUpdate ..,_ | .insert ..,_=>true
 | .call { callee:=.builtin .len,.. },[.mref _]=>true
 | _,_=>false
def qnw:List TV->Bool
 | []=>true
 | [.t (.int _) _ _]=>true
 | _=>false
def qm4 (o:Oper) (xs:List TV) (st:TSt) (R:Type) (k:TV->TSt->Fp->Option R):Option R :=
 match o.op with
 | .makeMap t _=>match o.dst,P.underlying t with
  | some d,some (.map kt vt)=>match qCR P kt with
   | some τ=>if (q7 st.B (qag d)).isNone/\qhL τ = true/\qnw xs = true then
     k (.mref ⟨st.L.length,qag d⟩) { st with B:=(qag d,some [.t (.mset τ) 0 []]) :: st.B,Wb:=⟨st.L.length,qag d⟩ :: st.Wb } (.fresh ⟨st.L.length,qag d⟩) else none
   | none=>none
  | _,_=>none
 | .lookup t _ _ ok=>match xs with
  | [.mref r,x]=>match st.box r,P.underlying t with
   | some [.t (.mset τ) _ l],some (.map kt vt)=>if qfF P kt τ = true then (match qtz P H f vt,qhu τ 0 x with
     | some (.t .bool _ false),some y=>k (if ok then .tuple [.t .bool 0 (qmL τ l y),.t .bool 0 (qmL τ l y)] else .t .bool 0 (qmL τ l y)) st .looks
     | _,_=>none) else none
   | _,_=>none
  | _=>none
 | .mapUpdate t _ _ _ | .insert t _ _ _=>match xs with
  | [.mref r,x,.t .bool _ true]=>match st.box r,P.underlying t with
   | some [.t (.mset τ) _ l],some (.map kt vt)=>if qfF P kt τ = true then (match qhu τ 0 x with
     | some y=>k (.any []) (st.qv r [.t (.mset τ) 0 (qEl τ l y)]) (.mapw r)
     | none=>none) else none
   | _,_=>none
  | _=>none
 | .call { callee:=.builtin .len,argTypes,.. }=>match xs with
  | [.mref r]=>match st.box r,(argTypes[0]?).bind P.underlying with
   | some [.t (.mset τ) _ l],some (.map _ _)=>if argTypes.toList.any H.mapT then k (.t (.int .i64) 0 (l.length:Int)) st .looks else none
   | _,_=>none
  | _=>none
 | _=>none
end
mutual
/-- the map that it leads to lies elsewhere -/
def TV.adopt (q:Root):TV->TV
 | .mref _=>.mref q
 | .cptr s l=>.cptr s (adoptTL q l)
 | .fn g a b=>.fn g (adoptTL q a) (adoptTL q b)
 | .agg l=>.agg (adoptTL q l)
 | .tuple l=>.tuple (adoptTL q l)
 | v=>v
def adoptTL (q:Root):List TV->List TV
 | []=>[]
 | v :: l=>v.adopt q :: adoptTL q l
end
mutual
/-- nothing in it leads anywhere but to a map -/
def TV.onlyMaps:TV->Bool
 | .any _ | .ptr .. | .bsl .. | .iface .. | .yld _ | .lp ..=>false
 | .cptr _ l=>onlyMapsTL l
 | .fn _ a b=>onlyMapsTL a && onlyMapsTL b
 | .agg l=>onlyMapsTL l
 | .tuple l=>onlyMapsTL l
 | _=>true
def onlyMapsTL:List TV->Bool
 | []=>true
 | v :: l=>v.onlyMaps && onlyMapsTL l
end
def qsw (H:Hints):TV->Bool
 | .fn g _ _=>(H.seq g).isSome
 | _=>false
def qnF (H:Hints):TV->Bool
 | .fn g _ _=>H.born g
 | _=>false
noncomputable def TSt.get (st:TSt) (p:Place):TV :=
 match p.lvl with
 | none=>st.E.get p.slot
 | some l=>match st.box ⟨l,p.slot⟩ with
  | some cs=>cs.getD p.cell (.any [])
  | none=>.any []
def subset (l m:List Root):Bool:=l.all λr=>m.contains r
def Place.qFk (lv:List Place) (l:Option Nat) (s c:Nat):Bool:=lv.any λp=>decide (p.lvl = l) && decide (p.slot = s) && decide (p.cell = c)
def qyO:TV->Root->Nat->Bool
 | .ptr r o,r',o'=>decide (r = r') && decide (o = o')
 | _,_,_=>false
noncomputable def TSt.keeps (st:TSt) (j:Join):Bool:=j.kp.all λp=>qyO (st.E.get p.1) p.2.1 p.2.2
noncomputable def qsL:TSt->List (Tmp × Root × Nat)->TSt
 | st,[]=>st
 | st,p :: l=>qsL { st with E:=st.E.set p.1 (.ptr p.2.1 p.2.2) } l
noncomputable def TSt.qmh (st:TSt) (j:Join):Bool :=
 (st.E.all λt v=>Bool.rec (motive:=λ_=>Bool) true (Place.qFk j.lv none t 0 || subset v.qx (j.qzS t)) (j.D.has t)) &&
 (j.wr.all λr=>match st.cont r with
  | some cs=>!isRec cs && (List.range cs.length).all λi=>Place.qFk j.lv (some r.lvl) r.slot i || subset (cs.getD i (.any [])).qx j.rb
  | none=>true) && st.keeps j
def TSt.wrote (st:TSt) (j:Join):Bool:=st.Wt.sub j.D && (st.Wb.all λr=>j.wr.contains r || decide (st.L.length < r.lvl))
def qEE (rs:List Root) (b:qT) (s:Nat):qT :=
 match q7 b s with
 | none=>(s,none) :: b
 | some none=>b
 | some (some cs)=>qwb b s (some (cs.map λ_=>.any rs))
def TSt.forget (st:TSt) (rs:List Root) (r:Root):TSt :=
 if r.lvl = st.L.length then { st with B:=qEE rs st.B r.slot } else { st with L:=st.L.modify r.lvl λb=>qEE rs b r.slot }
noncomputable def TSt.qb1 (st:TSt) (p:Place) (v:TV):TSt :=
 match p.lvl with
 | none=>{ st with E:=st.E.set p.slot v }
 | some l=>match st.box ⟨l,p.slot⟩ with
  | some cs=>{ st.qv ⟨l,p.slot⟩ (cs.set p.cell v) with Wb:=st.Wb }
  | none=>st
noncomputable def qc3 (st:TSt):List Place->List TV->TSt
 | p :: ps,v :: vs=>qc3 (st.qb1 p v) ps vs
 | _,_=>st
noncomputable def TSt.qeu (st:TSt) (j:Join) (vs:List TV):TSt :=
 qc3 { j.wr.foldl (λst r=>st.forget j.rb r) { st with E:=qep j.D j.qzS st.E } with Wt:=j.D ++ st.Wt,Wb:=j.wr ++ st.Wb } j.lv vs
noncomputable def TSt.qb2 (st:TSt) (j:Join) (vs:List TV):TSt:=qsL (st.qeu j vs) j.kp
def TSt.fresh (st:TSt):TSt:={ st with Wt:=.empty,Wb:=[] }
def TSt.merge (st st0:TSt):TSt:={ st with Wt:=st.Wt ++ st0.Wt,Wb:=st.Wb ++ st0.Wb }
def TSt.qFv (st st0:TSt) (j:Join):Bool:=j.wr.all λr=>match st0.cont r with
 | some cs=>(match st.cont r with
  | some cs2=>decide (cs2.length = cs.length)
  | none=>false)
 | none=>true
noncomputable def TSt.outs (st st0:TSt) (j:Join):Option (denL (j.ps.map (·.1))) :=
 if st.qmh j && st.wrote j && st.qFv st0 j then asL j.ps (j.lv.map st.get) else none
noncomputable def qxH (j:Option Join) (st:TSt) (run:TSt->(R:Type)->(Ex->TSt->Option R)->Option R) (R:Type) (k:Ex->TSt->Option R):Option R :=
 match j with
 | none=>run st R k
 | some j =>
  if j.abn then
   (run st.fresh (denL (j.ps.map (·.1)) ⊕ R) λe st2=>match e with
    | .normal=>(st2.outs st j).map .inl
    | e=>(k e (st2.merge st)).map .inr).bind (Sum.elim (λx=>k .normal (st.qb2 j (ofL j.ps x))) some)
  else
   (run st.fresh (denL (j.ps.map (·.1))) λe st2=>match e with
    | .normal=>st2.outs st j
    | _=>none).bind λx=>k .normal (st.qb2 j (ofL j.ps x))
def qaN (D:List Tmp):qT->qT
 | []=>[]
 | (k,c) :: l=>if D.contains k then qaN D l else (k,c) :: qaN D l
noncomputable def qfG (D:List Tmp) (E:Env):Env:=qep (Mask.ofList D) (λ_=>[]) E
def qkW:qT->List Root
 | []=>[]
 | (_,some c) :: l=>ptrsTL c ++ qkW l
 | (_,none) :: l=>qkW l
def qxC:qT->Bool
 | []=>true
 | (_,c) :: l=>c.isSome && qxC l
def qpp (D:List Tmp) (n:Nat):qT->List Root
 | []=>[]
 | (k,_) :: l=>if D.contains k then ⟨n,k⟩ :: qpp D n l else qpp D n l
def inE (st:TSt) (D:List Tmp):List Tmp:=D.filter λt=>decide (t < st.E.n)
noncomputable def TSt.clear (D:List Tmp) (st:TSt):Option TSt :=
 let E:=qfG (inE st D) st.E
 let B:=qaN D st.B
 if decide (B.length = st.B.length) || ((E.all λ_ v=>qdp st.L.length D v.qx) && qdp st.L.length D (qkW B) && qxC B) then some { st with E,B,Wt:=Mask.ofList (inE st D) ++ st.Wt,Wb:=qpp D st.L.length st.B ++ st.Wb } else none
structure TOrc where
 call:List Tmp->FuncId->List TV->List qT->(R:Type)->(TV->List qT->List Root->Option R)->Option R
 code:List Tmp->FuncId->Nat->Code->TSt->(R:Type)->(Ex->TSt->Option R)->Option R
 born:List Tmp->FuncId->List TV->(R:Type)->(TV->TV->Option R)->Option R
def qfi:List qT->Option (List qT × qT)
 | []=>none
 | [b]=>some ([],b)
 | b :: c :: l=>(qfi (c :: l)).map λ(x,y)=>(b :: x,y)
section
variable (P:Program) (H:Hints) (J:TH) (T:qss) (O:TOrc) (ctx:List Tmp) (f:FuncId)
noncomputable def qjT:Env->List Tmp->List TV->Env
 | E,t :: ts,v :: vs=>qjT (E.set t v) ts vs
 | E,_,_=>E
def TSt.qp3 (st:TSt) (r:Root) (v:TV):TSt:={ st.qv r [v] with Wb:=st.Wb }
noncomputable def qz8 (d:Tmp) (r:Root) (args:List TV) (st:TSt) (R:Type) (k:TV->TSt->Option R):Option R :=
 match st.cont r with
 | some [.lp .ready none g env ps asz bo] =>
  if args.length ≠ ps.length then none else
  O.code (d :: ctx) g 0 asz { E:=qjT (Env.qhs env env.length) ps (dullL args),L:=st.L ++ [st.B],B:=[],Wt:=.empty,Wb:=[] } R λe s2=>match e with
   | .normal=>(match s2.cont r with
    | some [.lp .ready none g2 env2 ps2 as2 bo2] =>
     O.code (d :: ctx) g 0 bo (s2.qp3 r (.lp .busy none g2 env2 ps2 as2 bo2)) R λex s3=>(match s3.cont r with
      | some [.lp _ _ g3 env3 ps3 as3 bo3] =>
       (match qfi (s3.qp3 r (.lp (if ex.code.isNone then .ready else .done) ex.code g3 env3 ps3 as3 bo3)).L with
       | some (L,B)=>if L.length = st.L.length then k (.t .bool 0 ex.code.isNone) { st with L,B,Wb:=(if ex.code.isNone then [] else [r]) ++ (s3.Wb ++ st.Wb) } else none
       | none=>none)
      | _=>none)
    | _=>none)
   | _=>none
 | _=>none
noncomputable def qqy (d:Tmp) (fv:TV) (args:List TV) (st:TSt) (R:Type) (k:TV->TSt->Option R):Option R :=
 match fv with
 | .fn g first cap =>
  if knownL (first ++ args ++ cap) then
   (if (ptrsTL (first ++ args ++ cap)).isEmpty then
    (if J.inl ctx f d then O.call (d :: ctx) g (shareL (first ++ args ++ cap)) [] R λr M _=>match M with
     | []=>k (if tightL (first ++ args ++ cap) then r else r.qbk) st
     | _=>none
    else T g (shareL (first ++ args ++ cap)) R λr=>k (if tightL (first ++ args ++ cap) then r else r.qbk) st)
   else if H.qjd g then (match peekTL st.box (first ++ args ++ cap) with
    | some xs=>if (ptrsTL xs).isEmpty then T g xs R λr=>if r.qc2 then k r st else none else none
    | none=>none)
   else O.call (d :: ctx) g (dullL (first ++ args ++ cap)) (st.L ++ [st.B]) R λr M wb=>match qfi M with
    | some (L,B)=>if L.length = st.L.length then k r { st with L,B,Wb:=wb ++ st.Wb } else none
    | none=>none)
  else none
 | .yld r=>qz8 O ctx d r args st R k
 | _=>none
noncomputable def qAe (d:Option Tmp) (fv:TV) (args:List TV) (st:TSt) (R:Type) (k:TV->TSt->Fp->Option R):Option R :=
 match fv,d with
 | .fn g first cap,some d =>
  if knownL (first ++ args ++ cap) && (ptrsTL (first ++ args ++ cap)).isEmpty && tightL (first ++ args ++ cap) && (q7 st.B (qag d)).isNone then
   O.born (d :: ctx) g (shareL (first ++ args ++ cap)) R λr c=>k (r.adopt ⟨st.L.length,qag d⟩) { st with B:=(qag d,some [c]) :: st.B,Wb:=⟨st.L.length,qag d⟩ :: st.Wb } (.fresh ⟨st.L.length,qag d⟩)
  else none
 | _,_=>none
noncomputable def qFC (d:Option Tmp) (fv:TV) (args:List TV) (st:TSt) (R:Type) (k:TV->TSt->Fp->Option R):Option R :=
 match fv,d with
 | .fn g first cap,some d=>match first ++ args ++ cap with
  | [.t .str _ s,.t .str _ sep]=>match H.seq g with
   | some clos=>if (q7 st.B d).isNone then k (.fn clos [] [.cptr true [.t .str 0 sep],.ptr ⟨st.L.length,d⟩ 0,.cptr true [.t (.int .i64) 0 0]]) { st with B:=(d,some [.t .str 0 s]) :: st.B,Wb:=⟨st.L.length,d⟩ :: st.Wb } (.fresh ⟨st.L.length,d⟩) else none
   | none=>none
  | _=>none
 | _,_=>none
def qkD:TV->List TV->Option Root
 | .fn _ first cap,args=>if knownL (first ++ args ++ cap) then (match ptrsTL (first ++ args ++ cap) with
  | q :: rest=>if rest.all (λr=>decide (r = q)) && onlyMapsTL (first ++ args ++ cap) then some q else none
  | []=>none) else none
 | _,_=>none
def qyy (n:Nat) (q:Root) (c:List TV):List qT:=(List.range n).map λl=>if l = q.lvl then [(q.slot,some c)] else []
def qES (M:List qT) (r:Root):Option (Option (List TV)):=match M[r.lvl]? with
 | some b=>q7 b r.slot
 | none=>none
noncomputable def qy0 (d:Tmp) (g:FuncId) (args:List TV) (q:Root) (st:TSt) (R:Type) (k:TV->TSt->Option R):Option R :=
 match st.box q with
 | some [.t (.mset τ) o l]=>O.call (d :: ctx) g (dullL args) (qyy (st.L.length + 1) q [.t (.mset τ) o l]) R λr M _ =>
   if r.known && r.qx.isEmpty && !r.owns then (match qES M q with
    | some (some [.t (.mset τ') o' l'])=>k r (st.qv q [.t (.mset τ') o' l'])
    | _=>none) else none
 | _=>none
def qrb (fv:TV) (args:List TV):Bool:=qnF H fv || (qsw H fv || (qkD fv args).isSome)
noncomputable def qB4 (d:Option Tmp) (fv:TV) (args:List TV) (st:TSt) (R:Type) (k:TV->TSt->Fp->Option R):Option R :=
 if qnF H fv then qAe O ctx d fv args st R k else if qsw H fv then qFC H d fv args st R k else match fv,qkD fv args with
  | .fn g first cap,some q=>qy0 O ctx (d.getD 0) g (first ++ args ++ cap) q st R λv s=>k v s (.mapw q)
  | _,_=>none
noncomputable def qmp (o:Oper) (xs:List TV) (st:TSt) (R:Type) (k:TV->TSt->Fp->Option R):Option R :=
 match o.op with
 | .alloc t=>match o.dst,qtz P H f t with
  | some d,some z=>if (q7 st.B d).isNone then k (.ptr ⟨st.L.length,d⟩ 0) { st with B:=(d,some z.cells) :: st.B,Wb:=⟨st.L.length,d⟩ :: st.Wb } (.fresh ⟨st.L.length,d⟩) else none
  | _,_=>none
 | .box t _=>match o.dst,xs with
  | some d,[x]=>if (q7 st.B d).isNone/\x.cells.length = P.cellsOf t/\x.oks = true then k (.ptr ⟨st.L.length,d⟩ 0) { st with B:=(d,some x.cells) :: st.B,Wb:=⟨st.L.length,d⟩ :: st.Wb } (.fresh ⟨st.L.length,d⟩) else none
  | _,_=>none
 | .call { callee:=.value _,.. }=>match xs with
  | fv :: args=>if qrb H fv args then qB4 H O ctx o.dst fv args st R k else qqy H J T O ctx f (o.dst.getD 0) fv args st R λv s=>k v s (if qgr fv args then .none else if qer H fv then .looks else .all)
  | []=>none
 | op=>if qkV op xs then qm4 P H f o xs st R k else match qlS op xs with
  | none=>qda P H f (qao H f o) op xs none R λv c=>match c with
   | none=>k v st .none
   | some _=>none
  | some r=>if 16384<=r.slot then none else qda P H f (qao H f o) op xs (st.box r) R λv c=>match c with
   | none=>k v st (.root r (qct P op xs).1 (qct P op xs).2 false)
   | some c=>if (qvK op xs).all (λp=>decide (p.lvl<=r.lvl)) && decide ((qct P op xs).1 + (qct P op xs).2<=c.length) then k v (st.qv r c) (.root r (qct P op xs).1 (qct P op xs).2 true) else none
noncomputable def qj0 (o:Oper) (st:TSt) (R:Type) (k:TSt->Fp->Option R):Option R :=
 if qao H f o && !qfL (tmpsOf o) then none else
 qmp P H J T O ctx f o (o.op.operands.toList.map (rdT H f o st.E)) (if qao H f o then { st with E:=qb4 st.E (tmpsOf o),Wt:=Mask.ofList ((tmpsOf o).filter (λt=>(st.E.get t).owns)) ++ st.Wt } else st) R λv s fp=>k (s.put o.dst v) fp
noncomputable def quU (ops:Array Oper) (o:Oper) (st:TSt) (R:Type) (yes no:TSt->Option R):Option R :=
 match o.guard with
 | none=>yes st
 | some (j,want)=>match (ops[j]?).bind (·.dst) with
  | some t=>match st.E.get t with
   | .t .bool _ b=>bif b then (let st1:TSt:={ st with E:=st.E.set t (.t .bool 0 true) }; if want then yes st1 else no st1)
     else (let st1:TSt:={ st with E:=st.E.set t (.t .bool 0 false) }; if want then no st1 else yes st1)
   | .val (.tuple vs)=>if vs.size = 0 then no st else none
   | _=>none
  | none=>none
noncomputable def qxm (ops:Array Oper):List Nat->TSt->(R:Type)->(TSt->Option R)->Option R
 | [],st,_,k=>k st
 | i :: rest,st,R,k =>
  match ops[i]? with
  | none=>none
  | some o=>quU ops o st R (λst=>qj0 P H J T O ctx f o st R λst' _=>qxm ops rest st' R k) (λst=>qxm ops rest (st.put o.dst (.val undef)) R k)
noncomputable def ql0 (o:Oper) (E:Env):List Tmp:=if qao H f o then (tmpsOf o).filter λt=>(E.get t).owns else []
noncomputable def qsK (ops:Array Oper):List Nat->TSt->List (Nat × Foot)->(R:Type)->(TSt->List (Nat × Foot)->Option R)->Option R
 | [],st,fps,_,k=>k st fps
 | i :: rest,st,fps,R,k =>
  match ops[i]? with
  | none=>none
  | some o=>quU ops o st R
    (λst=>qj0 P H J T O ctx f o st R λst' fp=>qsK ops rest st' ((i,⟨fp,ql0 H f o st.E,qbK H f ops o⟩) :: fps) R k)
    (λst=>qsK ops rest (st.put o.dst (.val undef)) ((i,⟨.none,[],qbK H f ops o⟩) :: fps) R k)
noncomputable def qtF (E:Env):Operand->Option Int
 | .tmp t=>qxu (E.get t)
 | .const v=>match v with
  | .int _ n=>some n
  | _=>none
 | _=>none
noncomputable def qhc (ops:Array Oper) (E:Env):Nat->Nat->Tmp->Option (Rt × List (Int × Nat × Nat) × Bool)
 | 0,_,_=>none
 | n + 1,k,d=>if H.link f d = false then some (.tmp d,[],false) else
  match qpn ops k d with
  | none=>none
  | some c=>match (ops[c]?).map Oper.op with
   | some (.move (.tmp a))=>qhc ops E n c a
   | some (.indexAddr t (.tmp a) i) =>
    match qhc ops E n c a,qtF E i,P.underlying t with
    | some (r,p,false),some j,some (.slice elem)=>some (r,(j,0,P.cellsOf elem) :: p,true)
    | _,_,_=>none
   | some (.fieldAddr t (.tmp a) fd) =>
    match qhc ops E n c a,qnj P t fd with
    | some (r,(j,o,s) :: p,true),some o'=>some (r,(j,o + o',s) :: p,true)
    | _,_=>none
   | some (.load t (.tmp a)) =>
    if qY P t then none else
    if H.link f a then (match qhc ops E n c a with
     | some (r,p,true)=>some (r,p,false)
     | _=>none)
    else match E.get a with
     | .ptr r off=>some (.box r off,[],false)
     | _=>none
   | _=>none
def qoI (e:TV) (cs:List TV):TV :=
 match e with
 | .agg _=>.agg cs
 | _=>cs.headD (.any [])
def qCW (ys:List TV):List (Int × Nat × Nat)->TV->(R:Type)->(TV->Option R)->Option R
 | (i,o,s) :: p,.t (.sl τ) lv l,R,k =>
  if qbl lv = true/\τ.qbx = s/\s ≠ 0/\τ.ok = true/\τ.qcq = true then
   (idx l i).bind λe=>match p with
    | []=>if o + ys.length<=s then (match qhu τ (nx lv) (qoI (ofTy τ (nx lv) e) (qmg (ofTy τ (nx lv) e).cells o ys)) with
      | some e'=>k (.t (.sl τ) lv (l.set i.toNat e'))
      | none=>none) else none
    | _ :: _=>match (ofTy τ (nx lv) e).cells[o]? with
     | some z=>qCW ys p z R λz'=>match qhu τ (nx lv) (qoI (ofTy τ (nx lv) e) ((ofTy τ (nx lv) e).cells.set o z')) with
      | some e'=>k (.t (.sl τ) lv (l.set i.toNat e'))
      | none=>none
     | none=>none
  else none
 | _,_,_,_=>none
def qAC (b:qT):qT:=b.map λp=>(p.1,p.2.map (List.map TV.qeM))
noncomputable def qEm (E:Env):Mask:=E.mask λx=>!(x.firm || x.isAny)
def quC:qT->List Root
 | []=>[]
 | (_,none) :: b=>quC b
 | (k,some c) :: b=>if c.all TV.firm then quC b else ⟨0,k⟩ :: quC b
noncomputable def TSt.qca (st:TSt) (T:List Tmp):TSt :=
 { st with E:=(qb4 st.E T).qvC (λ_ v=>v.qeM),B:=qAC st.B,Wt:=Mask.ofList (T.filter (λt=>(st.E.get t).owns)) ++ (qEm (qb4 st.E T) ++ st.Wt),Wb:=quC st.B ++ st.Wb }
structure Hole where
 r:Tmp
 τ:Ty
 lv:Nat
 l:List τ.den
 j:Int
noncomputable def qBw (hole:Option Hole) (r0:Tmp) (p:List (Int × Nat × Nat)) (x:TV) (st:TSt) (R:Type) (k:TSt->Option R):Option R :=
 match hole,p with
 | some h,[(i,0,1)]=>if h.r = r0 then (match x with
   | .t (.sl τ) o y=>(match qhu h.τ (nx h.lv) (.t (.sl τ) o y) with
    | some e=>bif decide (i = h.j) then (if (TV.t (.sl h.τ) h.lv (h.l.set h.j.toNat e)).firm then k (st.put (some r0) (.t (.sl h.τ) h.lv (h.l.set h.j.toNat e))) else none) else none
    | none=>none)
   | _=>none) else none
 | _,_=>none
noncomputable def lsT (ops:Array Oper) (s:Nat) (o:Oper) (st:TSt) (hole:Option Hole) (R:Type) (k:TSt->Option R):Option R :=
 match o.op with
 | .store t (.tmp d) xo =>
  let x:=rdT H f o st.E xo
  if st.L.isEmpty && qog st.B && st.B.all (λp=>decide (p.1 < 16384)) && o.dst.isNone && o.guard.isNone && qfL (tmpsOf o) && decide (P.cellsOf t ≠ 0) && decide (x.cells.length = P.cellsOf t) && x.oks && x.qx.isEmpty then
   match qhc P H f ops st.E ops.size s d with
   | some (.tmp r,p,true)=>if (tmpsOf o).contains r then none else
    if hole.isSome then qBw hole r p x (st.qca (tmpsOf o)) R k else
    qCW x.cells p.reverse (st.E.get r) R λy=>if y.firm then k ((st.qca (tmpsOf o)).put (some r) y) else none
   | some (.box q off,p,true)=>match st.box q with
    | some cs=>match cs[off]? with
     | some z=>qCW x.cells p.reverse z R λy=>if y.firm then k ((st.qca (tmpsOf o)).qv q ((cs.map TV.qeM).set off y)) else none
     | none=>none
    | none=>none
   | _=>none
  else none
 | _=>none
noncomputable def apT (ops:Array Oper) (s:Nat) (o:Oper) (st:TSt) (R:Type) (k:TSt->Hole->Option R):Option R :=
 match o.op with
 | .call { args,.. }=>match (args[0]?:Option Operand) with
  | some (.tmp d)=>match qhc P H f ops st.E ops.size s d with
   | some (.tmp r,[(j,0,1)],false)=>if r = d\/st.E.n<=d then none else
    (match st.E.get r with
    | .t (.sl (.sl τ)) lv l=>if qbl lv && qbl (nx lv) then (idx l j).bind λe =>
      k { st with E:=(st.E.set r (.any [])).set d (.t (.sl τ) (nx lv) e),Wt:=Mask.ins r (Mask.ins d st.Wt) } ⟨r,.sl τ,lv,l,j⟩ else none
    | _=>none)
   | _=>none
  | _=>none
 | _=>none
def qrV (o:Oper):Option Hole->Option Hole
 | some h=>if o.dst = some h.r\/(tmpsOf o).contains h.r = true then none else some h
 | none=>none
def qEg:TV->Bool
 | .cptr ..=>true
 | _=>false
noncomputable def quj (o:Oper) (E:Env):Bool :=
 !qmx H f o || ((match o.dst with
  | some d=>decide (d < E.n)
  | none=>true) && (match o.op with
  | .load _ (.tmp a)=>!H.link f a || qEg (E.get a)
  | _=>true))
noncomputable def qi9 (ops:Array Oper):List Nat->TSt->Option Hole->List (Nat × Foot)->(R:Type)->(TSt->List (Nat × Foot)->Option R)->Option R
 | [],st,_,fps,_,k=>k st fps
 | i :: rest,st,hole,fps,R,k =>
  match ops[i]? with
  | none=>none
  | some o=>if qho H f o then lsT P H f ops i o st hole R λst'=>qi9 ops rest st' none ((i,⟨.all,[],looksAt ops o⟩) :: fps) R k
   else if qmZ H f o then (if qmx H f o then none else apT P H f ops i o st R λst hole=>quU ops o st R
    (λst=>qj0 P H J T O ctx f o st R λst' fp=>qi9 ops rest st' (qrV o (some hole)) ((i,⟨fp,ql0 H f o st.E,qbK H f ops o⟩) :: fps) R k)
    (λst=>qi9 ops rest (st.put o.dst (.val undef)) (qrV o (some hole)) ((i,⟨.none,[],qbK H f ops o⟩) :: fps) R k))
   else if quj H f o st.E then quU ops o st R
    (λst=>qj0 P H J T O ctx f o st R λst' fp=>qi9 ops rest st' (qrV o hole) ((i,⟨fp,ql0 H f o st.E,qbK H f ops o⟩) :: fps) R k)
    (λst=>qi9 ops rest (st.put o.dst (.val undef)) (qrV o hole) ((i,⟨.none,[],qbK H f ops o⟩) :: fps) R k)
   else none
def qFF:Operand->Tmp
 | .tmp t=>t
 | _=>0
def qyN (ops:List Oper):List Mask :=
 ops.foldl (λacc o=>acc ++ [(qbQ o).foldl (λm j=>Mask.ins j (m ++ acc.getD j .empty)) .empty]) []
def qkK (U:List (Nat × Nat)) (ops:Array Oper):Bool :=
 let asz:=qyN ops.toList
 (List.range ops.size).all λi =>
  match ops[i]? with
  | none=>false
  | some y=>(qbQ y).all (λj=>decide (j < i)) && (List.range i).all λj =>
   (asz.getD i .empty).has j || match ops[j]? with
    | none=>false
    | some x=>qcS ops x y && (qgN H f ops x y || U.contains (j,i))
def qmC (draw:Bool) (asz:List Mask) (i c:Nat):Bool:=if draw then (asz.getD c .empty).has i else decide (i < c)
def qru (draw:Bool) (asz:List Mask) (ops:Array Oper) (lone:Bool) (c:Nat) (oc:Oper):Bool :=
 (!qmx H f oc || (oc.guard.isNone && (match oc.dst with
   | some d=>!(tmpsOf oc).contains d
   | none=>true) && (List.range ops.size).all λi=>i == c || qmC draw asz i c || match ops[i]? with
    | some oi=>qml H f oc oi
    | none=>false)) &&
 (!qho H f oc || (oc.guard.isNone && (List.range ops.size).all λi=>i == c || qmC draw asz i c || qmC draw asz c i)) &&
 (!(qmx H f oc && qiL H f oc) || lone) &&
 (!qmZ H f oc || (List.range ops.size).any λs=>qmC draw asz c s && match ops[s]? with
  | some os=>qho H f os
  | none=>false) &&
 (!qmZ H f oc || (List.range ops.size).all λi=>i == c || qmC draw asz i c || qmC draw asz c i || match ops[i]? with
  | some oi=>qlg H f ops c oc oi
  | none=>false)
def qvG (draw:Bool) (ops:Array Oper):Bool :=
 let asz:=qyN ops.toList
 let lone:=decide ((ops.toList.filter (qho H f)).length<=1)
 (List.range ops.size).all λc=>match ops[c]? with
  | some oc=>qru H f draw asz ops lone c oc
  | none=>false
noncomputable def qEr:List Tmp->TSt->Option TSt
 | [],st=>some st
 | D,st=>st.clear D
noncomputable def qDA (F:List Int->Option (List Int)) (t:Tmp) (d:Option Tmp) (st:TSt) (R:Type) (k:TSt->Option R):Option R :=
 if st.L.isEmpty && qog st.B then
  match st.E.get t with
  | .t (.sl (.int .i64)) o xs=>if qbl o = true then (F xs).bind λys=>k (((st.qca []).put (some t) (.t (.sl (.int .i64)) o ys)).put d (.any [])) else none
  | _=>none
 else none
noncomputable def tx (bid:Nat):Code->TSt->(R:Type)->(Ex->TSt->Option R)->Option R
 | .skip,st,_,k=>k .normal st
 | .region id ops draw,st,R,k=>qxH (J.join ctx f (.region id)) st (λst R k =>
   match qEr (H.pre f id) st with
   | none=>none
   | some st =>
   match qh4 H ops draw with
   | some (F,t,e,d)=>if e < st.E.n then qDA F t d (st.put (some e) (.any [])) R λst=>k .normal st else none
   | none =>
   if qxT H f ops then
    (if qvG H f draw ops && (!draw || qkK H f (H.pairs f id) ops) then
     qi9 P H J T O ctx f ops (List.range ops.size) st none [] R λst fps=>if !draw || qhN (H.pairs f id) fps then k .normal st else none
    else none)
   else if draw then
    (if qkK H f (H.pairs f id) ops then
     match H.pairs f id with
     | []=>qxm P H J T O ctx f ops (List.range ops.size) st R λst=>k .normal st
     | U=>qsK P H J T O ctx f ops (List.range ops.size) st [] R λst fps=>if qhN U fps then k .normal st else none
    else none)
   else qxm P H J T O ctx f ops (List.range ops.size) st R λst=>k .normal st) R k
 | .seq a b,st,R,k=>tx bid a st R λe st=>match e with
  | .normal=>tx bid b st R k
  | e=>k e st
 | .cond c a b,st,R,k=>qxH (J.join ctx f (.cond (qFF c))) st (λst R k=>match rdT H f default st.E c with
   | .t .bool _ t=>bif t then tx bid a st R k else tx bid b st R k
   | _=>none) R k
 | .block id c,st,R,k=>qxH (J.join ctx f (.block id)) st (λst R k=>tx id c st R λe st=>match e with
   | .exit i=>if i = id then k .normal st else k (.exit i) st
   | e=>k e st) R k
 | .loop c,st,R,k=>match J.join ctx f (.loop bid) with
  | some j =>
   if st.qmh j then
    (asL j.ps (j.lv.map st.get)).bind λx0 =>
     qab (λx=>match (st.fresh.qb2 j (ofL j.ps x)).clear (H.clear f bid) with
      | some st1=>tx bid c st1 (denL (j.ps.map (·.1)) ⊕ R) λe st2=>match e with
       | .normal=>(st2.outs st j).map .inl
       | e=>(k e (st2.merge st)).map .inr
      | none=>none) x0
   else none
  | none=>match st.clear (H.clear f bid) with
   | some st=>tx bid c st R λe st=>match e with
    | .normal=>O.code ctx f bid (.loop c) st R k
    | e=>k e st
   | none=>none
 | .rangeFunc g ps asz bo,st,R,k =>
  match rdT H f default st.E g,ps.toList with
  | .fn h first cap,t :: ts =>
   if (q7 st.B t).isNone && decide (t < 16384) then
    qqy H J T O ctx f t (.fn h first cap) [.yld ⟨st.L.length,t⟩] { st with B:=(t,some [.lp .ready none f (dullL st.E.toL) (t :: ts) asz bo]) :: st.B,Wb:=⟨st.L.length,t⟩ :: st.Wb } R λ_ s =>
     if qdp st.L.length [t] (qkW (qaN [t] s.B)) && qxC (qaN [t] s.B) then
      (match q7 s.B t with
      | some (some [.lp .ready none _ _ _ _ _])=>k .normal { s with B:=qaN [t] s.B,Wb:=st.Wb ++ s.Wb.filter (λq=>!decide (q = ⟨st.L.length,t⟩)) }
      | some (some [.lp .done (some .ret) _ _ _ _ _])=>k .ret { s with B:=qaN [t] s.B,Wb:=st.Wb ++ s.Wb.filter (λq=>!decide (q = ⟨st.L.length,t⟩)) }
      | some (some [.lp .done (some (.exit id)) _ _ _ _ _])=>k (.exit id) { s with B:=qaN [t] s.B,Wb:=st.Wb ++ s.Wb.filter (λq=>!decide (q = ⟨st.L.length,t⟩)) }
      | _=>none)
     else none
   else none
  | _,_=>none
 | .exit id,st,_,k=>k (.exit id) st
 | .ret,st,_,k=>k .ret st
 | _,_,_,_=>none
noncomputable def qjV (st:TSt):ResultVar->Option TV
 | .tmp t=>some (st.E.get t)
 | .cell a t=>match st.E.get a with
  | .ptr r off=>match st.box r with
   | some cs=>if r.slot < 16384 then qba P t (cs.drop off) else none
   | none=>none
  | _=>none
def qf6:List (Option TV)->Option (List TV)
 | []=>some []
 | some v :: l=>(qf6 l).map (v :: ·)
 | none :: _=>none
noncomputable def qgx (st:TSt):ResultVar->Option (Bool × Nat × Nat)
 | .tmp t=>some (false,t,0)
 | .cell a _=>match st.E.get a with
  | .ptr r _=>some (true,r.lvl,r.slot)
  | _=>none
def qlG:List (Option (Bool × Nat × Nat))->Option (List (Bool × Nat × Nat))
 | []=>some []
 | some v :: l=>(qlG l).map (v :: ·)
 | none :: _=>none
def qbC:List TV->TV
 | [r]=>r
 | rs=>.tuple rs
noncomputable def runT (args:List TV) (M:List qT) (R:Type) (k:TV->List qT->List Root->Option R):Option R :=
 if J.lib f then none else
 match P.funcs[f]? with
 | some fn=>match fn.body with
  | some c=>qxH (J.join ctx f (.inl 0)) { E:=Env.qhs args fn.ntmps,L:=M,B:=[],Wt:=.empty,Wb:=[] }
    (λst R k=>tx P H J T O ctx f 0 c st R λe st=>match e with
     | .normal=>k .normal st
     | .ret=>k .normal st
     | _=>none) R λ_ st =>
   match qf6 (fn.results.toList.map (qjV P st)),qlG (fn.results.toList.map (qgx st)) with
   | some rs,some ks=>if knownL rs && ((ptrsTL rs).all λr=>decide (r.lvl < M.length)) && qpQ M.length ks then k (qbC rs) st.L st.Wb
    else if knownL rs && M.isEmpty && qpQ M.length ks && !((ptrsTL rs).all λr=>decide (r.lvl < M.length)) then (match peekTL st.box rs with
     | some xs=>if knownL xs && (ptrsTL xs).isEmpty then k (qbC xs) st.L st.Wb else none
     | none=>none)
    else none
   | _,_=>none
  | none=>none
 | none=>none
noncomputable def qAE (args:List TV) (R:Type) (k:TV->TV->Option R):Option R :=
 if J.lib f then none else
 match P.funcs[f]? with
 | some fn=>match fn.body with
  | some c=>tx P H J T O ctx f 0 c { E:=Env.qhs args fn.ntmps,L:=[],B:=[],Wt:=.empty,Wb:=[] } R λe st =>
   match e with
   | .exit _=>none
   | _=>match qf6 (fn.results.toList.map (qjV P st)) with
    | some rs=>match peekTL st.box rs with
     | some xs=>match ptrsTL xs with
      | [r]=>if r.lvl = 0 then (match st.box r with
       | some [.t (.mset τ) o l]=>if knownL xs && onlyMapsTL xs then k (qbC xs) (.t (.mset τ) o l) else none
       | _=>none) else none
      | _=>none
     | none=>none
    | none=>none
  | none=>none
 | none=>none
end
def TV.qeo:TV->TV
 | .val (.slice none 0 0)=>.empty 1
 | v=>v
def dnT (H:Hints) (g:FuncId) (l:List TV):List TV:=bif H.qeo g then l.map TV.qeo else l
noncomputable def qo6 (P:Program) (H:Hints) (J:TH) (T:qss):Nat->TOrc
 | 0=>{ call:=λ_ _ _ _ _ _=>none,code:=λ_ _ _ _ _ _ _=>none,born:=λ_ _ _ _ _=>none }
 | n + 1=>{
   call:=λctx g args M R k=>runT P H J T (qo6 P H J T n) ctx g (dnT H g args) M R k
   code:=λctx f bid c st R k=>tx P H J T (qo6 P H J T n) ctx f bid c st R k
   born:=λctx g args R k=>qAE P H J T (qo6 P H J T n) ctx g args R k }
def qAq:(rs:List (Ty × Nat))->TV->Option (denL (rs.map (·.1)))
 | [p],r=>asL [p] [r]
 | rs,.tuple l=>asL rs l
 | _,_=>none
noncomputable def fnT (P:Program) (H:Hints) (J:TH) (T:qss) (n:Nat) (g:FuncId) (args:List TV) (rs:List (Ty × Nat)):Option (denL (rs.map (·.1))) :=
 (qo6 P H J T n).call [] g args [] _ λr M _=>match M with
  | []=>qAq rs r
  | _=>none
inductive Cp where
 | v (τ:Ty)
 | p (τ:Ty)
@[reducible] def Cp.den:Cp->Type
 | .v τ=>τ.den
 | .p τ=>τ.den
@[reducible] def denC:List Cp->Type
 | []=>Unit
 | [c]=>c.den
 | c :: q :: l=>c.den × denC (q :: l)
inductive Pm where
 | ty (τ:Ty)
 | ptr (τ:Ty)
 | fn (g:FuncId) (caps:List Cp)
@[reducible] def Pm.den:Pm->Type
 | .ty τ=>τ.den
 | .ptr τ=>τ.den
 | .fn _ cs=>denC cs
@[reducible] def denP:List Pm->Type
 | []=>Unit
 | [p]=>p.den
 | p :: q :: l=>p.den × denP (q :: l)
def quz (τ:Ty) (cs:List TV):Option τ.den :=
 if τ.one = true then (match cs with
  | [c]=>qhu τ 1000 c
  | _=>none) else qhu τ 1000 (.agg cs)
def qD1:(c:Cp)->TV->Option c.den
 | .v τ,v=>qhu τ 1000 v
 | .p τ,.cptr true cs=>quz τ cs
 | .p _,_=>none
def qEH:(c:Cp)->c.den->TV
 | .v τ,x=>ofTy τ 1000 x
 | .p τ,x=>.cptr true (ofTy τ 1000 x).cells
def qsU:(cs:List Cp)->List TV->Option (denC cs)
 | [],[]=>some ()
 | [c],[v]=>qD1 c v
 | c :: q :: ps,v :: l=>(qD1 c v).bind λx=>(qsU (q :: ps) l).bind λy=>some (x,y)
 | _,_=>none
def qBs:(cs:List Cp)->denC cs->List TV
 | [],_=>[]
 | [c],x=>[qEH c x]
 | c :: q :: ps,x=>qEH c x.1 :: qBs (q :: ps) x.2
def qEq:(p:Pm)->TV->Option p.den
 | .ty τ,v=>qhu τ 1000 v
 | .ptr τ,v=>qD1 (.p τ) v
 | .fn g cs,.fn g' [] cap=>if g = g' then qsU cs cap else none
 | .fn _ _,_=>none
def qA0:(p:Pm)->p.den->TV
 | .ty τ,x=>ofTy τ 1000 x
 | .ptr τ,x=>qEH (.p τ) x
 | .fn g cs,x=>.fn g [] (qBs cs x)
def qs5:(ps:List Pm)->List TV->Option (denP ps)
 | [],[]=>some ()
 | [p],[v]=>qEq p v
 | p :: q :: ps,v :: l=>(qEq p v).bind λx=>(qs5 (q :: ps) l).bind λy=>some (x,y)
 | _,_=>none
def qfP:(ps:List Pm)->denP ps->List TV
 | [],_=>[]
 | [p],x=>[qA0 p x]
 | p :: q :: ps,x=>qA0 p x.1 :: qfP (q :: ps) x.2
structure Entry where
 g:FuncId
 ps:List Pm
 rs:List (Ty × Nat)
 F:denP ps->Option (denL (rs.map (·.1)))
def qi1 (rs:List (Ty × Nat)) (x:denL (rs.map (·.1))):TV:=qbC (ofL rs x)
def qvO:List Entry->qss
 | [],_,_,_,_=>none
 | e :: l,g,args,R,k=>if e.g = g then (match qs5 e.ps args with
   | some x=>(e.F x).bind λy=>k (qi1 e.rs y)
   | none=>qvO l g args R k) else qvO l g args R k
end Go.Tx
end
section
set_option maxRecDepth 100000
namespace Go.Fl
open Ieee
def Val (d:Datum) (n:Int):Prop:=∃ neg mag place,d = .number neg mag place/\mag * 2 ^ place.toNat = n.natAbs * 2 ^ (-place).toNat/\(neg = true->n<=0)/\(neg = false->0<=n)
def IsF (w:Nat) (n:Int):Prop:=Val (double.read w) n
theorem qgP:double.leastPlace = -1074:=by decide
theorem qt0:double.binade = 2 ^ 52:=rfl
theorem qqf:double.infRung = 2047 * 2 ^ 52:=rfl
theorem qky:double.signWeight = 2 ^ 63:=rfl
theorem qys (neg:Bool) {r:Nat} (h:r < 2 ^ 63):(double.word neg r) / 2 ^ 63 % 2 = (if neg then 1 else 0)/\(double.word neg r) % 2 ^ 63 = r:=by
 unfold Format.word;rw [qky];cases neg
 ·simp only [qj,if_false] <;> omega
 ·simp only [if_true] <;> omega
theorem qz6 (neg:Bool) {k e:Nat} (h1:2 ^ 52<=k) (h2:k < 2 ^ 53) (he:e<=2000):double.read (double.word neg (e * 2 ^ 52 + k)) = .number neg k (-1074 + (e:Int)):=by
 have hr:=qys neg (r:=e * 2 ^ 52 + k) (by omega);unfold Format.read;rw [qky,qt0,qqf,qgP];simp only [hr.1,hr.2];have c1:¬ (e * 2 ^ 52 + k < 2 ^ 52):=by omega
 have c2:e * 2 ^ 52 + k < 2047 * 2 ^ 52:=by omega
 rw [if_neg c1,if_pos c2];have e1:(e * 2 ^ 52 + k) % 2 ^ 52 = k - 2 ^ 52:=by omega
 have e2:(e * 2 ^ 52 + k) / 2 ^ 52 = e + 1:=by omega
 rw [e1,e2];have e3:2 ^ 52 + (k - 2 ^ 52) = k:=by omega
 rw [e3];have e4:e + 1 - 1 = e:=by omega
 rw [e4];cases neg <;> rfl
theorem qAP (neg:Bool):double.read (double.word neg 0) = .number neg 0 (-1074):=by
 cases neg <;> decide
theorem qAS (neg:Bool) {q d:Nat} (hq:0 < q):Toward.even.cut neg (q * 2 ^ d) d = q:=by
 unfold Toward.cut;have hl:d<=(q * 2 ^ d).log2:=by
  rw [Nat.le_log2 (by have:=Nat.pow_pos (n:=d) (show 0 < 2 by omega); have:=Nat.mul_pos hq this; omega)];exact Nat.le_mul_of_pos_left _ hq
 have hm:min d ((q * 2 ^ d).log2 + 2) = d:=by omega
 simp only [hm,Nat.one_shiftLeft];have hp:0 < 2 ^ d:=Nat.pow_pos (by omega);have e1:q * 2 ^ d / 2 ^ d = q:=Nat.mul_div_cancel _ hp;have e2:q * 2 ^ d % 2 ^ d = 0:=Nat.mul_mod_left _ _;rw [e1,e2];have c1:decide (2 ^ d < 2 * 0) = false:=by simp
 have c2:((2 ^ d == 2 * 0) && (q % 2 == 1)) = false:=by
  have:(2 ^ d == 2 * 0) = false:=by simp
  rw [this]; rfl
 simp [c2]
theorem qvW (m k:Nat) (hm:m ≠ 0):(m * 2 ^ k).log2 = m.log2 + k:=by
 have hp:0 < 2 ^ k:=Nat.pow_pos (by omega);have hne:m * 2 ^ k ≠ 0:=by have:=Nat.mul_pos (Nat.pos_of_ne_zero hm) hp; omega
 rw [Nat.log2_eq_iff hne];have h1:=Nat.log2_self_le hm;have h2:=@Nat.lt_log2_self m;constructor
 ·rw [Nat.pow_add]; exact Nat.mul_le_mul_right _ h1
 ·have:2 ^ (m.log2 + k + 1) = 2 ^ (m.log2 + 1) * 2 ^ k:=by rw [<- Nat.pow_add]; congr 1; omega
  rw [this]; exact Nat.mul_lt_mul_of_pos_right h2 hp
theorem qE4 (B q k:Nat) (h3:q<=1074 * B) (hk:k < 2 * B):q + k<=2047 * B:=by omega
theorem qkj {d:Datum} {n:Int} (h:Val d n) (hn:n.natAbs < 2 ^ 53):IsF (double.write d) n:=by
 obtain ⟨neg,mag,place,rfl,hv,hs1,hs2⟩:=h;unfold IsF;show Val (double.read (double.nearest neg mag place)) n;unfold Format.nearest;by_cases h0:mag = 0
 ·rw [if_pos h0,qAP];subst h0;have hz:n.natAbs = 0:=by
   have hp:0 < 2 ^ (-place).toNat:=Nat.pow_pos (by omega);rw [Nat.zero_mul] at hv;rcases Nat.mul_eq_zero.1 hv.symm with h | h
   ·exact h
   ·omega
  exact ⟨neg,0,-1074,rfl,by rw [hz,Nat.zero_mul,Nat.zero_mul],hs1,hs2⟩
 rw [if_neg h0];have hnz:n.natAbs ≠ 0:=by
  intro hz;rw [hz,Nat.zero_mul] at hv;have hp:0 < 2 ^ place.toNat:=Nat.pow_pos (by omega);rcases Nat.mul_eq_zero.1 hv with h | h <;> omega
 have hlog:(mag.log2:Int) + place = n.natAbs.log2:=by
  have h1:=congrArg Nat.log2 hv;rw [qvW _ _ h0,qvW _ _ hnz] at h1;omega
 have hl53:n.natAbs.log2 < 53:=(Nat.log2_lt hnz).2 hn;generalize hL:n.natAbs.log2 = L at *;have hfb:(double.fractionBits:Int) = 52:=rfl;have hlast:max (place + (mag.log2:Int) - (double.fractionBits:Int)) double.leastPlace = (L:Int) - 52:=by
  rw [qgP,hfb]; omega
 simp only [hlast];have hL2:L + 1022<=2000:=by omega
 have t2:(-((-1074:Int) + ((L + 1022:Nat):Int))).toNat = 52 - L:=by omega
 have t3:((-1074:Int) + ((L + 1022:Nat):Int)).toNat = 0:=by omega
 -- the significand
 have hkept:Toward.even.cut neg (mag <<< (place - ((L:Int) - 52)).toNat) (((L:Int) - 52) - place).toNat = n.natAbs * 2 ^ (52 - L):=by
  have hp52:0 < 2 ^ (52 - L):=Nat.pow_pos (by omega);have hq:0 < n.natAbs * 2 ^ (52 - L):=Nat.mul_pos (Nat.pos_of_ne_zero hnz) hp52;have key:mag <<< (place - ((L:Int) - 52)).toNat = n.natAbs * 2 ^ (52 - L) * 2 ^ (((L:Int) - 52) - place).toNat:=by
   rw [Nat.shiftLeft_eq]
   -- mag * 2^place = |n|
   refine Nat.eq_of_mul_eq_mul_right (Nat.pow_pos (n:=place.toNat + (-place).toNat) (show 0 < 2 by omega)) ?_;have a1:mag * 2 ^ (place - ((L:Int) - 52)).toNat * 2 ^ (place.toNat + (-place).toNat) = (mag * 2 ^ place.toNat) * 2 ^ ((place - ((L:Int) - 52)).toNat + (-place).toNat):=by
    rw [Nat.pow_add,Nat.pow_add]; ac_rfl
   have a2:n.natAbs * 2 ^ (52 - L) * 2 ^ (((L:Int) - 52) - place).toNat * 2 ^ (place.toNat + (-place).toNat) = n.natAbs * 2 ^ ((52 - L) + (((L:Int) - 52) - place).toNat + (place.toNat + (-place).toNat)):=by
    rw [Nat.mul_assoc,Nat.mul_assoc,<- Nat.pow_add,<- Nat.pow_add];congr 2
    omega
   rw [a1,hv,a2,Nat.mul_assoc,<- Nat.pow_add];congr 2
   omega
  rw [key,qAS neg hq]
 rw [hkept];have hk1:2 ^ 52<=n.natAbs * 2 ^ (52 - L):=by
  have h1:2 ^ L<=n.natAbs:=by rw [<- hL]; exact Nat.log2_self_le hnz
  have h2:2 ^ 52 = 2 ^ L * 2 ^ (52 - L):=by rw [<- Nat.pow_add]; congr 1; omega
  rw [h2]; exact Nat.mul_le_mul_right _ h1
 have hk2:n.natAbs * 2 ^ (52 - L) < 2 ^ 53:=by
  have h1:n.natAbs < 2 ^ (L + 1):=by rw [<- hL]; exact Nat.lt_log2_self
  have h2:2 ^ 53 = 2 ^ (L + 1) * 2 ^ (52 - L):=by rw [<- Nat.pow_add]; congr 1; omega
  rw [h2]; exact Nat.mul_lt_mul_of_pos_right h1 (Nat.pow_pos (by omega))
 have he:(((L:Int) - 52) - double.leastPlace).toNat = L + 1022:=by rw [qgP]; omega
 rw [he,qt0,qqf];have h3:(L + 1022) * 2 ^ 52<=1074 * 2 ^ 52:=Nat.mul_le_mul_right _ (by omega);have h5:2 ^ 53 = 2 * 2 ^ 52:=by rw [Nat.pow_succ,Nat.mul_comm]
 rw [h5] at hk2;have hmin:min ((L + 1022) * 2 ^ 52 + n.natAbs * 2 ^ (52 - L)) (2047 * 2 ^ 52) = (L + 1022) * 2 ^ 52 + n.natAbs * 2 ^ (52 - L):=Nat.min_eq_left (qE4 _ _ _ h3 hk2);rw [<- h5] at hk2;rw [hmin,qz6 neg hk1 hk2 hL2];refine ⟨neg,n.natAbs * 2 ^ (52 - L),-1074 + ((L + 1022:Nat):Int),rfl,?_,hs1,hs2⟩;rw [t2,t3,Nat.pow_zero,Nat.mul_one]
theorem qCQ {neg:Bool} {mag:Nat} {place base:Int} {n:Int} (hv:mag * 2 ^ place.toNat = n.natAbs * 2 ^ (-place).toNat) (h1:neg = true->n<=0) (h2:neg = false->0<=n) (hb:base<=place) :
  signed neg mag (place - base).toNat * (2 ^ base.toNat:Nat) = n * (2 ^ (-base).toNat:Nat):=by
 have key:mag * 2 ^ (place - base).toNat * 2 ^ base.toNat = n.natAbs * 2 ^ (-base).toNat:=by
  refine Nat.eq_of_mul_eq_mul_right (Nat.pow_pos (n:=(-place).toNat) (show 0 < 2 by omega)) ?_;have a1:mag * 2 ^ (place - base).toNat * 2 ^ base.toNat * 2 ^ (-place).toNat = mag * 2 ^ place.toNat * 2 ^ (-base).toNat:=by
   rw [Nat.mul_assoc,Nat.mul_assoc,Nat.mul_assoc,<- Nat.pow_add,<- Nat.pow_add,<- Nat.pow_add];congr 2; omega
  rw [a1,hv,Nat.mul_assoc,Nat.mul_assoc,Nat.mul_comm (2 ^ (-place).toNat)]
 unfold signed;cases neg with
 | true =>
  have hn:=h1 rfl;have e:n = -(n.natAbs:Int):=by omega
  simp only [if_true,Nat.shiftLeft_eq];rw [Int.neg_mul,<- Int.natCast_mul,key];conv=>rhs; rw [e]
  rw [Int.neg_mul,Int.natCast_mul]
 | false =>
  have hn:=h2 rfl;have e:n = (n.natAbs:Int):=by omega
  simp only [qj,if_false,Nat.shiftLeft_eq];rw [<- Int.natCast_mul,key];conv=>rhs; rw [e]
  rw [Int.natCast_mul]
theorem qyU {x y:Datum} {m n:Int} (hx:Val x m) (hy:Val y n):∃ d,x.sum y = some d/\Val d (m + n):=by
 obtain ⟨s,p,i,rfl,hv,h1,h2⟩:=hx;obtain ⟨t,q,j,rfl,hw,h3,h4⟩:=hy;have e1:=qCQ (base:=min i j) hv h1 h2 (by omega);have e2:=qCQ (base:=min i j) hw h3 h4 (by omega);refine ⟨_,rfl,?_⟩;generalize hb:min i j = base at *;generalize hT:signed s p (i - base).toNat + signed t q (j - base).toNat = total;have e3:total * (2 ^ base.toNat:Nat) = (m + n) * (2 ^ (-base).toNat:Nat):=by
  rw [<- hT,Int.add_mul,Int.add_mul,e1,e2]
 have hp:(0:Int) < (2 ^ base.toNat:Nat):=by have:=Nat.pow_pos (n:=base.toNat) (show 0 < 2 by omega); omega
 have hq:(0:Int) < (2 ^ (-base).toNat:Nat):=by have:=Nat.pow_pos (n:=(-base).toNat) (show 0 < 2 by omega); omega
 refine ⟨_,_,_,rfl,?_,?_,?_⟩
 ·have:=congrArg Int.natAbs e3;rw [Int.natAbs_mul,Int.natAbs_mul,Int.natAbs_natCast,Int.natAbs_natCast] at this;exact this
 ·intro h;by_cases h0:total = 0
  ·rw [h0,Int.zero_mul] at e3;rcases Int.mul_eq_zero.1 e3.symm with h9 | h9 <;> omega
  ·rw [if_neg h0] at h;have hneg:total < 0:=by simpa using h
   have h5:=Int.mul_neg_of_neg_of_pos hneg hp;rw [e3] at h5;rcases Int.lt_or_le 0 (m + n) with h6 | h6
   ·have:=Int.mul_pos h6 hq; omega
   ·exact h6
 ·intro h;by_cases h0:total = 0
  ·rw [h0,Int.zero_mul] at e3;rcases Int.mul_eq_zero.1 e3.symm with h9 | h9 <;> omega
  ·rw [if_neg h0] at h;have hpos:0<=total:=by
    have:¬ total < 0:=by simpa using h
    omega
   have h5:=Int.mul_nonneg hpos (by omega:(0:Int)<=(2 ^ base.toNat:Nat));rw [e3] at h5;rcases Int.lt_or_le (m + n) 0 with h6 | h6
   ·have:=Int.mul_neg_of_neg_of_pos h6 hq; omega
   ·exact h6
theorem qDd {x:Datum} {m:Int} (hx:Val x m):Val x.opposite (-m):=by
 obtain ⟨s,p,i,rfl,hv,h1,h2⟩:=hx;refine ⟨!s,p,i,rfl,by rw [Int.natAbs_neg]; exact hv,λh=>?_,λh=>?_⟩
 ·have:=h2 (by cases s <;> simp_all); omega
 ·have:=h1 (by cases s <;> simp_all); omega
theorem qvo {x y:Datum} {m n:Int} (hx:Val x m) (hy:Val y n):∃ d,x.product y = some d/\Val d (m * n):=by
 obtain ⟨s,p,i,rfl,hv,h1,h2⟩:=hx;obtain ⟨t,q,j,rfl,hw,h3,h4⟩:=hy;refine ⟨_,rfl,_,_,_,rfl,?_,λh=>?_,λh=>?_⟩
 ·rw [Int.natAbs_mul];refine Nat.eq_of_mul_eq_mul_right (Nat.pow_pos (n:=(-i).toNat + (-j).toNat) (show 0 < 2 by omega)) ?_;have a1:p * q * 2 ^ (i + j).toNat * 2 ^ ((-i).toNat + (-j).toNat) = (p * 2 ^ i.toNat) * (q * 2 ^ j.toNat) * 2 ^ (-(i + j)).toNat:=by
   have b1:p * q * 2 ^ (i + j).toNat * 2 ^ ((-i).toNat + (-j).toNat) = p * q * 2 ^ ((i + j).toNat + ((-i).toNat + (-j).toNat)):=by rw [Nat.mul_assoc,<- Nat.pow_add]
   have b2:(p * 2 ^ i.toNat) * (q * 2 ^ j.toNat) * 2 ^ (-(i + j)).toNat = p * q * 2 ^ ((i.toNat + j.toNat) + (-(i + j)).toNat):=by
    rw [Nat.pow_add,Nat.pow_add]; ac_rfl
   rw [b1,b2]; congr 2; omega
  rw [a1,hv,hw];have b3:n.natAbs * 2 ^ (-j).toNat = n.natAbs * 2 ^ (-j).toNat:=rfl;rw [Nat.pow_add]; ac_rfl
 ·cases s <;> cases t <;> simp at h
  ·exact Int.mul_nonpos_of_nonneg_of_nonpos (h2 rfl) (h3 rfl)
  ·exact Int.mul_nonpos_of_nonpos_of_nonneg (h1 rfl) (h4 rfl)
 ·cases s <;> cases t <;> simp at h
  ·exact Int.mul_nonneg (h2 rfl) (h4 rfl)
  ·exact Int.mul_nonneg_of_nonpos_of_nonpos (h1 rfl) (h3 rfl)
theorem qE9 {a b:Nat} {m n:Int} (ha:IsF a m) (hb:IsF b n) (h:(m + n).natAbs < 2 ^ 53):∃ r,double.add a b = some r/\IsF r (m + n):=by
 obtain ⟨d,hd,hv⟩:=qyU ha hb;exact ⟨_,by unfold Format.add; rw [hd]; rfl,qkj hv h⟩
theorem qFc {a b:Nat} {m n:Int} (ha:IsF a m) (hb:IsF b n) (h:(m - n).natAbs < 2 ^ 53):∃ r,double.sub a b = some r/\IsF r (m - n):=by
 obtain ⟨d,hd,hv⟩:=qyU ha (qDd hb);exact ⟨_,by unfold Format.sub; rw [hd]; rfl,qkj hv h⟩
theorem qEF {a b:Nat} {m n:Int} (ha:IsF a m) (hb:IsF b n) (h:(m * n).natAbs < 2 ^ 53):∃ r,double.mul a b = some r/\IsF r (m * n):=by
 obtain ⟨d,hd,hv⟩:=qvo ha hb;exact ⟨_,by unfold Format.mul; rw [hd]; rfl,qkj hv h⟩
theorem qDm (n:Int):Val (.number (n < 0) n.natAbs 0) n:=⟨_,_,_,rfl,rfl,λh=>Int.le_of_lt (by simpa using h),λh=>Int.not_lt.1 (by simpa using h)⟩
theorem qvU {n:Int} (h:n.natAbs < 2 ^ 53):IsF (double.write (.number (n < 0) n.natAbs 0)) n:=qkj (qDm n) h
theorem qCC (neg:Bool) {q d:Nat}:Toward.zero.cut neg (q * 2 ^ d) d = q:=by
 unfold Toward.cut;simp only [Nat.one_shiftLeft,Bool.toNat_false,Nat.add_zero];by_cases hq:q = 0
 ·rw [hq,Nat.zero_mul,Nat.zero_div]
 have hl:d<=(q * 2 ^ d).log2:=by
  have hp:=Nat.mul_pos (Nat.pos_of_ne_zero hq) (Nat.pow_pos (n:=d) (show 0 < 2 by omega));rw [Nat.le_log2 (by omega)];exact Nat.le_mul_of_pos_left _ (Nat.pos_of_ne_zero hq)
 rw [show min d ((q * 2 ^ d).log2 + 2) = d by omega];exact Nat.mul_div_cancel _ (Nat.pow_pos (by omega))
theorem qBD {d:Datum} {n:Int} (h:Val d n):d.toInt .zero = some n:=by
 obtain ⟨neg,mag,place,rfl,hv,h1,h2⟩:=h;unfold Datum.toInt Datum.integral;simp only
 have hc:Toward.zero.cut neg (mag <<< place.toNat) (-place).toNat = n.natAbs:=by
  rw [Nat.shiftLeft_eq,hv]; exact qCC neg
 rw [hc];unfold signed;rw [Nat.shiftLeft_zero];cases neg with
 | true=>have:=h1 rfl; simp only [if_true]; congr 1; omega
 | false=>have:=h2 rfl; simp only [qj,if_false]; congr 1; omega
end Go.Fl
end
section
namespace Go.Fl
open Go Ieee
theorem qnR {a b:Nat} {m n:Int} (ha:IsF a m) (hb:IsF b n) (h:(m + n).natAbs < 2 ^ 53):∃ r,floatBits .add .f64 a b = some r/\IsF r (m + n):=qE9 ha hb h
theorem qAy {a b:Nat} {m n:Int} (ha:IsF a m) (hb:IsF b n) (h:(m - n).natAbs < 2 ^ 53):∃ r,floatBits .sub .f64 a b = some r/\IsF r (m - n):=qFc ha hb h
theorem qlf {a b:Nat} {m n:Int} (ha:IsF a m) (hb:IsF b n) (h:(m * n).natAbs < 2 ^ 53):∃ r,floatBits .mul .f64 a b = some r/\IsF r (m * n):=qEF ha hb h
theorem qDg {a b c d:Nat} {x y u v:Int} (ha:IsF a x) (hb:IsF b y) (hc:IsF c u) (hd:IsF d v) (h1:(x + u).natAbs < 2 ^ 53) (h2:(y + v).natAbs < 2 ^ 53) :
  ∃ re im,cSumBits .add .f64 a b c d = some (re,im)/\IsF re (x + u)/\IsF im (y + v):=by
 obtain ⟨re,e1,r1⟩:=qnR ha hc h1;obtain ⟨im,e2,r2⟩:=qnR hb hd h2;exact ⟨re,im,by unfold cSumBits; rw [e1,qb,e2,qb],r1,r2⟩
theorem qDD {a b c d:Nat} {x y u v:Int} (ha:IsF a x) (hb:IsF b y) (hc:IsF c u) (hd:IsF d v)
  (h1:(x * u).natAbs < 2 ^ 53) (h2:(y * v).natAbs < 2 ^ 53) (h3:(x * u - y * v).natAbs < 2 ^ 53) (h4:(x * v).natAbs < 2 ^ 53) (h5:(y * u).natAbs < 2 ^ 53) (h6:(x * v + y * u).natAbs < 2 ^ 53) :
  ∃ re im,cMulBits a b c d = some (re,im)/\IsF re (x * u - y * v)/\IsF im (x * v + y * u):=by
 obtain ⟨ac,e1,r1⟩:=qlf ha hc h1;obtain ⟨bd,e2,r2⟩:=qlf hb hd h2;obtain ⟨re,e3,r3⟩:=qAy r1 r2 h3;obtain ⟨ad,e4,r4⟩:=qlf ha hd h4;obtain ⟨bc,e5,r5⟩:=qlf hb hc h5;obtain ⟨im,e6,r6⟩:=qnR r4 r5 h6;exact ⟨re,im,by unfold cMulBits; rw [e1,qb,e2,qb,e3,qb,e4,qb,e5,qb,e6,qb],r3,r6⟩
theorem qsb:IsF 0 0:=by
 have h:=qvU (n:=0) (by decide);have e:double.write (.number (decide ((0:Int) < 0)) (0:Int).natAbs 0) = 0:=by decide
 rw [e] at h; exact h
theorem qxZ {n:Int} (h:n.natAbs < 2 ^ 53):IsF (FloatKind.f64.nearest n) n:=qvU h
end Go.Fl
end
section
namespace Go.Tx
open Go Go.Ab
inductive All2 {α β:Type} (R:α->β->Prop):List α->List β->Prop
 | nil:All2 R [] []
 | cons {a b l l'}:R a b->All2 R l l'->All2 R (a :: l) (b :: l')
section
variable {α β:Type} {R S:α->β->Prop}
theorem All2.length {l:List α} {l':List β} (h:All2 R l l'):l'.length = l.length:=by
 induction h with
 | nil=>rfl
 | cons _ _ ih=>simp [ih]
theorem All2.mono (hrs:∀ a b,R a b->S a b) {l:List α} {l':List β} (h:All2 R l l'):All2 S l l':=by
 induction h with
 | nil=>exact .nil
 | cons h1 _ ih=>exact .cons (hrs _ _ h1) ih
theorem All2.append {l m:List α} {l' m':List β} (h:All2 R l l') (h':All2 R m m'):All2 R (l ++ m) (l' ++ m'):=by
 induction h with
 | nil=>exact h'
 | cons h1 _ ih=>exact .cons h1 ih
theorem All2.take {l:List α} {l':List β} (h:All2 R l l'):∀ n,All2 R (l.take n) (l'.take n):=by
 induction h with
 | nil=>intro n; simp; exact .nil
 | cons h1 _ ih=>intro n; cases n with
  | zero=>exact .nil
  | succ n=>exact .cons h1 (ih n)
theorem All2.drop {l:List α} {l':List β} (h:All2 R l l'):∀ n,All2 R (l.drop n) (l'.drop n):=by
 induction h with
 | nil=>intro n; simp; exact .nil
 | cons h1 h2 ih=>intro n; cases n with
  | zero=>exact .cons h1 h2
  | succ n=>exact ih n
theorem All2.get {l:List α} {l':List β} (h:All2 R l l'):∀ {i:Nat} {a:α},l[i]? = some a->∃ b,l'[i]? = some b/\R a b:=by
 induction h with
 | nil=>intro i a h; simp at h
 | cons h1 h2 ih=>intro i a h; cases i with
  | zero=>simp at h; subst h; exact ⟨_,rfl,h1⟩
  | succ n=>exact ih (by simpa using h)
theorem All2.replicate {a:α} {b:β} (h:R a b):∀ n,All2 R (List.replicate n a) (List.replicate n b)
 | 0=>.nil
 | n + 1=>.cons h (All2.replicate h n)
theorem All2.map {γ:Type} {g:β->γ} {S:α->γ->Prop} (hrs:∀ a b,R a b->S a (g b)) {l:List α} {l':List β} (h:All2 R l l'):All2 S l (l'.map g):=by
 induction h with
 | nil=>exact .nil
 | cons h1 _ ih=>exact .cons (hrs _ _ h1) ih
theorem All2.all {p:β->Prop} (hp:∀ a b,R a b->p b) {l:List α} {l':List β} (h:All2 R l l'):∀ b ∈ l',p b:=by
 induction h with
 | nil=>simp
 | cons h1 _ ih =>
          intro b hb; rcases qp.1 hb with rfl | hb
          ·exact hp _ _ h1
          ·exact ih b hb
end
def FlR (o:Nat) (f:Fl):Prop:=(o ≠ 2000->(f = .own ↔ qbl o = true))/\(o = 1000->f = .shared)
def RTy:(τ:Ty)->Nat->τ.den->V->Prop
 | .int k,_,n,v=>v = .val (.int k n)
 | .bool,_,b,v=>v = .val (.bool b)
 | .str,_,s,v=>v = .val (.string ⟨s.toArray⟩)
 | .flt,_,n,v=>∃ b,v = .val (.float .f64 b)/\Fl.IsF b n
 | .cx,_,p,v=>∃ a b,v = .val (.complex .f64 a b)/\Fl.IsF a p.1/\Fl.IsF b p.2
 | .err,_,x,v=>(x = true/\v = .val .nilIface)\/(x = false/\∃ t,v = .iface t .undef)
 | .mset t,_,l,v=>qhL t = true/\v = .mp (l.map λx=>(qcX t x,.bool true))
 | .sl t,o,l,v=>∃ f c l',v = .sl f c l'/\FlR o f/\All2 (RTy t (nx o)) l l'
 | .unit,_,_,v=>v = .agg []
 | .pair a b,o,x,v=>∃ v1 l,v = .agg (v1 :: l)/\RTy a o x.1 v1/\RTy b o x.2 (.agg l)
mutual
def RV:TV->V->Prop
 | .any rs,v=>(∀ r ∈ v.qx,r ∈ rs)/\qas [v] = false
 | .t τ o x,v=>RTy τ o x v
 | .clp τ x,v=>∃ f l',v = .sl f true l'/\f ≠ .own/\All2 (RTy τ 0) x l'
 | .room a s,v=>(a < 2/\∃ n,v = .room s n/\(a = 0->n = 0))\/(2<=a/\(v = .undef\/∃ f,f ≠ .own/\v = .sl f false []))
 | .empty o,v=>∃ f c,v = .sl f c []/\FlR o f
 | .val u,v=>v = .val u
 | .agg l,v=>∃ l',v = .agg l'/\RVL l l'
 | .tuple l,v=>∃ l',v = .tuple l'/\RVL l l'
 | .fn g a b,v=>∃ a' b',v = .fn g a' b'/\RVL a a'/\RVL b b'
 | .ptr r o,v=>v = .ptr r o
 | .mref r,v=>v = .mref r
 | .bsl r o n,v=>v = .bsl r o n
 | .yld r,v=>v = .yld r
 | .lp ..,v=>False
 | .cptr s l,v=>∃ f l',v = .cptr f l'/\f ≠ .own/\(s = true->f = .shared)/\RVL l l'
 | .iface t x,v=>∃ y,v = .iface t y/\RV x y
def RVL:List TV->List V->Prop
 | [],l=>l = []
 | x :: l,l'=>∃ v m,l' = v :: m/\RV x v/\RVL l m
end
theorem qC {x:TV} {l:List TV} {v:V} {m:List V}:RVL (x :: l) (v :: m) ↔ RV x v/\RVL l m:=by
 simp only [RVL,List.cons.injEq];exact ⟨λ⟨_,_,⟨rfl,rfl⟩,h1,h2⟩=>⟨h1,h2⟩,λ⟨h1,h2⟩=>⟨_,_,⟨rfl,rfl⟩,h1,h2⟩⟩
theorem qai:RVL [] []:=by simp [RVL]
theorem RVL.length:∀ {l:List TV} {l':List V},RVL l l'->l'.length = l.length
 | [],l',h=>by simp only [RVL] at h; simp [h]
 | x :: l,l',h=>by simp only [RVL] at h; obtain ⟨v,m,rfl,_,h2⟩:=h; simp [RVL.length h2]
theorem RVL.append:∀ {l m:List TV} {l' m':List V},RVL l l'->RVL m m'->RVL (l ++ m) (l' ++ m')
 | [],m,l',m',h,h'=>by simp only [RVL] at h; simpa [h] using h'
 | x :: l,m,l',m',h,h'=>by
  simp only [RVL] at h; obtain ⟨v,n,rfl,h1,h2⟩:=h;exact qC.2 ⟨h1,RVL.append h2 h'⟩
theorem RVL.take:∀ {l:List TV} {l':List V} (n:Nat),RVL l l'->RVL (l.take n) (l'.take n)
 | _,_,0,h=>by simp [RVL]
 | [],l',n + 1,h=>by simp only [RVL] at h; simp [h,RVL]
 | x :: l,l',n + 1,h=>by
  simp only [RVL] at h; obtain ⟨v,m,rfl,h1,h2⟩:=h;exact qC.2 ⟨h1,RVL.take n h2⟩
theorem RVL.drop:∀ {l:List TV} {l':List V} (n:Nat),RVL l l'->RVL (l.drop n) (l'.drop n)
 | _,_,0,h=>by simpa using h
 | [],l',n + 1,h=>by simp only [RVL] at h; simp [h,RVL]
 | x :: l,l',n + 1,h=>by
  simp only [RVL] at h; obtain ⟨v,m,rfl,h1,h2⟩:=h;exact RVL.drop n h2
theorem RVL.get:∀ {l:List TV} {l':List V} {i:Nat} {x:TV},RVL l l'->l[i]? = some x->∃ v,l'[i]? = some v/\RV x v
 | [],l',i,x,h,hi=>by simp at hi
 | y :: l,l',0,x,h,hi=>by
  simp only [RVL] at h; obtain ⟨v,m,rfl,h1,h2⟩:=h;simp at hi; subst hi; exact ⟨v,rfl,h1⟩
 | y :: l,l',i + 1,x,h,hi=>by
  simp only [RVL] at h; obtain ⟨v,m,rfl,h1,h2⟩:=h;have hi':l[i]? = some x:=by simpa using hi
  obtain ⟨u,hu,hr⟩:=RVL.get h2 hi';exact ⟨u,by simpa using hu,hr⟩
theorem RVL.set:∀ {l:List TV} {l':List V} (i:Nat) {x:TV} {v:V},RVL l l'->RV x v->RVL (l.set i x) (l'.set i v)
 | [],l',i,x,v,h,hx=>by simp only [RVL] at h; simp [h,RVL]
 | y :: l,l',0,x,v,h,hx=>by
  simp only [RVL] at h; obtain ⟨u,m,rfl,h1,h2⟩:=h;exact qC.2 ⟨hx,h2⟩
 | y :: l,l',i + 1,x,v,h,hx=>by
  simp only [RVL] at h; obtain ⟨u,m,rfl,h1,h2⟩:=h;exact qC.2 ⟨h1,RVL.set i h2 hx⟩
theorem qcN (rs:List Root):RV (.any rs) .undef:=by simp [RV,V.qx,qas]
theorem RVL.getD {l:List TV} {l':List V} (h:RVL l l') (i:Nat):RV (l.getD i (.any [])) (l'.getD i .undef):=by
 cases hi:l[i]? with
 | some x=>obtain ⟨v,hv,hr⟩:=h.get hi; simpa [hi,hv] using hr
 | none =>
  have:l'[i]? = none:=by rw [List.getElem?_eq_none_iff] at hi ⊢; rw [h.length]; exact hi
  simp only [List.getD_eq_getElem?_getD,hi,this,Option.getD_none]; exact qcN []
theorem RVL.replicate {x:TV} {v:V} (h:RV x v):∀ n,RVL (List.replicate n x) (List.replicate n v)
 | 0=>by simp [RVL]
 | n + 1=>qC.2 ⟨h,RVL.replicate h n⟩
theorem RVL.flatten:∀ {n:Nat} {l:List TV} {l':List V},RVL l l'->RVL (List.replicate n l).flatten (List.replicate n l').flatten
 | 0,_,_,_=>by simp [RVL]
 | n + 1,l,l',h=>by simp only [List.replicate_succ,List.flatten_cons]; exact h.append (RVL.flatten h)
theorem RVL.head {l:List TV} {l':List V} {x:TV} (h:RVL l l') (hx:l.head? = some x):∃ v,l'.head? = some v/\RV x v:=by
 cases l with
 | nil=>simp at hx
 | cons y l =>
  simp only [RVL] at h; obtain ⟨u,m,rfl,h1,h2⟩:=h;simp at hx; subst hx; exact ⟨u,rfl,h1⟩
theorem qeQ {o:Nat}:qbl o = true ↔ o ≠ 0/\o ≠ 1000/\o ≠ 2000:=by unfold qbl; simp
theorem qk3 {o:Nat}:qbl o = false ↔ o = 0\/o = 1000\/o = 2000:=by
 have:=@qeQ o;cases h:qbl o with
 | true=>rw [h] at this; simp at this; simp <;> omega
 | false=>rw [h] at this; simp at this; simp <;> omega
theorem FlR.own {o:Nat} {f:Fl} (h:FlR o f) (ho:qbl o = true):f = .own:=(h.1 (qeQ.1 ho).2.2).2 ho
theorem FlR.not {o:Nat} {f:Fl} (h:FlR o f) (ho:qbl o = false) (h2:o ≠ 2000):f ≠ .own:=λe=>by have:=(h.1 h2).1 e; rw [ho] at this; cases this
theorem qfB {o:Nat} (h:qbl o = true):FlR o .own:=⟨λ_=>by simp [h],λe=>absurd e (qeQ.1 h).2.1⟩
theorem qip {o:Nat} {f:Fl} (ho:qbl o = false) (hf:f ≠ .own) (h1:o = 1000->f = .shared):FlR o f:=⟨λ_=>by simp [hf,ho],h1⟩
theorem qzO (o:Nat):qbl (dl o) = false/\dl o ≠ 2000/\nx (dl o) = dl o:=by
 have h1:qbl (dl o) = false:=by rw [qk3]; unfold dl; split <;> simp
 refine ⟨h1,by unfold dl; split <;> simp,by unfold nx; rw [h1]; rfl⟩
theorem qdt:∀ (τ:Ty) (o:Nat) (x:τ.den) (v:V),RTy τ o x v->v.qx = []
 | .int _,_,_,v,h=>by simp only [RTy] at h; simp [h,V.qx]
 | .bool,_,_,v,h=>by simp only [RTy] at h; simp [h,V.qx]
 | .str,_,_,v,h=>by simp only [RTy] at h; simp [h,V.qx]
 | .flt,_,_,v,h=>by simp only [RTy] at h; obtain ⟨b9,rfl,h9⟩:=h; simp [V.qx]
 | .cx,_,_,v,h=>by simp only [RTy] at h; obtain ⟨a9,b9,rfl,h8,h9⟩:=h; simp [V.qx]
 | .err,_,_,v,h=>by simp only [RTy] at h; rcases h with ⟨_,rfl⟩ | ⟨_,t9,rfl⟩ <;> simp [V.qx]
 | .mset _,_,_,v,h=>by simp only [RTy] at h; obtain ⟨h8,rfl⟩:=h; simp [V.qx]
 | .sl t,o,l,v,h=>by simp only [RTy] at h; obtain ⟨f,c,l',rfl,_⟩:=h; simp [V.qx]
 | .unit,_,_,v,h=>by simp only [RTy] at h; simp [h,V.qx,ptrsL]
 | .pair a b,o,x,v,h=>by
  simp only [RTy] at h; obtain ⟨v1,l,rfl,h1,h2⟩:=h;have e1:=qdt a o _ _ h1;have e2:=qdt b o _ _ h2;simp only [V.qx] at e2;simp [V.qx,ptrsL,e1,e2]
theorem qny {l:List V} {r:Root}:r ∈ ptrsL l ↔ ∃ v ∈ l,r ∈ v.qx:=by
 induction l with
 | nil=>simp [ptrsL]
 | cons v l ih=>simp [ptrsL,ih]
mutual
theorem RV.qx:∀ (x:TV) (v:V),RV x v->∀ r ∈ v.qx,r ∈ x.qx
 | .any rs,v,h,r,hr=>by simp only [RV] at h; exact h.1 r hr
 | .t τ o x,v,h,r,hr=>by simp only [RV] at h; rw [qdt τ o x v h] at hr; cases hr
 | .clp τ x,v,h,r,hr=>by simp only [RV] at h; obtain ⟨f,l',rfl,_⟩:=h; simp [V.qx] at hr
 | .room a s,v,h,r,hr=>by simp only [RV] at h; obtain ⟨_,n,rfl,_⟩ | ⟨_,rfl | ⟨f,hf0,rfl⟩⟩:=h <;> simp [V.qx] at hr
 | .empty own,v,h,r,hr=>by simp only [RV] at h; obtain ⟨f,c,rfl,_⟩:=h; simp [V.qx] at hr
 | .val u,v,h,r,hr=>by simp only [RV] at h; simp [h,V.qx] at hr
 | .agg l,v,h,r,hr=>by simp only [RV] at h; obtain ⟨l',rfl,h⟩:=h; simp only [V.qx] at hr; exact RVL.qx l l' h r hr
 | .tuple l,v,h,r,hr=>by simp only [RV] at h; obtain ⟨l',rfl,h⟩:=h; simp only [V.qx] at hr; exact RVL.qx l l' h r hr
 | .fn g a b,v,h,r,hr=>by
  simp only [RV] at h; obtain ⟨a',b',rfl,h1,h2⟩:=h;simp only [V.qx,qo] at hr;simp only [TV.qx,qo];exact hr.imp (RVL.qx a a' h1 r) (RVL.qx b b' h2 r)
 | .ptr q o,v,h,r,hr=>by simp only [RV] at h; rw [h] at hr; simpa [V.qx,TV.qx] using hr
 | .mref q,v,h,r,hr=>by simp only [RV] at h; rw [h] at hr; simpa [V.qx,TV.qx] using hr
 | .bsl q _ _,v,h,r,hr=>by simp only [RV] at h; rw [h] at hr; simpa [V.qx,TV.qx] using hr
 | .yld q,v,h,r,hr=>by simp only [RV] at h; rw [h] at hr; simpa [V.qx,TV.qx] using hr
 | .lp ..,v,h,r,hr=>by simp only [RV] at h
 | .cptr _ l,v,h,r,hr=>by simp only [RV] at h; obtain ⟨_,l',rfl,_,_,h⟩:=h; simp only [V.qx] at hr; exact RVL.qx l l' h r hr
 | .iface t x,v,h,r,hr=>by simp only [RV] at h; obtain ⟨y,rfl,h⟩:=h; simp only [V.qx] at hr; exact RV.qx x y h r hr
theorem RVL.qx:∀ (l:List TV) (l':List V),RVL l l'->∀ r ∈ ptrsL l',r ∈ ptrsTL l
 | [],l',h,r,hr=>by simp only [RVL] at h; simp [h,ptrsL] at hr
 | x :: l,l',h,r,hr=>by
  simp only [RVL] at h; obtain ⟨v,m,rfl,h1,h2⟩:=h;simp only [ptrsL,qo] at hr;simp only [ptrsTL,qo];exact hr.imp (RV.qx x v h1 r) (RVL.qx l m h2 r)
end
mutual
theorem RV.ptrs_eq:∀ (x:TV) (v:V),x.known = true->RV x v->v.qx = x.qx
 | .any rs,v,hk,h=>by simp [TV.known] at hk
 | .t τ o x,v,_,h=>by simp only [RV] at h; rw [qdt τ o x v h]; simp [TV.qx]
 | .clp τ x,v,_,h=>by simp only [RV] at h; obtain ⟨f,l',rfl,_⟩:=h; simp [V.qx,TV.qx]
 | .room a s,v,_,h=>by simp only [RV] at h; obtain ⟨_,n,rfl,_⟩ | ⟨_,rfl | ⟨f,hf0,rfl⟩⟩:=h <;> simp [V.qx,TV.qx]
 | .empty own,v,_,h=>by simp only [RV] at h; obtain ⟨f,c,rfl,_⟩:=h; simp [V.qx,TV.qx]
 | .val u,v,_,h=>by simp only [RV] at h; simp [h,V.qx,TV.qx]
 | .agg l,v,hk,h=>by simp only [RV] at h; obtain ⟨l',rfl,h⟩:=h; simp only [TV.known] at hk; simp only [V.qx,TV.qx]; exact RVL.ptrs_eq l l' hk h
 | .tuple l,v,hk,h=>by simp only [RV] at h; obtain ⟨l',rfl,h⟩:=h; simp only [TV.known] at hk; simp only [V.qx,TV.qx]; exact RVL.ptrs_eq l l' hk h
 | .fn g a b,v,hk,h=>by
  simp only [RV] at h; obtain ⟨a',b',rfl,h1,h2⟩:=h;simp only [TV.known,qi] at hk;simp only [V.qx,TV.qx,RVL.ptrs_eq a a' hk.1 h1,RVL.ptrs_eq b b' hk.2 h2]
 | .ptr q o,v,_,h=>by simp only [RV] at h; simp [h,V.qx,TV.qx]
 | .mref q,v,_,h=>by simp only [RV] at h; simp [h,V.qx,TV.qx]
 | .bsl q _ _,v,_,h=>by simp only [RV] at h; simp [h,V.qx,TV.qx]
 | .yld q,v,_,h=>by simp only [RV] at h; simp [h,V.qx,TV.qx]
 | .lp ..,v,_,h=>by simp only [RV] at h
 | .cptr _ l,v,hk,h=>by simp only [RV] at h; obtain ⟨_,l',rfl,_,_,h⟩:=h; simp only [TV.known] at hk; simp only [V.qx,TV.qx]; exact RVL.ptrs_eq l l' hk h
 | .iface t x,v,hk,h=>by simp [TV.known] at hk
theorem RVL.ptrs_eq:∀ (l:List TV) (l':List V),knownL l = true->RVL l l'->ptrsL l' = ptrsTL l
 | [],l',_,h=>by simp only [RVL] at h; simp [h,ptrsL,ptrsTL]
 | x :: l,l',hk,h=>by
  simp only [RVL] at h; obtain ⟨v,m,rfl,h1,h2⟩:=h;simp only [knownL,qi] at hk;simp only [ptrsL,ptrsTL,RV.ptrs_eq x v hk.1 h1,RVL.ptrs_eq l m hk.2 h2]
end
theorem qaX (g:Fl->Fl):∀ l:List V,reflagL g l = l.map (V.reflag g)
 | []=>rfl
 | v :: l=>by simp [reflagL,qaX g l]
theorem qBA {n:Nat} (h:qbl (n + 1) = true):nx (n + 1) = n/\n + 1 ≠ 1000:=by
 have:=qeQ.1 h;refine ⟨by unfold nx; rw [h]; simp,this.2.1⟩
theorem qlE:∀ (τ:Ty) (o:Nat) (x:τ.den) (v:V),RTy τ (dl o) x v->RTy τ 0 x v
 | .int _,_,_,v,h=>by simpa only [RTy] using h
 | .bool,_,_,v,h=>by simpa only [RTy] using h
 | .str,_,_,v,h=>by simpa only [RTy] using h
 | .flt,_,_,v,h=>by simpa only [RTy] using h
 | .cx,_,_,v,h=>by simpa only [RTy] using h
 | .err,_,_,v,h=>by simpa only [RTy] using h
 | .mset _,_,_,v,h=>by simpa only [RTy] using h
 | .sl t,o,l,v,h=>by
  obtain ⟨hno,h20,hnx⟩:=qzO o;simp only [RTy] at h ⊢; obtain ⟨f,c,l',rfl,h1,h⟩:=h;rw [hnx] at h;exact ⟨f,c,l',rfl,qip rfl (h1.not hno h20) (λh=>by cases h),h.mono λa b hab=>qlE t o a b hab⟩
 | .unit,_,_,v,h=>by simpa only [RTy] using h
 | .pair a b,o,x,v,h=>by
  simp only [RTy] at h ⊢; obtain ⟨v1,l,rfl,h1,h2⟩:=h;exact ⟨v1,l,rfl,qlE a o _ _ h1,qlE b o _ _ h2⟩
theorem qiP {g:Fl->Fl} (hg:∀ f,g f ≠ .own) (hs:g .shared = .shared):∀ (τ:Ty) (o:Nat) (x:τ.den) (v:V),RTy τ o x v->RTy τ (dl o) x (v.reflag g)
 | .int _,_,_,v,h=>by simp only [RTy] at h ⊢; simp [h,V.reflag]
 | .bool,_,_,v,h=>by simp only [RTy] at h ⊢; simp [h,V.reflag]
 | .str,_,_,v,h=>by simp only [RTy] at h ⊢; simp [h,V.reflag]
 | .flt,_,_,v,h=>by simp only [RTy] at h ⊢; obtain ⟨b9,rfl,h9⟩:=h; exact ⟨b9,by simp [V.reflag],h9⟩
 | .cx,_,_,v,h=>by simp only [RTy] at h ⊢; obtain ⟨a9,b9,rfl,h8,h9⟩:=h; exact ⟨a9,b9,by simp [V.reflag],h8,h9⟩
 | .err,_,_,v,h=>by simp only [RTy] at h ⊢; rcases h with ⟨hx,rfl⟩ | ⟨hx,t9,rfl⟩; exact .inl ⟨hx,by simp [V.reflag]⟩; exact .inr ⟨hx,t9,by simp [V.reflag]⟩
 | .mset _,_,_,v,h=>by simp only [RTy] at h ⊢; obtain ⟨h8,rfl⟩:=h; exact ⟨h8,by simp [V.reflag]⟩
 | .sl t,o,l,v,h=>by
  simp only [RTy] at h ⊢; obtain ⟨f,c,l',rfl,h0,h⟩:=h;obtain ⟨hno,h20,hnx⟩:=qzO o;refine ⟨g f,c,reflagL g l',by simp [V.reflag],qip hno (hg f) (λh1=>?_),?_⟩
  ·have ho:o = 1000:=by
    unfold dl at h1;split at h1
    ·assumption
    ·cases h1
   rw [h0.2 ho]; exact hs
  ·rw [qaX,hnx];refine h.map λa b hab=>?_;have h3:=qiP hg hs t _ a b hab;by_cases ho:o = 1000
   ·subst ho; exact h3
   ·have:dl o = 0:=by unfold dl; rw [if_neg ho]
    rw [this];exact qlE t _ a _ h3
 | .unit,_,_,v,h=>by simp only [RTy] at h ⊢; simp [h,V.reflag,reflagL]
 | .pair a b,o,x,v,h=>by
  simp only [RTy] at h ⊢; obtain ⟨v1,l,rfl,h1,h2⟩:=h;refine ⟨v1.reflag g,reflagL g l,by simp [V.reflag,reflagL],qiP hg hs a o _ _ h1,?_⟩;have:=qiP hg hs b o _ _ h2;simpa only [V.reflag] using this
theorem qkm {g:Fl->Fl} (hg:∀ f,g f = .own ↔ f = .own) (hs:g .shared = .shared):∀ (τ:Ty) (o:Nat) (x:τ.den) (v:V),RTy τ o x v->RTy τ o x (v.reflag g)
 | .int _,_,_,v,h=>by simp only [RTy] at h ⊢; simp [h,V.reflag]
 | .bool,_,_,v,h=>by simp only [RTy] at h ⊢; simp [h,V.reflag]
 | .str,_,_,v,h=>by simp only [RTy] at h ⊢; simp [h,V.reflag]
 | .flt,_,_,v,h=>by simp only [RTy] at h ⊢; obtain ⟨b9,rfl,h9⟩:=h; exact ⟨b9,by simp [V.reflag],h9⟩
 | .cx,_,_,v,h=>by simp only [RTy] at h ⊢; obtain ⟨a9,b9,rfl,h8,h9⟩:=h; exact ⟨a9,b9,by simp [V.reflag],h8,h9⟩
 | .err,_,_,v,h=>by simp only [RTy] at h ⊢; rcases h with ⟨hx,rfl⟩ | ⟨hx,t9,rfl⟩; exact .inl ⟨hx,by simp [V.reflag]⟩; exact .inr ⟨hx,t9,by simp [V.reflag]⟩
 | .mset _,_,_,v,h=>by simp only [RTy] at h ⊢; obtain ⟨h8,rfl⟩:=h; exact ⟨h8,by simp [V.reflag]⟩
 | .sl t,o,l,v,h=>by
  simp only [RTy] at h ⊢; obtain ⟨f,c,l',rfl,ho,h⟩:=h;refine ⟨g f,c,reflagL g l',by simp [V.reflag],⟨λh2=>by rw [hg f]; exact ho.1 h2,λh1=>by rw [ho.2 h1]; exact hs⟩,?_⟩;rw [qaX];exact h.map λa b hab=>qkm hg hs t _ a b hab
 | .unit,_,_,v,h=>by simp only [RTy] at h ⊢; simp [h,V.reflag,reflagL]
 | .pair a b,o,x,v,h=>by
  simp only [RTy] at h ⊢; obtain ⟨v1,l,rfl,h1,h2⟩:=h;refine ⟨v1.reflag g,reflagL g l,by simp [V.reflag,reflagL],qkm hg hs a o _ _ h1,?_⟩;have:=qkm hg hs b o _ _ h2;simpa only [V.reflag] using this
theorem qra {g:Fl->Fl} {l:List V} (h:qas l = false):qas (reflagL g l) = false:=by
 cases l with
 | nil=>rfl
 | cons x l=>cases x with
  | lp=>simp [qas] at h
  | room s n =>
   simp only [reflagL,V.reflag];by_cases h1:g .own = .own
   ·rw [if_pos h1]; rfl
   ·rw [if_neg h1];by_cases h2:n = 0
    ·rw [if_pos h2]; rfl
    ·rw [if_neg h2]; rfl
  | _=>rfl
theorem qeA {g:Fl->Fl} {v:V} (h:qas [v] = false):qas [v.reflag g] = false:=qra (g:=g) h
theorem qf2 (g:Fl->Fl) (v:V):(v.reflag g).qx = v.qx:=by
 have:=ptrsL_reflag g [v];simpa [reflagL,ptrsL] using this
mutual
theorem RV.dull' {g:Fl->Fl} (hg:∀ f,g f ≠ .own) (hs:g .shared = .shared):∀ (x:TV) (v:V),RV x v->RV x.qaj (v.reflag g)
 | .any rs,v,h=>by simp only [TV.qaj,RV] at h ⊢; rw [qf2]; exact ⟨h.1,qeA h.2⟩
 | .t τ o x,v,h=>by simp only [TV.qaj,RV] at h ⊢; exact qiP hg hs τ o x v h
 | .clp τ x,v,h=>by
  simp only [TV.qaj,RV] at h ⊢; obtain ⟨f,l',rfl,_,h⟩:=h;refine ⟨g f,reflagL g l',by simp [V.reflag],hg f,?_⟩;rw [qaX];exact h.map λa b hab=>qlE τ 0 a _ (qiP hg hs τ _ a b hab)
 | .room a s,v,h=>by
  simp only [RV] at h;rcases a with _ | a
  ·obtain ⟨_,n,rfl,h0⟩ | ⟨h9,_⟩:=h
   ·obtain rfl:=h0 rfl;simp only [TV.qaj,RV,V.reflag,if_neg (hg .own),if_true];exact ⟨_,_,rfl,qip (by decide) (hg .own) (λh1=>by cases h1)⟩
   ·omega
  ·simp only [TV.qaj,RV];refine .inr ⟨Nat.le_refl _,?_⟩;obtain ⟨_,n,rfl,_⟩ | ⟨_,rfl | ⟨f,hf0,rfl⟩⟩:=h
   ·simp only [V.reflag,if_neg (hg .own)];split
    ·exact .inr ⟨_,hg _,rfl⟩
    ·exact .inl rfl
   ·exact .inl rfl
   ·exact .inr ⟨g f,hg f,by simp [V.reflag,reflagL]⟩
 | .empty o,v,h=>by
  simp only [TV.qaj,RV] at h ⊢; obtain ⟨f,c,rfl,h0⟩:=h;refine ⟨g f,c,by simp [V.reflag,reflagL],qip (qzO o).1 (hg f) (λh1=>?_)⟩;have ho:o = 1000:=by
   unfold dl at h1;split at h1
   ·assumption
   ·cases h1
  rw [h0.2 ho]; exact hs
 | .val u,v,h=>by simp only [TV.qaj,RV] at h ⊢; simp [h,V.reflag]
 | .agg l,v,h=>by simp only [TV.qaj,RV] at h ⊢; obtain ⟨l',rfl,h⟩:=h; exact ⟨_,by simp only [V.reflag],RVL.dull' hg hs l l' h⟩
 | .tuple l,v,h=>by simp only [TV.qaj,RV] at h ⊢; obtain ⟨l',rfl,h⟩:=h; exact ⟨_,by simp only [V.reflag],RVL.dull' hg hs l l' h⟩
 | .fn g' a b,v,h=>by simp only [TV.qaj,RV] at h ⊢; obtain ⟨a',b',rfl,h1,h2⟩:=h; exact ⟨_,_,by simp only [V.reflag],RVL.dull' hg hs a a' h1,RVL.dull' hg hs b b' h2⟩
 | .ptr q o,v,h=>by simp only [TV.qaj,RV] at h ⊢; simp [h,V.reflag]
 | .mref q,v,h=>by simp only [TV.qaj,RV] at h ⊢; simp [h,V.reflag]
 | .bsl q _ _,v,h=>by simp only [TV.qaj,RV] at h ⊢; simp [h,V.reflag]
 | .yld q,v,h=>by simp only [TV.qaj,RV] at h ⊢; simp [h,V.reflag]
 | .lp ..,v,h=>by simp only [RV] at h
 | .cptr s l,v,h=>by simp only [TV.qaj,RV] at h ⊢; obtain ⟨f,l',rfl,_,hsh,h⟩:=h; exact ⟨g f,_,by simp only [V.reflag],hg f,λe=>(by rw [hsh e]; exact hs),RVL.dull' hg hs l l' h⟩
 | .iface t x,v,h=>by simp only [TV.qaj,RV] at h ⊢; obtain ⟨y,rfl,h⟩:=h; exact ⟨_,by simp only [V.reflag],RV.dull' hg hs x y h⟩
theorem RVL.dull' {g:Fl->Fl} (hg:∀ f,g f ≠ .own) (hs:g .shared = .shared):∀ (l:List TV) (l':List V),RVL l l'->RVL (dullL l) (reflagL g l')
 | [],l',h=>by simp only [RVL] at h; simp [h,dullL,reflagL,RVL]
 | x :: l,l',h=>by
  simp only [RVL] at h; obtain ⟨v,m,rfl,h1,h2⟩:=h;simp only [dullL,reflagL];exact qC.2 ⟨RV.dull' hg hs x v h1,RVL.dull' hg hs l m h2⟩
end
mutual
theorem RV.qpq {g:Fl->Fl} (hg:∀ f,g f = .own ↔ f = .own) (hs:g .shared = .shared):∀ (x:TV) (v:V),RV x v->RV x (v.reflag g)
 | .any rs,v,h=>by simp only [RV] at h ⊢; rw [qf2]; exact ⟨h.1,qeA h.2⟩
 | .t τ o x,v,h=>by simp only [RV] at h ⊢; exact qkm hg hs τ o x v h
 | .clp τ x,v,h=>by
  simp only [RV] at h ⊢; obtain ⟨f,l',rfl,h0,h⟩:=h;refine ⟨g f,reflagL g l',by simp [V.reflag],λe=>h0 ((hg f).1 e),?_⟩;rw [qaX];exact h.map λa b hab=>qkm hg hs τ _ a b hab
 | .room a s,v,h=>by
  simp only [RV] at h ⊢;obtain ⟨h1,n,rfl,h0⟩ | ⟨h1,rfl | ⟨f,hf0,rfl⟩⟩:=h
  ·exact .inl ⟨h1,n,by simp only [V.reflag,if_pos ((hg .own).2 rfl)],h0⟩
  ·exact .inr ⟨h1,.inl rfl⟩
  ·exact .inr ⟨h1,.inr ⟨g f,λe=>hf0 ((hg f).1 e),by simp [V.reflag,reflagL]⟩⟩
 | .empty o,v,h=>by simp only [RV] at h ⊢; obtain ⟨f,c,rfl,h0⟩:=h; exact ⟨g f,c,by simp [V.reflag,reflagL],⟨λh2=>by rw [hg f]; exact h0.1 h2,λh1=>by rw [h0.2 h1]; exact hs⟩⟩
 | .val u,v,h=>by simp only [RV] at h ⊢; simp [h,V.reflag]
 | .agg l,v,h=>by simp only [RV] at h ⊢; obtain ⟨l',rfl,h⟩:=h; exact ⟨_,by simp only [V.reflag],RVL.qpq hg hs l l' h⟩
 | .tuple l,v,h=>by simp only [RV] at h ⊢; obtain ⟨l',rfl,h⟩:=h; exact ⟨_,by simp only [V.reflag],RVL.qpq hg hs l l' h⟩
 | .fn g' a b,v,h=>by simp only [RV] at h ⊢; obtain ⟨a',b',rfl,h1,h2⟩:=h; exact ⟨_,_,by simp only [V.reflag],RVL.qpq hg hs a a' h1,RVL.qpq hg hs b b' h2⟩
 | .ptr q o,v,h=>by simp only [RV] at h ⊢; simp [h,V.reflag]
 | .mref q,v,h=>by simp only [RV] at h ⊢; simp [h,V.reflag]
 | .bsl q _ _,v,h=>by simp only [RV] at h ⊢; simp [h,V.reflag]
 | .yld q,v,h=>by simp only [RV] at h ⊢; simp [h,V.reflag]
 | .lp ..,v,h=>by simp only [RV] at h
 | .cptr s l,v,h=>by simp only [RV] at h ⊢; obtain ⟨f,l',rfl,h0,hsh,h⟩:=h; exact ⟨g f,_,by simp only [V.reflag],λe=>h0 ((hg f).1 e),λe=>(by rw [hsh e]; exact hs),RVL.qpq hg hs l l' h⟩
 | .iface t x,v,h=>by simp only [RV] at h ⊢; obtain ⟨y,rfl,h⟩:=h; exact ⟨_,by simp only [V.reflag],RV.qpq hg hs x y h⟩
theorem RVL.qpq {g:Fl->Fl} (hg:∀ f,g f = .own ↔ f = .own) (hs:g .shared = .shared):∀ (l:List TV) (l':List V),RVL l l'->RVL l (reflagL g l')
 | [],l',h=>by simp only [RVL] at h; simp [h,reflagL,RVL]
 | x :: l,l',h=>by
  simp only [RVL] at h; obtain ⟨v,m,rfl,h1,h2⟩:=h;simp only [reflagL];exact qC.2 ⟨RV.qpq hg hs x v h1,RVL.qpq hg hs l m h2⟩
end
theorem ql1 (f:Fl):qaa f ≠ .own:=by cases f <;> simp [qaa]
theorem RV.qaj {x:TV} {v:V} (h:RV x v):RV x.qaj v.qaj:=RV.dull' ql1 rfl x v h
theorem RVL.qaj {l:List TV} {l':List V} (h:RVL l l'):RVL (dullL l) (reflagL qaa l'):=RVL.dull' ql1 rfl l l' h
theorem RVL.qrE {g:Fl->Fl} (hg:∀ f,g f ≠ .own) (hs:g .shared = .shared) {l:List TV} {l':List V} (h:RVL l l'):RVL (dullL l) (l'.map (V.reflag g)):=by
 rw [<- qaX]; exact RVL.dull' hg hs l l' h
theorem qtG {l:List V}:ownsL l = true ↔ ∃ v ∈ l,v.owns = true:=by
 induction l with
 | nil=>simp [ownsL]
 | cons v l ih=>simp [ownsL,ih]
theorem qiv {α β:Type} {R:α->β->Prop} {l:List α} {l':List β} (h:All2 R l l'):∀ b ∈ l',∃ a ∈ l,R a b:=by
 induction h with
 | nil=>simp
 | cons h1 _ ih =>
  intro b hb;rcases qp.1 hb with rfl | hb
  ·exact ⟨_,by simp,h1⟩
  ·obtain ⟨a,ha,hr⟩:=ih b hb; exact ⟨a,by simp [ha],hr⟩
theorem qkM:∀ (τ:Ty) (o:Nat) (x:τ.den) (v:V),RTy τ o x v->v.owns = true->(qbl o = true\/o = 2000)/\0 < τ.depth
 | .int _,_,_,v,h,ho=>by simp only [RTy] at h; simp [h,V.owns] at ho
 | .bool,_,_,v,h,ho=>by simp only [RTy] at h; simp [h,V.owns] at ho
 | .str,_,_,v,h,ho=>by simp only [RTy] at h; simp [h,V.owns] at ho
 | .flt,_,_,v,h,ho=>by simp only [RTy] at h; obtain ⟨b9,rfl,h9⟩:=h; simp [V.owns] at ho
 | .cx,_,_,v,h,ho=>by simp only [RTy] at h; obtain ⟨a9,b9,rfl,h8,h9⟩:=h; simp [V.owns] at ho
 | .err,_,_,v,h,ho=>by simp only [RTy] at h; rcases h with ⟨_,rfl⟩ | ⟨_,t9,rfl⟩ <;> simp [V.owns] at ho
 | .mset _,_,_,v,h,ho=>by simp only [RTy] at h; obtain ⟨h8,rfl⟩:=h; simp [V.owns] at ho
 | .sl t,o,l,v,h,ho=>by
  simp only [RTy] at h; obtain ⟨f,c,l',rfl,hf,h⟩:=h;simp only [V.owns,Bool.or_eq_true,decide_eq_true_eq] at ho;simp only [Ty.depth];refine ⟨?_,by omega⟩;by_cases h2:o = 2000
  ·exact .inr h2
  left
  rcases ho with ho | ho
  ·exact (hf.1 h2).1 ho
  ·obtain ⟨b,hb,hbo⟩:=qtG.1 ho;obtain ⟨a,_,hr⟩:=qiv h b hb;have:=(qkM t _ a b hr hbo).1;cases hno:qbl o with
   | true=>rfl
   | false =>
    unfold nx at this;rw [hno] at this;simp only [qj,if_false,hno,false_or] at this;exact absurd this h2
 | .unit,_,_,v,h,ho=>by simp only [RTy] at h; simp [h,V.owns,ownsL] at ho
 | .pair a b,o,x,v,h,ho=>by
  simp only [RTy] at h; obtain ⟨v1,l,rfl,h1,h2⟩:=h;simp only [V.owns,ownsL,Bool.or_eq_true] at ho;simp only [Ty.depth];rcases ho with ho | ho
  ·have:=qkM a o _ _ h1 ho; exact ⟨this.1,by omega⟩
  ·have:=qkM b o _ _ h2 (by simpa only [V.owns] using ho); exact ⟨this.1,by omega⟩
mutual
theorem RV.owns:∀ (x:TV) (v:V),RV x v->v.owns = true->x.owns = true
 | .any rs,v,h,ho=>by simp [TV.owns]
 | .t τ o x,v,h,ho=>by simp only [RV] at h; have:=qkM τ o x v h ho; simpa [TV.owns] using this
 | .clp τ x,v,h,ho=>by
  simp only [RV] at h; obtain ⟨f,l',rfl,hf,h⟩:=h;simp only [V.owns,Bool.or_eq_true,decide_eq_true_eq] at ho;rcases ho with ho | ho
  ·exact absurd ho hf
  ·obtain ⟨b,hb,hbo⟩:=qtG.1 ho;obtain ⟨a,_,hr⟩:=qiv h b hb;have:=(qkM τ _ a b hr hbo).1;simp [qbl] at this
 | .room a s,v,h,ho=>rfl
 | .empty o,v,h,ho=>by
  simp only [RV] at h; obtain ⟨f,c,rfl,hf⟩:=h;simp only [V.owns,ownsL,Bool.or_false,decide_eq_true_eq] at ho;simp only [TV.owns,Bool.or_eq_true,decide_eq_true_eq];by_cases h2:o = 2000
  ·exact .inr h2
  ·exact .inl ((hf.1 h2).1 ho)
 | .val u,v,h,ho=>by simp only [RV] at h; simp [h,V.owns] at ho
 | .agg l,v,h,ho=>by simp only [RV] at h; obtain ⟨l',rfl,h⟩:=h; simp only [V.owns,TV.owns] at ho ⊢; exact RVL.owns l l' h ho
 | .tuple l,v,h,ho=>by simp only [RV] at h; obtain ⟨l',rfl,h⟩:=h; simp only [V.owns,TV.owns] at ho ⊢; exact RVL.owns l l' h ho
 | .fn g a b,v,h,ho=>by
  simp only [RV] at h; obtain ⟨a',b',rfl,h1,h2⟩:=h;simp only [V.owns,TV.owns,Bool.or_eq_true] at ho ⊢;exact ho.imp (RVL.owns a a' h1) (RVL.owns b b' h2)
 | .ptr q o,v,h,ho=>by simp only [RV] at h; simp [h,V.owns] at ho
 | .mref q,v,h,ho=>by simp only [RV] at h; simp [h,V.owns] at ho
 | .bsl q _ _,v,h,ho=>by simp only [RV] at h; simp [h,V.owns] at ho
 | .yld q,v,h,ho=>by simp only [RV] at h; simp [h,V.owns] at ho
 | .lp ..,v,h,ho=>by simp only [RV] at h
 | .cptr _ l,v,h,ho=>by simp only [RV] at h; obtain ⟨f,l',rfl,h0,_,h⟩:=h; simp only [V.owns,TV.owns,h0,decide_false,Bool.false_or] at ho ⊢; exact RVL.owns l l' h ho
 | .iface t x,v,h,ho=>by simp only [RV] at h; obtain ⟨y,rfl,h⟩:=h; simp only [V.owns,TV.owns] at ho ⊢; exact RV.owns x y h ho
theorem RVL.owns:∀ (l:List TV) (l':List V),RVL l l'->ownsL l' = true->ownsTL l = true
 | [],l',h,ho=>by simp only [RVL] at h; simp [h,ownsL] at ho
 | x :: l,l',h,ho=>by
  simp only [RVL] at h; obtain ⟨v,m,rfl,h1,h2⟩:=h;simp only [ownsL,ownsTL,Bool.or_eq_true] at ho ⊢;exact ho.imp (RV.owns x v h1) (RVL.owns l m h2)
end
theorem qzj {τ:Ty} (h1:τ.one = true) {o:Nat} {x:τ.den} {v:V} (h:RTy τ o x v):v.one = true:=by
 cases τ with
 | unit=>simp [Ty.one] at h1
 | pair a b=>simp [Ty.one] at h1
 | sl t=>simp only [RTy] at h; obtain ⟨f,c,l',rfl,_⟩:=h; rfl
 | flt=>simp only [RTy] at h; obtain ⟨b9,rfl,_⟩:=h; rfl
 | cx=>simp only [RTy] at h; obtain ⟨a9,b9,rfl,_⟩:=h; rfl
 | err=>simp only [RTy] at h; rcases h with ⟨_,rfl⟩ | ⟨_,t9,rfl⟩ <;> rfl
 | mset t=>simp [Ty.one] at h1
 | _=>simp only [RTy] at h; subst h; rfl
theorem RV.one {x:TV} {v:V} (h1:x.one = true) (h:RV x v):v.one = true:=by
 cases x with
 | any rs=>simp [TV.one] at h1
 | t τ o x=>simp only [RV] at h; exact qzj h1 h
 | clp τ x=>simp only [RV] at h; obtain ⟨f,l',rfl,_⟩:=h; rfl
 | room a s=>simp [TV.one] at h1
 | empty own=>simp only [RV] at h; obtain ⟨f,c,rfl,_⟩:=h; rfl
 | val u=>simp only [RV] at h; subst h; exact h1
 | agg l=>simp [TV.one] at h1
 | tuple l=>simp [TV.one] at h1
 | fn g a b=>simp only [RV] at h; obtain ⟨a',b',rfl,_⟩:=h; rfl
 | ptr r o=>simp only [RV] at h; subst h; rfl
 | mref r=>simp only [RV] at h; subst h; rfl
 | bsl r o n=>simp only [RV] at h; subst h; rfl
 | yld r=>simp only [RV] at h; subst h; rfl
 | lp s pe g env ps a b=>simp only [RV] at h
 | cptr _ l=>simp only [RV] at h; obtain ⟨_,l',rfl,_⟩:=h; rfl
 | iface t x=>simp only [RV] at h; obtain ⟨y,rfl,_⟩:=h; rfl
theorem qzt {v:V} (h:v.one = true):v.cells = [v]:=by cases v <;> first | rfl | simp [V.one] at h
theorem RVL.qF1:∀ {l:List TV} {l':List V},l.all TV.one = true->RVL l l'->l'.all V.one = true
 | [],l',_,h=>by simp only [RVL] at h; simp [h]
 | x :: l,l',h1,h=>by
  simp only [RVL] at h; obtain ⟨v,m,rfl,h2,h3⟩:=h;simp only [List.all_cons,qi] at h1 ⊢;exact ⟨RV.one h1.1 h2,RVL.qF1 h1.2 h3⟩
theorem RV.cells {x:TV} {v:V} (hk:x.oks = true) (h:RV x v):RVL x.cells v.cells/\v.oks = true:=by
 by_cases hx:∃ l,x = .agg l
 ·obtain ⟨l,rfl⟩:=hx;simp only [RV] at h;obtain ⟨l',rfl,h⟩:=h;simp only [TV.oks,TV.cells] at hk;exact ⟨h,RVL.qF1 hk h⟩
 ·have hc:x.cells = [x]:=by cases x <;> first | rfl | exact absurd ⟨_,rfl⟩ hx
  have h1:x.one = true:=by simpa [TV.oks,hc] using hk
  have hv:=RV.one h1 h;have hcv:=qzt hv;rw [hc,hcv];exact ⟨qC.2 ⟨h,qai⟩,by simp [V.oks,hcv,hv]⟩
theorem qfg {c:List V} (h1:qas c = false) (h2:qhq c = false):qfr c = false:=by
 cases c with
 | nil=>rfl
 | cons x l=>cases x <;> first | rfl | (simp [qas] at h1; done) | (simp [qhq] at h2)
theorem qaY {l:List TV} {l':List V} (h:RVL l l'):qas l' = false:=by
 cases l with
 | nil=>simp only [RVL] at h; simp [h,qas]
 | cons x l =>
  simp only [RVL] at h; obtain ⟨v,m,rfl,h1,_⟩:=h;cases v with
  | lp s pe g env ps a b =>
   exfalso
   cases x with
   | any rs=>simp [RV,qas] at h1
   | t τ o x =>
    cases τ <;> simp [RV,RTy] at h1
   | lp=>simp only [RV] at h1
   | _=>simp [RV] at h1
  | _=>rfl
mutual
theorem rv_ofTy:∀ (τ:Ty) (o:Nat) (x:τ.den) (v:V),RTy τ o x v->RV (ofTy τ o x) v
 | .int _,_,_,v,h=>by simpa only [ofTy,RV] using h
 | .bool,_,_,v,h=>by simpa only [ofTy,RV] using h
 | .str,_,_,v,h=>by simpa only [ofTy,RV] using h
 | .flt,_,_,v,h=>by simpa only [ofTy,RV] using h
 | .cx,_,_,v,h=>by simpa only [ofTy,RV] using h
 | .err,_,_,v,h=>by simpa only [ofTy,RV] using h
 | .mset _,_,_,v,h=>by simpa only [ofTy,RV] using h
 | .sl t,o,l,v,h=>by simpa only [ofTy,RV] using h
 | .unit,_,_,v,h=>by simp only [RTy] at h; simp [h,ofTy,RV,RVL]
 | .pair a b,o,x,v,h=>by
  simp only [RTy] at h; obtain ⟨v1,l,rfl,h1,h2⟩:=h;simp only [ofTy,RV];exact ⟨_,rfl,qC.2 ⟨rv_ofTy a o _ _ h1,rv_ofTyC b o _ l h2⟩⟩
theorem rv_ofTyC:∀ (τ:Ty) (o:Nat) (x:τ.den) (l:List V),RTy τ o x (.agg l)->RVL (ofTyC τ o x) l
 | .int _,_,_,l,h=>by simp [RTy] at h
 | .bool,_,_,l,h=>by simp [RTy] at h
 | .str,_,_,l,h=>by simp [RTy] at h
 | .flt,_,_,l,h=>by simp [RTy] at h
 | .cx,_,_,l,h=>by simp [RTy] at h
 | .err,_,_,l,h=>by simp [RTy] at h
 | .mset _,_,_,l,h=>by simp [RTy] at h
 | .sl t,o,x,l,h=>by simp [RTy] at h
 | .unit,_,_,l,h=>by simp only [RTy,V.agg.injEq] at h; simp [h,ofTyC,RVL]
 | .pair a b,o,x,l,h=>by
  simp only [RTy,V.agg.injEq] at h; obtain ⟨v1,m,rfl,h1,h2⟩:=h;simp only [ofTyC];exact qC.2 ⟨rv_ofTy a o _ _ h1,rv_ofTyC b o _ m h2⟩
end
theorem qvJ {τ:Ty} (h:τ.one = true) (o:Nat) (x:τ.den):(ofTy τ o x).one = true:=by cases τ <;> first | rfl | simp [Ty.one] at h
theorem qpX:∀ (τ:Ty),τ.qoH = true->∀ (o:Nat) (x:τ.den),(ofTyC τ o x).all TV.one = true
 | .unit,_,o,x=>rfl
 | .pair a b,h,o,x=>by
  simp only [Ty.qoH,qi] at h;simp only [ofTyC,List.all_cons,qi];exact ⟨qvJ h.1 o _,qpX b h.2 o _⟩
 | .int _,h,_,_ | .bool,h,_,_ | .str,h,_,_ | .flt,h,_,_ | .cx,h,_,_ | .err,h,_,_ | .mset _,h,_,_ | .sl _,h,_,_=>by simp [Ty.qoH] at h
theorem qrk {τ:Ty} (h:τ.qcq = true) (o:Nat) (x:τ.den):(ofTy τ o x).oks = true:=by
 cases τ with
 | unit=>rfl
 | pair a b =>
  simp only [Ty.qcq,qi] at h;simp only [ofTy,TV.oks,TV.cells,List.all_cons,qi];exact ⟨qvJ h.1 o _,qpX b h.2 o _⟩
 | mset t=>simp [Ty.qcq] at h
 | _=>rfl
theorem qmB:∀ (τ:Ty),τ.qoH = true->∀ (o:Nat) (x:τ.den),(ofTyC τ o x).length = τ.qbx
 | .unit,_,o,x=>rfl
 | .pair a b,h,o,x=>by
  simp only [Ty.qoH,qi] at h;simp [ofTyC,Ty.qbx,qmB b h.2 o x.2]
 | .int _,h,_,_ | .bool,h,_,_ | .str,h,_,_ | .flt,h,_,_ | .cx,h,_,_ | .err,h,_,_ | .mset _,h,_,_ | .sl _,h,_,_=>by simp [Ty.qoH] at h
theorem qus {τ:Ty} (h:τ.qcq = true) (o:Nat) (x:τ.den):(ofTy τ o x).cells.length = τ.qbx:=by
 cases τ with
 | unit=>rfl
 | pair a b =>
  simp only [Ty.qcq,qi] at h;simp [ofTy,TV.cells,Ty.qbx,qmB b h.2 o x.2]
 | _=>rfl
theorem qlQ {τ:Ty} (h:τ.qcq = true) {o:Nat} {x:τ.den} {v:V} (hr:RTy τ o x v):v.cells.length = τ.qbx/\v.oks = true:=by
 obtain ⟨h1,h2⟩:=RV.cells (qrk h o x) (rv_ofTy τ o x v hr);exact ⟨by rw [h1.length,qus h],h2⟩
theorem qu6:∀ {d d':Nat} {o' o:Nat},d'<=d->fits d o' o = true->fits d' o' o = true
 | _,0,_,_,_,_=>rfl
 | 0,d' + 1,_,_,h,_=>by omega
 | d + 1,d' + 1,o',o,h,hf=>by
  simp only [fits,Bool.or_eq_true,qi] at hf ⊢;exact hf.imp id λhf=>⟨hf.1,qu6 (by omega) hf.2⟩
theorem qwC {o' o d:Nat} {f:Fl} (h:fits (d + 1) o' o = true) (hf:FlR o' f):FlR o f/\(o = 2000\/fits d (nx o') (nx o) = true):=by
 simp only [fits,Bool.or_eq_true,qi,decide_eq_true_eq,beq_iff_eq,Bool.not_eq_true',decide_eq_false_iff_not] at h;rcases h with rfl | ⟨⟨⟨h1,h2⟩,h3⟩,h4⟩
 ·exact ⟨⟨λh=>absurd rfl h,λh=>by cases h⟩,.inl rfl⟩
 ·exact ⟨⟨λ_=>by rw [hf.1 h2,h1],λh=>hf.2 (h3.resolve_left λh5=>h5 h)⟩,.inr h4⟩
theorem qs6:∀ (d o:Nat),fits d o 2000 = true
 | 0,_=>rfl
 | d + 1,o=>by simp [fits]
theorem qhK:∀ (τ:Ty) (o o':Nat) (x:τ.den) (v:V),fits τ.depth o o' = true->RTy τ o x v->RTy τ o' x v
 | .int _,_,_,_,v,_,h=>by simpa only [RTy] using h
 | .bool,_,_,_,v,_,h=>by simpa only [RTy] using h
 | .str,_,_,_,v,_,h=>by simpa only [RTy] using h
 | .flt,_,_,_,v,_,h=>by simpa only [RTy] using h
 | .cx,_,_,_,v,_,h=>by simpa only [RTy] using h
 | .err,_,_,_,v,_,h=>by simpa only [RTy] using h
 | .mset _,_,_,_,v,_,h=>by simpa only [RTy] using h
 | .unit,_,_,_,v,_,h=>by simpa only [RTy] using h
 | .sl t,o,o',l,v,hm,h=>by
  simp only [Ty.depth] at hm;simp only [RTy] at h ⊢; obtain ⟨f,c,l',rfl,hf,h⟩:=h;obtain ⟨h1,h2⟩:=qwC hm hf;refine ⟨f,c,l',rfl,h1,h.mono λa b hab=>qhK t _ _ a b ?_ hab⟩;rcases h2 with rfl | h2
  ·exact qs6 _ _
  ·exact h2
 | .pair a b,o,o',x,v,hm,h=>by
  simp only [Ty.depth] at hm;simp only [RTy] at h ⊢; obtain ⟨v1,l,rfl,h3,h4⟩:=h;exact ⟨v1,l,rfl,qhK a _ _ _ _ (qu6 (by omega) hm) h3,qhK b _ _ _ _ (qu6 (by omega) hm) h4⟩
theorem qdA:∀ (τ:Ty) (o:Nat) (w:TV) (x:τ.den) (v:V),qhu τ o w = some x->RV w v->RTy τ o x v:=by
 have dflt:∀ (τ:Ty) (o:Nat) (τ':Ty) (o':Nat) (y:τ'.den) (x:τ.den) (v:V),(if h:τ' = τ then (if fits τ.depth o' o = true then some (cast' h y) else none) else none) = some x->RTy τ' o' y v->RTy τ o x v:=by
  intro τ o τ' o' y x v h hr;split at h
  ·rename_i he;split at h
   ·rename_i hm;simp only [qe] at h;subst h;subst he;exact qhK _ _ _ _ _ hm hr
   ·cases h
  ·cases h
 intro τ;induction τ with
 | int k =>
  intro o w x v h hr;cases w <;> simp only [qhu] at h <;> first | cases h | exact dflt _ _ _ _ _ _ _ h (by simpa only [RV] using hr)
 | bool =>
  intro o w x v h hr;cases w <;> simp only [qhu] at h <;> first | cases h | exact dflt _ _ _ _ _ _ _ h (by simpa only [RV] using hr)
 | str =>
  intro o w x v h hr;cases w <;> simp only [qhu] at h <;> first | cases h | exact dflt _ _ _ _ _ _ _ h (by simpa only [RV] using hr)
 | flt =>
  intro o w x v h hr;cases w <;> simp only [qhu] at h <;> first | cases h | exact dflt _ _ _ _ _ _ _ h (by simpa only [RV] using hr)
 | cx =>
  intro o w x v h hr;cases w <;> simp only [qhu] at h <;> first | cases h | exact dflt _ _ _ _ _ _ _ h (by simpa only [RV] using hr)
 | err =>
  intro o w x v h hr;cases w <;> simp only [qhu] at h <;> first | cases h | exact dflt _ _ _ _ _ _ _ h (by simpa only [RV] using hr)
 | mset t =>
  intro o w x v h hr;cases w <;> simp only [qhu] at h <;> first | cases h | exact dflt _ _ _ _ _ _ _ h (by simpa only [RV] using hr)
 | sl t ih =>
  intro o w x v h hr;cases w with
  | empty own =>
   simp only [qhu] at h;split at h
   ·rename_i ho;simp only [qe] at h;subst h;simp only [RV] at hr;obtain ⟨f,c,rfl,hf⟩:=hr;simp only [RTy];exact ⟨f,c,[],rfl,(qwC ho hf).1,.nil⟩
   ·cases h
  | t τ' o' y=>simp only [qhu] at h; exact dflt _ _ _ _ _ _ _ h (by simpa only [RV] using hr)
  | _=>simp [qhu] at h
 | unit =>
  intro o w x v h hr;cases w with
  | agg l =>
   cases l with
   | nil=>simp only [RV] at hr; obtain ⟨l',rfl,h1⟩:=hr; simp only [RVL] at h1; simp [RTy,h1]
   | cons=>simp [qhu] at h
  | t τ' o' y=>simp only [qhu] at h; exact dflt _ _ _ _ _ _ _ h (by simpa only [RV] using hr)
  | _=>simp [qhu] at h
 | pair a b iha ihb =>
  intro o w x v h hr;cases w with
  | agg l =>
   cases l with
   | nil=>simp [qhu] at h
   | cons u l =>
    simp only [qhu] at h;obtain ⟨y,hy,h⟩:=qh.1 h;obtain ⟨z,hz,h⟩:=qh.1 h;simp only [qe] at h;subst h;simp only [RV] at hr;obtain ⟨l',rfl,hl⟩:=hr;simp only [RVL] at hl;obtain ⟨v1,m,rfl,h1,h2⟩:=hl;simp only [RTy];exact ⟨v1,m,rfl,iha _ _ _ _ hy h1,ihb _ _ _ _ hz (by simp only [RV]; exact ⟨m,rfl,h2⟩)⟩
  | t τ' o' y=>simp only [qhu] at h; exact dflt _ _ _ _ _ _ _ h (by simpa only [RV] using hr)
  | _=>simp [qhu] at h
theorem qwF:∀ (ps:List (Ty × Nat)) (l:List TV) (x:denL (ps.map (·.1))) (l':List V),asL ps l = some x->RVL l l'->RVL (ofL ps x) l'
 | [],l,x,l',h,hr=>by
  cases l with
  | nil=>simpa [ofL] using hr
  | cons=>simp [asL] at h
 | [(τ,o)],l,x,l',h,hr=>by
  match l,h,hr with
  | [v],h,hr =>
   simp only [asL] at h;simp only [RVL] at hr;obtain ⟨u,m,rfl,h1,rfl⟩:=hr;simp only [ofL];exact qC.2 ⟨rv_ofTy _ _ _ _ (qdA _ _ _ _ _ h h1),qai⟩
  | [],h,hr=>simp [asL] at h
  | _ :: _ :: _,h,hr=>simp [asL] at h
 | (τ,o) :: q :: ps,l,x,l',h,hr=>by
  match l,h,hr with
  | [],h,hr=>simp [asL] at h
  | v :: l,h,hr =>
   simp only [asL] at h;obtain ⟨y,hy,h⟩:=qh.1 h;obtain ⟨z,hz,h⟩:=qh.1 h;simp only [qe] at h;subst h;simp only [RVL] at hr;obtain ⟨u,m,rfl,h1,h2⟩:=hr;simp only [ofL];exact qC.2 ⟨rv_ofTy _ _ _ _ (qdA _ _ _ _ _ hy h1),qwF (q :: ps) l _ _ hz h2⟩
theorem qv3 {τ:Ty} {o:Nat}:∀ (l:List TV) (x:List τ.den) (l':List V),qz2 τ o l = some x->RVL l l'->All2 (RTy τ o) x l'
 | [],x,l',h,hr=>by simp only [qz2,qe] at h; simp only [RVL] at hr; subst h; subst hr; exact .nil
 | v :: l,x,l',h,hr=>by
  simp only [qz2] at h;obtain ⟨y,hy,h⟩:=qh.1 h;obtain ⟨z,hz,h⟩:=qh.1 h;simp only [qe] at h;subst h;simp only [RVL] at hr;obtain ⟨u,m,rfl,h1,h2⟩:=hr;exact .cons (qdA _ _ _ _ _ hy h1) (qv3 l _ _ hz h2)
theorem qrj (p:Bool) (u:Value):RV (qmy p u) (qc5 p u):=by
 unfold qmy qc5;split
 ·simp [RV,RTy]
 ·simp [RV,RTy]
 ·simp [RV,RTy]
 ·simp only [RV,RTy]; exact ⟨0,rfl,Fl.qsb⟩
 ·simp only [RV,RTy]; exact ⟨0,0,rfl,Fl.qsb,Fl.qsb⟩
 ·cases p
  ·simp only [RV,qfd,qj,if_false]; exact ⟨_,_,rfl,qfB rfl⟩
  ·simp [RV,qfd]
 ·rename_i h1 h2 h3 h4 h5 h6;split
  ·exact absurd rfl h6
  ·simp [RV]
theorem qu3 {g:Value->TV} {h:Value->V} (hr:∀ u,RV (g u) (h u)):∀ l:List Value,RVL (l.map g) (l.map h)
 | []=>qai
 | u :: l=>qC.2 ⟨hr u,qu3 hr l⟩
theorem qv2 (p:Bool) (u:Value):RV (qnX p u) (ofConst p u):=by
 have key:=qrj p u;cases u <;> first | exact key | (simp only [qnX,ofConst,RV]; exact ⟨_,rfl,qu3 (qrj p) _⟩)
theorem qgK:∀ (τ:Ty) (o:Nat) (x:τ.den) (v:V),RTy τ o x v->RTy τ 1000 x (v.reflag qW)
 | .int _,_,_,v,h=>by simp only [RTy] at h ⊢; simp [h,V.reflag]
 | .bool,_,_,v,h=>by simp only [RTy] at h ⊢; simp [h,V.reflag]
 | .str,_,_,v,h=>by simp only [RTy] at h ⊢; simp [h,V.reflag]
 | .flt,_,_,v,h=>by simp only [RTy] at h ⊢; obtain ⟨b9,rfl,h9⟩:=h; exact ⟨b9,by simp [V.reflag],h9⟩
 | .cx,_,_,v,h=>by simp only [RTy] at h ⊢; obtain ⟨a9,b9,rfl,h8,h9⟩:=h; exact ⟨a9,b9,by simp [V.reflag],h8,h9⟩
 | .err,_,_,v,h=>by simp only [RTy] at h ⊢; rcases h with ⟨hx,rfl⟩ | ⟨hx,t9,rfl⟩; exact .inl ⟨hx,by simp [V.reflag]⟩; exact .inr ⟨hx,t9,by simp [V.reflag]⟩
 | .mset _,_,_,v,h=>by simp only [RTy] at h ⊢; obtain ⟨h8,rfl⟩:=h; exact ⟨h8,by simp [V.reflag]⟩
 | .sl t,o,l,v,h=>by
  simp only [RTy] at h ⊢; obtain ⟨f,c,l',rfl,_,h⟩:=h;refine ⟨.shared,c,reflagL qW l',by simp [V.reflag,qW],qip rfl (by simp) (λ_=>rfl),?_⟩;rw [qaX];exact h.map λa b hab=>qgK t _ a b hab
 | .unit,_,_,v,h=>by simp only [RTy] at h ⊢; simp [h,V.reflag,reflagL]
 | .pair a b,o,x,v,h=>by
  simp only [RTy] at h ⊢; obtain ⟨v1,l,rfl,h1,h2⟩:=h;refine ⟨v1.reflag qW,reflagL qW l,by simp [V.reflag,reflagL],qgK a o _ _ h1,?_⟩;have:=qgK b o _ _ h2;simpa only [V.reflag] using this
mutual
theorem RV.share:∀ (x:TV) (v:V),RV x v->RV x.share (v.reflag qW)
 | .any rs,v,h=>by simp only [TV.share,RV] at h ⊢; rw [qf2]; exact ⟨h.1,qeA h.2⟩
 | .t τ o x,v,h=>by simp only [TV.share,RV] at h ⊢; exact qgK τ o x v h
 | .clp τ x,v,h=>by
  simp only [TV.share,RV,RTy] at h ⊢; obtain ⟨f,l',rfl,_,h⟩:=h;refine ⟨.shared,true,reflagL qW l',by simp [V.reflag,qW],qip rfl (by simp) (λ_=>rfl),?_⟩;rw [qaX];exact h.map λa b hab=>qgK τ _ a b hab
 | .room a s,v,h=>by
  simp only [RV] at h;rcases a with _ | a
  ·obtain ⟨_,n,rfl,h0⟩ | ⟨h9,_⟩:=h
   ·obtain rfl:=h0 rfl;simp only [TV.share,RV,V.reflag,qW];exact ⟨.shared,false,by simp,qip rfl (by simp) (λ_=>rfl)⟩
   ·omega
  ·simp only [TV.share,RV];refine .inr ⟨Nat.le_refl _,?_⟩;obtain ⟨_,n,rfl,_⟩ | ⟨_,rfl | ⟨f,hf0,rfl⟩⟩:=h
   ·by_cases hn:n = 0
    ·exact .inr ⟨.shared,by simp,by simp [V.reflag,qW,hn]⟩
    ·exact .inl (by simp [V.reflag,qW,hn])
   ·exact .inl rfl
   ·exact .inr ⟨.shared,by simp,by simp [V.reflag,reflagL,qW]⟩
 | .empty own,v,h=>by simp only [TV.share,RV] at h ⊢; obtain ⟨f,c,rfl,_⟩:=h; exact ⟨.shared,c,by simp [V.reflag,reflagL,qW],qip rfl (by simp) (λ_=>rfl)⟩
 | .val u,v,h=>by simp only [TV.share,RV] at h ⊢; simp [h,V.reflag]
 | .agg l,v,h=>by simp only [TV.share,RV] at h ⊢; obtain ⟨l',rfl,h⟩:=h; exact ⟨_,by simp only [V.reflag],RVL.share l l' h⟩
 | .tuple l,v,h=>by simp only [TV.share,RV] at h ⊢; obtain ⟨l',rfl,h⟩:=h; exact ⟨_,by simp only [V.reflag],RVL.share l l' h⟩
 | .fn g' a b,v,h=>by simp only [TV.share,RV] at h ⊢; obtain ⟨a',b',rfl,h1,h2⟩:=h; exact ⟨_,_,by simp only [V.reflag],RVL.share a a' h1,RVL.share b b' h2⟩
 | .ptr q o,v,h=>by simp only [TV.share,RV] at h ⊢; simp [h,V.reflag]
 | .mref q,v,h=>by simp only [TV.share,RV] at h ⊢; simp [h,V.reflag]
 | .bsl q _ _,v,h=>by simp only [TV.share,RV] at h ⊢; simp [h,V.reflag]
 | .yld q,v,h=>by simp only [TV.share,RV] at h ⊢; simp [h,V.reflag]
 | .lp ..,v,h=>by simp only [RV] at h
 | .cptr _ l,v,h=>by simp only [TV.share,RV] at h ⊢; obtain ⟨f,l',rfl,_,_,h⟩:=h; exact ⟨.shared,_,by simp only [V.reflag,qW],by simp,λ_=>rfl,RVL.share l l' h⟩
 | .iface t x,v,h=>by simp only [TV.share,RV] at h ⊢; obtain ⟨y,rfl,h⟩:=h; exact ⟨_,by simp only [V.reflag],RV.share x y h⟩
theorem RVL.share:∀ (l:List TV) (l':List V),RVL l l'->RVL (shareL l) (reflagL qW l')
 | [],l',h=>by simp only [RVL] at h; simp [h,shareL,reflagL,RVL]
 | x :: l,l',h=>by
  simp only [RVL] at h; obtain ⟨v,m,rfl,h1,h2⟩:=h;simp only [shareL,reflagL];exact qC.2 ⟨RV.share x v h1,RVL.share l m h2⟩
end
theorem qwN {o:Nat}:qbl (lo o) = qbl o:=by
 rw [Bool.eq_iff_iff,qeQ,qeQ];unfold lo; split <;> omega
theorem qF0 {o:Nat}:nx (lo o) = lo (nx o):=by
 have h1:=@qwN o;unfold nx;rw [h1];cases ho:qbl o with
 | false=>rfl
 | true =>
  have:=qeQ.1 ho;simp only [if_true];unfold lo; split <;> split <;> omega
theorem qDk {o:Nat}:lo o = 2000 ↔ o = 2000:=by unfold lo; split <;> omega
theorem qCG {g:Fl->Fl} (hg:∀ f,g f = .own ↔ f = .own) {o:Nat} {f:Fl} (h:FlR o f):FlR (lo o) (g f) :=
 ⟨λh2=>by rw [hg f,qwN]; exact h.1 (λe=>h2 (qDk.2 e)),λh1=>by unfold lo at h1; split at h1 <;> omega⟩
theorem qtl {g:Fl->Fl} (hg:∀ f,g f = .own ↔ f = .own):∀ (τ:Ty) (o:Nat) (x:τ.den) (v:V),RTy τ o x v->RTy τ (lo o) x (v.reflag g)
 | .int _,_,_,v,h=>by simp only [RTy] at h ⊢; simp [h,V.reflag]
 | .bool,_,_,v,h=>by simp only [RTy] at h ⊢; simp [h,V.reflag]
 | .str,_,_,v,h=>by simp only [RTy] at h ⊢; simp [h,V.reflag]
 | .flt,_,_,v,h=>by simp only [RTy] at h ⊢; obtain ⟨b9,rfl,h9⟩:=h; exact ⟨b9,by simp [V.reflag],h9⟩
 | .cx,_,_,v,h=>by simp only [RTy] at h ⊢; obtain ⟨a9,b9,rfl,h8,h9⟩:=h; exact ⟨a9,b9,by simp [V.reflag],h8,h9⟩
 | .err,_,_,v,h=>by simp only [RTy] at h ⊢; rcases h with ⟨hx,rfl⟩ | ⟨hx,t9,rfl⟩; exact .inl ⟨hx,by simp [V.reflag]⟩; exact .inr ⟨hx,t9,by simp [V.reflag]⟩
 | .mset _,_,_,v,h=>by simp only [RTy] at h ⊢; obtain ⟨h8,rfl⟩:=h; exact ⟨h8,by simp [V.reflag]⟩
 | .sl t,o,l,v,h=>by
  simp only [RTy] at h ⊢; obtain ⟨f,c,l',rfl,hf,h⟩:=h;refine ⟨g f,c,reflagL g l',by simp [V.reflag],qCG hg hf,?_⟩;rw [qaX,qF0];exact h.map λa b hab=>qtl hg t _ a b hab
 | .unit,_,_,v,h=>by simp only [RTy] at h ⊢; simp [h,V.reflag,reflagL]
 | .pair a b,o,x,v,h=>by
  simp only [RTy] at h ⊢; obtain ⟨v1,l,rfl,h1,h2⟩:=h;refine ⟨v1.reflag g,reflagL g l,by simp [V.reflag,reflagL],qtl hg a o _ _ h1,?_⟩;have:=qtl hg b o _ _ h2;simpa only [V.reflag] using this
mutual
theorem RV.lo {g:Fl->Fl} (hg:∀ f,g f = .own ↔ f = .own):∀ (x:TV) (v:V),RV x v->RV x.qbk (v.reflag g)
 | .any rs,v,h=>by simp only [TV.qbk,RV] at h ⊢; rw [qf2]; exact ⟨h.1,qeA h.2⟩
 | .t τ o x,v,h=>by simp only [TV.qbk,RV] at h ⊢; exact qtl hg τ o x v h
 | .clp τ x,v,h=>by
  simp only [TV.qbk,RV] at h ⊢; obtain ⟨f,l',rfl,h0,h⟩:=h;refine ⟨g f,reflagL g l',by simp [V.reflag],λe=>h0 ((hg f).1 e),?_⟩;rw [qaX];exact h.map λa b hab=>qtl hg τ 0 a b hab
 | .room a s,v,h=>by
  simp only [TV.qbk,RV] at h ⊢;obtain ⟨h1,n,rfl,h0⟩ | ⟨h1,rfl | ⟨f,hf0,rfl⟩⟩:=h
  ·exact .inl ⟨h1,n,by simp only [V.reflag,if_pos ((hg .own).2 rfl)],h0⟩
  ·exact .inr ⟨h1,.inl rfl⟩
  ·exact .inr ⟨h1,.inr ⟨g f,λe=>hf0 ((hg f).1 e),by simp [V.reflag,reflagL]⟩⟩
 | .empty own,v,h=>by simp only [TV.qbk,RV] at h ⊢; obtain ⟨f,c,rfl,h0⟩:=h; exact ⟨g f,c,by simp [V.reflag,reflagL],qCG hg h0⟩
 | .val u,v,h=>by simp only [TV.qbk,RV] at h ⊢; simp [h,V.reflag]
 | .agg l,v,h=>by simp only [TV.qbk,RV] at h ⊢; obtain ⟨l',rfl,h⟩:=h; exact ⟨_,by simp only [V.reflag],RVL.lo hg l l' h⟩
 | .tuple l,v,h=>by simp only [TV.qbk,RV] at h ⊢; obtain ⟨l',rfl,h⟩:=h; exact ⟨_,by simp only [V.reflag],RVL.lo hg l l' h⟩
 | .fn g' a b,v,h=>by simp only [TV.qbk,RV] at h ⊢; obtain ⟨a',b',rfl,h1,h2⟩:=h; exact ⟨_,_,by simp only [V.reflag],RVL.lo hg a a' h1,RVL.lo hg b b' h2⟩
 | .ptr q o,v,h=>by simp only [TV.qbk,RV] at h ⊢; simp [h,V.reflag]
 | .mref q,v,h=>by simp only [TV.qbk,RV] at h ⊢; simp [h,V.reflag]
 | .bsl q _ _,v,h=>by simp only [TV.qbk,RV] at h ⊢; simp [h,V.reflag]
 | .yld q,v,h=>by simp only [TV.qbk,RV] at h ⊢; simp [h,V.reflag]
 | .lp ..,v,h=>by simp only [RV] at h
 | .cptr _ l,v,h=>by simp only [TV.qbk,RV] at h ⊢; obtain ⟨f,l',rfl,h0,_,h⟩:=h; exact ⟨g f,_,by simp only [V.reflag],λe=>h0 ((hg f).1 e),λe=>(by cases e),RVL.lo hg l l' h⟩
 | .iface t x,v,h=>by simp only [TV.qbk,RV] at h ⊢; obtain ⟨y,rfl,h⟩:=h; exact ⟨_,by simp only [V.reflag],RV.lo hg x y h⟩
theorem RVL.lo {g:Fl->Fl} (hg:∀ f,g f = .own ↔ f = .own):∀ (l:List TV) (l':List V),RVL l l'->RVL (loosenL l) (reflagL g l')
 | [],l',h=>by simp only [RVL] at h; simp [h,loosenL,reflagL,RVL]
 | x :: l,l',h=>by
  simp only [RVL] at h; obtain ⟨v,m,rfl,h1,h2⟩:=h;simp only [loosenL,reflagL];exact qC.2 ⟨RV.lo hg x v h1,RVL.lo hg l m h2⟩
end
mutual
theorem reflag_id:∀ v:V,v.reflag (λf=>f) = v
 | .undef | .val _ | .ptr .. | .yld _ | .mref _ | .bsl .. | .mp _ | .lp ..=>by simp [V.reflag]
 | .cptr _ l=>by simp only [V.reflag,reflagL_id l]
 | .room ..=>by simp [V.reflag]
 | .sl f c l=>by simp only [V.reflag,reflagL_id l]
 | .fn g a b=>by simp only [V.reflag,reflagL_id a,reflagL_id b]
 | .iface t x=>by simp only [V.reflag,reflag_id x]
 | .agg l=>by simp only [V.reflag,reflagL_id l]
 | .tuple l=>by simp only [V.reflag,reflagL_id l]
theorem reflagL_id:∀ l:List V,reflagL (λf=>f) l = l
 | []=>rfl
 | v :: l=>by simp only [reflagL,reflag_id v,reflagL_id l]
end
theorem RV.lo0 {x:TV} {v:V} (h:RV x v):RV x.qbk v:=by
 have:=RV.lo (g:=λf=>f) (λf=>Iff.rfl) x v h
 rwa [reflag_id] at this
theorem qDP {o d:Nat} (h:sure o (d + 1) = true):sure (nx o) d = true:=by
 unfold nx;cases ho:qbl o with
 | false =>
  rcases qk3.1 ho with rfl | rfl | rfl
  ·simp [sure] at h
  ·simp [sure]
  ·simp [sure] at h
 | true =>
  have:=qeQ.1 ho;simp only [if_true];unfold sure at h ⊢;by_cases h1:o < 1000
  ·rw [if_pos h1] at h;rw [if_pos (by omega)];simp only [decide_eq_true_eq] at h ⊢; omega
  ·by_cases h2:o < 2000
   ·by_cases h3:o - 1 < 1000
    ·omega
    ·rw [if_neg h3,if_pos (by omega)]
   ·rw [if_neg h1,if_neg h2] at h;simp only [decide_eq_true_eq] at h;rw [if_neg (by omega),if_neg (by omega)];simp only [decide_eq_true_eq] <;> omega
theorem qzZ {o d d':Nat} (h:sure o d = true) (hd:d'<=d):sure o d' = true:=by
 unfold sure at h ⊢;by_cases h1:o < 1000
 ·rw [if_pos h1] at h ⊢;simp only [decide_eq_true_eq] at h ⊢; omega
 ·by_cases h2:o < 2000
  ·rw [if_neg h1,if_pos h2]
  ·rw [if_neg h1,if_neg h2] at h ⊢;simp only [decide_eq_true_eq] at h ⊢; omega
theorem qwP {o d:Nat} {f:Fl} (h:sure o (d + 1) = true) (hf:FlR o f):f ≠ .qaj:=by
 cases ho:qbl o with
 | true=>rw [hf.own ho]; simp
 | false =>
  rcases qk3.1 ho with rfl | rfl | rfl
  ·simp [sure] at h
  ·rw [hf.2 rfl]; simp
  ·simp [sure] at h
theorem qBz {l:List V} (h:∀ x ∈ l,x.loose = false):looseL l = false:=by
 induction l with
 | nil=>rfl
 | cons a l ih =>
  simp only [looseL,Bool.or_eq_false_iff];exact ⟨h a (by simp),ih λx hx=>h x (by simp [hx])⟩
theorem qhJ:∀ (τ:Ty) (o:Nat) (x:τ.den) (v:V),sure o τ.depth = true->RTy τ o x v->v.soft = false/\v.loose = false
 | .int _,_,_,v,_,h=>by simp only [RTy] at h; subst h; exact ⟨rfl,rfl⟩
 | .bool,_,_,v,_,h=>by simp only [RTy] at h; subst h; exact ⟨rfl,rfl⟩
 | .str,_,_,v,_,h=>by simp only [RTy] at h; subst h; exact ⟨rfl,rfl⟩
 | .flt,_,_,v,_,h=>by simp only [RTy] at h; obtain ⟨b9,rfl,h9⟩:=h; exact ⟨rfl,rfl⟩
 | .cx,_,_,v,_,h=>by simp only [RTy] at h; obtain ⟨a9,b9,rfl,h8,h9⟩:=h; exact ⟨rfl,rfl⟩
 | .err,_,_,v,_,h=>by simp only [RTy] at h; rcases h with ⟨_,rfl⟩ | ⟨_,t9,rfl⟩ <;> exact ⟨rfl,rfl⟩
 | .mset _,_,_,v,_,h=>by simp only [RTy] at h; obtain ⟨h8,rfl⟩:=h; exact ⟨rfl,rfl⟩
 | .sl t,o,l,v,hf,h=>by
  simp only [RTy] at h; obtain ⟨f,c,l',rfl,ho,h⟩:=h;simp only [Ty.depth] at hf;have hnd:=qwP hf ho;have hall:∀ b ∈ l',b.soft = false/\b.loose = false:=λb hb=>by
   obtain ⟨a,_,hr⟩:=qiv h b hb;exact qhJ t _ a b (qDP hf) hr
  simp only [V.soft,V.loose,Bool.or_eq_false_iff,decide_eq_false_iff_not,Bool.and_eq_false_iff];exact ⟨⟨.inl hnd,qB8 λb hb=>(hall b hb).1⟩,hnd,qBz λb hb=>(hall b hb).2⟩
 | .unit,_,_,v,_,h=>by simp only [RTy] at h; subst h; exact ⟨rfl,rfl⟩
 | .pair a b,o,x,v,hf,h=>by
  simp only [RTy] at h; obtain ⟨v1,l,rfl,h1,h2⟩:=h;simp only [Ty.depth] at hf;have e1:=qhJ a o _ _ (qzZ hf (by omega)) h1;have e2:=qhJ b o _ _ (qzZ hf (by omega)) h2;simp only [V.soft,softL,V.loose,looseL,Bool.or_eq_false_iff] at e2 ⊢;exact ⟨⟨e1.1,e2.1⟩,e1.2,e2.2⟩
mutual
theorem RV.firm:∀ (x:TV) (v:V),x.firm = true->RV x v->v.soft = false
 | .any rs,v,hf,h=>by simp [TV.firm] at hf
 | .t τ o x,v,hf,h=>by simp only [TV.firm] at hf; simp only [RV] at h; exact (qhJ τ o x v hf h).1
 | .clp τ x,v,hf,h=>by simp [TV.firm] at hf
 | .room a s,v,hf,h=>by simp [TV.firm] at hf
 | .empty own,v,hf,h=>by simp only [RV] at h; obtain ⟨f,c,rfl,_⟩:=h; simp [V.soft,softL]
 | .val u,v,hf,h=>by simp only [RV] at h; subst h; rfl
 | .agg l,v,hf,h=>by simp only [RV] at h; obtain ⟨l',rfl,h⟩:=h; simp only [TV.firm] at hf; simp only [V.soft]; exact RVL.firm l l' hf h
 | .tuple l,v,hf,h=>by simp only [RV] at h; obtain ⟨l',rfl,h⟩:=h; simp only [TV.firm] at hf; simp only [V.soft]; exact RVL.firm l l' hf h
 | .fn g a b,v,hf,h=>by
  simp only [RV] at h; obtain ⟨a',b',rfl,h1,h2⟩:=h;simp only [TV.firm,qi] at hf;simp only [V.soft,Bool.or_eq_false_iff];exact ⟨RVL.firm a a' hf.1 h1,RVL.firm b b' hf.2 h2⟩
 | .ptr q o,v,hf,h=>by simp only [RV] at h; subst h; rfl
 | .mref q,v,hf,h=>by simp only [RV] at h; subst h; rfl
 | .bsl q _ _,v,hf,h=>by simp only [RV] at h; subst h; rfl
 | .yld q,v,hf,h=>by simp only [RV] at h; subst h; rfl
 | .lp ..,v,hf,h=>by simp only [RV] at h
 | .cptr s l,v,hf,h=>by
  simp only [TV.firm,qi] at hf;simp only [RV] at h; obtain ⟨f,l',rfl,_,hsh,h⟩:=h;have:=hsh hf.1;subst this;simp only [V.soft,RVL.firm l l' hf.2 h] <;> rfl
 | .iface t x,v,hf,h=>by simp only [RV] at h; obtain ⟨y,rfl,h⟩:=h; simp only [TV.firm] at hf; simp only [V.soft]; exact RV.firm x y hf h
theorem RVL.firm:∀ (l:List TV) (l':List V),firmL l = true->RVL l l'->softL l' = false
 | [],l',hf,h=>by simp only [RVL] at h; subst h; rfl
 | x :: l,l',hf,h=>by
  simp only [RVL] at h; obtain ⟨v,m,rfl,h1,h2⟩:=h;simp only [firmL,qi] at hf;simp only [softL,Bool.or_eq_false_iff];exact ⟨RV.firm x v hf.1 h1,RVL.firm l m hf.2 h2⟩
end
mutual
theorem RV.tight:∀ (x:TV) (v:V),x.tight = true->RV x v->v.loose = false
 | .any rs,v,hf,h=>by simp [TV.tight] at hf
 | .t τ o x,v,hf,h=>by simp only [TV.tight] at hf; simp only [RV] at h; exact (qhJ τ o x v hf h).2
 | .clp τ x,v,hf,h=>by simp [TV.tight] at hf
 | .room a s,v,hf,h=>by simp [TV.tight] at hf
 | .empty o,v,hf,h=>by simp only [TV.tight] at hf; simp only [RV] at h; obtain ⟨f,c,rfl,h0⟩:=h; simp [V.loose,looseL,qwP hf h0]
 | .val u,v,hf,h=>by simp only [RV] at h; subst h; rfl
 | .agg l,v,hf,h=>by simp only [RV] at h; obtain ⟨l',rfl,h⟩:=h; simp only [TV.tight] at hf; simp only [V.loose]; exact RVL.tight l l' hf h
 | .tuple l,v,hf,h=>by simp only [RV] at h; obtain ⟨l',rfl,h⟩:=h; simp only [TV.tight] at hf; simp only [V.loose]; exact RVL.tight l l' hf h
 | .fn g a b,v,hf,h=>by
  simp only [RV] at h; obtain ⟨a',b',rfl,h1,h2⟩:=h;simp only [TV.tight,qi] at hf;simp only [V.loose,Bool.or_eq_false_iff];exact ⟨RVL.tight a a' hf.1 h1,RVL.tight b b' hf.2 h2⟩
 | .ptr q o,v,hf,h=>by simp only [RV] at h; subst h; rfl
 | .mref q,v,hf,h=>by simp only [RV] at h; subst h; rfl
 | .bsl q _ _,v,hf,h=>by simp only [RV] at h; subst h; rfl
 | .yld q,v,hf,h=>by simp only [RV] at h; subst h; rfl
 | .lp ..,v,hf,h=>by simp only [RV] at h
 | .cptr s l,v,hf,h=>by
  simp only [TV.tight,qi] at hf;simp only [RV] at h; obtain ⟨f,l',rfl,_,hsh,h⟩:=h;have:=hsh hf.1;subst this;simp only [V.loose,RVL.tight l l' hf.2 h] <;> rfl
 | .iface t x,v,hf,h=>by simp only [RV] at h; obtain ⟨y,rfl,h⟩:=h; simp only [TV.tight] at hf; simp only [V.loose]; exact RV.tight x y hf h
theorem RVL.tight:∀ (l:List TV) (l':List V),tightL l = true->RVL l l'->looseL l' = false
 | [],l',hf,h=>by simp only [RVL] at h; subst h; rfl
 | x :: l,l',hf,h=>by
  simp only [RVL] at h; obtain ⟨v,m,rfl,h1,h2⟩:=h;simp only [tightL,qi] at hf;simp only [looseL,Bool.or_eq_false_iff];exact ⟨RV.tight x v hf.1 h1,RVL.tight l m hf.2 h2⟩
end
theorem qrd {bx:Root->Option (List V)}:∀ (τ:Ty) (o:Nat) (x:τ.den) (v:V),τ.isSet = false->RTy τ o x v->peekV bx v = some (v.reflag qW)
 | .int _,o,x,v,hns,h=>by simp only [RTy] at h; subst h; rfl
 | .bool,o,x,v,hns,h=>by simp only [RTy] at h; subst h; rfl
 | .str,o,x,v,hns,h=>by simp only [RTy] at h; subst h; rfl
 | .flt,o,x,v,hns,h=>by simp only [RTy] at h; obtain ⟨b9,rfl,h9⟩:=h; rfl
 | .cx,o,x,v,hns,h=>by simp only [RTy] at h; obtain ⟨a9,b9,rfl,h8,h9⟩:=h; rfl
 | .err,o,x,v,hns,h=>by simp only [RTy] at h; rcases h with ⟨_,rfl⟩ | ⟨_,t9,rfl⟩ <;> rfl
 | .mset _,o,x,v,hns,h=>by simp [Ty.isSet] at hns
 | .sl _,o,x,v,hns,h=>by simp only [RTy] at h; obtain ⟨f,c,l',rfl,_⟩:=h; rfl
 | .unit,o,x,v,hns,h=>by simp only [RTy] at h; subst h; rfl
 | .pair a b,o,x,v,hns,h=>by
  simp only [RTy] at h;simp only [Ty.isSet,Bool.or_eq_false_iff] at hns;obtain ⟨v1,l,rfl,h1,h2⟩:=h;have e1:=qrd (bx:=bx) a o x.1 v1 hns.1 h1;have e2:=qrd (bx:=bx) b o x.2 _ hns.2 h2;simp only [peekV,V.reflag] at e2 ⊢;obtain ⟨m,hm,he⟩:=qf.1 e2;simp only [V.agg.injEq] at he;subst he;simp only [peekL,e1,hm,reflagL,qn]
theorem qtZ {k:IntKind}:∀ {l:List TV} {xs:List Int} {l':List V},qsv k l = some xs->RVL l l'->l' = xs.map λx=>V.val (.int k x)
 | [],xs,l',h,hr=>by
  simp only [qsv,qe] at h; subst h;simp only [RVL] at hr; rw [hr] <;> rfl
 | .t (.int k') o x :: l,xs,l',h,hr=>by
  simp only [qsv] at h;split at h
  ·rename_i hk;obtain ⟨m,hm,rfl⟩:=qf.1 h;simp only [RVL] at hr;obtain ⟨v,vs,rfl,h1,h2⟩:=hr;simp only [RV,RTy] at h1;rw [h1,qtZ hm h2,hk]; rfl
  ·cases h
theorem qxn {k:IntKind} (xs:List Int):reflagL qW (xs.map λx=>V.val (.int k x)) = (xs.map λx=>V.val (.int k x))/\(xs.map λx=>V.val (.int k x)).all V.one = true/\ptrsL (xs.map λx=>V.val (.int k x)) = []:=by
 induction xs with
 | nil=>exact ⟨rfl,rfl,rfl⟩
 | cons x xs ih=>simp only [qm,reflagL,V.reflag,List.all_cons,ptrsL,V.qx,ih.1,ih.2.1,ih.2.2]; exact ⟨trivial,by simp [V.one],rfl⟩
theorem qtx {k:IntKind} {o:Nat}:∀ (xs:List Int),All2 (RTy (.int k) o) xs (xs.map λx=>V.val (.int k x))
 | []=>.nil
 | x :: xs=>.cons (by simp only [RTy]) (qtx xs)
mutual
theorem peekTV_ok {bt:Root->Option (List TV)} {bx:Root->Option (List V)} (hb:∀ r c,bt r = some c->∃ c',bx r = some c'/\RVL c c'/\(r.slot < 16384->qhq c' = false)):∀ (x y:TV) (v:V),peekTV bt x = some y->RV x v->∃ u,peekV bx v = some u/\RV y u
 | .any _,y,v,h,hr=>by simp [peekTV] at h
 | .val w,y,v,h,hr=>by
  simp only [peekTV,qe] at h; subst h;simp only [RV] at hr; subst hr;exact ⟨.val w,rfl,by simp [RV]⟩
 | .t τ o x,y,v,h,hr=>by
  simp only [peekTV] at h;cases hs:τ.isSet with
  | true=>rw [hs] at h; cases h
  | false =>
   rw [hs] at h;simp only [cond_false,qe] at h; subst h;simp only [RV] at hr;exact ⟨_,qrd τ o x v hs hr,by simp only [RV]; exact qgK τ o x v hr⟩
 | .mref _,y,v,h,hr=>by simp [peekTV] at h
 | .yld _,y,v,h,hr=>by simp [peekTV] at h
 | .lp ..,y,v,h,hr=>by simp [peekTV] at h
 | .bsl r off n,y,v,h,hr=>by
  simp only [peekTV] at h;split at h
  ·rename_i c hc;split at h
   ·rename_i hle;obtain ⟨xs,hxs,rfl⟩:=qf.1 h;simp only [RV] at hr; subst hr;obtain ⟨c',hc',hrc,hmp⟩:=hb r c hc;have hl:=qtZ hxs ((hrc.drop off).take n);obtain ⟨e1,e2,e3⟩:=qxn (k:=.i64) xs;refine ⟨.sl .shared false (reflagL qW ((c'.drop off).take n)),?_,?_⟩
    ·simp only [peekV,hc'];rw [if_pos ⟨qfg (qaY hrc) (hmp hle.2),by rw [hrc.length]; exact hle.1,by rw [hl,e1]; exact e2,by rw [hl]; exact e3⟩]
    ·simp only [RV,RTy];refine ⟨.shared,false,_,rfl,⟨λ_=>by simp [qbl],λ_=>rfl⟩,?_⟩;rw [hl,e1];exact qtx (o:=0) xs
   ·cases h
  ·cases h
 | .clp τ x,y,v,h,hr=>by
  simp only [peekTV,qe] at h; subst h;have h2:=RV.share (.clp τ x) v hr;simp only [RV] at hr;obtain ⟨f,l',rfl,_,_⟩:=hr;exact ⟨_,rfl,h2⟩
 | .room a s,y,v,h,hr=>by simp [peekTV] at h
 | .empty o,y,v,h,hr=>by
  simp only [peekTV,qe] at h; subst h;have h2:=RV.share (.empty o) v hr;simp only [RV] at hr;obtain ⟨f,c,rfl,_⟩:=hr;exact ⟨_,rfl,h2⟩
 | .agg l,y,v,h,hr=>by
  simp only [peekTV] at h;obtain ⟨m,hm,rfl⟩:=qf.1 h;simp only [RV] at hr;obtain ⟨l',rfl,hl⟩:=hr;obtain ⟨u,hu,hru⟩:=peekTL_ok hb l m l' hm hl;exact ⟨.agg u,by simp only [peekV,hu,qn],by simp only [RV]; exact ⟨u,rfl,hru⟩⟩
 | .tuple l,y,v,h,hr=>by
  simp only [peekTV] at h;obtain ⟨m,hm,rfl⟩:=qf.1 h;simp only [RV] at hr;obtain ⟨l',rfl,hl⟩:=hr;obtain ⟨u,hu,hru⟩:=peekTL_ok hb l m l' hm hl;exact ⟨.tuple u,by simp only [peekV,hu,qn],by simp only [RV]; exact ⟨u,rfl,hru⟩⟩
 | .fn g a b,y,v,h,hr=>by
  simp only [peekTV] at h;split at h
  ·rename_i p q hp hq;simp only [qe] at h; subst h;simp only [RV] at hr;obtain ⟨a',b',rfl,h1,h2⟩:=hr;obtain ⟨u,hu,hru⟩:=peekTL_ok hb a p a' hp h1;obtain ⟨w,hw,hrw⟩:=peekTL_ok hb b q b' hq h2;exact ⟨.fn g u w,by simp only [peekV,hu,hw],by simp only [RV]; exact ⟨u,w,rfl,hru,hrw⟩⟩
  ·cases h
 | .ptr r off,y,v,h,hr=>by
  simp only [peekTV] at h;split at h
  ·rename_i c hc;split at h
   ·rename_i hle;simp only [qe] at h; subst h;simp only [RV] at hr; subst hr;obtain ⟨c',hc',hrc,hmp⟩:=hb r c hc;refine ⟨.cptr .shared (reflagL qW (c'.drop off)),?_,?_⟩
    ·simp only [peekV,hc'];rw [if_pos ⟨qfg (qaY hrc) (hmp hle.2),by rw [hrc.length]; exact hle.1⟩]
    ·simp only [RV];exact ⟨.shared,_,rfl,by simp,λ_=>rfl,RVL.share _ _ (hrc.drop off)⟩
   ·cases h
  ·cases h
 | .cptr _ cs,y,v,h,hr=>by
  simp only [peekTV,qe] at h; subst h;simp only [RV] at hr;obtain ⟨f,l',rfl,_,_,hl⟩:=hr;refine ⟨.cptr .shared (reflagL qW l'),rfl,?_⟩;simp only [RV];exact ⟨.shared,_,rfl,by simp,λ_=>rfl,RVL.share _ _ hl⟩
 | .iface t x,y,v,h,hr=>by
  simp only [peekTV] at h;obtain ⟨m,hm,rfl⟩:=qf.1 h;simp only [RV] at hr;obtain ⟨l',rfl,hl⟩:=hr;obtain ⟨u,hu,hru⟩:=peekTV_ok hb x m l' hm hl;exact ⟨.iface t u,by simp only [peekV,hu,qn],by simp only [RV]; exact ⟨u,rfl,hru⟩⟩
theorem peekTL_ok {bt:Root->Option (List TV)} {bx:Root->Option (List V)} (hb:∀ r c,bt r = some c->∃ c',bx r = some c'/\RVL c c'/\(r.slot < 16384->qhq c' = false)):∀ (l m:List TV) (l':List V),peekTL bt l = some m->RVL l l'->∃ u,peekL bx l' = some u/\RVL m u
 | [],m,l',h,hr=>by
  simp only [peekTL,qe] at h; subst h;simp only [RVL] at hr; subst hr;exact ⟨[],rfl,qai⟩
 | x :: l,m,l',h,hr=>by
  simp only [peekTL] at h;split at h
  ·rename_i p q hp hq;simp only [qe] at h; subst h;simp only [RVL] at hr;obtain ⟨v,vs,rfl,h1,h2⟩:=hr;obtain ⟨u,hu,hru⟩:=peekTV_ok hb x p v hp h1;obtain ⟨w,hw,hrw⟩:=peekTL_ok hb l q vs hq h2;exact ⟨u :: w,by simp only [peekL,hu,hw],qC.2 ⟨hru,hrw⟩⟩
  ·cases h
end
theorem qCp {l:List V} (h:∀ x ∈ l,x.qc2 = true):mineL l = true:=by
 induction l with
 | nil=>rfl
 | cons x l ih=>simp only [mineL,qi]; exact ⟨h x (by simp),ih λy hy=>h y (by simp [hy])⟩
theorem qnp:∀ (τ:Ty) (o:Nat) (x:τ.den) (v:V),qsN τ o = true->RTy τ o x v->v.qc2 = true
 | .int _,o,x,v,hm,h=>by simp only [RTy] at h; subst h; rfl
 | .bool,o,x,v,hm,h=>by simp only [RTy] at h; subst h; rfl
 | .str,o,x,v,hm,h=>by simp only [RTy] at h; subst h; rfl
 | .flt,o,x,v,hm,h=>by simp only [RTy] at h; obtain ⟨b9,rfl,h9⟩:=h; rfl
 | .cx,o,x,v,hm,h=>by simp only [RTy] at h; obtain ⟨a9,b9,rfl,h8,h9⟩:=h; rfl
 | .err,o,x,v,hm,h=>by simp only [RTy] at h; rcases h with ⟨_,rfl⟩ | ⟨_,t9,rfl⟩ <;> rfl
 | .mset _,o,x,v,hm,h=>by simp [qsN] at hm
 | .sl t,o,x,v,hm,h=>by
  simp only [qsN,qi] at hm;simp only [RTy] at h; obtain ⟨f,c,l',rfl,hf,hall⟩:=h;simp only [V.qc2,qi,decide_eq_true_eq];refine ⟨hf.own hm.1,qCp λy hy=>?_⟩;obtain ⟨a,_,ha⟩:=qiv hall y hy;exact qnp t _ a y hm.2 ha
 | .unit,o,x,v,hm,h=>by simp only [RTy] at h; subst h; rfl
 | .pair a b,o,x,v,hm,h=>by
  simp only [qsN,qi] at hm;simp only [RTy] at h;obtain ⟨v1,l,rfl,h1,h2⟩:=h;have e1:=qnp a o x.1 v1 hm.1 h1;have e2:=qnp b o x.2 _ hm.2 h2;simp only [V.qc2] at e2 ⊢;simp only [mineL,qi];exact ⟨e1,e2⟩
mutual
theorem RV.qc2:∀ (x:TV) (v:V),x.qc2 = true->RV x v->v.qc2 = true
 | .any _,v,hm,hr=>by simp [TV.qc2] at hm
 | .val w,v,hm,hr=>by simp only [RV] at hr; subst hr; rfl
 | .t τ o x,v,hm,hr=>by simp only [RV] at hr; exact qnp τ o x v (by simpa only [TV.qc2] using hm) hr
 | .clp τ x,v,hm,hr=>by simp [TV.qc2] at hm
 | .room a s,v,hm,hr=>by simp [TV.qc2] at hm
 | .empty o,v,hm,hr=>by
  simp only [TV.qc2] at hm;simp only [RV] at hr; obtain ⟨f,c,rfl,hf⟩:=hr;simp only [V.qc2,qi,decide_eq_true_eq];exact ⟨hf.own hm,rfl⟩
 | .agg l,v,hm,hr=>by
  simp only [TV.qc2] at hm;simp only [RV] at hr; obtain ⟨l',rfl,hl⟩:=hr;simp only [V.qc2]; exact RVL.qc2 l l' hm hl
 | .tuple l,v,hm,hr=>by
  simp only [TV.qc2] at hm;simp only [RV] at hr; obtain ⟨l',rfl,hl⟩:=hr;simp only [V.qc2]; exact RVL.qc2 l l' hm hl
 | .fn g a b,v,hm,hr=>by
  simp only [TV.qc2,qi] at hm;simp only [RV] at hr; obtain ⟨a',b',rfl,h1,h2⟩:=hr;simp only [V.qc2,qi]; exact ⟨RVL.qc2 a a' hm.1 h1,RVL.qc2 b b' hm.2 h2⟩
 | .ptr ..,v,hm,hr=>by simp [TV.qc2] at hm
 | .mref _,v,hm,hr=>by simp [TV.qc2] at hm
 | .bsl ..,v,hm,hr=>by simp [TV.qc2] at hm
 | .yld _,v,hm,hr=>by simp [TV.qc2] at hm
 | .lp ..,v,hm,hr=>by simp [TV.qc2] at hm
 | .cptr ..,v,hm,hr=>by simp [TV.qc2] at hm
 | .iface t x,v,hm,hr=>by
  simp only [TV.qc2] at hm;simp only [RV] at hr; obtain ⟨y,rfl,hy⟩:=hr;simp only [V.qc2]; exact RV.qc2 x y hm hy
theorem RVL.qc2:∀ (l:List TV) (l':List V),mineTL l = true->RVL l l'->mineL l' = true
 | [],l',hm,hr=>by simp only [RVL] at hr; subst hr; rfl
 | x :: l,l',hm,hr=>by
  simp only [mineTL,qi] at hm;simp only [RVL] at hr; obtain ⟨v,m,rfl,h1,h2⟩:=hr;simp only [mineL,qi]; exact ⟨RV.qc2 x v hm.1 h1,RVL.qc2 l m hm.2 h2⟩
end
end Go.Tx
end
section
namespace Go.Tx
open Go Go.Ab
variable {P:Program} {H:Hints} {f:FuncId}
theorem qx3 (p:Bool) (u:Value):RVL (qmy p u).cells (qc5 p u).cells:=by
 have h:=qrj p u;have h1:(qmy p u).cells = [qmy p u]:=by unfold qmy; split <;> (try split) <;> rfl
 have h2:(qc5 p u).cells = [qc5 p u]:=by unfold qc5 qfd; split <;> (try split) <;> rfl
 rw [h1,h2]; exact qC.2 ⟨h,qai⟩
theorem qvu (p:Bool) (u:Value):RVL (qnX p u).cells (ofConst p u).cells:=by
 have key:=qx3 p u;cases u <;> first | exact key | exact qu3 (qrj p) _
theorem qiJ {t:TypeId} {z:TV} (h:qtz P H f t = some z):∃ z',zeroOf P H f t = some z'/\RV z z'/\RVL z.cells z'.cells:=by
 unfold qtz at h;obtain ⟨u,hu,rfl⟩:=qf.1 h;exact ⟨ofConst (H.precise f) u,by unfold zeroOf; rw [hu]; rfl,qv2 _ _,qvu _ _⟩
theorem qkw {cs vs:List TV} {cs' vs':List V} {off:Nat} (h:RVL cs cs') (hv:RVL vs vs'):RVL (qmg cs off vs) (qU cs' off vs'):=by
 unfold qmg qU;rw [hv.length];exact ((h.take off).append hv).append (h.drop _)
theorem qnc (place:Nat->Option (Nat × Nat)):∀ (is:List Nat) (xs:List TV) (ys:List V) (cs r:List TV) (cs':List V),RVL xs ys->RVL cs cs'->qtK place cs (is.zip xs) = some r ->
  ∃ r',qhx place cs' (is.zip ys) = some r'/\RVL r r'
 | [],xs,ys,cs,r,cs',hx,hc,h=>by simp only [List.zip_nil_left,qtK,qe] at h; subst h; exact ⟨cs',by simp [qhx],hc⟩
 | i :: is,[],ys,cs,r,cs',hx,hc,h=>by
  simp only [RVL] at hx; subst hx;simp only [List.zip_nil_right,qtK,qe] at h; subst h; exact ⟨cs',by simp [qhx],hc⟩
 | i :: is,x :: xs,ys,cs,r,cs',hx,hc,h=>by
  simp only [RVL] at hx; obtain ⟨v,m,rfl,h1,h2⟩:=hx;simp only [List.zip_cons_cons,qtK] at h;simp only [List.zip_cons_cons,qhx];split at h
  ·cases h
  ·rename_i off size hp;rw [hp];simp only
   split at h
   ·cases h
   ·rename_i hn;simp only [not_or,Decidable.not_not,Bool.not_eq_false] at hn;obtain ⟨hl,ho,hk⟩:=hn;obtain ⟨hcells,hko⟩:=RV.cells hk h1;rw [if_neg]
    ·exact qnc place is xs m _ r _ h2 (qkw hc hcells) h
    ·rw [hcells.length,hc.length,hko];simp only [not_or,Decidable.not_not,Bool.not_eq_false];exact ⟨hl,ho,trivial⟩
theorem qyW {t:TypeId} {is:List Nat} {xs:List TV} {ys:List V} {x:TV} (hx:RVL xs ys) (h:qzz P H f t (is.zip xs) = some x) :
  ∃ v,qpY P H f t (is.zip ys) = some v/\RV x v:=by
 unfold qzz at h;unfold qpY;split at h
 ·rename_i z fields hz hu;obtain ⟨z',hz',_,hcz⟩:=qiJ hz;split at h
  ·rename_i places hpl;obtain ⟨l,hl,rfl⟩:=qf.1 h;obtain ⟨l',hl',hr⟩:=qnc _ _ _ _ _ _ _ hx hcz hl;refine ⟨.agg l',?_,by simp only [RV]; exact ⟨l',rfl,hr⟩⟩;rw [hz',hu]; simp only [hpl,hl',qn]
  ·cases h
 ·rename_i z n elem hz hu;obtain ⟨z',hz',_,hcz⟩:=qiJ hz;split at h
  ·rename_i ie hie;obtain ⟨l,hl,rfl⟩:=qf.1 h;obtain ⟨l',hl',hr⟩:=qnc _ _ _ _ _ _ _ hx hcz hl;refine ⟨.agg l',?_,by simp only [RV]; exact ⟨l',rfl,hr⟩⟩;rw [hz',hu]; simp only [hie,hl',qn]
  ·cases h
 ·cases h
theorem qwQ {agg:Bool} {s:Nat}:∀ (n:Nat) {cs:List TV} {cs':List V},RVL cs cs'->RVL (qmI agg s n cs) (chunk agg s n cs')
 | 0,_,_,_=>by simp [qmI,chunk,RVL]
 | n + 1,cs,cs',h=>by
  simp only [qmI,chunk];refine qC.2 ⟨?_,qwQ n (h.drop s)⟩;cases agg with
  | true=>simp only [if_true,RV]; exact ⟨_,rfl,h.take s⟩
  | false =>
   simp only [qj,if_false];cases cs with
   | nil=>simp only [RVL] at h; subst h; exact qcN []
   | cons y cs=>simp only [RVL] at h; obtain ⟨v,m,rfl,h1,_⟩:=h; exact h1
theorem qps {t:TypeId} {len:Nat} {is:List Nat} {xs:List TV} {ys:List V} {x:TV} (hx:RVL xs ys) (h:qjt P H f t len (is.zip xs) = some x) :
  ∃ v,qek P H f t len (is.zip ys) = some v/\RV x v:=by
 unfold qjt at h;unfold qek;split at h
 ·rename_i elem hu;rw [hu]; simp only;split at h
  ·rename_i ie z τ hie hz hτ;obtain ⟨z',hz',_,hcz⟩:=qiJ hz;rw [hie,hz']; simp only;split at h
   ·cases h
   ·rename_i hn;simp only [not_or] at hn;rw [if_neg (by rw [hcz.length]; simp only [not_or]; exact ⟨hn.1,hn.2.1,hn.2.2.1,hn.2.2.2.1⟩)];split at h
    ·rename_i cs hcs;obtain ⟨cs',hcs',hr⟩:=qnc _ _ _ _ _ _ _ hx (RVL.flatten hcz) hcs;rw [hcs']; simp only;split at h
     ·rename_i hc;simp only [qi,List.isEmpty_iff] at hc;obtain ⟨hc,hup⟩:=hc;obtain ⟨hup1,hup2⟩:=qBA hup;obtain ⟨l,hl,rfl⟩:=qf.1 h;have hp:ptrsL cs' = []:=by
       apply List.eq_nil_iff_forall_not_mem.2;intro r hrr;have:=RVL.qx cs cs' hr r hrr;rw [hc.2] at this; cases this
      rw [if_pos ⟨RVL.qF1 hc.1 hr,by rw [hp]; rfl⟩];refine ⟨_,rfl,?_⟩;simp only [RV,RTy];exact ⟨.own,false,_,rfl,qfB hup,by rw [hup1]; exact qv3 _ _ _ hl (qwQ _ hr)⟩
     ·cases h
    ·cases h
  ·cases h
 ·cases h
theorem qea {t:TypeId} {cs:List TV} {cs':List V} {x:TV} (h:qba P t cs = some x) (hc:RVL cs cs'):∃ v,qak P t cs' = some v/\RV x v:=by
 unfold qba at h;unfold qak;split at h
 ·cases h
 ·rename_i d hd;rw [hd]; simp only;split at h
  ·rename_i ha;rw [if_pos ha];split at h
   ·rename_i hl;cases h;rw [if_pos (by rw [hc.length]; exact hl)];exact ⟨_,rfl,by simp only [RV]; exact ⟨_,rfl,hc.take _⟩⟩
   ·cases h
  ·rename_i ha;rw [if_neg ha];obtain ⟨v,hv,hr⟩:=RVL.head hc h;exact ⟨v,hv,hr⟩
theorem qyD {t:TypeId} {x y:TV} {v:V} {fd:Nat} (h:qAj P t x fd = some y) (hx:RV x v):∃ u,qqH P t v fd = some u/\RV y u:=by
 unfold qAj at h;split at h
 ·rename_i fields cs hu;simp only [RV] at hx; obtain ⟨cs',rfl,hc⟩:=hx;unfold qqH;rw [hu]; simp only;split at h
  ·rename_i d hd;rw [hd]; simp only;exact qea h (hc.drop _)
  ·cases h
 ·cases h
theorem qqU {t:TypeId} {x y:TV} {v:V} {fd:Nat} (h:qlH P t x fd = some y) (hx:RV x v):∃ u,qcM P t v fd = some u/\RV y u:=by
 unfold qlH at h;unfold qcM;split at h
 ·rename_i fields hu;rw [hu]; simp only;split at h
  ·rename_i d hd;rw [hd]; simp only;split at h
   ·cases h
   ·rename_i h0;rw [if_neg h0];split at h
    ·rename_i r off;cases h;simp only [RV] at hx; subst hx;exact ⟨_,rfl,by simp [RV]⟩
    ·rename_i sh cs;simp only [RV] at hx; obtain ⟨f',cs',rfl,hf0,hsh,hc⟩:=hx;split at h
     ·rename_i hl;cases h;simp only
      rw [if_pos (by rw [hc.length]; exact hl)];exact ⟨_,rfl,by simp only [RV]; exact ⟨_,_,rfl,hf0,hsh,hc.drop _⟩⟩
     ·cases h
    ·cases h
  ·cases h
 ·cases h
theorem qkI {R:Type} {i:Int} {k:Nat->Option R} {r:R}:∀ {n j:Nat},qD9 R i k n j = some r->∃ m,j<=m/\m < j + n/\i = (m:Int)/\k m = some r
 | 0,j,h=>by simp [qD9] at h
 | n + 1,j,h=>by
  simp only [qD9] at h;cases hd:decide (i = (j:Int)) with
  | true=>rw [hd] at h; exact ⟨j,Nat.le_refl _,by omega,of_decide_eq_true hd,h⟩
  | false =>
   rw [hd] at h;obtain ⟨m,h1,h2,h3,h4⟩:=qkI (n:=n) (j:=j + 1) h;exact ⟨m,by omega,by omega,h3,h4⟩
theorem qn5 {x:TV} {n:Int} {v:V} (h:qxu x = some n) (hx:RV x v):∃ k,v = .val (.int k n):=by
 unfold qxu at h;split at h
 ·rename_i k o m;cases h;simp only [RV,RTy] at hx;exact ⟨k,hx⟩
 ·cases h
theorem qgI {k:IntKind} {n:Int} (h:0<=n):qkJ (.val (.int k n)) = some n.toNat:=by simp [qkJ,h]
theorem qrW {α:Type} {l r:List α} {a b:Int} (h:slc l a b = some r):0<=a/\a<=b/\b<=l.length/\r = (l.take b.toNat).drop a.toNat:=by
 unfold slc at h;split at h
 ·rename_i hc; cases h; exact ⟨hc.1,hc.2.1,hc.2.2,rfl⟩
 ·cases h
theorem qnq {α:Type} {l:List α} {n:Int} {e:α} (h:idx l n = some e):0<=n/\l[n.toNat]? = some e:=by
 unfold idx at h;split at h
 ·rename_i hc; exact ⟨hc,h⟩
 ·cases h
theorem qfV {α:Type} {l l2 r:List α} (h:app l l2 = some r):l.length + l2.length<=4294967296/\r = l ++ l2:=by
 unfold app at h;split at h
 ·rename_i hc; cases h; exact ⟨hc,rfl⟩
 ·cases h
theorem qA2 {α:Type} {z:α} {n:Int} {r:List α} (h:mkS z n = some r):0<=n/\n<=4294967296/\r = List.replicate n.toNat z:=by
 unfold mkS at h;split at h
 ·rename_i hc; cases h; exact ⟨hc.1,hc.2,rfl⟩
 ·cases h
theorem qei {τ:Ty} (he:τ.qcq = true) {o:Nat} {l:List τ.den} {l':List V} (h:All2 (RTy τ o) l l'):∀ e ∈ l',e.cells.length = τ.qbx/\e.oks = true/\e.qx = []:=λe he'=>by
 obtain ⟨a,_,hr⟩:=qiv h e he';obtain ⟨h1,h2⟩:=qlQ he hr;exact ⟨h1,h2,qdt _ _ _ _ hr⟩
theorem qzW {τ:Ty} {o:Nat} {l:List τ.den} {l':List V} (h:All2 (RTy τ o) l l'):ptrsL l' = []:=by
 apply List.eq_nil_iff_forall_not_mem.2;intro r hr;obtain ⟨v,hv,hrv⟩:=qny.1 hr;obtain ⟨a,_,h2⟩:=qiv h v hv;rw [qdt _ _ _ _ h2] at hrv; cases hrv
theorem qgE {v:V} (h:v.qx = []):ptrsL v.cells = []:=by
 cases v <;> first | exact h | (simp only [V.cells,ptrsL,List.append_nil]; exact h)
theorem qi6 {τ:Ty} {elem:TypeId} {o:Nat} {l:List τ.den} {l':List V} {n:Int} {e:τ.den} {k:IntKind} {t:TypeId} {fl:Fl} {c sh:Bool} (hsh:sh = true->fl = .shared) (hu:P.underlying t = some (.slice elem)) (hall:All2 (RTy τ o) l l') (hc:P.cellsOf elem = τ.qbx) (h0:τ.qbx ≠ 0) (he:τ.qcq = true)
  (h:idx l n = some e):∃ v,qbn P t (.sl fl c l') (.val (.int k n)) = some v/\RV (.cptr sh (ofTy τ (dl o) e).cells) v:=by
 obtain ⟨h1,h2⟩:=qnq h;obtain ⟨b,hb,hr⟩:=hall.get h2;obtain ⟨hl,hk⟩:=qlQ he hr;refine ⟨.cptr (qaa fl) (reflagL qaa b.cells),?_,?_⟩
 ·simp only [qbn,hu];rw [if_pos h1,hb];simp only
  rw [if_pos ⟨by rw [hl,hc],hk,by rw [hc]; exact h0,by rw [qgE (qdt _ _ _ _ hr)]; rfl⟩]
 ·have hd:=qiP ql1 rfl τ o e b hr;have hcells:=(RV.cells (qrk he (dl o) e) (rv_ofTy τ (dl o) e _ hd)).1;simp only [RV];refine ⟨_,_,rfl,by cases fl <;> simp [qaa],λe=>(by rw [hsh e]; rfl),?_⟩;have hre:(b.reflag qaa).cells = reflagL qaa b.cells:=qmv qaa b;rw [<- hre]; exact hcells
theorem qq0 {t:TypeId} {x:TV} {k0:IntKind} {i:Int} {R:Type} {k:TV->Option R} {r:R} {v:V} (h:ql2 P t x i R k = some r) (hx:RV x v) :
  ∃ y u,k y = some r/\qbn P t v (.val (.int k0 i)) = some u/\RV y u:=by
 unfold ql2 at h;split at h
 ·rename_i len elem q off hu;split at h
  ·cases h
  ·rename_i h0;obtain ⟨m,_,hm,rfl,hk⟩:=qkI h;simp only [RV] at hx; subst hx;refine ⟨_,.ptr q (off + m * P.cellsOf elem),hk,?_,by simp [RV]⟩;simp only [qbn,hu];rw [if_pos ⟨by omega,by omega,h0⟩]; simp
 ·rename_i len elem sh cs hu;split at h
  ·cases h
  ·rename_i h0;obtain ⟨m,_,hm,rfl,hk⟩:=qkI h;split at hk
   ·rename_i hl;simp only [RV] at hx; obtain ⟨f',cs',rfl,hf0,hsh,hc⟩:=hx;refine ⟨_,.cptr f' (cs'.drop (m * P.cellsOf elem)),hk,?_,by simp only [RV]; exact ⟨_,_,rfl,hf0,hsh,hc.drop _⟩⟩;simp only [qbn,hu];rw [if_pos ⟨by omega,by omega,h0,by rw [hc.length]; simpa using hl⟩]; simp
   ·cases hk
 ·rename_i elem τ o l hu;split at h
  ·rename_i hc;obtain ⟨e,he,hk⟩:=qh.1 h;simp only [RV,RTy] at hx; obtain ⟨fl,c,l',rfl,hfl,hall⟩:=hx;obtain ⟨u,hu',hr⟩:=qi6 (k:=k0) (fl:=fl) (c:=c) (sh:=decide (o = 1000)) (λe=>hfl.2 (of_decide_eq_true e)) hu hall hc.1 hc.2.1 hc.2.2.2 he;exact ⟨_,u,hk,hu',hr⟩
  ·cases h
 ·rename_i elem τ l hu;split at h
  ·rename_i hc;obtain ⟨e,he,hk⟩:=qh.1 h;simp only [RV] at hx; obtain ⟨fl,l',rfl,_,hall⟩:=hx;obtain ⟨u,hu',hr⟩:=qi6 (k:=k0) (fl:=fl) (c:=true) (sh:=false) (λe=>by cases e) hu hall hc.1 hc.2.1 hc.2.2.2 he;exact ⟨_,u,hk,hu',hr⟩
  ·cases h
 ·cases h
theorem qy4 {elem t:TypeId} {len:Nat} {cs:List TV} {cs':List V} {k0:IntKind} {i:Int} {R:Type} {k:TV->Option R} {r:R} (hu:P.underlying t = some (.array len elem)) (h:qAB P elem len cs i R k = some r) (hc:RVL cs cs') :
  ∃ y u,k y = some r/\qnH P t (.agg cs') (.val (.int k0 i)) = some u/\RV y u:=by
 unfold qAB at h;split at h
 ·cases h
 ·rename_i h0;obtain ⟨m,_,hm,rfl,hk⟩:=qkI h;split at hk
  ·rename_i v hv;obtain ⟨u,hu',hr⟩:=qea hv (hc.drop _);refine ⟨_,u,hk,?_,hr⟩;simp only [qnH,hu];rw [if_pos ⟨by omega,by omega,h0⟩];simpa using hu'
  ·cases hk
def RVO:Option TV->Option V->Prop
 | none,none=>True
 | some x,some v=>RV x v
 | _,_=>False
theorem qeB {b:Option V} (h:RVO none b):b = none:=by cases b <;> simp_all [RVO]
theorem qm5 {x:TV} {b:Option V} (h:RVO (some x) b):∃ v,b = some v/\RV x v:=by
 cases b with
 | none=>simp [RVO] at h
 | some v=>exact ⟨v,rfl,h⟩
theorem qf5 {d:Nat} {d0:Int} {lo:Option TV} {lo':Option V} {a:Int} (h:(match lo with | none=>some d0 | some v=>qxu v) = some a) (hlo:RVO lo lo') (hd:d0 = d) (h0:0<=a):qge d lo' = some a.toNat:=by
 cases lo with
 | none=>rw [qeB hlo]; simp only [qe] at h; subst h; subst hd; simp [qge]
 | some x =>
  obtain ⟨v,rfl,hr⟩:=qm5 hlo;obtain ⟨k,rfl⟩:=qn5 h hr;simp [qge,qgI h0]
theorem qEo {R:Type} {c:Prop} [Decidable c] {x:Option R} {r:R} (h:(bif decide c then x else none) = some r):c/\x = some r:=by
 cases hd:decide c with
 | true=>rw [hd] at h; exact ⟨of_decide_eq_true hd,h⟩
 | false=>rw [hd] at h; cases h
theorem qzJ {t:TypeId} {x:TV} {v:V} {lo hi mx:Option TV} {lo' hi' mx':Option V} {R:Type} {k:TV->Option R} {r:R} (hx:RV x v) (hlo:RVO lo lo') (hhi:RVO hi hi') (hmx:RVO mx mx')
  (h:qzn P t x lo hi mx R k = some r):∃ y u,k y = some r/\qeJ P t v lo' hi' mx' = some u/\RV y u:=by
 unfold qzn at h;simp only at h;split at h
 ·rename_i elem τ oo l hu;simp only [RV,RTy] at hx; obtain ⟨fl,c,l',rfl,hfl,hall⟩:=hx;split at h
  ·cases h
  ·rename_i hn;simp only [not_or,Decidable.not_not,Bool.not_eq_false,Bool.not_eq_true] at hn;obtain ⟨hoo,hoo2,h0,hcl,hok,hel⟩:=hn;have hown:fl ≠ .own:=hfl.not hoo hoo2;have hnx:nx oo = oo:=by unfold nx; rw [hoo]; rfl
   have hcells:l'.all (λe=>decide (e.cells.length = P.cellsOf elem)) = true:=by
    rw [List.all_eq_true]; intro e he; rw [(qei hel hall e he).1,hcl]; simp
   have hvs:∀ (mx:Option V),qeJ P t (.sl fl c l') lo' hi' mx = (match qge 0 lo',qge l'.length hi' with
     | some a,some b =>
      match mx with
      | none=>if a<=b/\b<=l'.length then some (.sl fl (c && decide (b = l'.length)) ((l'.take b).drop a)) else none
      | some m=>if qkJ m = some b/\hi'.isSome/\a<=b/\b<=l'.length then some (.sl fl true ((l'.take b).drop a)) else none
     | _,_=>none):=λmx=>by
    unfold qeJ;rw [hu]; simp only;rw [if_neg (by simp only [not_or,Bool.not_eq_false]; exact ⟨hown,h0,hcells⟩)];rfl
   split at h
   ·rename_i a b ha hb;have hfin:∀ q,slc l a b = some q->qge 0 lo' = some a.toNat/\qge l'.length hi' = some b.toNat/\a.toNat<=b.toNat/\b.toNat<=l'.length/\All2 (RTy τ (nx oo)) q ((l'.take b.toNat).drop a.toNat):=λq hq=>by
     obtain ⟨h1,h2,h3,rfl⟩:=qrW hq;have hl:=hall.length;refine ⟨qf5 ha hlo rfl h1,qf5 hb hhi (by rw [hl]) (by omega),by omega,by omega,(hall.take _).drop _⟩
    split at h
    ·obtain ⟨q,hq,hk⟩:=qh.1 h;obtain ⟨e1,e2,e3,e4,e5⟩:=hfin q hq;rw [qeB hmx];refine ⟨_,.sl fl (c && decide (b.toNat = l'.length)) ((l'.take b.toNat).drop a.toNat),hk,?_,?_⟩
     ·rw [hvs,e1,e2]; simp only; rw [if_pos ⟨e3,e4⟩]
     ·simp only [RV,RTy]; exact ⟨fl,_,_,rfl,hfl,e5⟩
    ·rename_i m;obtain ⟨vm,hvm,hrm⟩:=qm5 hmx;split at h
     ·rename_i cc hcc;split at h
      ·rename_i hs;obtain ⟨q,hq,hk⟩:=qh.1 h;obtain ⟨hcb,hk⟩:=qEo hk;obtain ⟨e1,e2,e3,e4,e5⟩:=hfin q hq;obtain ⟨h1,h2,_,_⟩:=qrW hq;obtain ⟨k3,rfl⟩:=qn5 hcc hrm;have hs':hi'.isSome = true:=by
        cases hi with
        | none=>simp at hs
        | some x=>obtain ⟨v,rfl,_⟩:=qm5 hhi; rfl
       refine ⟨_,.sl fl true ((l'.take b.toNat).drop a.toNat),hk,?_,?_⟩
       ·rw [hvm,hvs,e1,e2]; simp only; rw [if_pos ⟨by rw [hcb]; exact qgI (by omega),hs',e3,e4⟩]
       ·simp only [RV]; exact ⟨fl,_,rfl,hown,e5.mono λx y hxy=>by
         rw [hnx] at hxy;refine qlE τ oo x y ?_;rcases qk3.1 hoo with h | h | h
         ·subst h; exact hxy
         ·subst h; exact hxy
         ·exact absurd h hoo2⟩
      ·cases h
     ·cases h
   ·cases h
 ·rename_i elem oo hu;simp only [RV] at hx; obtain ⟨fl,c,rfl,hfl⟩:=hx;split at h
  ·cases h
  ·rename_i hn0;simp only [not_or,Bool.not_eq_true] at hn0;obtain ⟨hoo,hoo2,h0⟩:=hn0;have hown:fl ≠ .own:=hfl.not hoo hoo2;split at h
   ·rename_i a b ha hb;cases hd:(decide (a = 0) && decide (b = 0)) with
    | false=>rw [hd] at h; cases h
    | true =>
     rw [hd] at h;simp only [qi,decide_eq_true_eq] at hd;obtain ⟨rfl,rfl⟩:=hd;rw [qeB hmx];refine ⟨_,.sl fl (c && decide (0 = ([]:List V).length)) [],h,?_,?_⟩
     ·unfold qeJ;rw [hu]; simp only;rw [if_neg (by simp only [not_or]; exact ⟨hown,h0,by simp⟩)];rw [qf5 (d:=0) ha hlo rfl (by omega),qf5 (d:=([]:List V).length) hb hhi rfl (by omega)];simp
     ·simp only [RV]; exact ⟨fl,_,rfl,hfl⟩
   ·cases h
 ·rename_i s hu;simp only [RV,RTy] at hx; subst hx;split at h
  ·rename_i a b ha hb;obtain ⟨q,hq,hk⟩:=qh.1 h;obtain ⟨h1,h2,h3,rfl⟩:=qrW hq;rw [qeB hmx];have hsz:(⟨s.toArray⟩:ByteArray).size = s.length:=by simp [ByteArray.size]
   refine ⟨_,.val (.string ((⟨s.toArray⟩:ByteArray).extract a.toNat b.toNat)),hk,?_,?_⟩
   ·unfold qeJ;rw [hu]; simp only;rw [qf5 (d:=0) ha hlo rfl h1,qf5 (d:=(⟨s.toArray⟩:ByteArray).size) hb hhi (by rw [hsz]) (by omega)];simp only
    rw [if_pos ⟨rfl,by omega,by rw [hsz]; omega⟩]
   ·simp only [RV,RTy,V.val.injEq,Value.string.injEq];apply ByteArray.ext;rw [ByteArray.data_extract];apply Array.ext';simp [List.drop_take]
  ·cases h
 ·cases h
theorem quK {t elem:TypeId} {s n:Nat} {lo hi mx:Option V} (hu:P.underlying t = some (.slice elem)):qeJ P t (.room s n) lo hi mx = none:=by
 unfold qeJ; rw [hu]
theorem qw1 {t:TypeId} {x:TV} {v:V} {lo hi mx:Option TV} {lo' hi' mx':Option V} {R:Type} {k:TV->Option R} {r:R} (hx:RV x v) (hlo:RVO lo lo') (hhi:RVO hi hi') (hmx:RVO mx mx')
  (h:qvE P t x lo hi mx R k = some r):∃ y u,k y = some r/\(qeJ P t v lo' hi' mx').or (qjQ P t v lo' hi' mx') = some u/\RV y u:=by
 unfold qvE at h;split at h
 ·rename_i elem hu;simp only [RV] at hx; subst hx;split at h
  ·cases h
  ·rename_i h0;split at h
   ·rename_i a b ha hb;cases hd:(decide (a = 0) && decide (b = 0)) with
    | false=>rw [hd] at h; cases h
    | true =>
     rw [hd] at h;simp only [qi,decide_eq_true_eq] at hd;obtain ⟨rfl,rfl⟩:=hd;rw [qeB hmx];refine ⟨_,.val (.slice none 0 0),h,?_,by simp only [RV]⟩;have e:qeJ P t (.val (.slice none 0 0)) lo' hi' none = some (.val (.slice none 0 0)):=by
      unfold qeJ;rw [hu]; simp only;rw [if_neg h0,qf5 (d:=0) ha hlo rfl (by omega),qf5 (d:=0) hb hhi rfl (by omega)];simp [qge]
     rw [e]; rfl
   ·cases h
 ·rename_i elem a s hu;split at h
  ·cases h
  ·rename_i hcond;simp only [not_or,Nat.not_le] at hcond;obtain ⟨h0,ha⟩:=hcond;simp only [RV] at hx;obtain ⟨_,n,rfl,_⟩ | ⟨h9,_⟩:=hx
   case inr=>omega
   split at h
   ·rename_i kk oo b;obtain ⟨rfl,hk⟩:=qEo h;rw [qeB hlo,qeB hmx];obtain ⟨w,rfl,hw⟩:=qm5 hhi;simp only [RV,RTy] at hw; subst hw;refine ⟨_,.room s 0,hk,?_,by simp [RV]⟩;rw [quK hu];unfold qjQ;rw [hu]; simp only;rw [if_pos h0]; rfl
   ·cases h
 ·rename_i n elem r' off hu;split at h
  ·rename_i h1;simp only [RV] at hx; subst hx;split at h
   ·rw [qeB hlo,qeB hhi,qeB hmx];refine ⟨_,.bsl r' off n,h,?_,by simp only [RV]⟩;have e:qeJ P t (.ptr r' off) none none none = none:=by unfold qeJ; rw [hu]
    rw [e];unfold qjQ;rw [hu]; simp only;rw [if_pos h1]; rfl
   ·cases h
  ·cases h
 ·cases h
end Go.Tx
end
section
namespace Go.Tx
open Go Go.Ab
variable {P:Program} {H:Hints} {f:FuncId}
theorem qrw {t:TypeId} {len cap:TV} {len' cap':V} {R:Type} {k:TV->Option R} {r:R} (hl:RV len len') (hc:RV cap cap') (h:qlL P H f t len cap R k = some r) :
  ∃ y u,k y = some r/\qfk P H f t len' cap' = some u/\RV y u:=by
 unfold qlL at h;split at h
 ·rename_i elem hu;split at h
  ·rename_i z τ n c hz hτ hn hcc;obtain ⟨z',hz',hzr,hzc⟩:=qiJ hz;obtain ⟨k1,rfl⟩:=qn5 hn hl;obtain ⟨k2,rfl⟩:=qn5 hcc hc;split at h
   ·rename_i hcond;obtain ⟨h0,hcl,hok,hby,_,_,hup⟩:=hcond;obtain ⟨hup1,hup2⟩:=qBA hup;split at h
    ·rename_i x hx;obtain ⟨q,hq,hk⟩:=qh.1 h;obtain ⟨hcn,hk1⟩:=qEo hk;subst hcn;obtain ⟨h1,h2,rfl⟩:=qA2 hq;have hrt:=qdA _ _ _ _ _ hx hzr;refine ⟨_,.sl .own false (List.replicate c.toNat z'),hk1,?_,?_⟩
     ·unfold qfk;rw [hu]; simp only;rw [hz',qgI h1,qgI h1];simp only
      have hbb:P.bytesOf elem * c.toNat<=8192 * 4294967296:=Nat.mul_le_mul hby (by omega);rw [if_pos ⟨Nat.le_refl _,λh=>h,h0,by rw [hzc.length]; exact hcl,(RV.cells hok hzr).2,by rw [qdt _ _ _ _ hrt]; rfl,by omega,by omega⟩]
     ·simp only [RV,RTy];exact ⟨.own,false,_,rfl,qfB hup,by rw [hup1]; exact All2.replicate hrt _⟩
    ·cases h
   ·cases h
  ·cases h
 ·cases h
theorem big {s b:Nat} (h1:s<=4294967296) (h2:b<=8192):(s + 512) * b<=70368744177664:=by
 have:=Nat.mul_le_mul (Nat.add_le_add_right h1 512) h2;omega
def qBP (yt:TypeDesc) (y:V):Option (List V):=match yt,y with
 | .slice _,.sl _ _ l=>some l
 | .slice _,.val (.slice none 0 0)=>some []
 | .string,.val (.string b)=>some (b.data.toList.map λc=>.val (.int .u8 c.toNat))
 | _,_=>none
theorem qlO {argTypes:Array TypeId} {elem:TypeId} {yt:TypeDesc} {x y:V} (h0:(argTypes[0]?).bind P.underlying = some (.slice elem)) (h1:(argTypes[1]?).bind P.underlying = some yt) :
  qdm P argTypes x y = match qBP yt y with
  | none=>none
  | some l2 =>
   if P.cellsOf elem = 0\/((P.info? elem).bind (·.zero)).map (λz=>z.cells.size) ≠ some (P.cellsOf elem)\/l2.all (λe=>decide (e.cells.length = P.cellsOf elem) && e.oks) = false\/(ptrsL l2).isEmpty = false then none else
   match x with
   | .val (.slice none 0 0)=>if l2.isEmpty then some x else if (l2.length + 512) * P.bytesOf elem<=70368744177664/\l2.length<=70368744177664 then some (.sl .own false l2) else none
   | .sl fl c l =>
    if l.all (λe=>decide (e.cells.length = P.cellsOf elem)) = true/\(l.length + l2.length + 512) * P.bytesOf elem<=70368744177664/\l.length + l2.length<=70368744177664 then
     (if fl = .own then some (.sl .own false (l ++ l2))
     else if c then (if l2.isEmpty then some x else some (.sl .own false (l ++ l2)))
     else none)
    else none
   | _=>none:=by
 unfold qdm;rw [h0,h1];rfl
theorem qz3 {yt:TypeDesc} {y:TV} {τ:Ty} {o:Nat} {l:List τ.den} {v:V} (h:tail? yt y = some ⟨τ,(o,l)⟩) (hy:RV y v) :
  ∃ l',qBP yt v = some l'/\All2 (RTy τ o) l l':=by
 unfold tail? at h;split at h
 ·split at h
  ·simp only [qe,Sigma.mk.injEq] at h;obtain ⟨rfl,h⟩:=h;obtain ⟨rfl,rfl⟩:=Prod.mk.inj (eq_of_heq h);simp only [RV,RTy] at hy; obtain ⟨f,c,l',rfl,_,hall⟩:=hy;exact ⟨l',rfl,hall⟩
  ·cases h
 ·split at h
  ·simp only [qe,Sigma.mk.injEq] at h;obtain ⟨rfl,h⟩:=h;obtain ⟨rfl,rfl⟩:=Prod.mk.inj (eq_of_heq h);simp only [RV] at hy; obtain ⟨f,l',rfl,_,hall⟩:=hy;exact ⟨l',rfl,hall⟩
  ·cases h
 ·rename_i s;split at h
  ·simp only [qe,Sigma.mk.injEq] at h;obtain ⟨rfl,h⟩:=h;obtain ⟨rfl,rfl⟩:=Prod.mk.inj (eq_of_heq h);simp only [RV,RTy] at hy; subst hy;refine ⟨_,rfl,?_⟩;simp only
   clear h;have:∀ s':List UInt8,All2 (RTy (.int .u8) 0) (s'.map λc=>(c.toNat:Int)) (s'.map λc=>V.val (.int .u8 c.toNat)):=λs'=>by
    induction s' with
    | nil=>exact .nil
    | cons c s ih=>exact .cons (by simp [RTy]) ih
   simpa using this s
  ·cases h
 ·cases h
theorem qfE {argTypes:Array TypeId} {elem:TypeId} {yt:TypeDesc} {l l2:List V} {y:V}
  (h0:(argTypes[0]?).bind P.underlying = some (.slice elem)) (h1:(argTypes[1]?).bind P.underlying = some yt)
  (hy:qBP yt y = some l2)
  (hs0:P.cellsOf elem ≠ 0) (hz:((P.info? elem).bind (·.zero)).map (λz=>z.cells.size) = some (P.cellsOf elem))
  (hl2:∀ e ∈ l2,e.cells.length = P.cellsOf elem/\e.oks = true/\e.qx = []) (hl:∀ e ∈ l,e.cells.length = P.cellsOf elem)
  (hn:l.length + l2.length<=4294967296) (hb:P.bytesOf elem<=8192) :
  (∀ c,qdm P argTypes (.sl .own c l) y = some (.sl .own false (l ++ l2)))/\(l2 ≠ []->∀ f,f ≠ .own->qdm P argTypes (.sl f true l) y = some (.sl .own false (l ++ l2)))/\(l2 = []->∀ f,f ≠ .own->qdm P argTypes (.sl f true l) y = some (.sl f true l)):=by
 have hp:ptrsL l2 = []:=by
  apply List.eq_nil_iff_forall_not_mem.2;intro r hr;obtain ⟨v,hv,hrv⟩:=qny.1 hr;rw [(hl2 v hv).2.2] at hrv; cases hrv
 have hall2:l2.all (λe=>decide (e.cells.length = P.cellsOf elem) && e.oks) = true:=by
  rw [List.all_eq_true]; intro e he; simp [(hl2 e he).1,(hl2 e he).2.1]
 have hall:l.all (λe=>decide (e.cells.length = P.cellsOf elem)) = true:=by
  rw [List.all_eq_true]; intro e he; simp [hl e he]
 have hbig:=big (s:=l.length + l2.length) hn hb;have hun:∀ (f:Fl) (c:Bool),qdm P argTypes (.sl f c l) y = if l.all (λe=>decide (e.cells.length = P.cellsOf elem)) = true/\(l.length + l2.length + 512) * P.bytesOf elem<=70368744177664/\l.length + l2.length<=70368744177664 then
     (if f = .own then some (.sl .own false (l ++ l2))
     else if c then (if l2.isEmpty then some (.sl f c l) else some (.sl .own false (l ++ l2)))
     else none)
    else none:=λf c=>by
  rw [qlO h0 h1,hy]; simp only;rw [if_neg (by simp only [not_or,Decidable.not_not,Bool.not_eq_false]; exact ⟨hs0,hz,hall2,by rw [hp]; rfl⟩)]
 refine ⟨λc=>?_,λhne f hf=>?_,λhne f hf=>?_⟩
 ·rw [hun,if_pos ⟨hall,hbig,by omega⟩,if_pos rfl]
 ·rw [hun,if_pos ⟨hall,hbig,by omega⟩,if_neg hf,if_pos rfl,if_neg (by simpa using hne)]
 ·rw [hun,if_pos ⟨hall,hbig,by omega⟩,if_neg hf,if_pos rfl,if_pos (by simp [hne])]
theorem qxh {argTypes:Array TypeId} {x y:TV} {x' y':V} {R:Type} {k:TV->Option R} {r:R} (hx:RV x x') (hy:RV y y') (h:quB P argTypes x y R k = some r) :
  ∃ z u,k z = some r/\qdm P argTypes x' y' = some u/\RV z u:=by
 unfold quB at h;split at h
 ·rename_i elem yt h0 h1;split at h
  ·-- nothing is appended
   rename_i ow;simp only [RV] at hy; obtain ⟨fy,cy,rfl,_⟩:=hy;split at h
   ·rename_i e τ o l;split at h
    ·rename_i hc;obtain ⟨ho,hcl,hs0,hz,hb,hok,hel⟩:=hc;obtain ⟨q,hq,hk⟩:=qh.1 h;obtain ⟨hn,rfl⟩:=qfV hq;simp only [RV,RTy] at hx; obtain ⟨fx,cx,l',rfl,hfx,hall⟩:=hx;have hfo:fx = .own:=hfx.own ho;subst hfo;have hv:=(qfE (l:=l') (l2:=[]) (y:=.sl fy cy []) h0 h1 rfl hs0 hz (by simp) (λe he=>by rw [(qei hel hall e he).1,hcl]) (by rw [hall.length]; exact hn) hb).1 cx;refine ⟨_,_,hk,hv,?_⟩;simp only [RV,RTy];exact ⟨.own,false,_,rfl,qfB ho,by simpa using hall⟩
    ·cases h
   ·rename_i e;split at h
    ·rename_i hc;obtain ⟨hoe,hs0,hz,hb⟩:=hc;simp only [RV] at hx; obtain ⟨fx,cx,rfl,hfx⟩:=hx;have hfo:fx = .own:=hfx.own hoe;subst hfo;have hv:=(qfE (l:=[]) (l2:=[]) (y:=.sl fy cy []) h0 h1 rfl hs0 hz (by simp) (by simp) (by simp) hb).1 cx;exact ⟨_,_,h,hv,by simp only [RV]; exact ⟨_,_,rfl,hfx⟩⟩
    ·cases h
   ·cases h
  ·split at h
   ·cases h
   ·rename_i τ o2 l2 ht;obtain ⟨l2',hl2',hall2⟩:=qz3 ht hy;split at h
    ·rename_i hc;obtain ⟨hcl,hs0,hz,hb,hok,hel⟩:=hc;have hc2:∀ e ∈ l2',e.cells.length = P.cellsOf elem/\e.oks = true/\e.qx = []:=λe he=>by
      obtain ⟨h1,h2,h3⟩:=qei hel hall2 e he;exact ⟨by rw [h1,hcl],h2,h3⟩
     split at h
     ·rename_i τ' o l;split at h
      ·rename_i he;subst he;split at h
       ·rename_i hoo;obtain ⟨q,hq,hk⟩:=qh.1 h;obtain ⟨hn,rfl⟩:=qfV hq;simp only [RV,RTy] at hx; obtain ⟨fx,cx,l',rfl,hfx,hall⟩:=hx;have hfo:fx = .own:=hfx.own hoo;subst hfo;have hv:=(qfE (l:=l') (l2:=l2') h0 h1 hl2' hs0 hz hc2 (λe he=>by rw [(qei hel hall e he).1,hcl]) (by rw [hall.length,hall2.length]; exact hn) hb).1 cx;refine ⟨_,_,hk,hv,?_⟩;simp only [RV,RTy];split
        ·rename_i hf;exact ⟨.own,false,_,rfl,qfB hoo,hall.append (hall2.mono λa b hab=>qhK _ _ _ _ _ hf hab)⟩
        ·have hall':∀ d o',fits d o' (nx 2001) = true:=λd o'=>by cases d <;> rfl
         exact ⟨.own,false,_,rfl,qfB rfl,(hall.mono λa b hab=>qhK _ _ _ _ _ (hall' _ _) hab).append (hall2.mono λa b hab=>qhK _ _ _ _ _ (hall' _ _) hab)⟩
       ·cases h
      ·cases h
     ·split at h
      ·rename_i hup0;obtain ⟨hoe,hup⟩:=hup0;obtain ⟨hup1,hup2⟩:=qBA hup;obtain ⟨q,hq,hk⟩:=qh.1 h;obtain ⟨hn,rfl⟩:=qfV hq;simp only [RV] at hx; obtain ⟨fx,cx,rfl,hfx⟩:=hx;have hfo:fx = .own:=hfx.own hoe;subst hfo;have hv:=(qfE (l:=[]) (l2:=l2') h0 h1 hl2' hs0 hz hc2 (by simp) (by rw [hall2.length]; simpa using hn) hb).1 cx;refine ⟨_,_,hk,hv,?_⟩;simp only [RV,RTy];exact ⟨.own,false,_,rfl,qfB hup,by rw [hup1]; simpa using hall2⟩
      ·cases h
     ·rename_i τ' l;split at h
      ·rename_i he;subst he;obtain ⟨q,hq,hk⟩:=qh.1 h;obtain ⟨hn,rfl⟩:=qfV hq;simp only [RV] at hx; obtain ⟨fx,l',rfl,hfx,hall⟩:=hx;have hup:∀ {o:Nat} {m:List τ'.den} {m':List V},All2 (RTy τ' o) m m'->All2 (RTy τ' (nx 2000)) m m':=λhm=>hm.mono λa b hab=>qhK _ _ _ _ _ (qs6 _ _) hab;have hv2:=qfE (l:=l') (l2:=l2') h0 h1 hl2' hs0 hz hc2 (λe he=>by rw [(qei hel hall e he).1,hcl]) (by rw [hall.length,hall2.length]; exact hn) hb;by_cases hne:l2' = []
       ·refine ⟨_,_,hk,hv2.2.2 hne fx hfx,?_⟩;subst hne;cases hall2;simp only [RV,RTy];exact ⟨fx,true,l',rfl,⟨λe=>absurd rfl e,λe=>by cases e⟩,by simpa [cast'] using hup hall⟩
       ·refine ⟨_,_,hk,hv2.2.1 hne fx hfx,?_⟩;simp only [RV,RTy];exact ⟨.own,false,_,rfl,⟨λe=>absurd rfl e,λe=>by cases e⟩,(hup hall).append (hup hall2)⟩
      ·cases h
     ·cases h
    ·cases h
 ·cases h
theorem qal {op:BinOp} {t:TypeId} {xo yo:Operand} {a b u:Value} (h:Ab.valOf P (do eqGuard op t xo yo a b; Go.binOp op t a b) = some u):qnk P op t xo yo (.val a) (.val b) = some (qcK u):=by
 unfold qnk;simp only [V.toVal,h,qn]
theorem qu {α β:Type} (s:Sem α) (g:α->Sem β):Ab.valOf P (s >>= g) = (Ab.valOf P s).bind λa=>Ab.valOf P (g a):=by
 induction s with
 | pure a=>rfl
 | program k ih=>exact ih P
 | mark m k ih=>exact ih
 | _=>rfl
theorem qX {α:Type} (a:α):Ab.valOf P (pure a) = some a:=rfl
theorem qvH {t:TypeId} {xo yo:Operand} {k1 k2:IntKind} {a b n:Int} (h:qF9 k1 a b = some n):qnk P .shl t xo yo (.val (.int k1 a)) (.val (.int k2 b)) = some (.val (.int k1 n)):=by
 unfold qF9 at h;split at h
 ·rename_i h0;cases h;exact qal (u:=.int k1 _) (by simp [eqGuard,Go.binOp,Op.shift,Int.not_lt.2 h0,qX])
 ·cases h
theorem qwc {t:TypeId} {xo yo:Operand} {k1 k2:IntKind} {a b n:Int} (h:qFG k1 a b = some n):qnk P .shr t xo yo (.val (.int k1 a)) (.val (.int k2 b)) = some (.val (.int k1 n)):=by
 unfold qFG at h;split at h
 ·rename_i h0;cases h;exact qal (u:=.int k1 _) (by simp [eqGuard,Go.binOp,Op.shift,Int.not_lt.2 h0,qX])
 ·cases h
theorem qBL {op:BinOp} {t:TypeId} {xo yo:Operand} {k1:IntKind} {a b:Int} {R:Type} {k:TV->Option R} {r:R} {o1 o2:Nat} (h:qtA P op t (.t (.int k1) o1 a) (.t (.int k1) o2 b) R k = some r) :
  ∃ z u,k z = some r/\qnk P op t xo yo (.val (.int k1 a)) (.val (.int k1 b)) = some u/\RV z u:=by
 have hrem:∀ {z:TV},(bif decide (b = 0) then none else k z) = some r->b ≠ 0/\k z = some r:=λ{z} h=>by
  cases hd:decide (b = 0) with
  | true=>rw [hd] at h; cases h
  | false=>rw [hd] at h; exact ⟨of_decide_eq_false hd,h⟩
 cases op <;> simp only [qtA,if_true] at h <;> try (cases h; done)
 case quo =>
  obtain ⟨h0,h⟩:=hrem h;refine ⟨_,.val (.int k1 (k1.wrap (a.tdiv b))),h,?_,by simp [RV,RTy]⟩;exact qal (u:=.int k1 (k1.wrap (a.tdiv b))) (by simp [eqGuard,Go.binOp,Op.intDiv,h0,qX])
 case rem =>
  obtain ⟨h0,h⟩:=hrem h;refine ⟨_,.val (.int k1 (a.tmod b)),h,?_,by simp [RV,RTy]⟩;exact qal (u:=.int k1 (a.tmod b)) (by simp [eqGuard,Go.binOp,Op.intDiv,h0,qX])
 case add =>
  refine ⟨_,.val (.int k1 (k1.wrap (a + b))),h,?_,by simp [RV,RTy]⟩;exact qal (u:=.int k1 (k1.wrap (a + b))) (by simp [eqGuard,Go.binOp,Op.intArith,qX])
 case sub =>
  refine ⟨_,.val (.int k1 (k1.wrap (a - b))),h,?_,by simp [RV,RTy]⟩;exact qal (u:=.int k1 (k1.wrap (a - b))) (by simp [eqGuard,Go.binOp,Op.intArith,qX])
 case mul =>
  refine ⟨_,.val (.int k1 (k1.wrap (a * b))),h,?_,by simp [RV,RTy]⟩;exact qal (u:=.int k1 (k1.wrap (a * b))) (by simp [eqGuard,Go.binOp,Op.intArith,qX])
 case eql =>
  refine ⟨_,.val (.bool (decide (a = b))),h,?_,by simp [RV,RTy]⟩;exact qal (u:=.bool (decide (a = b))) (by simp [eqGuard,Go.binOp,Op.intCmp,qX]; rfl)
 case neq =>
  refine ⟨_,.val (.bool (!decide (a = b))),h,?_,by simp [RV,RTy]⟩;exact qal (u:=.bool (!decide (a = b))) (by simp [eqGuard,Go.binOp,Op.intCmp,qX,bne]; rfl)
 case lss =>
  refine ⟨_,.val (.bool (decide (a < b))),h,?_,by simp [RV,RTy]⟩;exact qal (u:=.bool (decide (a < b))) (by simp [eqGuard,Go.binOp,Op.intCmp,qX])
 case leq =>
  refine ⟨_,.val (.bool (decide (a<=b))),h,?_,by simp [RV,RTy]⟩;exact qal (u:=.bool (decide (a<=b))) (by simp [eqGuard,Go.binOp,Op.intCmp,qX])
 case gtr =>
  refine ⟨_,.val (.bool (decide (a > b))),h,?_,by simp [RV,RTy]⟩;exact qal (u:=.bool (decide (a > b))) (by simp [eqGuard,Go.binOp,Op.intCmp,qX])
 case geq =>
  refine ⟨_,.val (.bool (decide (a>=b))),h,?_,by simp [RV,RTy]⟩;exact qal (u:=.bool (decide (a>=b))) (by simp [eqGuard,Go.binOp,Op.intCmp,qX])
 case and =>
  refine ⟨_,.val (.int k1 (qFA k1 a b)),h,?_,by simp [RV,RTy]⟩;exact qal (u:=.int k1 (qFA k1 a b)) (by simp [eqGuard,Go.binOp,Op.intBits,qX,qFA])
 case or =>
  refine ⟨_,.val (.int k1 (orI k1 a b)),h,?_,by simp [RV,RTy]⟩;exact qal (u:=.int k1 (orI k1 a b)) (by simp [eqGuard,Go.binOp,Op.intBits,qX,orI])
 case xor =>
  refine ⟨_,.val (.int k1 (qFy k1 a b)),h,?_,by simp [RV,RTy]⟩;exact qal (u:=.int k1 (qFy k1 a b)) (by simp [eqGuard,Go.binOp,Op.intBits,qX,qFy])
 case andNot =>
  refine ⟨_,.val (.int k1 (qrg k1 a b)),h,?_,by simp [RV,RTy]⟩;exact qal (u:=.int k1 (qrg k1 a b)) (by simp [eqGuard,Go.binOp,Op.intBits,qX,qrg])
 case shl =>
  obtain ⟨n,hn,hk⟩:=qh.1 h;exact ⟨_,_,hk,qvH hn,by simp [RV,RTy]⟩
 case shr =>
  obtain ⟨n,hn,hk⟩:=qh.1 h;exact ⟨_,_,hk,qwc hn,by simp [RV,RTy]⟩
theorem qxV {op:BinOp} (hop:op = .shl\/op = .shr) {t:TypeId} {xo yo:Operand} {k1 k2:IntKind} {a b:Int} {R:Type} {k:TV->Option R} {r:R} {o1 o2:Nat} (h:qtA P op t (.t (.int k1) o1 a) (.t (.int k2) o2 b) R k = some r) :
  ∃ z u,k z = some r/\qnk P op t xo yo (.val (.int k1 a)) (.val (.int k2 b)) = some u/\RV z u:=by
 rcases hop with rfl | rfl
 ·simp only [qtA] at h;obtain ⟨n,hn,hk⟩:=qh.1 h;exact ⟨_,_,hk,qvH hn,by simp [RV,RTy]⟩
 ·simp only [qtA] at h;obtain ⟨n,hn,hk⟩:=qh.1 h;exact ⟨_,_,hk,qwc hn,by simp [RV,RTy]⟩
theorem qmU {op:BinOp} {k:FloatKind} {x y r:Nat} (h:floatBits op k x y = some r):Ab.valOf P (Op.floatArith op k x y) = some (.float k r):=by
 unfold floatBits at h;cases op <;> simp only at h <;> first | (cases h; done) | skip
 all_goals (simp [Op.floatArith,h]; rfl)
theorem qbW {op:BinOp} {k:FloatKind} {x y r:Nat} (h:floatBits op k x y = some r):Ab.valOf P (Op.Complex.arith op k x y) = some r:=by
 unfold Op.Complex.arith;rw [qu,qmU h]; rfl
theorem qw5 {t:TypeId} {a b c d re im:Nat} (h:cSumBits .add .f64 a b c d = some (re,im)):Ab.valOf P (Go.binOp .add t (.complex .f64 a b) (.complex .f64 c d)) = some (.complex .f64 re im):=by
 unfold cSumBits at h;obtain ⟨x,h1,h⟩:=qh.1 h;obtain ⟨y,h2,h⟩:=qh.1 h;cases h;simp only [Go.binOp,ne_eq,not_true,if_false,Op.complexOp];rw [qu,qbW h1,qb,qu,qbW h2];rfl
theorem qxU {t:TypeId} {a b c d re im:Nat} (h:cMulBits a b c d = some (re,im)):Ab.valOf P (Go.binOp .mul t (.complex .f64 a b) (.complex .f64 c d)) = some (.complex .f64 re im):=by
 unfold cMulBits at h;obtain ⟨ac,h1,h⟩:=qh.1 h;obtain ⟨bd,h2,h⟩:=qh.1 h;obtain ⟨x,h3,h⟩:=qh.1 h;obtain ⟨ad,h4,h⟩:=qh.1 h;obtain ⟨bc,h5,h⟩:=qh.1 h;obtain ⟨y,h6,h⟩:=qh.1 h;cases h;have hp:Ab.valOf P (Op.Complex.product a b c d) = some (re,im):=by
  unfold Op.Complex.product Op.Complex.mul Op.Complex.sub Op.Complex.add;rw [qu,qbW h1,qb,qu,qbW h2,qb,qu,qbW h3,qb,qu,qbW h4,qb,qu,qbW h5,qb,qu,qbW h6];rfl
 have hc:∀ x,Ab.valOf P (Op.Complex.conv .f64 x .f64) = some x:=λx=>by unfold Op.Complex.conv; simp [qX]
 simp only [Go.binOp,ne_eq,not_true,if_false,Op.complexOp];rw [qu,hc,qb,qu,hc,qb,qu,hc,qb,qu,hc,qb];simp only [beq_self_eq_true,if_true];rw [qu,hp,qb,qu,hc,qb,qu,hc];rfl
theorem qev {n m:Int} (h:flo n = some m):m = n/\n.natAbs < 2 ^ 53:=by
 unfold flo at h;split at h
 ·rename_i h1; cases h; exact ⟨rfl,h1⟩
 ·cases h
theorem qD8 {op:BinOp} {t:TypeId} {xo yo:Operand} {a b:Int × Int} {x y:V} {o1 o2:Nat} {R:Type} {k:TV->Option R} {r:R} (hx:RV (.t .cx o1 a) x) (hy:RV (.t .cx o2 b) y) (h:qtA P op t (.t .cx o1 a) (.t .cx o2 b) R k = some r) :
  ∃ z u,k z = some r/\qnk P op t xo yo x y = some u/\RV z u:=by
 simp only [RV,RTy] at hx hy;obtain ⟨b1,b2,rfl,i1,i2⟩:=hx;obtain ⟨c1,c2,rfl,j1,j2⟩:=hy;unfold qtA at h;simp only at h;split at h
 ·obtain ⟨re,h1,h⟩:=qh.1 h;obtain ⟨im,h2,h⟩:=qh.1 h;obtain ⟨rfl,g1⟩:=qev h1;obtain ⟨rfl,g2⟩:=qev h2;obtain ⟨re,im,e,r1,r2⟩:=Fl.qDg i1 i2 j1 j2 g1 g2;refine ⟨_,.val (.complex .f64 re im),h,qal (u:=.complex .f64 re im) ?_,by simp only [RV,RTy]; exact ⟨re,im,rfl,r1,r2⟩⟩;rw [qu];show (some ()).bind (λ_=>Ab.valOf P (Go.binOp .add t (.complex .f64 b1 b2) (.complex .f64 c1 c2))) = _;exact qw5 e
 ·obtain ⟨ac,h1,h⟩:=qh.1 h;obtain ⟨bd,h2,h⟩:=qh.1 h;obtain ⟨rfl,g1⟩:=qev h1;obtain ⟨rfl,g2⟩:=qev h2;obtain ⟨x,h3,h⟩:=qh.1 h;obtain ⟨rfl,g3⟩:=qev h3;obtain ⟨ad,h4,h⟩:=qh.1 h;obtain ⟨bc,h5,h⟩:=qh.1 h;obtain ⟨rfl,g4⟩:=qev h4;obtain ⟨rfl,g5⟩:=qev h5;obtain ⟨y,h6,h⟩:=qh.1 h;obtain ⟨rfl,g6⟩:=qev h6;obtain ⟨re,im,e,r1,r2⟩:=Fl.qDD i1 i2 j1 j2 g1 g2 g3 g4 g5 g6;refine ⟨_,.val (.complex .f64 re im),h,qal (u:=.complex .f64 re im) ?_,by simp only [RV,RTy]; exact ⟨re,im,rfl,r1,r2⟩⟩;rw [qu];show (some ()).bind (λ_=>Ab.valOf P (Go.binOp .mul t (.complex .f64 b1 b2) (.complex .f64 c1 c2))) = _;exact qxU e
 ·cases h
theorem qA8 {op:BinOp} {t:TypeId} {xo yo:Operand} {a b:List UInt8} {R:Type} {k:TV->Option R} {r:R} {o1 o2:Nat} (h:qtA P op t (.t .str o1 a) (.t .str o2 b) R k = some r) :
  ∃ z u,k z = some r/\qnk P op t xo yo (.val (.string ⟨a.toArray⟩)) (.val (.string ⟨b.toArray⟩)) = some u/\RV z u:=by
 cases op <;> simp only [qtA] at h <;> try (cases h; done)
 case eql =>
  refine ⟨_,.val (.bool (decide (a = b))),h,?_,by simp [RV,RTy]⟩;exact qal (u:=.bool (decide (a = b))) (by simp [eqGuard,binOp_string_eql,qX]; rw [Bool.eq_iff_iff]; simp)
 case neq =>
  refine ⟨_,.val (.bool (!decide (a = b))),h,?_,by simp [RV,RTy]⟩;exact qal (u:=.bool (!decide (a = b))) (by simp [eqGuard,binOp_string_neq,qX]; rw [Bool.eq_iff_iff]; simp)
 case lss =>
  refine ⟨_,.val (.bool (Op.bytesLess a b)),h,?_,by simp [RV,RTy]⟩;exact qal (u:=.bool (Op.bytesLess a b)) (by simp [eqGuard,binOp_string_lss,qX])
 case add =>
  obtain ⟨q,hq,hk⟩:=qh.1 h;obtain ⟨hn,rfl⟩:=qfV hq;refine ⟨_,.val (.string ⟨(a ++ b).toArray⟩),hk,?_,by simp [RV,RTy]⟩;refine qal (u:=.string ⟨(a ++ b).toArray⟩) ?_;have h1:(⟨a.toArray⟩:ByteArray).size = a.length:=by simp [ByteArray.size]
  have h2:(⟨b.toArray⟩:ByteArray).size = b.length:=by simp [ByteArray.size]
  have h3:(⟨a.toArray⟩ ++ ⟨b.toArray⟩:ByteArray) = ⟨(a ++ b).toArray⟩:=by apply ByteArray.ext; simp
  have h4:¬ (((⟨a.toArray⟩:ByteArray).size + (⟨b.toArray⟩:ByteArray).size:Nat):Int) > IntKind.i64.max:=by
   rw [h1,h2]; simp only [IntKind.max,IntKind.signed,IntKind.bits,if_true] <;> omega
  have h5:Go.binOp .add t (.string ⟨a.toArray⟩) (.string ⟨b.toArray⟩) = pure (.string ⟨(a ++ b).toArray⟩):=by
   simp only [Go.binOp,Op.stringOp];rw [if_neg h4,h3]
  simp only [eqGuard];rw [h5];rfl
theorem qy {t:TypeId} {d:TypeDesc} (h:P.underlying t = some d):Ab.valOf P (underlying t) = some d:=by
 unfold Go.underlying;simp only [qu];have h1:Ab.valOf P Go.program = some P:=rfl;simp only [h1,qb,h];rfl
theorem qms {n:Nat} {t:TypeId} (h:P.underlying t = some .bool) (a b:Bool):Ab.valOf P (Op.equalIn (n + 1) t (.bool a) (.bool b)) = some (a == b):=by
 unfold Op.equalIn;rw [qu,qy h];rfl
theorem quN {n:Nat} {t:TypeId} {k0:IntKind} (h:P.underlying t = some (.int k0)) (k:IntKind) (a b:Int):Ab.valOf P (Op.equalIn (n + 1) t (.int k a) (.int k b)) = some (decide (a = b)):=by
 unfold Op.equalIn;rw [qu,qy h];simp only [qb,if_true];rfl
theorem quT {n:Nat} {t:TypeId} (h:P.underlying t = some .string) (a b:List UInt8):Ab.valOf P (Op.equalIn (n + 1) t (.string ⟨a.toArray⟩) (.string ⟨b.toArray⟩)) = some (decide (a = b)):=by
 unfold Op.equalIn;rw [qu,qy h];simp only [qb];show some ((⟨a.toArray⟩:ByteArray) == ⟨b.toArray⟩) = _;rw [qe,Bool.eq_iff_iff];first
 | (show (a.toArray == b.toArray) = true ↔ decide (a = b) = true; simp)
 | (show decide ((⟨a.toArray⟩:ByteArray) = ⟨b.toArray⟩) = true ↔ decide (a = b) = true; simp)
def qFL (x:TV) (u:Value):Prop:=(qxX x = true/\RV x (.val u))\/∃ (l:List TV) (vs:List Value),x = .agg l/\u = .agg vs.toArray/\l.all qxX = true/\RVL l (vs.map .val)
theorem qBE {x:TV} {v:V} (h:qxX x = true) (hr:RV x v):∃ u,v = .val u:=by
 cases x with
 | t τ o x=>cases τ <;> simp only [RV,RTy] at hr <;> first | exact ⟨_,hr⟩ | simp [qxX] at h
 | _=>simp [qxX] at h
theorem qoG:∀ {l:List TV} {l':List V},l.all qxX = true->RVL l l'->∃ vs:List Value,l' = vs.map .val
 | [],l',_,h=>by simp only [RVL] at h; exact ⟨[],by simp [h]⟩
 | x :: l,l',h1,h=>by
  simp only [RVL] at h; obtain ⟨v,m,rfl,h2,h3⟩:=h;simp only [List.all_cons,qi] at h1;obtain ⟨u,rfl⟩:=qBE h1.1 h2;obtain ⟨vs,rfl⟩:=qoG h1.2 h3;exact ⟨u :: vs,rfl⟩
theorem qjO:∀ vs:List Value,toValL (vs.map .val) = some vs
 | []=>rfl
 | u :: vs=>by simp [toValL,V.toVal,qjO vs]
theorem qpA {t:TypeId} {i:TypeInfo} (h:P.info? t = some i):Ab.valOf P (typeInfo t) = some i:=by
 unfold typeInfo;simp only [qu];have h1:Ab.valOf P Go.program = some P:=rfl;simp only [h1,qb,h];rfl
theorem qoS {t:TypeId} {d:TypeDesc} (h:P.underlying t = some d):∃ i,P.info? t = some i:=by
 unfold Program.underlying at h;cases hi:P.info? t with
 | none=>rw [hi] at h; cases h
 | some i=>exact ⟨i,rfl⟩
theorem qux {t:TypeId} {xs:List TV} {vs:List Value} {off:Nat} {u:TV} (hs:xs.all qxX = true) (hr:RVL xs (vs.map .val)) (h:qba P t (xs.drop off) = some u) :
  ∃ w,Ab.valOf P (part t vs.toArray off) = some w/\qFL u w:=by
 unfold qba at h;split at h
 ·cases h
 ·rename_i d hd;obtain ⟨i,hi⟩:=qoS hd;have hsz:Ab.valOf P (sizeOf t) = some (P.cellsOf t):=by
   unfold sizeOf;rw [qu,qpA hi];simp [Program.cellsOf,hi,qX]
  have hag:Ab.valOf P (isAgg t) = some (qY P t):=by
   unfold isAgg qY;rw [qu,qy hd,hd];cases d <;> rfl
  unfold part;rw [qu,hag];simp only [qb];split at h
  ·rename_i ha;rw [if_pos ha];split at h
   ·rename_i hl;cases h;rw [qu,hsz];refine ⟨_,rfl,.inr ⟨_,(vs.drop off).take (P.cellsOf t),rfl,?_,?_,?_⟩⟩
    ·congr 1
     apply Array.ext';simp [List.take_drop]
    ·rw [List.all_eq_true] at hs ⊢;exact λy hy=>hs y (List.mem_of_mem_drop (List.mem_of_mem_take hy))
    ·rw [List.map_take,List.map_drop];exact (hr.drop off).take _
   ·cases h
  ·rename_i ha;rw [if_neg ha];have hx:xs[off]? = some u:=by simpa [List.head?_drop] using h
   obtain ⟨v,hv,hrv⟩:=hr.get hx;rw [List.getElem?_map] at hv;obtain ⟨w,hw,rfl⟩:=qf.1 hv;have hw':vs.toArray[off]? = some w:=by simpa using hw
   rw [hw'];refine ⟨w,rfl,.inl ⟨?_,hrv⟩⟩;rw [List.all_eq_true] at hs;exact hs u (List.mem_of_getElem? hx)
theorem qvM:∀ (d:Nat) (t:TypeId) (x y:TV) (b:Bool),teq P d t x y = some b->∀ n,d<=n->∀ u v,qFL x u->qFL y v->Ab.valOf P (Op.equalIn n t u v) = some b
 | 0,t,x,y,b,h,n,hn,u,v,hu,hv=>by simp [teq] at h
 | d + 1,t,x,y,b,h,n,hn,u,v,hu,hv=>by
  obtain ⟨n,rfl⟩:∃ m,n = m + 1:=⟨n - 1,by omega⟩
  unfold teq at h;split at h
  ·rename_i k0 k o a k' o' a' ht;split at h
   ·rename_i hk;subst hk;cases h;rcases hu with ⟨_,hu⟩ | ⟨_,_,hu,_⟩
    ·rcases hv with ⟨_,hv⟩ | ⟨_,_,hv,_⟩
     ·simp only [RV,RTy,V.val.injEq] at hu hv;subst hu; subst hv;exact quN ht _ _ _
     ·cases hv
    ·cases hu
   ·cases h
  ·rename_i o a o' a' ht;cases h;rcases hu with ⟨_,hu⟩ | ⟨_,_,hu,_⟩
   ·rcases hv with ⟨_,hv⟩ | ⟨_,_,hv,_⟩
    ·simp only [RV,RTy,V.val.injEq] at hu hv;subst hu; subst hv;exact qms ht _ _
    ·cases hv
   ·cases hu
  ·rename_i o a o' a' ht;cases h;rcases hu with ⟨_,hu⟩ | ⟨_,_,hu,_⟩
   ·rcases hv with ⟨_,hv⟩ | ⟨_,_,hv,_⟩
    ·simp only [RV,RTy,V.val.injEq] at hu hv;subst hu; subst hv;exact quT ht _ _
    ·cases hv
   ·cases hu
  ·rename_i fields xs ys ht;split at h
   ·cases h
   ·rename_i hheld;rcases hu with ⟨hu,_⟩ | ⟨l,vs,hl,rfl,hsx,hrx⟩
    ·simp [qxX] at hu
    ·rcases hv with ⟨hv,_⟩ | ⟨m,ws,hm,rfl,hsy,hry⟩
     ·simp [qxX] at hv
     ·cases hl; cases hm
      unfold Op.equalIn;rw [qu, qy ht];simp only [qb];rw [qu];have h1 : Ab.valOf P Go.program = some P := rfl;simp only [h1, qb];rw [if_neg hheld, qu, <- Array.forIn_toList];have key : ∀ (fs : List Field) (b : Bool), fs.foldr (fun fd acc => if fd.name = "_" then none else
        match qba P fd.type (xs.drop fd.offset),qba P fd.type (ys.drop fd.offset),acc with
        | some u,some v,some b=>(teq P d fd.type u v).map λa=>bif a then b else false
        | _,_,_=>none) (some true) = some b ->
        Ab.valOf P (forIn fs ((none:Option Bool),()) λf __s=>(
         if f.name ≠ "_" then do
          let __do_lift <- part f.type vs.toArray f.offset
          let __do_lift_1 <- part f.type ws.toArray f.offset
          let __do_lift <- Op.equalIn n f.type __do_lift __do_lift_1
          if (!__do_lift) = true then pure (ForInStep.done (some false,()))
           else pure (ForInStep.yield (none,()))
         else pure (ForInStep.yield (none,())):Sem _)) = some (if b then (none,()) else (some false,())):=by
       intro fs;induction fs with
       | nil=>intro b hb; simp only [List.foldr_nil,qe] at hb; subst hb; rfl
       | cons fd fs ih =>
        intro b hb;simp only [List.foldr_cons] at hb;split at hb
        ·cases hb
        ·rename_i qdC;split at hb
         ·rename_i u v b' hu hv hacc;obtain ⟨a,ha,rfl⟩:=qf.1 hb;obtain ⟨w1,hw1,hr1⟩:=qux hsx hrx hu;obtain ⟨w2,hw2,hr2⟩:=qux hsy hry hv;have he:=qvM d fd.type u v a ha n (by omega) w1 w2 hr1 hr2;have ih':=ih b' hacc;rw [List.forIn_cons,qu,if_pos qdC,qu,hw1];simp only [qb];rw [qu,hw2];simp only [qb];rw [qu,he];simp only [qb];cases a with
          | true =>
           simp only [Bool.not_true,qj,if_false,qX,qb,cond_true];exact ih'
          | false =>
           simp only [Bool.not_false,if_true,qX,qb,cond_false,qj,if_false]
         ·cases hb
      have hkey:=key fields.toList b h;rw [hkey];simp only [qb];cases b <;> rfl
  ·cases h
theorem qeg:9<=Op.maxDepth:=by unfold Op.maxDepth; omega
theorem qBr {op:BinOp} {t:TypeId} {xo yo:Operand} {l m:List TV} {l' m':List V} {R:Type} {k:TV->Option R} {r:R} (hl:RVL l l') (hm:RVL m m') (h:qtA P op t (.agg l) (.agg m) R k = some r) :
  ∃ z u,k z = some r/\qnk P op t xo yo (.agg l') (.agg m') = some u/\RV z u:=by
 simp only [qtA] at h;split at h
 ·cases h
 ·rename_i hc;simp only [Bool.or_eq_true,Bool.not_eq_true',not_or,Bool.not_eq_true,Bool.not_eq_false,qi] at hc;obtain ⟨hg,hs1,hs2⟩:=hc;split at h
  ·rename_i b hb;obtain ⟨vs,rfl⟩:=qoG hs1 hl;obtain ⟨ws,rfl⟩:=qoG hs2 hm;have he:=qvM 9 t _ _ b hb Op.maxDepth qeg _ _ (.inr ⟨l,vs,rfl,rfl,hs1,hl⟩) (.inr ⟨m,ws,rfl,rfl,hs2,hm⟩);have hv:∀ u,Ab.valOf P (do eqGuard op t xo yo (.agg vs.toArray) (.agg ws.toArray); Go.binOp op t (.agg vs.toArray) (.agg ws.toArray)) = some u->qnk P op t xo yo (.agg (vs.map .val)) (.agg (ws.map .val)) = some (qcK u):=λu hu=>by
    unfold qnk;simp only [V.toVal,qjO,qn,hu]
   have hguard:∀ op,(op = .eql\/op = .neq)->Ab.valOf P (eqGuard op t xo yo (.agg vs.toArray) (.agg ws.toArray)) = some ():=λop hop=>by
    have h1:Ab.valOf P Go.program = some P:=rfl;rcases hop with rfl | rfl <;> simp only [eqGuard] <;> (simp only [Bool.not_true,qj,if_false,qu,h1,qb,hg,Bool.not_false,if_true]; rfl)
   split at h
   ·refine ⟨_,.val (.bool b),h,?_,by simp [RV,RTy]⟩;refine hv (.bool b) ?_;rw [qu,hguard .eql (.inl rfl)];simp only [qb];show Ab.valOf P (Op.equal t _ _ >>= λx=>(pure (Value.bool x):Sem Value)) = _;rw [qu]; unfold Op.equal; rw [he]; rfl
   ·refine ⟨_,.val (.bool (!b)),h,?_,by simp [RV,RTy]⟩;refine hv (.bool (!b)) ?_;rw [qu,hguard .neq (.inr rfl)];simp only [qb];show Ab.valOf P (Op.equal t _ _ >>= λx=>(pure (Value.bool (!x)):Sem Value)) = _;rw [qu]; unfold Op.equal; rw [he]; rfl
   ·cases h
  ·cases h
theorem qp2 {t:TypeId} (h:P.underlying t = some .bool) (a b:Bool):Ab.valOf P (Op.equal t (.bool a) (.bool b)) = some (a == b):=by
 unfold Op.equal;obtain ⟨n,hn⟩:∃ n,Op.maxDepth = n + 1:=⟨Op.maxDepth - 1,by have:=qeg; omega⟩
 rw [hn]; exact qms h a b
theorem qz9 {op:BinOp} {t:TypeId} {xo yo:Operand} {a b:Bool} {R:Type} {k:TV->Option R} {r:R} {o1 o2:Nat} (h:qtA P op t (.t .bool o1 a) (.t .bool o2 b) R k = some r) :
  ∃ z u,k z = some r/\qnk P op t xo yo (.val (.bool a)) (.val (.bool b)) = some u/\RV z u:=by
 simp only [qtA] at h;split at h
 ·rename_i hu;refine ⟨_,.val (.bool (a == b)),h,?_,by simp [RV,RTy]⟩;refine qal (u:=.bool (a == b)) ?_;show Ab.valOf P (Op.equal t _ _ >>= λx=>(pure (Value.bool x):Sem Value)) = _;rw [qu,qp2 hu]; rfl
 ·rename_i hu;refine ⟨_,.val (.bool (!(a == b))),h,?_,by simp [RV,RTy]⟩;refine qal (u:=.bool (!(a == b))) ?_;show Ab.valOf P (Op.equal t _ _ >>= λx=>(pure (Value.bool (!x)):Sem Value)) = _;rw [qu,qp2 hu]; rfl
 ·cases h
theorem qtL {argTypes:Array TypeId} {s n:Nat} {y:V}:qdm P argTypes (.room s n) y = none:=by
 unfold qdm;split
 ·simp only
  split
  ·rfl
  ·split
   ·rfl
   ·rfl
 ·rfl
theorem qrl {argTypes:Array TypeId} {s n:Nat} {y:V}:qe9 P argTypes (.room s n) y = none:=by
 unfold qe9;split
 ·rename_i h; cases h
 ·rfl
theorem quH {argTypes:Array TypeId} {x y:TV} {x' y':V} {R:Type} {k:TV->Option R} {r:R} (hx:RV x x') (hy:RV y y') (h:qq7 P argTypes x y R k = some r) :
  ∃ z u,k z = some r/\(qdm P argTypes x' y').or ((qe9 P argTypes x' y').or (qgW P argTypes x' y')) = some u/\RV z u:=by
 unfold qq7 at h;split at h
 ·rename_i elem yt h0 h1;split at h
  ·rename_i hc0;obtain ⟨hs0,hz,hb⟩:=hc0;split at h
   ·rename_i ik o n;simp only [RV] at hx; subst hx;simp only [RV,RTy] at hy; subst hy;cases hd:(decide (0 < n) && decide (n<=4294967296)) with
    | false=>rw [hd] at h; cases h
    | true =>
     rw [hd] at h;simp only [qi,decide_eq_true_eq] at hd;have key:∀ m:Int,0 < m->m<=4294967296->m.toNat<=4294967296/\m<=70368744177664:=λm _ _=>by omega
     obtain ⟨key1,key2⟩:=key n hd.1 hd.2;refine ⟨_,.room (P.cellsOf elem) n.toNat,h,?_,by simp [RV]⟩;have e1:qdm P argTypes (.val (.slice none 0 0)) (.val (.int .i64 n)) = none:=by
      rw [qlO h0 h1]; rfl
     have hbig:n.toNat * P.bytesOf elem<=4294967296 * 8192:=Nat.mul_le_mul key1 hb;have e2:qe9 P argTypes (.val (.slice none 0 0)) (.val (.int .i64 n)) = some (.room (P.cellsOf elem) n.toNat):=by
      unfold qe9;rw [h0,h1]; simp only;rw [if_pos ⟨hd.1,key2,hs0,hz,by omega⟩]
     rw [e1,e2]; rfl
   ·split at h
    ·cases h
    ·rename_i τ o2 l2 ht;obtain ⟨l2',hl2',hall2⟩:=qz3 ht hy;split at h
     ·rename_i hc;obtain ⟨hcl,hok,hel,hup⟩:=hc;obtain ⟨hup1,hup2⟩:=qBA hup;have hc2:∀ e ∈ l2',e.cells.length = P.cellsOf elem/\e.oks = true/\e.qx = []:=λe he=>by
       obtain ⟨h1,h2,h3⟩:=qei hel hall2 e he;exact ⟨by rw [h1,hcl],h2,h3⟩
      have hp:ptrsL l2' = []:=by
       apply List.eq_nil_iff_forall_not_mem.2;intro r hr;obtain ⟨v,hv,hrv⟩:=qny.1 hr;rw [(hc2 v hv).2.2] at hrv; cases hrv
      have hall2':l2'.all (λe=>decide (e.cells.length = P.cellsOf elem) && e.oks) = true:=by
       rw [List.all_eq_true]; intro e he; simp [(hc2 e he).1,(hc2 e he).2.1]
      have hlen:=hall2.length;split at h
      ·-- behind nil
       simp only [RV] at hx; subst hx;have hv:qdm P argTypes (.val (.slice none 0 0)) y' = if l2'.isEmpty then some (.val (.slice none 0 0)) else if (l2'.length + 512) * P.bytesOf elem<=70368744177664/\l2'.length<=70368744177664 then some (.sl .own false l2') else none:=by
        rw [qlO h0 h1,hl2']; simp only;rw [if_neg (by simp only [not_or,Decidable.not_not,Bool.not_eq_false]; exact ⟨hs0,hz,hall2',by rw [hp]; rfl⟩)]
       cases hem:List.isEmpty l2 with
       | true =>
        rw [hem] at h;have hem':l2'.isEmpty = true:=by rw [List.isEmpty_iff] at hem ⊢; subst hem; cases hall2; rfl
        exact ⟨_,.val (.slice none 0 0),h,by rw [hv,if_pos hem']; rfl,by simp only [RV]⟩
       | false =>
        rw [hem] at h;obtain ⟨q,hq,hk⟩:=qh.1 h;obtain ⟨hn,rfl⟩:=qfV hq;have hem':¬ l2'.isEmpty = true:=by
         intro h9;rw [List.isEmpty_iff] at h9;subst h9;cases hall2;cases hem
        have hbig:=big (s:=l2'.length) (by rw [hlen]; simpa using hn) hb;refine ⟨_,.sl .own false l2',hk,by rw [hv,if_neg hem',if_pos ⟨hbig,by rw [hlen]; simp at hn; omega⟩]; rfl,?_⟩;simp only [RV,RTy];exact ⟨.own,false,_,rfl,qfB hup,by rw [hup1]; simpa using hall2⟩
      ·rename_i s τ2 o3 y2 _;split at h
       ·rename_i hs;subst hs;split at h
        ·rename_i q0;simp only [RV] at hx;obtain ⟨_,n,rfl,hn0⟩ | ⟨h9,_⟩:=hx
         case inr=>omega
         obtain rfl:=hn0 trivial;have hy2:∃ fl cl,y' = .sl fl cl l2':=by
          cases τ2 with
          | sl t2=>simp only [RV,RTy] at hy; obtain ⟨f,c,l',rfl,_,_⟩:=hy; simp only [qBP] at hl2'; exact ⟨f,c,by simpa using hl2'⟩
          | _=>simp [tail?] at ht
         obtain ⟨fl,cl,rfl⟩:=hy2;have hn:l2.length<=4294967296\/List.isEmpty l2 = true:=by
          cases hem:List.isEmpty l2 with
          | true=>exact .inr rfl
          | false =>
           rw [hem] at h;obtain ⟨q,hq,hk⟩:=qh.1 h;obtain ⟨hn,rfl⟩:=qfV hq;exact .inl (by simpa using hn)
         have hnl:l2'.length<=4294967296:=by
          rw [hlen];rcases hn with hn | hn
          ·exact hn
          ·rw [List.isEmpty_iff] at hn; rw [hn]; simp
         have hbig:l2'.length * P.bytesOf elem<=4294967296 * 8192:=Nat.mul_le_mul hnl hb;have hv:qgW P argTypes (.room (P.cellsOf elem) 0) (.sl fl cl l2') = if l2'.isEmpty = true then some (.room (P.cellsOf elem) 0) else some (.sl .own false l2'):=by
          unfold qgW;rw [h0,h1]; simp only;rw [if_pos ⟨trivial,hz,hall2',by rw [hp]; rfl,by omega,by omega⟩]
         rw [qtL,qrl,hv];cases hem:List.isEmpty l2 with
         | true =>
          rw [hem] at h;have hem':l2'.isEmpty = true:=by rw [List.isEmpty_iff] at hem ⊢; subst hem; cases hall2; rfl
          exact ⟨_,.room (P.cellsOf elem) 0,h,by rw [if_pos hem']; rfl,by simp [RV]⟩
         | false =>
          rw [hem] at h;obtain ⟨q,hq,hk⟩:=qh.1 h;obtain ⟨hn,rfl⟩:=qfV hq;have hem':¬ l2'.isEmpty = true:=by
           intro h9;rw [List.isEmpty_iff] at h9;subst h9;cases hall2;cases hem
          refine ⟨_,.sl .own false l2',hk,by rw [if_neg hem']; rfl,?_⟩;simp only [RV,RTy];exact ⟨.own,false,_,rfl,qfB hup,by rw [hup1]; simpa using hall2⟩
        ·cases h
       ·cases h
      ·cases h
     ·cases h
  ·cases h
 ·cases h
end Go.Tx
end
section
namespace Go.Tx
open Go Go.Ab
variable {P:Program} {H:Hints} {f:FuncId}
theorem qn6 {t:TypeId} {d:TypeDesc} (hd:P.underlying t = some d) {x y:Value} (h:(∃ e,d = .slice e/\x = .slice none 0 0/\y = .slice none 0 0)\/(∃ e,d = .pointer e/\x = .pointer none/\y = .pointer none)\/(∃ a b c,d = .func a b c/\x = .nilFunc/\y = .nilFunc)) :
  Ab.valOf P (Op.equal t x y) = some true:=by
 unfold Op.equal;obtain ⟨n,hn⟩:∃ n,Op.maxDepth = n + 1:=⟨Op.maxDepth - 1,by have:=qeg; omega⟩
 rw [hn];unfold Op.equalIn;rw [qu,qy hd];rcases h with ⟨e,rfl,rfl,rfl⟩ | ⟨e,rfl,rfl,rfl⟩ | ⟨a,b,c,rfl,rfl,rfl⟩ <;> rfl
theorem qxk {t:TypeId} {ms:_} (hd:P.underlying t = some (.interface ms)):Ab.valOf P (Op.equal t .nilIface .nilIface) = some true:=by
 unfold Op.equal;obtain ⟨n,hn⟩:∃ n,Op.maxDepth = n + 1:=⟨Op.maxDepth - 1,by have:=qeg; omega⟩
 rw [hn];unfold Op.equalIn;rw [qu,qy hd];rfl
theorem qD6 {op:BinOp} {t:TypeId} {xo yo:Operand} {x y:TV} {x' y':V} {R:Type} {k:TV->Option R} {r:R} (hx:RV x x') (hy:RV y y') (h:qtA P op t x y R k = some r) :
  ∃ z u,k z = some r/\qnk P op t xo yo x' y' = some u/\RV z u:=by
 by_cases h1:∃ k1 o1 a k2 o2 b,x = .t (.int k1) o1 a/\y = .t (.int k2) o2 b
 ·obtain ⟨k1,o1,a,k2,o2,b,rfl,rfl⟩:=h1;simp only [RV,RTy] at hx hy;subst hx; subst hy;by_cases hs:op = .shl\/op = .shr
  ·exact qxV hs h
  by_cases hk:k1 = k2
  ·subst hk; exact qBL h
  ·unfold qtA at h;cases op <;> first | exact absurd (.inl rfl) hs | exact absurd (.inr rfl) hs | simp [hk] at h
 by_cases h2:∃ o1 a o2 b,x = .t .str o1 a/\y = .t .str o2 b
 ·obtain ⟨o1,a,o2,b,rfl,rfl⟩:=h2;simp only [RV,RTy] at hx hy;subst hx; subst hy;exact qA8 h
 by_cases h3:∃ o1 a o2 b,x = .t .bool o1 a/\y = .t .bool o2 b
 ·obtain ⟨o1,a,o2,b,rfl,rfl⟩:=h3;simp only [RV,RTy] at hx hy;subst hx; subst hy;exact qz9 h
 by_cases h5:∃ o1 a o2 b,x = .t .cx o1 a/\y = .t .cx o2 b
 ·obtain ⟨o1,a,o2,b,rfl,rfl⟩:=h5;exact qD8 hx hy h
 by_cases h4:∃ l m,x = .agg l/\y = .agg m
 ·obtain ⟨l,m,rfl,rfl⟩:=h4;simp only [RV] at hx hy;obtain ⟨l',rfl,hl⟩:=hx;obtain ⟨m',rfl,hm⟩:=hy;exact qBr hl hm h
 unfold qtA at h;split at h
 ·exact absurd ⟨_,_,_,_,_,_,rfl,rfl⟩ h1
 ·exact absurd ⟨_,_,_,_,rfl,rfl⟩ h5
 ·exact absurd ⟨_,_,_,_,rfl,rfl⟩ h2
 ·exact absurd ⟨_,_,_,_,rfl,rfl⟩ h3
 ·exact absurd ⟨_,_,rfl,rfl⟩ h4
 ·rename_i τ o l;simp only [RV,RTy] at hx hy;obtain ⟨fx,cx,l',rfl,_,hall⟩:=hx;subst hy;split at h
  ·rename_i el hu;cases hall with
   | nil=>simp at h
   | cons ha hb =>
    simp only [List.isEmpty_cons,cond_false] at h;have hv:∀ v m op,qnk P op t xo yo (.sl fx cx (v :: m)) (.val (.slice none 0 0)) = (match op with
      | .eql=>some (.val (.bool false))
      | .neq=>some (.val (.bool true))
      | _=>none):=λv m op=>by
     unfold qnk;simp only [V.toVal,hu,notNil,if_true];cases op <;> rfl
    split at h
    ·exact ⟨_,_,h,hv _ _ _,by simp [RV,RTy]⟩
    ·exact ⟨_,_,h,hv _ _ _,by simp [RV,RTy]⟩
    ·cases h
  ·cases h
 ·split at h
  ·rename_i d hd;split at h
   ·rename_i hn;have hv:x'.toVal = none/\notNil d x' y' = true:=by
     unfold qyR at hn;split at hn
     ·simp only [RV] at hx hy; subst hx; subst hy; exact ⟨rfl,rfl⟩
     ·simp only [RV] at hx hy; obtain ⟨_,l',rfl,_⟩:=hx; subst hy; exact ⟨rfl,rfl⟩
     ·simp only [RV] at hx hy; obtain ⟨a',b',rfl,_⟩:=hx; subst hy; exact ⟨rfl,rfl⟩
     ·cases hn
    have hv2:∀ op,qnk P op t xo yo x' y' = (match op with
      | .eql=>some (.val (.bool false))
      | .neq=>some (.val (.bool true))
      | _=>none):=λop=>by
     unfold qnk;simp only [hv.1,hd,hv.2,if_true];cases op <;> rfl
    split at h
    ·exact ⟨_,_,h,hv2 _,by simp [RV,RTy]⟩
    ·exact ⟨_,_,h,hv2 _,by simp [RV,RTy]⟩
    ·cases h
   ·split at h
    ·rename_i hn;have hv:∃ u v,x' = .val u/\y' = .val v/\Ab.valOf P (Op.equal t u v) = some true/\(∀ op,op = .eql\/op = .neq->Ab.valOf P (do eqGuard op t xo yo u v; Go.binOp op t u v) = Ab.valOf P (Op.equal t u v >>= λb=>(pure (Value.bool (if op = .eql then b else !b)):Sem Value))):=by
      unfold qCY at hn;split at hn
      ·simp only [RV] at hx hy; subst hx; subst hy;refine ⟨_,_,rfl,rfl,qn6 hd (.inl ⟨_,rfl,rfl,rfl⟩),?_⟩;rintro op (rfl | rfl) <;> rfl
      ·simp only [RV] at hx hy; subst hx; subst hy;refine ⟨_,_,rfl,rfl,qn6 hd (.inr (.inl ⟨_,rfl,rfl,rfl⟩)),?_⟩;rintro op (rfl | rfl) <;> rfl
      ·simp only [RV] at hx hy; subst hx; subst hy;refine ⟨_,_,rfl,rfl,qn6 hd (.inr (.inr ⟨_,_,_,rfl,rfl,rfl⟩)),?_⟩;rintro op (rfl | rfl) <;> rfl
      ·cases hn
     obtain ⟨u,v,rfl,rfl,he,hg⟩:=hv;split at h
     ·refine ⟨_,.val (.bool true),h,?_,by simp [RV,RTy]⟩;refine qal (u:=.bool true) ?_;rw [hg _ (.inl rfl),qu,he]; rfl
     ·refine ⟨_,.val (.bool false),h,?_,by simp [RV,RTy]⟩;refine qal (u:=.bool false) ?_;rw [hg _ (.inr rfl),qu,he]; rfl
     ·cases h
    ·cases h
  ·cases h
theorem qEV {op:UnOp} {x y:TV} {v:V} (hx:RV x v) (h:tun op x = some y):∃ u,v.toVal.bind (λa=>(Ab.valOf P (Go.Op.unary op a)).map qcK) = some u/\RV y u:=by
 unfold tun at h;split at h
 ·cases h;simp only [RV,RTy] at hx; subst hx;exact ⟨_,rfl,by simp [RV,RTy,qcK]⟩
 ·cases h;simp only [RV,RTy] at hx; subst hx;exact ⟨_,rfl,by simp [RV,RTy,qcK]⟩
 ·cases h
theorem qBk {src dst:TypeId} {x:TV} {v:V} {R:Type} {k:TV->Option R} {r:R} (hx:RV x v) (h:qDE P src dst x R k = some r):∃ z u,k z = some r/\qrI P src dst v = some u/\RV z u:=by
 unfold qDE at h;split at h
 ·rename_i d1 kk k0 o n h1 h2;simp only [RV,RTy] at hx; subst hx;refine ⟨_,.val (.int kk (kk.wrap n)),h,?_,by simp [RV,RTy]⟩;unfold qrI qhb;simp only [V.toVal];unfold Go.convert;rw [qu,qy h1];simp only [qb];rw [qu,qy h2];rfl
 ·rename_i d1 k0 o n h1 h2;obtain ⟨n',hn',hk'⟩:=qh.1 h;obtain ⟨rfl,hn⟩:=qev hn';simp only [RV,RTy] at hx; subst hx;refine ⟨_,.val (.float .f64 (FloatKind.f64.nearest n')),hk',?_,by simp only [RV,RTy]; exact ⟨_,rfl,Fl.qxZ hn⟩⟩;unfold qrI qhb;simp only [V.toVal];unfold Go.convert;rw [qu,qy h1];simp only [qb];rw [qu,qy h2];rfl
 ·rename_i o n h1 h2;obtain ⟨n',hn',hk'⟩:=qh.1 h;obtain ⟨rfl,hn⟩:=qev hn';simp only [RV,RTy] at hx;obtain ⟨b,rfl,hb⟩:=hx;refine ⟨_,.val (.int .i64 n'),hk',?_,by simp [RV,RTy]⟩;unfold qrI qhb;simp only [V.toVal];unfold Go.convert;rw [qu,qy h1];simp only [qb];rw [qu,qy h2];have h3:(FloatKind.f64.decode b).toInt .zero = some n':=Fl.qBD hb;have h4:IntKind.i64.min<=n'/\n'<=IntKind.i64.max:=by
   simp only [IntKind.min,IntKind.max,IntKind.signed,IntKind.bits,if_true] <;> omega
  show ((Ab.valOf P (Conv.floatToInt .f64 b .i64)).map qcK) = _;unfold Conv.floatToInt;simp only [h3];rw [if_pos h4];rfl
 ·rename_i d1 o s h1 h2;simp only [RV,RTy] at hx; subst hx;refine ⟨_,.val (.string ⟨s.toArray⟩),h,?_,by simp [RV,RTy]⟩;unfold qrI qhb;simp only [V.toVal];unfold Go.convert;rw [qu,qy h1];simp only [qb];rw [qu,qy h2];rfl
 ·rename_i e o l h1 h2;split at h
  ·rename_i he;simp only [RV,RTy] at hx;obtain ⟨f,c,l',rfl,_,hall⟩:=hx;refine ⟨_,.val (.string ⟨(l.map λn=>UInt8.ofNat n.toNat).toArray⟩),h,?_,by simp [RV,RTy]⟩;simp only [qrI,qud,h1,h2,he];have hb:∀ {l:List Int} {l':List V},All2 (λ(n:Int) v=>v = .val (.int .u8 n)) l l'->bytesOf l' = some (l.map λn=>UInt8.ofNat n.toNat):=by
    intro l l' hall;induction hall with
    | nil=>rfl
    | cons h1 _ ih=>subst h1; simp only [bytesOf,ih,qn,qm]
   rw [hb (hall.mono λn v h=>by simpa only [RTy] using h)]; rfl
  ·cases h
 ·cases h
theorem qrS {k:IntKind}:∀ {xs:List TV} {ys:List V} {l:List Int},qsy k xs = some l->RVL xs ys->ys = l.map λn=>.val (.int k n)
 | [],ys,l,h,hr=>by simp only [qsy,qe] at h; simp only [RVL] at hr; subst h; subst hr; rfl
 | x :: xs,ys,l,h,hr=>by
  simp only [RVL] at hr; obtain ⟨v,m,rfl,h1,h2⟩:=hr;cases x with
  | t τ o x =>
   cases τ with
   | int k' =>
    simp only [qsy] at h;split at h
    ·rename_i hk;subst hk;obtain ⟨l',hl',rfl⟩:=qf.1 h;simp only [RV,RTy] at h1; subst h1;rw [qrS hl' h2]; rfl
    ·cases h
   | _=>simp [qsy] at h
  | _=>simp [qsy] at h
theorem qjm (k:IntKind):∀ l:List Int,toValL (l.map λn=>V.val (.int k n)) = some (l.map λn=>Value.int k n)
 | []=>rfl
 | n :: l=>by simp [toValL,V.toVal,qjm k l]
theorem qAn (k:IntKind):∀ (l:List Int) (n:Int),Ab.valOf P ((l.map λn=>Value.int k n).foldlM Go.Builtin.max2 (.int k n)) = some (.int k (l.foldl max n))
 | [],n=>rfl
 | m :: l,n=>by
  simp only [qm,List.foldlM_cons,List.foldl_cons];rw [qu];have:Ab.valOf P (Go.Builtin.max2 (.int k n) (.int k m)) = some (.int k (max n m)):=by
   show some (Value.int k (if m > n then m else n)) = _;congr 2; split <;> omega
  rw [this];exact qAn k l _
theorem qyu (k:IntKind):∀ (l:List Int) (n:Int),Ab.valOf P ((l.map λn=>Value.int k n).foldlM Go.Builtin.min2 (.int k n)) = some (.int k (l.foldl min n))
 | [],n=>rfl
 | m :: l,n=>by
  simp only [qm,List.foldlM_cons,List.foldl_cons];rw [qu];have:Ab.valOf P (Go.Builtin.min2 (.int k n) (.int k m)) = some (.int k (min n m)):=by
   show some (Value.int k (if m < n then m else n)) = _;congr 2; split <;> omega
  rw [this];exact qyu k l _
theorem quY {b:Builtin} {argTypes:Array TypeId} {ty:TypeId} {xs:List TV} {ys:List V} {R:Type} {k:TV->Option R} {r:R} (hx:RVL xs ys) (h:qq4 P b argTypes xs R k = some r) :
  ∃ z u,k z = some r/\qeD P b argTypes ty ys = some u/\RV z u:=by
 unfold qq4 at h;split at h
 ·rename_i τ o l;simp only [RVL] at hx; obtain ⟨v,m,rfl,h1,rfl⟩:=hx;simp only [RV,RTy] at h1; obtain ⟨fx,c,l',rfl,_,hall⟩:=h1;split at h
  ·rename_i e he;refine ⟨_,.val (.int .i64 l'.length),h,?_,by simp [RV,RTy,hall.length]⟩;simp only [qeD,he]
  ·cases h
 ·rename_i τ l;simp only [RVL] at hx; obtain ⟨v,m,rfl,h1,rfl⟩:=hx;simp only [RV] at h1; obtain ⟨fx,l',rfl,_,hall⟩:=h1;split at h
  ·rename_i e he;refine ⟨_,.val (.int .i64 l'.length),h,?_,by simp [RV,RTy,hall.length]⟩;simp only [qeD,he]
  ·cases h
 ·rename_i ow;simp only [RVL] at hx; obtain ⟨v,m,rfl,h1,rfl⟩:=hx;simp only [RV] at h1; obtain ⟨fx,c,rfl,_⟩:=h1;split at h
  ·rename_i e he;refine ⟨_,.val (.int .i64 ([]:List V).length),h,?_,by simp [RV,RTy]⟩;simp only [qeD,he]
  ·cases h
 ·rename_i o s;simp only [RVL] at hx; obtain ⟨v,m,rfl,h1,rfl⟩:=hx;simp only [RV,RTy] at h1; subst h1;split at h
  ·rename_i he;refine ⟨_,.val (.int .i64 s.length),h,?_,by simp [RV,RTy]⟩;obtain ⟨t,ht,hu⟩:=qh.1 he;have hl:Ab.valOf P (Go.Builtin.len_ argTypes ty #[.string ⟨s.toArray⟩]) = some (.int .i64 s.length):=by
    unfold Go.Builtin.len_;have ha:(#[Value.string ⟨s.toArray⟩]:Array Value)[0]? = some (.string ⟨s.toArray⟩):=rfl;simp only [ht,ha];rw [qu,qy hu];simp only [qb];show some (goInt (⟨s.toArray⟩:ByteArray).size) = _;simp [goInt,ByteArray.size]
   show ((toValL [V.val (.string ⟨s.toArray⟩)]).bind λvs=>(Ab.valOf P (Go.Builtin.len_ argTypes ty vs.toArray)).map qcK) = _;simp only [toValL,V.toVal,qb];rw [show [Value.string ⟨s.toArray⟩].toArray = #[Value.string ⟨s.toArray⟩] from rfl,hl];rfl
  ·cases h
 ·simp only [RVL] at hx; obtain ⟨v,m,rfl,h1,rfl⟩:=hx;simp only [RV] at h1; subst h1;split at h
  ·rename_i e he;refine ⟨_,.val (.int .i64 0),h,?_,by simp [RV,RTy]⟩;obtain ⟨t,ht,hu⟩:=qh.1 he;have hl:Ab.valOf P (Go.Builtin.cap_ argTypes ty #[.slice none 0 0]) = some (.int .i64 0):=by
    unfold Go.Builtin.cap_;have ha:(#[Value.slice none 0 0]:Array Value)[0]? = some (.slice none 0 0):=rfl;simp only [ht,ha];rw [qu,qy hu];rfl
   show ((toValL [V.val (.slice none 0 0)]).bind λvs=>(Ab.valOf P (Go.Builtin.cap_ argTypes ty vs.toArray)).map qcK) = _;simp only [toValL,V.toVal,qb];rw [show [Value.slice none 0 0].toArray = #[Value.slice none 0 0] from rfl,hl];rfl
  ·cases h
 ·simp only [RVL] at hx; obtain ⟨v,m,rfl,h1,rfl⟩:=hx;simp only [RV] at h1; subst h1;split at h
  ·rename_i e he;refine ⟨_,.val (.int .i64 0),h,?_,by simp [RV,RTy]⟩;obtain ⟨t,ht,hu⟩:=qh.1 he;have hl:Ab.valOf P (Go.Builtin.len_ argTypes ty #[.slice none 0 0]) = some (.int .i64 0):=by
    unfold Go.Builtin.len_;have ha:(#[Value.slice none 0 0]:Array Value)[0]? = some (.slice none 0 0):=rfl;simp only [ht,ha];rw [qu,qy hu];rfl
   show ((toValL [V.val (.slice none 0 0)]).bind λvs=>(Ab.valOf P (Go.Builtin.len_ argTypes ty vs.toArray)).map qcK) = _;simp only [toValL,V.toVal,qb];rw [show [Value.slice none 0 0].toArray = #[Value.slice none 0 0] from rfl,hl];rfl
  ·cases h
 ·rename_i x y;simp only [RVL] at hx; obtain ⟨v,m,rfl,h1,v2,m2,rfl,h2,rfl⟩:=hx;split at h
  ·obtain ⟨z,u,hz,hu,hr⟩:=quH h1 h2 h;exact ⟨z,u,hz,by simp only [qeD,hu],hr⟩
  ·obtain ⟨z,u,hz,hu,hr⟩:=qxh h1 h2 h;exact ⟨z,u,hz,by simp only [qeD,hu,Option.some_or],hr⟩
 ·rename_i o1 a o2 b;simp only [RVL] at hx; obtain ⟨v,m,rfl,h1,v2,m2,rfl,h2,rfl⟩:=hx;simp only [RV,RTy] at h1 h2;obtain ⟨b1,rfl,i1⟩:=h1;obtain ⟨b2,rfl,i2⟩:=h2;exact ⟨_,.val (.complex .f64 b1 b2),h,rfl,by simp only [RV,RTy]; exact ⟨b1,b2,rfl,i1,i2⟩⟩
 ·rename_i o1 a;simp only [RVL] at hx; obtain ⟨v,m,rfl,h1,rfl⟩:=hx;simp only [RV,RTy] at h1;obtain ⟨b1,b2,rfl,i1,i2⟩:=h1;exact ⟨_,.val (.float .f64 b1),h,rfl,by simp only [RV,RTy]; exact ⟨b1,rfl,i1⟩⟩
 ·rename_i o1 a;simp only [RVL] at hx; obtain ⟨v,m,rfl,h1,rfl⟩:=hx;simp only [RV,RTy] at h1;obtain ⟨b1,b2,rfl,i1,i2⟩:=h1;exact ⟨_,.val (.float .f64 b2),h,rfl,by simp only [RV,RTy]; exact ⟨b2,rfl,i2⟩⟩
 ·rename_i kk o n xs;split at h
  ·rename_i l hl;simp only [RVL] at hx; obtain ⟨v,m,rfl,h1,h2⟩:=hx;simp only [RV,RTy] at h1; subst h1;rw [qrS hl h2];refine ⟨_,.val (.int kk (l.foldl max n)),h,?_,by simp [RV,RTy]⟩;show ((toValL ((n :: l).map λn=>V.val (.int kk n))).bind λvs=>(Ab.valOf P (Go.Builtin.max_ argTypes ty vs.toArray)).map qcK) = _;rw [qjm];simp only [qb];have:Ab.valOf P (Go.Builtin.max_ argTypes ty ((n :: l).map λn=>Value.int kk n).toArray) = some (.int kk (l.foldl max n)):=qAn kk l n;rw [this]; rfl
  ·cases h
 ·rename_i kk o n xs;split at h
  ·rename_i l hl;simp only [RVL] at hx; obtain ⟨v,m,rfl,h1,h2⟩:=hx;simp only [RV,RTy] at h1; subst h1;rw [qrS hl h2];refine ⟨_,.val (.int kk (l.foldl min n)),h,?_,by simp [RV,RTy]⟩;show ((toValL ((n :: l).map λn=>V.val (.int kk n))).bind λvs=>(Ab.valOf P (Go.Builtin.min_ argTypes ty vs.toArray)).map qcK) = _;rw [qjm];simp only [qb];have:Ab.valOf P (Go.Builtin.min_ argTypes ty ((n :: l).map λn=>Value.int kk n).toArray) = some (.int kk (l.foldl min n)):=qyu kk l n;rw [this]; rfl
  ·cases h
 ·cases h
def BxR:Option (List TV)->Option (List V)->Prop
 | none,b=>True
 | some c,b=>∃ c',b = some c'/\RVL c c'
def BxO:Option (List TV)->Option (List V)->Prop
 | none,b=>b = none
 | some c,b=>∃ c',b = some c'/\RVL c c'
theorem qyX {R:Type} {mk:Int->TV} {l:List Int} {r:R}:∀ (n i:Nat) (acc:List TV) (k:List TV->Option R),qEN R mk l n i acc k = some r->i<=l.length->n + i<=l.length/\k (acc ++ ((l.drop i).take n).map mk) = some r
 | 0,i,acc,k,h,hi=>⟨by omega,by simpa [qEN] using h⟩
 | n + 1,i,acc,k,h,hi=>by
  unfold qEN at h;obtain ⟨e,he,hk⟩:=qh.1 h;rw [show idx l (i:Int) = l[i]? from by simp [idx]] at he;have hlt:=(qq.1 he).1;obtain ⟨h1,h2⟩:=qyX n (i + 1) _ k hk (by omega);refine ⟨by omega,?_⟩;have e1:(l.drop i).take (n + 1) = e :: (l.drop (i + 1)).take n:=by
   rw [List.drop_eq_getElem_cons hlt,List.take_succ_cons];rw [(qq.1 he).2]
  rw [e1,qm];simpa using h2
theorem qu9 {t:TypeId} {x:TV} {R:Type} {k:TV->Option R} {r:R} {v:V} (h:qr8 P t x R k = some r) (hx:RV x v):∃ y u,k y = some r/\qiS P t v = some u/\RV y u:=by
 unfold qr8 at h;split at h
 ·rename_i n elem kk o l hu;split at h
  ·cases h
  ·rename_i h0;obtain ⟨h1,h2⟩:=qyX n 0 [] _ h (Nat.zero_le _);simp only [RV,RTy] at hx;obtain ⟨fl,c,l',rfl,hfl,hall⟩:=hx;have hl:=hall.length;have hv:∀ {l:List Int} {l':List V},All2 (λ(n:Int) v=>v = .val (.int kk n)) l l'->(qhr l').isSome = true:=by
    intro l l' h;induction h with
    | nil=>rfl
    | cons h1 _ ih=>subst h1; simpa [qhr] using ih
   have hall':=hall.mono λn v (h:RTy (.int kk) (nx o) n v)=>(by simpa only [RTy] using h:v = .val (.int kk n))
   refine ⟨_,.cptr (qaa fl) (l'.take n),h2,?_,?_⟩
   ·simp only [qiS,hu];rw [if_pos ⟨by omega,h0,hv hall'⟩]
   ·simp only [RV];refine ⟨_,_,rfl,by cases fl <;> simp [qaa],λe=>by rw [hfl.2 (of_decide_eq_true e)]; rfl,?_⟩;have ht:∀ {l:List Int} {l':List V},All2 (λ(n:Int) v=>v = .val (.int kk n)) l l'->∀ n,RVL ((l.take n).map λe=>.t (.int kk) 0 e) (l'.take n):=by
     intro l l' h;induction h with
     | nil=>intro n; simp only [List.take_nil,List.map_nil]; exact qai
     | cons h1 _ ih =>
      intro n;cases n with
      | zero=>simp only [List.take_zero,List.map_nil]; exact qai
      | succ n =>
       subst h1;simp only [List.take_succ_cons,qm];exact qC.2 ⟨by simp only [RV,RTy],ih n⟩
    simpa using ht hall' n
 ·cases h
theorem qtS {tk:Bool} {o:Op} {ty:TypeId} {xs:List TV} {ys:List V} {bx:Option (List TV)} {bx':Option (List V)} {R:Type} {k:TV->Option (List TV)->Option R} {r:R} (hx:RVL xs ys) (hb:BxR bx bx') (hmp:∀ c,bx' = some c->qhq c = false)
  (h:qda P H f tk o xs bx R k = some r):∃ z c u c',k z c = some r/\qa6 P H f tk o ty ys bx' = some (u,c')/\RV z u/\BxO c c':=by
 have fin:∀ {x:Option TV} {y:Option V},(match x with | some x=>k x none | none=>none) = some r->(∀ z,x = some z->∃ u,y = some u/\RV z u)->∃ z c u c',k z c = some r/\(y.map λx=>(x,(none:Option (List V)))) = some (u,c')/\RV z u/\BxO c c':=by
  intro x y h1 h2;cases x with
  | none=>cases h1
  | some z =>
   obtain ⟨u,hu,hr⟩:=h2 z rfl;exact ⟨z,none,u,none,h1,by rw [hu]; rfl,hr,rfl⟩
 have fin2:∀ {y:Option V},(∃ z u,k z none = some r/\y = some u/\RV z u)->∃ z c u c',k z c = some r/\(y.map λx=>(x,(none:Option (List V)))) = some (u,c')/\RV z u/\BxO c c':=by
  rintro y ⟨z,u,h1,rfl,hr⟩;exact ⟨z,none,u,none,h1,rfl,hr,rfl⟩
 unfold qda at h;simp only at h;split at h
 ·simp only [RVL] at hx; obtain ⟨v,m,rfl,h1,rfl⟩:=hx;exact ⟨_,none,v,none,h,rfl,h1,rfl⟩
 ·simp only [RVL] at hx; obtain ⟨v,m,rfl,h1,rfl⟩:=hx;exact ⟨_,none,v,none,h,rfl,h1,rfl⟩
 ·rename_i o' c a b;simp only [RVL] at hx; obtain ⟨v,m,rfl,h1,va,ma,rfl,ha,vb,mb,rfl,hb',rfl⟩:=hx;simp only [RV,RTy] at h1; subst h1;cases c with
  | true=>exact ⟨_,none,va,none,h,rfl,ha,rfl⟩
  | false=>exact ⟨_,none,vb,none,h,rfl,hb',rfl⟩
 ·rename_i t parts xs;exact fin h λz hz=>qyW hx hz
 ·rename_i t len parts xs;exact fin h λz hz=>qps hx hz
 ·rename_i t a cs;simp only [RVL] at hx; obtain ⟨v,m,rfl,h1,rfl⟩:=hx;simp only [RV] at h1; obtain ⟨_,cs',rfl,_,_,hc⟩:=h1;refine fin h λz hz=>?_;obtain ⟨w,hw,rfl⟩:=qf.1 hz;obtain ⟨u,hu,hr⟩:=qea hw hc;exact ⟨u.qaj,by rw [hu]; rfl,hr.qaj⟩
 ·rename_i t a q off;simp only [RVL] at hx; obtain ⟨v,m,rfl,h1,rfl⟩:=hx;simp only [RV] at h1; subst h1;split at h
  ·rename_i cs;obtain ⟨cs',rfl,hc⟩:=hb;have hlp:=qfg (qaY hc) (hmp _ rfl);split at h
   ·rename_i htk;split at h
    ·rename_i x hxx;obtain ⟨u,hu,hr⟩:=qea hxx (hc.drop off);refine ⟨_,_,u,_,h,?_,hr,⟨_,rfl,qkw hc (RVL.qaj ((hc.drop off).take _))⟩⟩;simp only [qa6,hlp,qj,if_false,htk,if_true,hu,qn]
    ·cases h
   ·rename_i htk;obtain ⟨z,c,u,c',h1,h2,h3,h4⟩:=fin (y:=(qak P t (cs'.drop off)).map V.qaj) h λz hz=>by
     obtain ⟨w,hw,rfl⟩:=qf.1 hz;obtain ⟨u,hu,hr⟩:=qea hw (hc.drop off);exact ⟨u.qaj,by rw [hu]; rfl,hr.qaj⟩
    refine ⟨z,c,u,c',h1,?_,h3,h4⟩;simp only [qa6,hlp,qj,if_false];rw [if_neg htk];exact h2
  ·cases h
 ·rename_i t a b q off x;simp only [RVL] at hx; obtain ⟨v,m,rfl,h1,v2,m2,rfl,h2,rfl⟩:=hx;simp only [RV] at h1; subst h1;split at h
  ·rename_i cs;obtain ⟨cs',rfl,hc⟩:=hb;have hlp:=qfg (qaY hc) (hmp _ rfl);split at h
   ·rename_i hcond;obtain ⟨h0,hl,ho,hk⟩:=hcond;obtain ⟨hcells,hko⟩:=RV.cells hk h2;refine ⟨_,_,.undef,_,h,?_,qcN [],⟨_,rfl,qkw hc hcells⟩⟩;simp only [qa6];rw [if_pos ⟨hlp,h0,by rw [hcells.length]; exact hl,by rw [hcells.length,hc.length]; exact ho,hko⟩]
   ·cases h
  ·cases h
 ·simp only [RVL] at hx; obtain ⟨v,m,rfl,h1,rfl⟩:=hx;simp only [RV] at h1; subst h1;exact ⟨_,none,_,none,h,rfl,by simp [RV],rfl⟩
 ·simp only [RVL] at hx; obtain ⟨v,m,rfl,h1,rfl⟩:=hx;have h1':=h1;simp only [RV] at h1; obtain ⟨_,l',rfl,_,h1⟩:=h1;exact ⟨_,none,_,none,h,rfl,h1',rfl⟩
 ·simp only [RVL] at hx; obtain ⟨v,m,rfl,h1,rfl⟩:=hx;have h1':=h1;simp only [RV] at h1; obtain ⟨a',b',rfl,_⟩:=h1;exact ⟨_,none,_,none,h,rfl,h1',rfl⟩
 ·rename_i op' t xo c0 yt o0 b;simp only [RVL] at hx; obtain ⟨v,m,rfl,h1,v2,m2,rfl,h2,rfl⟩:=hx;simp only [RV,RTy] at h1 h2;subst h2;have hv:∀ op ms,(op = .eql\/op = .neq)->P.underlying t = some (.interface ms)->qnk P op t xo (.const c0) v (.val .nilIface) = some (.val (.bool (if op = .eql then b else !b))):=by
   intro op ms hop hu;rcases h1 with ⟨rfl,rfl⟩ | ⟨rfl,t9,rfl⟩
   ·have he:Ab.valOf P (Op.equal t .nilIface .nilIface) = some true:=qxk hu;have hg:∀ op,Ab.valOf P (eqGuard op t xo (.const c0) .nilIface .nilIface) = some ():=by
     intro op;unfold eqGuard;cases op <;> cases xo <;> rfl
    unfold qnk;simp only [V.toVal];rcases hop with rfl | rfl
    ·rw [qu,hg];simp only [qb];show ((Ab.valOf P (Op.equal t .nilIface .nilIface >>= λb=>(pure (Value.bool b):Sem Value))).map qcK) = _;rw [qu,he]; rfl
    ·rw [qu,hg];simp only [qb];show ((Ab.valOf P (Op.equal t .nilIface .nilIface >>= λb=>(pure (Value.bool (!b)):Sem Value))).map qcK) = _;rw [qu,he]; rfl
   ·unfold qnk;simp only [V.toVal,Option.map_none,hu,notNil,if_true];rcases hop with rfl | rfl <;> rfl
  split at h
  ·rename_i ms hu;exact fin2 ⟨_,_,h,hv .eql ms (.inl rfl) hu,by simp [RV,RTy]⟩
  ·rename_i ms hu;exact fin2 ⟨_,_,h,hv .neq ms (.inr rfl) hu,by simp [RV,RTy]⟩
  ·cases h
 ·simp only [RVL] at hx; obtain ⟨v,m,rfl,h1,v2,m2,rfl,h2,rfl⟩:=hx;exact fin2 (qD6 h1 h2 h)
 ·simp only [RVL] at hx; obtain ⟨v,m,rfl,h1,rfl⟩:=hx;exact fin h λz hz=>qEV h1 hz
 ·simp only [RVL] at hx; obtain ⟨v,m,rfl,h1,rfl⟩:=hx;exact fin2 (qBk h1 h)
 ·refine ⟨_,none,_,none,h,rfl,?_,rfl⟩;simp only [RV];exact ⟨_,_,rfl,hx.take _,hx.drop _⟩
 ·simp only [RVL] at hx; obtain ⟨v,m,rfl,h1,v2,m2,rfl,h2,rfl⟩:=hx;exact fin2 (qrw h1 h2 h)
 ·rename_i t a lo hi mx x rest;simp only [RVL] at hx; obtain ⟨v,m,rfl,h1,h2⟩:=hx;have hhead:∀ {l:List TV} {l':List V},RVL l l'->RVO l.head? l'.head?:=λ{l l'} h=>by
   cases l with
   | nil=>simp only [RVL] at h; subst h; trivial
   | cons y l=>simp only [RVL] at h; obtain ⟨u,n,rfl,h3,_⟩:=h; exact h3
  have htail:∀ {l:List TV} {l':List V},RVL l l'->RVL l.tail l'.tail:=λ{l l'} h=>by
   rw [<- List.drop_one,<- List.drop_one]; exact h.drop 1
  have hr1:RVL (if lo.isSome = true then rest.tail else rest) (if lo.isSome = true then m.tail else m):=by
   split
   ·exact htail h2
   ·exact h2
  have hr2:RVL (if hi.isSome = true then (if lo.isSome = true then rest.tail else rest).tail else (if lo.isSome = true then rest.tail else rest)) (if hi.isSome = true then (if lo.isSome = true then m.tail else m).tail else (if lo.isSome = true then m.tail else m)):=by
   split
   ·exact htail hr1
   ·exact hr1
  have ho:∀ {q:Bool} {l:List TV} {l':List V},RVL l l'->RVO (if q = true then l.head? else none) (if q = true then l'.head? else none):=λ{q l l'} h=>by
   split
   ·exact hhead h
   ·trivial
  split at h
  ·obtain ⟨y,u,hk,hv,hr⟩:=qw1 h1 (ho h2) (ho hr1) (ho hr2) h;exact fin2 ⟨y,u,hk,hv,hr⟩
  ·obtain ⟨y,u,hk,hv,hr⟩:=qzJ h1 (ho h2) (ho hr1) (ho hr2) h;exact fin2 ⟨y,u,hk,by rw [hv]; rfl,hr⟩
 ·simp only [RVL] at hx; obtain ⟨v,m,rfl,h1,rfl⟩:=hx;exact fin h λz hz=>qqU hz h1
 ·simp only [RVL] at hx; obtain ⟨v,m,rfl,h1,rfl⟩:=hx;exact fin h λz hz=>qyD hz h1
 ·simp only [RVL] at hx; obtain ⟨v,m,rfl,h1,rfl⟩:=hx;obtain ⟨y,u,hk,hu,hr⟩:=qu9 h h1;exact fin2 ⟨y,u,hk,hu,hr⟩
 ·simp only [RVL] at hx; obtain ⟨v,m,rfl,h1,v2,m2,rfl,h2,rfl⟩:=hx;simp only [RV,RTy] at h2; subst h2;obtain ⟨y,u,hk,hu,hr⟩:=qq0 h h1;exact fin2 ⟨y,u,hk,hu,hr⟩
 ·simp only [RVL] at hx; obtain ⟨v,m,rfl,h1,v2,m2,rfl,h2,rfl⟩:=hx;simp only [RV,RTy] at h2; subst h2;split at h
  ·rename_i len elem cs hu;simp only [RV] at h1; obtain ⟨cs',rfl,hc⟩:=h1;obtain ⟨y,u,hk,hv,hr⟩:=qy4 hu h hc;exact fin2 ⟨y,u,hk,hv,hr⟩
  ·rename_i o s hu;simp only [RV,RTy] at h1; subst h1;obtain ⟨b,hb',hk⟩:=qh.1 h;obtain ⟨h0,hi⟩:=qnq hb';refine fin2 ⟨_,.val (.int .u8 b.toNat),hk,?_,by simp [RV,RTy]⟩;simp only [qnH,hu];rw [if_pos h0];have key:∀ j:Nat,s[j]? = some b->(⟨s.toArray⟩:ByteArray)[j]? = some b:=λj hj=>by
    have hlt:=(qq.1 hj).1;rw [getElem?_pos (⟨s.toArray⟩:ByteArray) j (by simpa [ByteArray.size] using hlt)];have:=(qq.1 hj).2;simp only [qe];rw [<- this];rfl
   rw [key _ hi];rfl
  ·cases h
 ·simp only [RVL] at hx; obtain ⟨v,m,rfl,h1,rfl⟩:=hx;simp only [RV] at h1; obtain ⟨l',rfl,hl⟩:=h1;exact fin h λz hz=>hl.get hz
 ·exact fin2 (quY hx h)
 ·cases h
end Go.Tx
end
