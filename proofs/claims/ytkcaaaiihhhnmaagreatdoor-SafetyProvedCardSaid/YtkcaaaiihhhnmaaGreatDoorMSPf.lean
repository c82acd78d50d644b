/-
  ONE LAW OF A CHAPTER: its program side is run by an interpreter that is proved sound; what it computes is shown to be what the law says. No conditions. Part 6 of 6.
-/
import Derived.Test.YtkcaaaiihhhnmaaGreatDoorMSPe
import Derived.Test.YtkcaaaiihhhnmaaGreatDoorProg
import Derived.Lib.TrailingZeros
import Derived.KernelRfl
import Derived.Test.YtkcaaaiihhhnmaaGreatDoorTie
import Derived.Test.YtkcaaaiihhhnmaaGreatDoorCards
import Derived.Lay
import Derived.SevenTiedAt
set_option linter.unusedSimpArgs false
set_option linter.unusedVariables false
set_option linter.unnecessarySimpa false
section
namespace Go.Tx
open Go
section
variable {α β ρ τ:Type}
theorem qaQ {l:List α} {i:Nat} {a:α} (h:l[i]? = some a):i < l.length:=(List.getElem?_eq_some_iff.1 h).1
theorem qaO (l:List α) (K:Int->Option (Int ⊕ (Unit ⊕ ρ))) (g:Nat->α->Option ρ) (h:∀ (i:Nat) (a:α),l[i]? = some a->K i = some (stp i (g i a))) :
  qH (λs=>bif decide (s < (l.length:Int)) then K s else some (.inr (.inl ()))) 0 = some (qxX (qa4 g 0 l)):=by
 refine qxM l g (λi a hi=>?_) ?_
 ·have:=qaQ hi;have e:decide ((i:Int) < (l.length:Int)) = true:=by simp <;> omega
  simp only [e,cond_true];exact h i a hi
 ·simp
theorem q3 {o:Option ρ} {k:Unit->Option ρ}:(some (qxX o)).bind (Sum.elim k some) = (match o with
  | some r=>some r
  | none=>k ()):=by cases o <;> rfl
theorem qbe {g:Nat->α->Option ρ}:∀ {l:List α} {k:Nat},qa4 g k l = none ↔ ∀ i a,l[i]? = some a->g (k + i) a = none
 | [],k=>by simp [qa4]
 | a :: l,k=>by
  simp only [qa4];cases hg:g k a with
  | some r =>
   simp only [reduceCtorEq,false_iff];intro h;have:=h 0 a rfl;simp [hg] at this
  | none =>
   simp only
   rw [qbe (l:=l) (k:=k + 1)];constructor
   ·intro h i b hb;cases i with
    | zero=>simp at hb; subst hb; simpa using hg
    | succ i=>have:=h i b (by simpa using hb); rw [<- this]; congr 1; omega
   ·intro h i b hb;have:=h (i + 1) b (by simpa using hb);rw [<- this]; congr 1; omega
theorem qaH {g:Nat->α->Option ρ} {r:ρ}:∀ {l:List α} {k:Nat},qa4 g k l = some r->∃ i a,l[i]? = some a/\g (k + i) a = some r/\∀ j b,j < i->l[j]? = some b->g (k + j) b = none
 | [],k,h=>by simp [qa4] at h
 | a :: l,k,h=>by
  simp only [qa4] at h;cases hg:g k a with
  | some r' =>
   rw [hg] at h;simp only [qb] at h;subst h;exact ⟨0,a,rfl,by simpa using hg,λj b hj=>by omega⟩
  | none =>
   rw [hg] at h;obtain ⟨i,b,h1,h2,h3⟩:=qaH (l:=l) (k:=k + 1) h;refine ⟨i + 1,b,by simpa using h1,by rw [<- h2]; congr 1; omega,λj c hj hc=>?_⟩;cases j with
   | zero=>simp at hc; subst hc; simpa using hg
   | succ j=>have:=h3 j c (by omega) (by simpa using hc); rw [<- this]; congr 1; omega
theorem qwX (l:List α) (pf:α->Option Bool) (p:α->Bool) (h:∀ x ∈ l,pf x = some (p x)) (hl:l.length<=1000000000) :
  ((qH (λ(s2:Int) =>
   bif decide (s2 < (l.length:Int)) then
    (idx l s2).bind λx3 =>
    (pf x3).bind λx4 =>
    bif x4 then
     some (.inr (.inr s2))
    else
     some (.inl (IntKind.wrap .i64 (s2 + 1)))
   else
    some (.inr (.inl ()))) 0).bind (Sum.elim (λ(p5:Unit) =>
  some (-1)) some)).bind (λx1=>some (decide (x1>=0))) = some (l.any p):=by
 rw [qaO l _ (λi a=>if p a then some (i:Int) else none) (λi a hi=>by
  have:=qaQ hi;rw [qV hi];simp only [qa];rw [h a (List.mem_of_getElem? hi)];simp only [qa];cases hp:p a
  ·simp only [cond_false,qf,if_false,stp]; rw [qhg (by omega) (by omega)]
  ·simp [stp]),q3]
 cases hf:qa4 (λi a=>if p a then some (i:Int) else none) 0 l with
 | none =>
  rw [qbe] at hf;have:l.any p = false:=by
   rw [List.any_eq_false];intro x hx;obtain ⟨i,hi⟩:=List.mem_iff_getElem?.1 hx;have:=hf i x hi;simpa using this
  rw [this]; rfl
 | some r =>
  obtain ⟨i,a,h1,h2,_⟩:=qaH hf;have hp:p a = true:=by
   cases hp:p a
   ·simp [hp] at h2
   ·rfl
  have:l.any p = true:=List.any_eq_true.2 ⟨a,List.mem_of_getElem? h1,hp⟩;rw [this];simp only [hp,if_true,qb] at h2;simp only [qa];have:decide (r>=0) = true:=by simp <;> omega
  rw [this]
def qit:List Int->Int
 | []=>0
 | e :: l=>if e = 0 then qit l else e
theorem qpz:∀ (l:List Int) (k:Nat),qa4 (λ_ e=>if e = 0 then none else some e) k l = if qit l = 0 then none else some (qit l)
 | [],k=>rfl
 | e :: l,k=>by
  simp only [qa4,qit];by_cases h:e = 0
  ·simp only [h,if_true]; exact qpz l (k + 1)
  ·simp [h]
theorem qxP (l:List Int) (hl:l.length<=1000000000) :
  (qH (λ(s2:Int) =>
   bif decide (s2 < (l.length:Int)) then
    (idx l s2).bind λx3 =>
    bif !(decide (x3 = 0)) then
     some (.inr (.inr x3))
    else
     some (.inl (IntKind.wrap .i64 (s2 + 1)))
   else
    some (.inr (.inl ()))) 0).bind (Sum.elim (λ(p4:Unit)=>some 0) some) = some (qit l):=by
 rw [qaO l _ (λ_ e=>if e = 0 then none else some e) (λi a hi=>by
  have:=qaQ hi;rw [qV hi];simp only [qa];by_cases h:a = 0
  ·simp only [h,decide_true,Bool.not_true,cond_false,if_true,stp]; rw [qhg (by omega) (by omega)]
  ·simp [h,stp]),q3,qpz]
 by_cases h:qit l = 0
 ·simp [h]
 ·simp [h]
def qaM (g:Nat->α->Int):Nat->List α->Int × Int
 | _,[]=>(0,0)
 | k,a :: l=>if g k a = 0 then qaM g (k + 1) l else ((k:Int),g k a)
theorem qfP (g:Nat->α->Int):∀ (l:List α) (k:Nat),(match qa4 (λi a=>if g i a = 0 then none else some ((i:Int),g i a)) k l with
  | some r=>some r
  | none=>some (0,0)) = some (qaM g k l)
 | [],k=>rfl
 | a :: l,k=>by
  simp only [qa4,qaM];by_cases h:g k a = 0
  ·simp only [h,if_true]; exact qfP g l (k + 1)
  ·simp [h]
theorem qu7 (l:List α) (cb:Int->α->Option Int) (g:Nat->α->Int) (h:∀ (i:Nat) a,l[i]? = some a->cb i a = some (g i a)) (hl:l.length<=1000000000) :
  (qH (λ(s2:Int) =>
   bif decide (s2 < (l.length:Int)) then
    (idx l s2).bind λx3 =>
    (cb s2 x3).bind λx4 =>
    bif !(decide (x4 = 0)) then
     some (.inr (.inr (s2,x4)))
    else
     some (.inl (IntKind.wrap .i64 (s2 + 1)))
   else
    some (.inr (.inl ()))) 0).bind (Sum.elim (λ(p5:Unit) =>
  some (0,0)) some) = some (qaM g 0 l):=by
 rw [qaO l _ (λi a=>if g i a = 0 then none else some ((i:Int),g i a)) (λi a hi=>by
  have:=qaQ hi;rw [qV hi];simp only [qa];rw [h i a hi];simp only [qa];by_cases h:g i a = 0
  ·simp only [h,decide_true,Bool.not_true,cond_false,if_true,stp]; rw [qhg (by omega) (by omega)]
  ·simp [h,stp]),q3,<- qfP g l 0]
 cases qa4 (λi a=>if g i a = 0 then none else some ((i:Int),g i a)) 0 l <;> rfl
theorem qbZ {g:Nat->α->Int}:∀ {l:List α} {k:Nat},(qaM g k l).2 = 0 ↔ ∀ i a,l[i]? = some a->g (k + i) a = 0
 | [],k=>by simp [qaM]
 | a :: l,k=>by
  simp only [qaM];by_cases h:g k a = 0
  ·rw [if_pos h,qbZ];constructor
   ·intro hh i b hb;cases i with
    | zero=>simp at hb; subst hb; simpa using h
    | succ i=>have:=hh i b (by simpa using hb); rw [<- this]; congr 1; omega
   ·intro hh i b hb;have:=hh (i + 1) b (by simpa using hb);rw [<- this]; congr 1; omega
  ·rw [if_neg h];constructor
   ·intro hh; exact absurd hh h
   ·intro hh; exact absurd (by simpa using hh 0 a rfl) h
end
end Go.Tx
end
section
namespace Go.Tx
open Go
end Go.Tx
end
section
namespace Go.Tx
open Go
section
variable {α:Type}
end
end Go.Tx
end
section
namespace Go.Tx
open Go
section
variable {α β:Type}
def mkL (n:Nat) (f:Nat->α):List α:=(List.range n).map f
theorem qAT (n:Nat) (f:Nat->α):(mkL n f).length = n:=by simp [mkL]
theorem qA0 {n:Nat} (f:Nat->α) {k:Nat} (h:k < n):(mkL n f)[k]? = some (f k):=by simp [mkL,h]
theorem qua (l:List α) (d:α):l = mkL l.length λk=>l.getD k d:=by
 apply List.ext_getElem?;intro k;by_cases h:k < l.length
 ·rw [qA0 _ h]; simp [h]
 ·rw [List.getElem?_eq_none (by omega),List.getElem?_eq_none (by rw [qAT]; omega)]
theorem qAY {K:List β × Int->Option ((List β × Int) ⊕ List β)} (l:List α) (f:α->β)
  (h:∀ (i:Nat) a out,l[i]? = some a->out.length = i->K (out,(i:Int)) = some (.inl (out ++ [f a],(i:Int) + 1))) (he:∀ out,out.length = l.length->K (out,(l.length:Int)) = some (.inr out)):qH K ([],0) = some (l.map f):=by
 refine Ok.eq (qdl l.length (λi (s:List β × Int)=>s = ((l.take i).map f,(i:Int))) (λr=>r = l.map f) (by simp) ?_);rintro i s hi rfl;by_cases hlt:i < l.length
 ·have ha:l[i]? = some l[i]:=by simp [hlt]
  rw [h i _ _ ha (by simp; omega),qaz];refine ⟨hlt,?_⟩;have e:(l.take (i + 1)).map f = (l.take i).map f ++ [f l[i]]:=by rw [List.take_add_one,ha]; simp only [List.map_append,Option.toList_some,List.map_cons,List.map_nil]
  rw [e]; rfl
 ·have:i = l.length:=by omega
  subst this;rw [he _ (by simp),qa1];simp
end
end Go.Tx
end
section
set_option maxRecDepth 100000
namespace Go.Proofs.YtkcaaaiihhhnmaaGreatDoor
open Go Go.Ab Go.Tx
noncomputable section
@[reducible] def I:Ty:=.int .i64
@[reducible] def w64 (n:Int):Int:=IntKind.wrap .i64 n
def qqv:List (List Tmp × FuncId × Kind × Join)->List Tmp->FuncId->Kind->Option Join
 | [],_,_,_=>none
 | (c,f,k,j) :: l,c',f',k'=>if f = f' then (if k = k' then (if c = c' then some j else qqv l c' f' k') else qqv l c' f' k') else qqv l c' f' k'
def qq0:Nat:=7
def qCC:Nat:=121
def qco (js:List (List Tmp × FuncId × Kind × Join)) (inl:List (List Tmp × FuncId × Tmp)):TH where
 lib:=λg=>decide (g = qq0) || decide (g = qCC)
 join:=qqv js
 inl:=λc f d=>inl.any λ(c',f',d')=>decide (f = f') && decide (d = d') && decide (c = c')
def qR (n:Int):Option Int:=if 0<=n/\n < 18446744073709551616 then some (Lib.ctz 64 n.toNat:Nat) else none
def Lb:FuncId->Option (List V->Option V):=λg=>if g = qq0 then some (λargs=>match args with
  | []=>some (.val (.bool true))
  | _=>none) else if g = qCC then some (λargs=>match args with
  | [.val (.int .u64 n)]=>(qR n).map λr=>.val (.int .i64 r)
  | _=>none) else none
theorem hJ {js:List (List Tmp × FuncId × Kind × Join)} {inl:List (List Tmp × FuncId × Tmp)}:∀ g,(qco js inl).lib g = false->Lb g = none:=λg h=>by
 simp only [qco,Bool.or_eq_false_iff,decide_eq_false_iff_not] at h;simp [Lb,h.1,h.2]
def KT (e:Entry) (j:TH) (l:List Entry) (n:Nat):Prop:=∀ x:denP e.ps,fnT Tryz.prog Hn.hints j (qoP l) n e.g (qeg e.ps x) e.rs = e.F x
abbrev OT (e:Entry):Prop:=qbt Tryz.prog Hn.hints Lb e
theorem entK {e:Entry} {j:TH} {l:List Entry} {n:Nat} (h:TOk Tryz.prog Hn.hints Lb (qoP l)) (hj:∀ g,j.lib g = false->Lb g = none) (k:KT e j l n):OT e:=qcL h hj n e.g e.ps e.rs e.F k
abbrev gT:Ty:=.pair I (.pair I .unit)
def qi2:Option Bool:=some true
def qcO:Entry:=⟨7,[],[(.bool,0)],λ_=>qi2⟩
theorem qq7:qbt Tryz.prog Hn.hints Lb qcO:=λx y h vs hv=>by
 obtain rfl:true = y:=Option.some.inj h;simp only [qcO,qeg,RVL] at hv;subst hv;refine ⟨.val (.bool true),⟨1,λm hm=>?_⟩,by simp [qnS,qcO,ofL,qbO,ofTy,RV,RTy]⟩;obtain ⟨m',rfl⟩:∃ m',m = m' + 1:=⟨m - 1,by omega⟩
 simp [qsb,Lb,qq0,qcO]
def q9:Entry:=⟨121,[.ty (.int .u64)],[(I,0)],λx=>qR x⟩
theorem qfq:qbt Tryz.prog Hn.hints Lb q9:=λx y h vs hv=>by
 simp only [q9] at h hv x y;simp only [qeg,qBO,ofTy,RVL,RV,RTy] at hv;obtain ⟨v,l,rfl,rfl,rfl⟩:=hv;refine ⟨.val (.int .i64 y),⟨1,λm hm=>?_⟩,by simp [qnS,q9,ofL,qbO,ofTy,RV,RTy]⟩;obtain ⟨m',rfl⟩:∃ m',m = m' + 1:=⟨m - 1,by omega⟩
 simp [qsb,Lb,qq0,qCC,q9,h]
def qds (a0:((List Int) × (List Int) × Unit)):Option Bool :=
 (bif decide ((a0.1.length:Int)<=10) then
   some (decide ((a0.2.1.length:Int)<=10))
  else
   some false).bind λ(p1:Bool) =>
 some p1
def qgw:Entry:=⟨50,[.ty (.pair (.sl I) (.pair (.sl I) .unit))],[(.bool,0)],λx=>qds x⟩
def qqY:TH:=qco [([],50,.region 1,{ lv:=[⟨none,2,0⟩],ps:=[(.bool,0)],D:=⟨8188⟩,rs:=[⟨0,1⟩],Dn:=⟨7924⟩ })] []
theorem qq6:KT qgw qqY [] 40:=λx=>by kernel_rfl
theorem qpX:OT qgw:=entK qo hJ qq6
def qjv (a0:((List (List UInt8)) × (List ((List UInt8) × (List Int) × (List Int) × (List Int) × (List Int) × Unit)) × (List ((List Int) × (List Int) × Unit)) × Unit)):Option Bool :=
 (bif decide ((a0.1.length:Int) > 10) then
   some true
  else
   bif decide ((a0.2.1.length:Int) > 12) then
    some true
   else
    some (decide ((a0.2.2.1.length:Int) > 6))).bind λ(p1:Bool) =>
 bif p1 then
  some false
 else
  (qH (λ(s3:Int) =>
    bif decide (s3 < (a0.1.length:Int)) then
     (idx a0.1 s3).bind λx4 =>
     bif decide ((x4.length:Int) > 30) then
      some (.inr (.inr false))
     else
      some (.inl (w64 (s3 + 1)))
    else
     some (.inr (.inl ()))) 0).bind (Sum.elim (λ(p5:Unit) =>
  (qH (λ(s7:Int) =>
    bif decide (s7 < (a0.2.1.length:Int)) then
     ((idx a0.2.1 s7).bind λx8 =>
      bif decide ((x8.1.length:Int) > 30) then
       some true
      else
       (idx a0.2.1 s7).bind λx9 =>
       (qds (x9.2.1,x9.2.2.1,())).bind λx10 =>
       bif !x10 then
        some true
       else
        (idx a0.2.1 s7).bind λx11 =>
        (qds (x11.2.2.2.1,x11.2.2.2.2.1,())).bind λx12 =>
        some (!x12)).bind λ(p13:Bool) =>
     bif p13 then
      some (.inr (.inr false))
     else
      some (.inl (w64 (s7 + 1)))
    else
     some (.inr (.inl ()))) 0).bind (Sum.elim (λ(p14:Unit) =>
  (qH (λ(s16:Int) =>
    bif decide (s16 < (a0.2.2.1.length:Int)) then
     (idx a0.2.2.1 s16).bind λx17 =>
     (qds x17).bind λx18 =>
     bif !x18 then
      some (.inr (.inr false))
     else
      some (.inl (w64 (s16 + 1)))
    else
     some (.inr (.inl ()))) 0).bind (Sum.elim (λ(p19:Unit) =>
  some true) some)) some)) some)
def qiU:Entry:=⟨8,[.ty (.pair (.sl .str) (.pair (.sl (.pair .str (.pair (.sl I) (.pair (.sl I) (.pair (.sl I) (.pair (.sl I) .unit)))))) (.pair (.sl (.pair (.sl I) (.pair (.sl I) .unit))) .unit)))],[(.bool,0)],λx=>qjv x⟩
def qtE:TH:=qco [([],8,.region 1,{ lv:=[⟨none,21,0⟩],ps:=[(.bool,0)],D:=⟨4194240⟩,rs:=[⟨0,1⟩],Dn:=⟨4061056⟩ }),
 ([],8,.block 0,{ lv:=[],ps:=[],abn:=true,D:=⟨68715282440⟩,rs:=[⟨0,1⟩],Dn:=⟨68706893832⟩ }),
 ([],8,.loop 0,{ lv:=[⟨none,3,0⟩],ps:=[(I,0)],D:=⟨68715282440⟩,rs:=[⟨0,1⟩],Dn:=⟨68170022920⟩ }),
 ([],8,.block 2,{ lv:=[],ps:=[],abn:=true,D:=⟨2361183241366103130128⟩,rs:=[⟨0,1⟩],Dn:=⟨2361183241228664176656⟩ }),
 ([],8,.loop 2,{ lv:=[⟨none,4,0⟩],ps:=[(I,0)],D:=⟨2361183241366103130128⟩,rs:=[⟨0,1⟩],Dn:=⟨2356567042814516396048⟩ }),
 ([],8,.region 11,{ lv:=[⟨none,70,0⟩],ps:=[(.bool,0)],D:=⟨2361183232638729584640⟩,rs:=[⟨0,1⟩],Dn:=⟨2356567034224581804032⟩ }),
 ([],8,.block 4,{ lv:=[],ps:=[],abn:=true,D:=⟨38683265044426698767990816⟩,rs:=[⟨0,1⟩],Dn:=⟨38678542677943829122777120⟩ }),
 ([],8,.loop 4,{ lv:=[⟨none,5,0⟩],ps:=[(I,0)],D:=⟨38683265044426698767990816⟩,rs:=[⟨0,1⟩],Dn:=⟨38376311223040171829100576⟩ })] []
theorem qs4:KT qiU qtE [qgw] 40:=λx=>by kernel_rfl
theorem qtM:OT qiU:=entK (qg qpX qo) hJ qs4
def qeQ (a0:Int) (a1:Int) (a2:Int):Option Bool :=
 (bif decide (a1<=a0) then
   some (decide (a0<=a2))
  else
   some false).bind λ(p1:Bool) =>
 some p1
def qei:Entry:=⟨9,[.ty I,.ty I,.ty I],[(.bool,0)],λx=>qeQ x.1 x.2.1 x.2.2⟩
def qpY:TH:=qco [([],9,.region 1,{ lv:=[⟨none,6,0⟩],ps:=[(.bool,0)],D:=⟨32704⟩ })] []
theorem qqW:KT qei qpY [] 40:=λx=>by kernel_rfl
theorem qj7:OT qei:=entK qo hJ qqW
def qfr (a0:(List (List UInt8))):Option (List (List UInt8)) :=
 (app [] a0).bind λx1 =>
 some x1
def qdY:Entry:=⟨54,[.ty (.sl .str)],[((.sl .str),1)],λx=>qfr x⟩
def qlU:TH:=qco [] []
theorem qlR:KT qdY qlU [] 40:=λx=>by kernel_rfl
theorem qlQ:OT qdY:=entK qo hJ qlR
def qb5 (a0:(List Int)):Option (List Int) :=
 (app [] a0).bind λx1 =>
 some x1
def qc1:Entry:=⟨21,[.ty (.sl I)],[((.sl I),1)],λx=>qb5 x⟩
def qnc:TH:=qco [] []
theorem qoq:KT qc1 qnc [] 40:=λx=>by kernel_rfl
theorem qgY:OT qc1:=entK qo hJ qoq
def qaC (a0:((List Int) × (List Int) × Unit)):Option ((List Int) × (List Int) × Unit) :=
 (qb5 a0.1).bind λx1 =>
 (qb5 a0.2.1).bind λx2 =>
 some (x1,x2,())
def qd0:Entry:=⟨55,[.ty (.pair (.sl I) (.pair (.sl I) .unit))],[((.pair (.sl I) (.pair (.sl I) .unit)),1)],λx=>qaC x⟩
def qlV:TH:=qco [] []
theorem ql4:KT qd0 qlV [qc1] 40:=λx=>by kernel_rfl
theorem qlD:OT qd0:=entK (qg qgY qo) hJ ql4
def qbB (a0:((List (List UInt8)) × (List ((List UInt8) × (List Int) × (List Int) × (List Int) × (List Int) × Unit)) × (List ((List Int) × (List Int) × Unit)) × Unit)):Option ((List (List UInt8)) × (List ((List UInt8) × (List Int) × (List Int) × (List Int) × (List Int) × Unit)) × (List ((List Int) × (List Int) × Unit)) × Unit) :=
 (qfr a0.1).bind λx1 =>
 (qH (λ(s4:(Int × (List (List UInt8)) × (List ((List UInt8) × (List Int) × (List Int) × (List Int) × (List Int) × Unit)) × (List ((List Int) × (List Int) × Unit)))) =>
   bif decide (s4.1 < (a0.2.1.length:Int)) then
    (idx a0.2.1 s4.1).bind λx5 =>
    (idx a0.2.1 s4.1).bind λx6 =>
    (qaC (x6.2.1,x6.2.2.1,())).bind λx7 =>
    (idx a0.2.1 s4.1).bind λx8 =>
    (qaC (x8.2.2.2.1,x8.2.2.2.2.1,())).bind λx9 =>
    (app s4.2.2.1 ([(x5.1,x7.1,x7.2.1,x9.1,x9.2.1,())])).bind λx10 =>
    some (.inl (w64 (s4.1 + 1),s4.2.1,x10,s4.2.2.2))
   else
    some (.inr (s4.2.1,s4.2.2.1,s4.2.2.2))) (0,x1,[],[])).bind λ(p11:((List (List UInt8)) × (List ((List UInt8) × (List Int) × (List Int) × (List Int) × (List Int) × Unit)) × (List ((List Int) × (List Int) × Unit)))) =>
 (qH (λ(s13:(Int × (List (List UInt8)) × (List ((List UInt8) × (List Int) × (List Int) × (List Int) × (List Int) × Unit)) × (List ((List Int) × (List Int) × Unit)))) =>
   bif decide (s13.1 < (a0.2.2.1.length:Int)) then
    (idx a0.2.2.1 s13.1).bind λx14 =>
    (qaC x14).bind λx15 =>
    (app s13.2.2.2 ([x15])).bind λx16 =>
    some (.inl (w64 (s13.1 + 1),s13.2.1,s13.2.2.1,x16))
   else
    some (.inr (s13.2.1,s13.2.2.1,s13.2.2.2))) (0,p11.1,p11.2.1,p11.2.2)).bind λ(p17:((List (List UInt8)) × (List ((List UInt8) × (List Int) × (List Int) × (List Int) × (List Int) × Unit)) × (List ((List Int) × (List Int) × Unit)))) =>
 some (p17.1,p17.2.1,p17.2.2,())
def qdL:Entry:=⟨11,[.ty (.pair (.sl .str) (.pair (.sl (.pair .str (.pair (.sl I) (.pair (.sl I) (.pair (.sl I) (.pair (.sl I) .unit)))))) (.pair (.sl (.pair (.sl I) (.pair (.sl I) .unit))) .unit)))],[((.pair (.sl .str) (.pair (.sl (.pair .str (.pair (.sl I) (.pair (.sl I) (.pair (.sl I) (.pair (.sl I) .unit)))))) (.pair (.sl (.pair (.sl I) (.pair (.sl I) .unit))) .unit))),0)],λx=>qbB x⟩
def qsu:TH:=qco [([],11,.block 0,{ lv:=[⟨some 0,3,0⟩,⟨some 0,3,1⟩,⟨some 0,3,2⟩],ps:=[((.sl .str),1),((.sl (.pair .str (.pair (.sl I) (.pair (.sl I) (.pair (.sl I) (.pair (.sl I) .unit)))))),2),((.sl (.pair (.sl I) (.pair (.sl I) .unit))),1)],D:=⟨8796093021200⟩,wr:=[⟨0,3⟩],rs:=[⟨0,1⟩],Dn:=⟨8796093019152⟩ }),
 ([],11,.loop 0,{ lv:=[⟨none,4,0⟩,⟨some 0,3,0⟩,⟨some 0,3,1⟩,⟨some 0,3,2⟩],ps:=[(I,0),((.sl .str),1),((.sl (.pair .str (.pair (.sl I) (.pair (.sl I) (.pair (.sl I) (.pair (.sl I) .unit)))))),2),((.sl (.pair (.sl I) (.pair (.sl I) .unit))),1)],D:=⟨8796093021200⟩,wr:=[⟨0,3⟩],rs:=[⟨0,1⟩,⟨0,3⟩],Dn:=⟨4393717330960⟩ }),
 ([],11,.block 2,{ lv:=[⟨some 0,3,0⟩,⟨some 0,3,1⟩,⟨some 0,3,2⟩],ps:=[((.sl .str),1),((.sl (.pair .str (.pair (.sl I) (.pair (.sl I) (.pair (.sl I) (.pair (.sl I) .unit)))))),2),((.sl (.pair (.sl I) (.pair (.sl I) .unit))),2001)],D:=⟨2305834213120671776⟩,wr:=[⟨0,3⟩],rs:=[⟨0,1⟩],Dn:=⟨2305816620934627360⟩ }),
 ([],11,.loop 2,{ lv:=[⟨none,5,0⟩,⟨some 0,3,0⟩,⟨some 0,3,1⟩,⟨some 0,3,2⟩],ps:=[(I,0),((.sl .str),1),((.sl (.pair .str (.pair (.sl I) (.pair (.sl I) (.pair (.sl I) (.pair (.sl I) .unit)))))),2),((.sl (.pair (.sl I) (.pair (.sl I) .unit))),2001)],D:=⟨2305834213120671776⟩,wr:=[⟨0,3⟩],rs:=[⟨0,1⟩,⟨0,3⟩],Dn:=⟨1147265616793567264⟩ })] []
theorem qsr:KT qdL qsu [qdY,qd0] 40:=λx=>by kernel_rfl
theorem qgP:OT qdL:=entK (qg qlQ (qg qlD qo)) hJ qsr
def qm (a0:Bool) (a1:Int):Option Int :=
 bif a0 then
  some 0
 else
  some a1
def qz:Entry:=⟨73,[.ty .bool,.ty I],[(I,0)],λx=>qm x.1 x.2⟩
def qex:TH:=qco [] []
theorem qeD:KT qz qex [] 40:=λx=>by kernel_rfl
theorem q8:OT qz:=entK qo hJ qeD
def qy (a0:(List Int)):Option Int :=
 (qH (λ(s2:Int) =>
   bif decide (s2 < (a0.length:Int)) then
    (idx a0 s2).bind λx3 =>
    bif !(decide (x3 = 0)) then
     some (.inr (.inr x3))
    else
     some (.inl (w64 (s2 + 1)))
   else
    some (.inr (.inl ()))) 0).bind (Sum.elim (λ(p4:Unit) =>
 some 0) some)
def qI:Entry:=⟨72,[.ty (.sl I)],[(I,0)],λx=>qy x⟩
def qfb:TH:=qco [([],72,.block 0,{ lv:=[],ps:=[],abn:=true,D:=⟨32656⟩ }),
 ([],72,.loop 0,{ lv:=[⟨none,7,0⟩],ps:=[(I,0)],D:=⟨32656⟩ })] []
theorem qfe:KT qI qfb [] 40:=λx=>by kernel_rfl
theorem qaA:OT qI:=entK qo hJ qfe
def qt (a0:Int) (a1:Int) (a2:Int):Option Bool :=
 (bif decide (a1<=a0) then
   some (decide (a0<=a2))
  else
   some false).bind λ(p1:Bool) =>
 some p1
def qx:Entry:=⟨74,[.ty I,.ty I,.ty I],[(.bool,0)],λx=>qt x.1 x.2.1 x.2.2⟩
def qer:TH:=qco [([],74,.region 1,{ lv:=[⟨none,6,0⟩],ps:=[(.bool,0)],D:=⟨32704⟩ })] []
theorem qeK:KT qx qer [] 40:=λx=>by kernel_rfl
theorem q7:OT qx:=entK qo hJ qeK
def qbv (a0:(List UInt8)):Option Bool :=
 (qH (λ(s2:Int) =>
   bif decide (s2 < (a0.length:Int)) then
    (idx a0 s2).bind λx3 =>
    ((qt (w64 ((x3.toNat:Int))) (97:Int) (122:Int)).bind λx4 =>
     bif x4 then
      some true
     else
      (qt (w64 ((x3.toNat:Int))) (65:Int) (90:Int)).bind λx5 =>
      some x5).bind λ(p6:Bool) =>
    (bif !p6 then
      bif decide (s2 = 0) then
       some true
      else
       bif !(decide (w64 ((x3.toNat:Int)) = 45)) then
        (qt (w64 ((x3.toNat:Int))) (48:Int) (57:Int)).bind λx7 =>
        some (!x7)
       else
        some false
     else
      some false).bind λ(p8:Bool) =>
    bif p8 then
     some (.inr (.inr false))
    else
     some (.inl (w64 (s2 + 1)))
   else
    some (.inr (.inl ()))) 0).bind (Sum.elim (λ(p9:Unit) =>
 (qt (a0.length:Int) (1:Int) (12:Int)).bind λx10 =>
 some x10) some)
def qeR:Entry:=⟨156,[.ty .str],[(.bool,0)],λx=>qbv x⟩
def qm8:TH:=qco [([],156,.block 0,{ lv:=[],ps:=[],abn:=true,D:=⟨137438953272⟩ }),
 ([],156,.loop 0,{ lv:=[⟨none,8,0⟩],ps:=[(I,0)],D:=⟨137438953272⟩ }),
 ([],156,.region 5,{ lv:=[⟨none,5,0⟩],ps:=[(.bool,0)],D:=⟨2064416⟩ }),
 ([],156,.region 6,{ lv:=[⟨none,35,0⟩],ps:=[(.bool,0)],D:=⟨68717379584⟩ })] []
theorem qnm:KT qeR qm8 [qx] 40:=λx=>by kernel_rfl
theorem qnN:OT qeR:=entK (qg q7 qo) hJ qnm
def qbL (a0:(List Int)) (a1:Int):Option Int :=
 (qH (λ(s2:Int) =>
   bif decide (s2 < (a0.length:Int)) then
    (idx a0 s2).bind λx3 =>
    bif decide (a1 = x3) then
     some (.inr (.inr s2))
    else
     some (.inl (w64 (s2 + 1)))
   else
    some (.inr (.inl ()))) 0).bind (Sum.elim (λ(p4:Unit) =>
 some (-1)) some)
def qbp:Entry:=⟨221,[.ty (.sl I),.ty I],[(I,0)],λx=>qbL x.1 x.2⟩
def qga:TH:=qco [([],221,.block 0,{ lv:=[],ps:=[],abn:=true,D:=⟨524064⟩ }),
 ([],221,.loop 0,{ lv:=[⟨none,8,0⟩],ps:=[(I,0)],D:=⟨524064⟩ })] []
theorem qf7:KT qbp qga [] 40:=λx=>by kernel_rfl
theorem qgr:OT qbp:=entK qo hJ qf7
def qac (a0:(List Int)) (a1:Int):Option Bool :=
 (qbL a0 a1).bind λx1 =>
 some (decide (x1>=0))
def qaR:Entry:=⟨193,[.ty (.sl I),.ty I],[(.bool,0)],λx=>qac x.1 x.2⟩
def qeT:TH:=qco [] []
theorem qeV:KT qaR qeT [qbp] 40:=λx=>by kernel_rfl
theorem qeU:OT qaR:=entK (qg qgr qo) hJ qeV
def qbb (a0:(List Int)) (a1:Int):Option Int :=
 ((qH (λ(s2:(Int × Int)) =>
    bif decide (s2.1 < (a0.length:Int)) then
     (idx a0 s2.1).bind λx3 =>
     (qt x3 (0:Int) (w64 (a1 - 1))).bind λx4 =>
     (qm x4 (6:Int)).bind λx5 =>
     (qm (decide (x3 > s2.2)) (9:Int)).bind λx6 =>
     (qy ([x5,x6])).bind λx7 =>
     bif !(decide (x7 = 0)) then
      some (.inr (.inr (s2.1,x7,x3)))
     else
      some (.inl (w64 (s2.1 + 1),x3))
    else
     some (.inr (.inl s2.2))) (0,(-1))).bind (Sum.elim (λ(p8:Int) =>
  some (0,0,p8)) some)).bind λ(p9:(Int × Int × Int)) =>
 some p9.2.1
def qcz:Entry:=⟨194,[.ty (.sl I),.ty I],[(I,0)],λx=>qbb x.1 x.2⟩
def qiS:TH:=qco [([11],70,.inl 0,{ lv:=[⟨none,4,0⟩,⟨none,5,0⟩,⟨some 0,5,0⟩],ps:=[(I,0),(I,0),(I,0)],D:=⟨33554416⟩,wr:=[⟨0,5⟩],rs:=[⟨0,3⟩,⟨0,5⟩],Dn:=⟨33488880⟩ }),
 ([11],70,.block 0,{ lv:=[⟨some 0,5,0⟩],ps:=[(I,0)],abn:=true,D:=⟨33552832⟩,wr:=[⟨0,5⟩] }),
 ([11],70,.loop 0,{ lv:=[⟨none,11,0⟩,⟨some 0,5,0⟩],ps:=[(I,0),(I,0)],D:=⟨33552832⟩,wr:=[⟨0,5⟩],rs:=[⟨0,3⟩,⟨0,5⟩],Dn:=⟨33487296⟩ })] []
theorem qiV:KT qcz qiS [qI,qz,qx] 40:=λx=>by kernel_rfl
theorem qiz:OT qcz:=entK (qg qaA (qg q8 (qg q7 qo))) hJ qiV
def qaB (a0:((List Int) × (List Int) × Unit)) (a1:Int):Option Int :=
 ((qH (λ(s2:Int) =>
    bif decide (s2 < (a0.1.length:Int)) then
     (idx a0.1 s2).bind λx3 =>
     (qac a0.2.1 x3).bind λx4 =>
     bif x4 then
      some (.inr (.inr s2))
     else
      some (.inl (w64 (s2 + 1)))
    else
     some (.inr (.inl ()))) 0).bind (Sum.elim (λ(p5:Unit) =>
  some (-1)) some)).bind λ(p6:Int) =>
 (qbb a0.1 a1).bind λx7 =>
 (qbb a0.2.1 a1).bind λx8 =>
 (qm (!(decide (p6>=0))) (13:Int)).bind λx9 =>
 (qy ([x7,x8,x9])).bind λx10 =>
 some x10
def qd2:Entry:=⟨143,[.ty (.pair (.sl I) (.pair (.sl I) .unit)),.ty I],[(I,0)],λx=>qaB x.1 x.2⟩
def qlM:TH:=qco [([7,9],201,.inl 0,{ lv:=[⟨none,4,0⟩],ps:=[(I,0)],D:=⟨524272⟩,rs:=[⟨0,2⟩],Dn:=⟨522224⟩ }),
 ([7,9],201,.block 0,{ lv:=[],ps:=[],abn:=true,D:=⟨524064⟩ }),
 ([7,9],201,.loop 0,{ lv:=[⟨none,8,0⟩],ps:=[(I,0)],D:=⟨524064⟩,rs:=[⟨0,2⟩],Dn:=⟨522016⟩ })] []
theorem qlE:KT qd2 qlM [qI,qcz,qz,qaR] 40:=λx=>by kernel_rfl
theorem ql3:OT qd2:=entK (qg qaA (qg qiz (qg q8 (qg qeU qo)))) hJ qlE
def qbr (a0:((List (List UInt8)) × (List ((List UInt8) × (List Int) × (List Int) × (List Int) × (List Int) × Unit)) × (List ((List Int) × (List Int) × Unit)) × Unit)):Option (Int × Int) :=
 (bif decide ((a0.1.length:Int)<=8) then
   bif decide ((a0.2.1.length:Int)<=10) then
    some (decide ((a0.2.2.1.length:Int)<=4))
   else
    some false
  else
   some false).bind λ(p1:Bool) =>
 (qm (decide ((a0.1.length:Int) > 0)) (10:Int)).bind λx2 =>
 (qm p1 (8:Int)).bind λx3 =>
 (qy ([x2,x3])).bind λx4 =>
 bif !(decide (x4 = 0)) then
  some (0,x4)
 else
  ((qH (λ(s6:(Int × (List (List UInt8)))) =>
     bif decide (s6.1 < (a0.1.length:Int)) then
      (idx a0.1 s6.1).bind λx7 =>
      (qbv x7).bind λx8 =>
      (qm x8 (4:Int)).bind λx9 =>
      (qm (!(qfS .str s6.2 x7)) (5:Int)).bind λx10 =>
      (qy ([x9,x10])).bind λx11 =>
      bif !(decide (x11 = 0)) then
       some (.inr (.inr (s6.1,x11,qjK .str s6.2 x7)))
      else
       some (.inl (w64 (s6.1 + 1),qjK .str s6.2 x7))
     else
      some (.inr (.inl s6.2))) (0,[])).bind (Sum.elim (λ(p12:(List (List UInt8))) =>
   some (0,0,p12)) some)).bind λ(p13:(Int × Int × (List (List UInt8)))) =>
  bif !(decide (p13.2.1 = 0)) then
   some (p13.1,p13.2.1)
  else
   ((qH (λ(s15:(Int × (List (List UInt8)))) =>
      bif decide (s15.1 < (a0.2.1.length:Int)) then
       (idx a0.2.1 s15.1).bind λx16 =>
       (qbv x16.1).bind λx17 =>
       (qm x17 (4:Int)).bind λx18 =>
       (qm (!(qfS .str s15.2 x16.1)) (5:Int)).bind λx19 =>
       (qy ([x18,x19])).bind λx20 =>
       (qaB (x16.2.1,x16.2.2.1,()) (a0.1.length:Int)).bind λx21 =>
       (qaB (x16.2.2.2.1,x16.2.2.2.2.1,()) (a0.1.length:Int)).bind λx22 =>
       (qy ([x20,x21,x22])).bind λx23 =>
       bif !(decide (x23 = 0)) then
        some (.inr (.inr (s15.1,x23,qjK .str s15.2 x16.1)))
       else
        some (.inl (w64 (s15.1 + 1),qjK .str s15.2 x16.1))
      else
       some (.inr (.inl s15.2))) (0,[])).bind (Sum.elim (λ(p24:(List (List UInt8))) =>
    some (0,0,p24)) some)).bind λ(p25:(Int × Int × (List (List UInt8)))) =>
   bif !(decide (p25.2.1 = 0)) then
    some (p25.1,p25.2.1)
   else
    ((qH (λ(s27:Int) =>
       bif decide (s27 < (a0.2.2.1.length:Int)) then
        (idx a0.2.2.1 s27).bind λx28 =>
        (qaB x28 (a0.1.length:Int)).bind λx29 =>
        bif !(decide (x29 = 0)) then
         some (.inr (.inr (s27,x29)))
        else
         some (.inl (w64 (s27 + 1)))
       else
        some (.inr (.inl ()))) 0).bind (Sum.elim (λ(p30:Unit) =>
     some (0,0)) some)).bind λ(p31:(Int × Int)) =>
    some (p31.1,p31.2)
def qbR:Entry:=⟨88,[.ty (.pair (.sl .str) (.pair (.sl (.pair .str (.pair (.sl I) (.pair (.sl I) (.pair (.sl I) (.pair (.sl I) .unit)))))) (.pair (.sl (.pair (.sl I) (.pair (.sl I) .unit))) .unit)))],[(I,0),(I,0)],λx=>qbr x⟩
def qg6:TH:=qco [([],88,.region 2,{ lv:=[⟨none,5,0⟩],ps:=[(.bool,0)],D:=⟨536838176⟩,rs:=[⟨0,1⟩],Dn:=⟨519798816⟩ }),
 ([44],139,.inl 0,{ lv:=[⟨none,4,0⟩,⟨none,5,0⟩,⟨some 0,16423,0⟩],ps:=[(I,0),(I,0),((.mset .str),0)],D:=⟨33554416⟩,wr:=[⟨0,16423⟩],rs:=[⟨0,7⟩],Dn:=⟨33488880⟩ }),
 ([44],139,.block 0,{ lv:=[⟨some 0,16423,0⟩],ps:=[((.mset .str),0)],abn:=true,D:=⟨33552832⟩,wr:=[⟨0,16423⟩] }),
 ([44],139,.loop 0,{ lv:=[⟨none,11,0⟩,⟨some 0,16423,0⟩],ps:=[(I,0),((.mset .str),0)],D:=⟨33552832⟩,wr:=[⟨0,16423⟩],rs:=[⟨0,7⟩],Dn:=⟨33487296⟩ }),
 ([56],141,.inl 0,{ lv:=[⟨none,4,0⟩,⟨none,5,0⟩,⟨some 0,16435,0⟩],ps:=[(I,0),(I,0),((.mset .str),0)],D:=⟨33554416⟩,wr:=[⟨0,16435⟩,⟨1,7⟩],rs:=[⟨0,4⟩,⟨0,7⟩,⟨1,7⟩],Dn:=⟨33488752⟩ }),
 ([56],141,.block 0,{ lv:=[⟨some 0,16435,0⟩],ps:=[((.mset .str),0)],abn:=true,D:=⟨33552832⟩,wr:=[⟨0,16435⟩,⟨1,7⟩] }),
 ([56],141,.loop 0,{ lv:=[⟨none,11,0⟩,⟨some 0,16435,0⟩],ps:=[(I,0),((.mset .str),0)],D:=⟨33552832⟩,wr:=[⟨0,16435⟩,⟨1,7⟩],rs:=[⟨0,4⟩,⟨0,7⟩,⟨1,7⟩],Dn:=⟨33487168⟩ }),
 ([66],144,.inl 0,{ lv:=[⟨none,4,0⟩,⟨none,5,0⟩],ps:=[(I,0),(I,0)],D:=⟨33554416⟩,wr:=[⟨1,7⟩],rs:=[⟨0,4⟩,⟨1,7⟩],Dn:=⟨33488752⟩ }),
 ([66],144,.block 0,{ lv:=[],ps:=[],abn:=true,D:=⟨33552832⟩,wr:=[⟨1,7⟩] }),
 ([66],144,.loop 0,{ lv:=[⟨none,11,0⟩],ps:=[(I,0)],D:=⟨33552832⟩,wr:=[⟨1,7⟩],rs:=[⟨0,4⟩,⟨1,7⟩],Dn:=⟨33487168⟩ })] []
theorem qgQ:KT qbR qg6 [qI,qeR,qd2,qz] 40:=λx=>by kernel_rfl
theorem qg3:OT qbR:=entK (qg qaA (qg qnN (qg ql3 (qg q8 qo)))) hJ qgQ
def qgZ (a0:(List Int)):Option Int :=
 (qH (λ(s2:(Int × Int)) =>
   bif decide (s2.2 < (a0.length:Int)) then
    (idx a0 s2.2).bind λx3 =>
    (qyU .i64 (1:Int) x3).bind λx4 =>
    some (.inl (orI .i64 s2.1 x4,w64 (s2.2 + 1)))
   else
    some (.inr s2.1)) (0,0)).bind λ(p5:Int) =>
 some p5
def qiM:Entry:=⟨202,[.ty (.sl I)],[(I,0)],λx=>qgZ x⟩
def qtF:TH:=qco [([],202,.block 0,{ lv:=[⟨none,3,0⟩],ps:=[(I,0)],D:=⟨130856⟩ }),
 ([],202,.loop 0,{ lv:=[⟨none,3,0⟩,⟨none,8,0⟩],ps:=[(I,0),(I,0)],D:=⟨130856⟩ })] []
theorem qt3:KT qiM qtF [] 40:=λx=>by kernel_rfl
theorem qsU:OT qiM:=entK qo hJ qt3
def qaD (a0:((List Int) × (List Int) × Unit)):Option (Int × Int × Unit) :=
 (qgZ a0.1).bind λx1 =>
 (qgZ a0.2.1).bind λx2 =>
 some (x1,x2,())
def qdU:Entry:=⟨168,[.ty (.pair (.sl I) (.pair (.sl I) .unit))],[(gT,0)],λx=>qaD x⟩
def qlX:TH:=qco [] []
theorem ql2:KT qdU qlX [qiM] 40:=λx=>by kernel_rfl
theorem qlT:OT qdU:=entK (qg qsU qo) hJ ql2
def qgu (a0:((List (List UInt8)) × (List ((List UInt8) × (List Int) × (List Int) × (List Int) × (List Int) × Unit)) × (List ((List Int) × (List Int) × Unit)) × Unit)):Option (((List (Int × Int × Unit)) × (List (Int × Int × Unit)) × (List (Int × Int × Unit)) × Int × Unit) × Int) :=
 (qbr a0).bind λx1 =>
 bif !(decide (x1.2 = 0)) then
  some (([],[],[],0,()),x1.2)
 else
  (qyU .i64 (1:Int) (a0.1.length:Int)).bind λx2 =>
  (qH (λ(s5:(Int × (List (Int × Int × Unit)) × (List (Int × Int × Unit)) × (List (Int × Int × Unit)) × Int)) =>
    bif decide (s5.1 < (a0.2.1.length:Int)) then
     (idx a0.2.1 s5.1).bind λx6 =>
     (qaD (x6.2.1,x6.2.2.1,())).bind λx7 =>
     (app s5.2.1 ([x7])).bind λx8 =>
     (qaD (x6.2.2.2.1,x6.2.2.2.2.1,())).bind λx9 =>
     (app s5.2.2.1 ([x9])).bind λx10 =>
     some (.inl (w64 (s5.1 + 1),x8,x10,s5.2.2.2.1,s5.2.2.2.2))
    else
     some (.inr (s5.2.1,s5.2.2.1,s5.2.2.2.1,s5.2.2.2.2))) (0,[],[],[],x2)).bind λ(p11:((List (Int × Int × Unit)) × (List (Int × Int × Unit)) × (List (Int × Int × Unit)) × Int)) =>
  (qH (λ(s14:(Int × (List (Int × Int × Unit)) × (List (Int × Int × Unit)) × (List (Int × Int × Unit)) × Int)) =>
    bif decide (s14.1 < (a0.2.2.1.length:Int)) then
     (idx a0.2.2.1 s14.1).bind λx15 =>
     (qaD x15).bind λx16 =>
     (app s14.2.2.2.1 ([x16])).bind λx17 =>
     some (.inl (w64 (s14.1 + 1),s14.2.1,s14.2.2.1,x17,s14.2.2.2.2))
    else
     some (.inr (s14.2.1,s14.2.2.1,s14.2.2.2.1,s14.2.2.2.2))) (0,p11.1,p11.2.1,p11.2.2.1,p11.2.2.2)).bind λ(p18:((List (Int × Int × Unit)) × (List (Int × Int × Unit)) × (List (Int × Int × Unit)) × Int)) =>
  some ((p18.1,p18.2.1,p18.2.2.1,p18.2.2.2,()),0)
def qf0:Entry:=⟨115,[.ty (.pair (.sl .str) (.pair (.sl (.pair .str (.pair (.sl I) (.pair (.sl I) (.pair (.sl I) (.pair (.sl I) .unit)))))) (.pair (.sl (.pair (.sl I) (.pair (.sl I) .unit))) .unit)))],[((.pair (.sl gT) (.pair (.sl gT) (.pair (.sl gT) (.pair I .unit)))),2000),(I,0)],λx=>qgu x⟩
def qqf:TH:=qco [([],115,.block 0,{ lv:=[⟨some 0,6,0⟩,⟨some 0,6,1⟩,⟨some 0,6,2⟩,⟨some 0,6,3⟩],ps:=[((.sl gT),1),((.sl gT),1),((.sl gT),1),(I,0)],D:=⟨562949684987136⟩,wr:=[⟨0,6⟩,⟨0,8⟩] }),
 ([],115,.loop 0,{ lv:=[⟨none,28,0⟩,⟨some 0,6,0⟩,⟨some 0,6,1⟩,⟨some 0,6,2⟩,⟨some 0,6,3⟩],ps:=[(I,0),((.sl gT),1),((.sl gT),1),((.sl gT),1),(I,0)],D:=⟨562949684987136⟩,wr:=[⟨0,6⟩,⟨0,8⟩],rs:=[⟨0,6⟩,⟨0,8⟩],Dn:=⟨349073198547968⟩ }),
 ([],115,.block 2,{ lv:=[⟨some 0,6,0⟩,⟨some 0,6,1⟩,⟨some 0,6,2⟩,⟨some 0,6,3⟩],ps:=[((.sl gT),1),((.sl gT),1),((.sl gT),1),(I,0)],D:=⟨18442240474082182400⟩,wr:=[⟨0,6⟩,⟨0,8⟩,⟨0,10⟩] }),
 ([],115,.loop 2,{ lv:=[⟨none,52,0⟩,⟨some 0,6,0⟩,⟨some 0,6,1⟩,⟨some 0,6,2⟩,⟨some 0,6,3⟩],ps:=[(I,0),((.sl gT),1),((.sl gT),1),((.sl gT),1),(I,0)],D:=⟨18442240474082182400⟩,wr:=[⟨0,6⟩,⟨0,8⟩,⟨0,10⟩],rs:=[⟨0,6⟩,⟨0,10⟩],Dn:=⟨13758496861616865536⟩ })] []
theorem qqp:KT qf0 qqf [qbR,qdU] 40:=λx=>by kernel_rfl
theorem qpT:OT qf0:=entK (qg qg3 (qg qlT qo)) hJ qqp
def qan (a0:((List (List UInt8)) × (List ((List UInt8) × (List Int) × (List Int) × (List Int) × (List Int) × Unit)) × (List ((List Int) × (List Int) × Unit)) × Unit)) (a1:Int):Option (((List (Int × Int × Unit)) × (List (Int × Int × Unit)) × (List (Int × Int × Unit)) × Int × Unit) × Int × Int) :=
 (qgu a0).bind λx1 =>
 (qt a1 (0:Int) (w64 (x1.1.2.2.2.1 - 1))).bind λx2 =>
 (qm x2 (2:Int)).bind λx3 =>
 (qy ([x1.2,x3])).bind λx4 =>
 some (x1.1,a1,x4)
def qah:Entry:=⟨51,[.ty (.pair (.sl .str) (.pair (.sl (.pair .str (.pair (.sl I) (.pair (.sl I) (.pair (.sl I) (.pair (.sl I) .unit)))))) (.pair (.sl (.pair (.sl I) (.pair (.sl I) .unit))) .unit))),.ty I],[((.pair (.sl gT) (.pair (.sl gT) (.pair (.sl gT) (.pair I .unit)))),0),(I,0),(I,0)],λx=>qan x.1 x.2⟩
def qkd:TH:=qco [] []
theorem qju:KT qah qkd [qI,qf0,qz,qx] 40:=λx=>by kernel_rfl
theorem qaX:OT qah:=entK (qg qaA (qg qpT (qg q8 (qg q7 qo)))) hJ qju
def qS (a0:(Int × Int × Unit)) (a1:Int):Option Bool :=
 (bif decide (qq5 .i64 a1 a0.1 = a0.1) then
   some (decide (qq5 .i64 a1 a0.2.1 = 0))
  else
   some false).bind λ(p1:Bool) =>
 some p1
def qay:Entry:=⟨120,[.ty gT,.ty I],[(.bool,0)],λx=>qS x.1 x.2⟩
def qiR:TH:=qco [([],120,.region 1,{ lv:=[⟨none,4,0⟩],ps:=[(.bool,0)],D:=⟨524272⟩,rs:=[⟨0,2⟩],Dn:=⟨507312⟩ })] []
theorem qiy:KT qay qiR [] 40:=λx=>by kernel_rfl
theorem qbw:OT qay:=entK qo hJ qiy
def qw (a0:((List (Int × Int × Unit)) × (List (Int × Int × Unit)) × (List (Int × Int × Unit)) × Int × Unit)) (a1:Int):Option Bool :=
 ((qH (λ(s2:Int) =>
    bif decide (s2 < (a0.2.2.1.length:Int)) then
     (idx a0.2.2.1 s2).bind λx3 =>
     (qS x3 a1).bind λx4 =>
     bif x4 then
      some (.inr (.inr s2))
     else
      some (.inl (w64 (s2 + 1)))
    else
     some (.inr (.inl ()))) 0).bind (Sum.elim (λ(p5:Unit) =>
  some (-1)) some)).bind λ(p6:Int) =>
 some (decide (p6>=0))
def qY:Entry:=⟨58,[.ty (.pair (.sl gT) (.pair (.sl gT) (.pair (.sl gT) (.pair I .unit)))),.ty I],[(.bool,0)],λx=>qw x.1 x.2⟩
def qgb:TH:=qco [([7,8],179,.inl 0,{ lv:=[⟨none,4,0⟩],ps:=[(I,0)],D:=⟨524272⟩,rs:=[⟨0,3⟩],Dn:=⟨522224⟩ }),
 ([7,8],179,.block 0,{ lv:=[],ps:=[],abn:=true,D:=⟨524064⟩ }),
 ([7,8],179,.loop 0,{ lv:=[⟨none,8,0⟩],ps:=[(I,0)],D:=⟨524064⟩,rs:=[⟨0,3⟩],Dn:=⟨522016⟩ })] []
theorem qgn:KT qY qgb [qay] 40:=λx=>by kernel_rfl
theorem qaL:OT qY:=entK (qg qbw qo) hJ qgn
def qam (a0:(Int × Int × Unit)) (a1:Int):Option Int :=
 some (qix .i64 (orI .i64 a1 a0.1) a0.2.1)
def qaZ:Entry:=⟨128,[.ty gT,.ty I],[(I,0)],λx=>qam x.1 x.2⟩
def qj5:TH:=qco [] []
theorem qki:KT qaZ qj5 [] 40:=λx=>by kernel_rfl
theorem qcJ:OT qaZ:=entK qo hJ qki
def qad (a0:((List (Int × Int × Unit)) × (List (Int × Int × Unit)) × (List (Int × Int × Unit)) × Int × Unit)) (a1:Int) (a2:Int):Option (List (Int × Int × Int × Unit)) :=
 (qH (λ(s2:((List (Int × Int × Int × Unit)) × Int × (List Int))) =>
   bif decide (s2.2.1 < (s2.1.length:Int)) then
    ((idx s2.1 s2.2.1).bind λx3 =>
     (qw a0 x3.1).bind λx4 =>
     bif x4 then
      some (s2.1,s2.2.2)
     else
      (idx s2.1 s2.2.1).bind λx5 =>
      ((qH (λ(s7:(Int × (List (Int × Int × Int × Unit)) × (List Int))) =>
         bif decide (s7.1 < (a0.1.length:Int)) then
          (idx a0.1 s7.1).bind λx8 =>
          ((qsQ .i64 a2 s7.1).bind λx9 =>
           bif decide (qq5 .i64 x9 (1:Int) = 0) then
            (qS x8 x5.1).bind λx10 =>
            bif x10 then
             (idx a0.2.1 s7.1).bind λx11 =>
             (qam x11 x5.1).bind λx12 =>
             (bif !(qfS I s7.2.2 x12) then
               (app s7.2.1 ([(x12,s2.2.1,s7.1,())])).bind λx13 =>
               some (x13,qjK I s7.2.2 x12)
              else
               some (s7.2.1,s7.2.2)).bind λ(p14:((List (Int × Int × Int × Unit)) × (List Int))) =>
             some (false,p14.1,p14.2)
            else
             some (false,s7.2.1,s7.2.2)
           else
            some (false,s7.2.1,s7.2.2)).bind λ(p15:(Bool × (List (Int × Int × Int × Unit)) × (List Int))) =>
          bif p15.1 then
           some (.inr (.inr (p15.2.1,p15.2.2)))
          else
           some (.inl (w64 (s7.1 + 1),p15.2.1,p15.2.2))
         else
          some (.inr (.inl (s7.2.1,s7.2.2)))) (0,s2.1,s2.2.2)).bind (Sum.elim (λ(p16:((List (Int × Int × Int × Unit)) × (List Int))) =>
       some (p16.1,p16.2)) some)).bind λ(p17:((List (Int × Int × Int × Unit)) × (List Int))) =>
      some (p17.1,p17.2)).bind λ(p18:((List (Int × Int × Int × Unit)) × (List Int))) =>
    some (.inl (p18.1,w64 (s2.2.1 + 1),p18.2))
   else
    some (.inr s2.1)) ([(a1,(-1),(-1),())],0,qjK I [] a1)).bind λ(p19:(List (Int × Int × Int × Unit))) =>
 some p19
def qaj:Entry:=⟨52,[.ty (.pair (.sl gT) (.pair (.sl gT) (.pair (.sl gT) (.pair I .unit)))),.ty I,.ty I],[((.sl (.pair I gT)),1)],λx=>qad x.1 x.2.1 x.2.2⟩
def qgA:TH:=qco [([],52,.block 0,{ lv:=[⟨some 0,7,0⟩],ps:=[((.sl (.pair I gT)),1)],D:=⟨36028797018705408⟩,wr:=[⟨0,7⟩,⟨0,9⟩,⟨0,16399⟩],rs:=[⟨0,9⟩],Dn:=⟨36028797018704896⟩ }),
 ([],52,.loop 0,{ lv:=[⟨some 0,7,0⟩,⟨some 0,9,0⟩,⟨some 0,16399,0⟩],ps:=[((.sl (.pair I gT)),1),(I,0),((.mset I),0)],D:=⟨36028797018705408⟩,wr:=[⟨0,7⟩,⟨0,9⟩,⟨0,16399⟩],rs:=[⟨0,9⟩],Dn:=⟨36028797018704896⟩,kp:=[(9,⟨0,9⟩,0)] }),
 ([],52,.block 1,{ lv:=[⟨some 0,7,0⟩,⟨some 0,16399,0⟩],ps:=[((.sl (.pair I gT)),1),((.mset I),0)],D:=⟨549739036672⟩,wr:=[⟨0,7⟩,⟨0,16399⟩] }),
 ([39],127,.inl 0,{ lv:=[⟨some 0,7,0⟩,⟨some 0,16399,0⟩],ps:=[((.sl (.pair I gT)),1),((.mset I),0)],D:=⟨549755813856⟩,wr:=[⟨0,7⟩,⟨0,16399⟩,⟨1,6⟩],rs:=[⟨0,39⟩,⟨1,6⟩],Dn:=⟨549688704928⟩ }),
 ([39],127,.block 0,{ lv:=[⟨some 0,7,0⟩,⟨some 0,16399,0⟩],ps:=[((.sl (.pair I gT)),1),((.mset I),0)],abn:=true,D:=⟨549755812960⟩,wr:=[⟨0,7⟩,⟨0,16399⟩,⟨1,6⟩] }),
 ([39],127,.loop 0,{ lv:=[⟨none,10,0⟩,⟨some 0,7,0⟩,⟨some 0,16399,0⟩],ps:=[(I,0),((.sl (.pair I gT)),1),((.mset I),0)],D:=⟨549755812960⟩,wr:=[⟨0,7⟩,⟨0,16399⟩,⟨1,6⟩],rs:=[⟨0,39⟩,⟨1,6⟩],Dn:=⟨549688704032⟩ }),
 ([39],127,.region 3,{ lv:=[⟨none,37,0⟩,⟨some 0,7,0⟩,⟨some 0,16399,0⟩],ps:=[(.bool,0),((.sl (.pair I gT)),1),((.mset I),0)],D:=⟨274877874176⟩,wr:=[⟨0,7⟩,⟨0,16399⟩],rs:=[⟨0,39⟩],Dn:=⟨274810765312⟩ }),
 ([35,39],52,.cond 44,{ lv:=[⟨some 0,7,0⟩,⟨some 0,16399,0⟩],ps:=[((.sl (.pair I gT)),1),((.mset I),0)],D:=⟨17979214137393152⟩,wr:=[⟨0,7⟩,⟨0,16399⟩],rs:=[⟨0,16399⟩],Dn:=⟨17944029765304320⟩ })] [([],52,38)]
theorem qgo:KT qaj qgA [qY,qaZ,qay] 40:=λx=>by kernel_rfl
theorem qbn:OT qaj:=entK (qg qaL (qg qcJ (qg qbw qo))) hJ qgo
def qbK (a0:((List (List UInt8)) × (List ((List UInt8) × (List Int) × (List Int) × (List Int) × (List Int) × Unit)) × (List ((List Int) × (List Int) × Unit)) × Unit)) (a1:Int):Option ((List Int) × Int) :=
 (qan a0 a1).bind λx1 =>
 bif !(decide (x1.2.2 = 0)) then
  some ([],x1.2.2)
 else
  (qad x1.1 x1.2.1 (0:Int)).bind λx2 =>
  (qH (λ(s5:((List Int) × Int)) =>
    bif decide (s5.2 < (x2.length:Int)) then
     (idx x2 s5.2).bind λx6 =>
     (app s5.1 ([x6.1])).bind λx7 =>
     some (.inl (x7,w64 (s5.2 + 1)))
    else
     some (.inr s5.1)) ([],0)).bind λ(p8:(List Int)) =>
  (qxr p8).bind λx9 =>
  some (x9,0)
def qcg:Entry:=⟨10,[.ty (.pair (.sl .str) (.pair (.sl (.pair .str (.pair (.sl I) (.pair (.sl I) (.pair (.sl I) (.pair (.sl I) .unit)))))) (.pair (.sl (.pair (.sl I) (.pair (.sl I) .unit))) .unit))),.ty I],[((.sl I),1),(I,0)],λx=>qbK x.1 x.2⟩
def qid:TH:=qco [([],10,.block 0,{ lv:=[⟨none,9,0⟩],ps:=[((.sl I),1)],D:=⟨68652370432⟩,wr:=[⟨0,11⟩] }),
 ([],10,.loop 0,{ lv:=[⟨none,9,0⟩,⟨none,26,0⟩],ps:=[((.sl I),1),(I,0)],D:=⟨68652370432⟩,wr:=[⟨0,11⟩],rs:=[⟨0,11⟩],Dn:=⟨66504884736⟩ })] []
theorem qh2:KT qcg qid [qaj,qah] 40:=λx=>by kernel_rfl
theorem qh9:OT qcg:=entK (qg qbn (qg qaX qo)) hJ qh2
def qaN (a0:((List (List UInt8)) × (List ((List UInt8) × (List Int) × (List Int) × (List Int) × (List Int) × Unit)) × (List ((List Int) × (List Int) × Unit)) × Unit)) (a1:Int):Option ((List Int) × Int) :=
 (qan a0 a1).bind λx1 =>
 bif !(decide (x1.2.2 = 0)) then
  some ([],x1.2.2)
 else
  (qad x1.1 x1.2.1 (0:Int)).bind λx2 =>
  ((qH (λ(s4:Int) =>
     bif decide (s4 < (x2.length:Int)) then
      (idx x2 s4).bind λx5 =>
      (qw x1.1 x5.1).bind λx6 =>
      bif x6 then
       some (.inr (.inr s4))
      else
       some (.inl (w64 (s4 + 1)))
     else
      some (.inr (.inl ()))) 0).bind (Sum.elim (λ(p7:Unit) =>
   some (-1)) some)).bind λ(p8:Int) =>
  bif decide (p8 < 0) then
   some ([],12)
  else
   (idx x2 p8).bind λx9 =>
   (qH (λ(s11:((List Int) × Int × Int × Int)) =>
     bif decide (s11.2.2.1>=0) then
      (app s11.1 ([s11.2.2.2])).bind λx12 =>
      (idx x2 s11.2.2.1).bind λx13 =>
      some (.inl (x12,x13.1,x13.2.1,x13.2.2.1))
     else
      some (.inr s11.1)) ([],x9.1,x9.2.1,x9.2.2.1)).bind λ(p14:(List Int)) =>
   (qBk p14).bind λx15 =>
   some (x15,0)
def qdi:Entry:=⟨12,[.ty (.pair (.sl .str) (.pair (.sl (.pair .str (.pair (.sl I) (.pair (.sl I) (.pair (.sl I) (.pair (.sl I) .unit)))))) (.pair (.sl (.pair (.sl I) (.pair (.sl I) .unit))) .unit))),.ty I],[((.sl I),1),(I,0)],λx=>qaN x.1 x.2⟩
def qla:TH:=qco [([28],56,.inl 0,{ lv:=[⟨none,4,0⟩],ps:=[(I,0)],D:=⟨524272⟩,rs:=[⟨0,6⟩],Dn:=⟨522224⟩ }),
 ([28],56,.block 0,{ lv:=[],ps:=[],abn:=true,D:=⟨524064⟩ }),
 ([28],56,.loop 0,{ lv:=[⟨none,8,0⟩],ps:=[(I,0)],D:=⟨524064⟩,rs:=[⟨0,6⟩],Dn:=⟨522016⟩ }),
 ([],12,.block 0,{ lv:=[⟨none,11,0⟩],ps:=[((.sl I),1)],D:=⟨562915593689088⟩,wr:=[⟨0,12⟩],rs:=[⟨0,12⟩],Dn:=⟨562881233946624⟩ }),
 ([],12,.loop 0,{ lv:=[⟨none,11,0⟩,⟨some 0,12,0⟩,⟨some 0,12,1⟩,⟨some 0,12,2⟩],ps:=[((.sl I),1),(I,0),(I,0),(I,0)],D:=⟨562915593689088⟩,wr:=[⟨0,12⟩],rs:=[⟨0,12⟩],Dn:=⟨562365837871104⟩,kp:=[(12,⟨0,12⟩,0)] })] []
theorem qlf:KT qdi qla [qY,qaj,qah] 40:=λx=>by kernel_rfl
theorem qk6:OT qdi:=entK (qg qaL (qg qbn (qg qaX qo))) hJ qlf
def qb6 (a0:Int):Option (List Int) :=
 (qH (λ(s3:(Int × (List Int))) =>
   bif !(decide (s3.1 = 0)) then
    (qR (IntKind.wrap .u64 (s3.1))).bind λx4 =>
    (app s3.2 ([x4])).bind λx5 =>
    some (.inl (qq5 .i64 s3.1 (w64 (s3.1 - 1)),x5))
   else
    some (.inr s3.2)) (a0,[])).bind λ(p6:(List Int)) =>
 some p6
def qcy:Entry:=⟨60,[.ty I],[((.sl I),1)],λx=>qb6 x⟩
def qiJ:TH:=qco [([],60,.block 0,{ lv:=[⟨none,3,0⟩],ps:=[((.sl I),1)],D:=⟨65529⟩ }),
 ([],60,.loop 0,{ lv:=[⟨none,0,0⟩,⟨none,3,0⟩],ps:=[(I,0),((.sl I),1)],D:=⟨65529⟩ })] []
theorem qiZ:KT qcy qiJ [q9] 40:=λx=>by kernel_rfl
theorem qiI:OT qcy:=entK (qg qfq qo) hJ qiZ
def cmp_isNaN_int (a0:Int):Option Bool :=
 some (!(decide (a0 = a0)))
def qcP:Entry:=⟨182,[.ty I],[(.bool,0)],λx=>cmp_isNaN_int x⟩
def qn7:TH:=qco [] []
theorem qom:KT qcP qn7 [] 40:=λx=>by kernel_rfl
theorem qgM:OT qcP:=entK qo hJ qom
def qbP (a0:Int) (a1:Int):Option Int :=
 (cmp_isNaN_int a0).bind λx1 =>
 (cmp_isNaN_int a1).bind λx2 =>
 bif x1 then
  bif x2 then
   some 0
  else
   some (-1)
 else
  bif x2 then
   some 1
  else
   bif decide (a0 < a1) then
    some (-1)
   else
    bif decide (a0 > a1) then
     some 1
    else
     some 0
def qdg:Entry:=⟨122,[.ty I,.ty I],[(I,0)],λx=>qbP x.1 x.2⟩
def qkp:TH:=qco [] []
theorem qku:KT qdg qkp [qcP] 40:=λx=>by kernel_rfl
theorem qkH:OT qdg:=entK (qg qgM qo) hJ qku
def qai (a0:(List Int)) (a1:(List Int)):Option Int :=
 (qH (λ(s2:Int) =>
   bif decide (s2 < (a0.length:Int)) then
    (idx a0 s2).bind λx3 =>
    bif decide (s2>=(a1.length:Int)) then
     some (.inr (.inr 1))
    else
     (idx a1 s2).bind λx4 =>
     (qbP x3 x4).bind λx5 =>
     bif !(decide (x5 = 0)) then
      some (.inr (.inr x5))
     else
      some (.inl (w64 (s2 + 1)))
   else
    some (.inr (.inl ()))) 0).bind (Sum.elim (λ(p6:Unit) =>
 bif decide ((a0.length:Int) < (a1.length:Int)) then
  some (-1)
 else
  some 0) some)
def qa2:Entry:=⟨61,[.ty (.sl I),.ty (.sl I)],[(I,0)],λx=>qai x.1 x.2⟩
def qfs:TH:=qco [([],61,.block 0,{ lv:=[],ps:=[],abn:=true,D:=⟨2147482080⟩ }),
 ([],61,.loop 0,{ lv:=[⟨none,11,0⟩],ps:=[(I,0)],D:=⟨2147482080⟩ })] []
theorem qfm:KT qa2 qfs [qdg] 40:=λx=>by kernel_rfl
theorem qfj:OT qa2:=entK (qg qkH qo) hJ qfm
def qbA (a0:((List (List UInt8)) × (List ((List UInt8) × (List Int) × (List Int) × (List Int) × (List Int) × Unit)) × (List ((List Int) × (List Int) × Unit)) × Unit)) (a1:Int):Option ((List Int) × Int) :=
 (qan a0 a1).bind λx1 =>
 (bif decide (x1.2.2 = 0) then
   (qw x1.1 x1.2.1).bind λx2 =>
   some x2
  else
   some false).bind λ(p3:Bool) =>
 (bif p3 then
   some 20
  else
   some x1.2.2).bind λ(p4:Int) =>
 bif !(decide (p4 = 0)) then
  some ([],p4)
 else
  (qyU .i64 (1:Int) (a0.2.1.length:Int)).bind λx5 =>
  (qH (λ(s7:((List Int) × Bool × Int)) =>
    bif decide (s7.2.2 < x5) then
     ((qb6 s7.2.2).bind λx8 =>
      (bif s7.2.1 then
        bif decide ((x8.length:Int) > (s7.1.length:Int)) then
         some true
        else
         bif decide ((x8.length:Int) = (s7.1.length:Int)) then
          (qai x8 s7.1).bind λx9 =>
          some (decide (x9>=0))
         else
          some false
       else
        some false).bind λ(p10:Bool) =>
      bif p10 then
       some (s7.1,s7.2.1)
      else
       (qad x1.1 x1.2.1 s7.2.2).bind λx11 =>
       ((qH (λ(s13:Int) =>
          bif decide (s13 < (x11.length:Int)) then
           (idx x11 s13).bind λx14 =>
           (qw x1.1 x14.1).bind λx15 =>
           bif x15 then
            some (.inr (.inr s13))
           else
            some (.inl (w64 (s13 + 1)))
          else
           some (.inr (.inl ()))) 0).bind (Sum.elim (λ(p16:Unit) =>
        some (-1)) some)).bind λ(p17:Int) =>
       (bif !(decide (p17>=0)) then
         some (x8,true)
        else
         some (s7.1,s7.2.1)).bind λ(p18:((List Int) × Bool)) =>
       some (p18.1,p18.2)).bind λ(p19:((List Int) × Bool)) =>
     some (.inl (p19.1,p19.2,w64 (s7.2.2 + 1)))
    else
     some (.inr s7.1)) ([],false,0)).bind λ(p20:(List Int)) =>
  some (p20,0)
def qcY:Entry:=⟨13,[.ty (.pair (.sl .str) (.pair (.sl (.pair .str (.pair (.sl I) (.pair (.sl I) (.pair (.sl I) (.pair (.sl I) .unit)))))) (.pair (.sl (.pair (.sl I) (.pair (.sl I) .unit))) .unit))),.ty I],[((.sl I),1),(I,0)],λx=>qbA x.1 x.2⟩
def qi9:TH:=qco [([],13,.region 2,{ lv:=[⟨none,26,0⟩],ps:=[(.bool,0)],D:=⟨133169152⟩ }),
 ([],13,.cond 26,{ lv:=[⟨none,8,0⟩],ps:=[(I,0)],D:=⟨256⟩ }),
 ([],13,.block 0,{ lv:=[⟨none,9,0⟩],ps:=[((.sl I),1)],D:=⟨590295810341525790208⟩ }),
 ([],13,.loop 0,{ lv:=[⟨none,9,0⟩,⟨none,10,0⟩,⟨none,34,0⟩],ps:=[((.sl I),1),(.bool,0),(I,0)],D:=⟨590295810341525790208⟩,rs:=[⟨0,6⟩],Dn:=⟨571849066267816238592⟩ }),
 ([],13,.block 1,{ lv:=[⟨none,9,0⟩,⟨none,10,0⟩],ps:=[((.sl I),1),(.bool,0)],D:=⟨295147905110633356800⟩,rs:=[⟨0,6⟩],Dn:=⟨276701161036923805184⟩ }),
 ([],13,.region 12,{ lv:=[⟨none,59,0⟩],ps:=[(.bool,0)],D:=⟨1152920954851033088⟩ }),
 ([7,65],56,.inl 0,{ lv:=[⟨none,4,0⟩],ps:=[(I,0)],D:=⟨524272⟩,rs:=[⟨0,6⟩],Dn:=⟨522224⟩ }),
 ([7,65],56,.block 0,{ lv:=[],ps:=[],abn:=true,D:=⟨524064⟩ }),
 ([7,65],56,.loop 0,{ lv:=[⟨none,8,0⟩],ps:=[(I,0)],D:=⟨524064⟩,rs:=[⟨0,6⟩],Dn:=⟨522016⟩ }),
 ([],13,.cond 66,{ lv:=[⟨none,9,0⟩,⟨none,10,0⟩],ps:=[((.sl I),1),(.bool,0)],D:=⟨147573952589676418560⟩ })] []
theorem qjn:KT qcY qi9 [qcy,qY,qaj,qah,qa2] 40:=λx=>by kernel_rfl
theorem qjN:OT qcY:=entK (qg qiI (qg qaL (qg qbn (qg qaX (qg qfj qo))))) hJ qjn
def qeJ (a0:(List UInt8)):Option Bool :=
 (bif decide ((a0.length:Int) < 1) then
   some true
  else
   some (decide ((a0.length:Int) > 12))).bind λ(p1:Bool) =>
 bif p1 then
  some false
 else
  (qH (λ(s3:Int) =>
    bif decide (s3 < (a0.length:Int)) then
     (idx a0 s3).bind λx4 =>
     (bif decide ((x4.toNat:Int)>=97) then
       bif decide ((x4.toNat:Int)<=122) then
        some true
       else
        bif decide ((x4.toNat:Int)>=65) then
         some (decide ((x4.toNat:Int)<=90))
        else
         some false
      else
       bif decide ((x4.toNat:Int)>=65) then
        some (decide ((x4.toNat:Int)<=90))
       else
        some false).bind λ(p5:Bool) =>
     (bif !p5 then
       bif decide (s3 = 0) then
        some true
       else
        bif !(decide ((x4.toNat:Int) = 45)) then
         bif decide ((x4.toNat:Int) < 48) then
          some true
         else
          some (decide ((x4.toNat:Int) > 57))
        else
         some false
      else
       some false).bind λ(p6:Bool) =>
     bif p6 then
      some (.inr (.inr false))
     else
      some (.inl (w64 (s3 + 1)))
    else
     some (.inr (.inl ()))) 0).bind (Sum.elim (λ(p7:Unit) =>
  some true) some)
def qgf:Entry:=⟨102,[.ty .str],[(.bool,0)],λx=>qeJ x⟩
def qp4:TH:=qco [([],102,.region 1,{ lv:=[⟨none,13,0⟩],ps:=[(.bool,0)],D:=⟨16320⟩ }),
 ([],102,.block 0,{ lv:=[],ps:=[],abn:=true,D:=⟨36028797018947640⟩ }),
 ([],102,.loop 0,{ lv:=[⟨none,3,0⟩],ps:=[(I,0)],D:=⟨36028797018947640⟩ }),
 ([],102,.region 7,{ lv:=[⟨none,5,0⟩],ps:=[(.bool,0)],D:=⟨137430564896⟩ }),
 ([],102,.region 8,{ lv:=[⟨none,54,0⟩],ps:=[(.bool,0)],D:=⟨36028659580010496⟩ })] []
theorem qql:KT qgf qp4 [] 40:=λx=>by kernel_rfl
theorem qqD:OT qgf:=entK qo hJ qql
def qfa (a0:(List (List UInt8))) (a1:(List UInt8)):Option Bool :=
 (qH (λ(s2:Int) =>
   bif decide (s2 < (a0.length:Int)) then
    (idx a0 s2).bind λx3 =>
    bif decide (x3 = a1) then
     some (.inr (.inr true))
    else
     some (.inl (w64 (s2 + 1)))
   else
    some (.inr (.inl ()))) 0).bind (Sum.elim (λ(p4:Unit) =>
 some false) some)
def qfh:Entry:=⟨94,[.ty (.sl .str),.ty .str],[(.bool,0)],λx=>qfa x.1 x.2⟩
def qoF:TH:=qco [([],94,.block 0,{ lv:=[],ps:=[],abn:=true,D:=⟨262112⟩ }),
 ([],94,.loop 0,{ lv:=[⟨none,5,0⟩],ps:=[(I,0)],D:=⟨262112⟩ })] []
theorem qox:KT qfh qoF [] 40:=λx=>by kernel_rfl
theorem qot:OT qfh:=entK qo hJ qox
def qby (a0:(List Int)) (a1:Int):Option Int :=
 (qH (λ(s2:Int) =>
   bif decide (s2 < (a0.length:Int)) then
    (idx a0 s2).bind λx3 =>
    (qeQ x3 (0:Int) (w64 (a1 - 1))).bind λx4 =>
    bif !x4 then
     some (.inr (.inr 6))
    else
     (bif decide (s2 > 0) then
       (idx a0 s2).bind λx5 =>
       (idx a0 (w64 (s2 - 1))).bind λx6 =>
       some (decide (x5<=x6))
      else
       some false).bind λ(p7:Bool) =>
     bif p7 then
      some (.inr (.inr 9))
     else
      some (.inl (w64 (s2 + 1)))
   else
    some (.inr (.inl ()))) 0).bind (Sum.elim (λ(p8:Unit) =>
 some 0) some)
def qc2:Entry:=⟨199,[.ty (.sl I),.ty I],[(I,0)],λx=>qby x.1 x.2⟩
def qj3:TH:=qco [([],199,.block 0,{ lv:=[],ps:=[],abn:=true,D:=⟨17179869152⟩ }),
 ([],199,.loop 0,{ lv:=[⟨none,5,0⟩],ps:=[(I,0)],D:=⟨17179869152⟩ }),
 ([],199,.region 6,{ lv:=[⟨none,33,0⟩],ps:=[(.bool,0)],D:=⟨17178820608⟩ })] []
theorem qj2:KT qc2 qj3 [qei] 40:=λx=>by kernel_rfl
theorem qjh:OT qc2:=entK (qg qj7 qo) hJ qj2
def qjw (a0:(List Int)) (a1:Int):Option Bool :=
 (qH (λ(s2:Int) =>
   bif decide (s2 < (a0.length:Int)) then
    (idx a0 s2).bind λx3 =>
    bif decide (x3 = a1) then
     some (.inr (.inr true))
    else
     some (.inl (w64 (s2 + 1)))
   else
    some (.inr (.inl ()))) 0).bind (Sum.elim (λ(p4:Unit) =>
 some false) some)
def qhu:Entry:=⟨44,[.ty (.sl I),.ty I],[(.bool,0)],λx=>qjw x.1 x.2⟩
def qwf:TH:=qco [([],44,.block 0,{ lv:=[],ps:=[],abn:=true,D:=⟨262112⟩ }),
 ([],44,.loop 0,{ lv:=[⟨none,5,0⟩],ps:=[(I,0)],D:=⟨262112⟩ })] []
theorem qvn:KT qhu qwf [] 40:=λx=>by kernel_rfl
theorem qpr:OT qhu:=entK qo hJ qvn
def qb9 (a0:((List Int) × (List Int) × Unit)) (a1:Int):Option Int :=
 (qby a0.1 a1).bind λx1 =>
 bif !(decide (x1 = 0)) then
  some x1
 else
  (qby a0.2.1 a1).bind λx2 =>
  bif !(decide (x2 = 0)) then
   some x2
  else
   (qH (λ(s4:Int) =>
     bif decide (s4 < (a0.1.length:Int)) then
      (idx a0.1 s4).bind λx5 =>
      (qjw a0.2.1 x5).bind λx6 =>
      bif x6 then
       some (.inr (.inr 13))
      else
       some (.inl (w64 (s4 + 1)))
     else
      some (.inr (.inl ()))) 0).bind (Sum.elim (λ(p7:Unit) =>
   some 0) some)
def qeL:Entry:=⟨153,[.ty (.pair (.sl I) (.pair (.sl I) .unit)),.ty I],[(I,0)],λx=>qb9 x.1 x.2⟩
def qmG:TH:=qco [([],153,.block 0,{ lv:=[],ps:=[],abn:=true,D:=⟨137434759296⟩,rs:=[⟨0,2⟩],Dn:=⟨137426370688⟩ }),
 ([],153,.loop 0,{ lv:=[⟨none,7,0⟩],ps:=[(I,0)],D:=⟨137434759296⟩,rs:=[⟨0,2⟩],Dn:=⟨134742016128⟩ })] []
theorem qna:KT qeL qmG [qhu,qc2] 40:=λx=>by kernel_rfl
theorem qog:OT qeL:=entK (qg qpr (qg qjh qo)) hJ qna
def qbI (a0:((List (List UInt8)) × (List ((List UInt8) × (List Int) × (List Int) × (List Int) × (List Int) × Unit)) × (List ((List Int) × (List Int) × Unit)) × Unit)):Option (Int × Int) :=
 bif decide ((a0.1.length:Int) = 0) then
  some (0,10)
 else
  (bif decide ((a0.1.length:Int) > 8) then
    some true
   else
    bif decide ((a0.2.1.length:Int) > 10) then
     some true
    else
     some (decide ((a0.2.2.1.length:Int) > 4))).bind λ(p1:Bool) =>
  bif p1 then
   some (0,8)
  else
   (qH (λ(s3:Int) =>
     bif decide (s3 < (a0.1.length:Int)) then
      (idx a0.1 s3).bind λx4 =>
      (qeJ x4).bind λx5 =>
      bif !x5 then
       some (.inr (.inr (s3,4)))
      else
       (slc a0.1 0 s3).bind λx6 =>
       (idx a0.1 s3).bind λx7 =>
       (qfa x6 x7).bind λx8 =>
       bif x8 then
        some (.inr (.inr (s3,5)))
       else
        some (.inl (w64 (s3 + 1)))
     else
      some (.inr (.inl ()))) 0).bind (Sum.elim (λ(p9:Unit) =>
   (qH (λ(s11:Int) =>
     bif decide (s11 < (a0.2.1.length:Int)) then
      (idx a0.2.1 s11).bind λx12 =>
      (qeJ x12.1).bind λx13 =>
      bif !x13 then
       some (.inr (.inr (s11,4)))
      else
       (qH (λ(s15:Int) =>
         bif decide (s15 < s11) then
          (idx a0.2.1 s15).bind λx16 =>
          bif decide (x16.1 = x12.1) then
           some (.inr (.inr (.inr (.inr (s11,5)))))
          else
           some (.inl (w64 (s15 + 1)))
         else
          some (.inr (.inl ()))) 0).bind (Sum.elim (λ(p17:Unit) =>
       (qb9 (x12.2.1,x12.2.2.1,()) (a0.1.length:Int)).bind λx18 =>
       bif !(decide (x18 = 0)) then
        some (.inr (.inr (s11,x18)))
       else
        (qb9 (x12.2.2.2.1,x12.2.2.2.2.1,()) (a0.1.length:Int)).bind λx19 =>
        bif !(decide (x19 = 0)) then
         some (.inr (.inr (s11,x19)))
        else
         some (.inl (w64 (s11 + 1)))) some)
     else
      some (.inr (.inl ()))) 0).bind (Sum.elim (λ(p20:Unit) =>
   (qH (λ(s22:Int) =>
     bif decide (s22 < (a0.2.2.1.length:Int)) then
      (idx a0.2.2.1 s22).bind λx23 =>
      (qb9 x23 (a0.1.length:Int)).bind λx24 =>
      bif !(decide (x24 = 0)) then
       some (.inr (.inr (s22,x24)))
      else
       some (.inl (w64 (s22 + 1)))
     else
      some (.inr (.inl ()))) 0).bind (Sum.elim (λ(p25:Unit) =>
   some (0,0)) some)) some)) some)
def qcd:Entry:=⟨100,[.ty (.pair (.sl .str) (.pair (.sl (.pair .str (.pair (.sl I) (.pair (.sl I) (.pair (.sl I) (.pair (.sl I) .unit)))))) (.pair (.sl (.pair (.sl I) (.pair (.sl I) .unit))) .unit)))],[(I,0),(I,0)],λx=>qbI x⟩
def qic:TH:=qco [([],100,.region 3,{ lv:=[⟨none,31,0⟩],ps:=[(.bool,0)],D:=⟨4294901760⟩,rs:=[⟨0,1⟩],Dn:=⟨4158521344⟩ }),
 ([],100,.block 0,{ lv:=[],ps:=[],abn:=true,D:=⟨288230371856744464⟩,rs:=[⟨0,1⟩],Dn:=⟨288230363266809872⟩ }),
 ([],100,.loop 0,{ lv:=[⟨none,4,0⟩],ps:=[(I,0)],D:=⟨288230371856744464⟩,rs:=[⟨0,1⟩],Dn:=⟨285837276208955408⟩ }),
 ([],100,.block 2,{ lv:=[],ps:=[],abn:=true,D:=⟨1298074214633706618902247930594272⟩,wr:=[⟨0,6⟩],rs:=[⟨0,1⟩],Dn:=⟨1298074214633706042441495627170784⟩ }),
 ([],100,.loop 2,{ lv:=[⟨none,5,0⟩],ps:=[(I,0)],D:=⟨1298074214633706618902247930594272⟩,wr:=[⟨0,6⟩],rs:=[⟨0,1⟩,⟨0,6⟩],Dn:=⟨1291729771931150983423772785116064⟩ }),
 ([],100,.block 4,{ lv:=[],ps:=[],abn:=true,D:=⟨1237902260353517317737414784⟩ }),
 ([],100,.loop 4,{ lv:=[⟨none,7,0⟩],ps:=[(I,0)],D:=⟨1237902260353517317737414784⟩,rs:=[⟨0,1⟩,⟨0,6⟩],Dn:=⟨1159322082078566421381513344⟩ }),
 ([],100,.block 6,{ lv:=[],ps:=[],abn:=true,D:=⟨1361128169609539220146591297102990543872⟩,rs:=[⟨0,1⟩],Dn:=⟨1361125573461109952732777031854825933824⟩ }),
 ([],100,.loop 6,{ lv:=[⟨none,10,0⟩],ps:=[(I,0)],D:=⟨1361128169609539220146591297102990543872⟩,rs:=[⟨0,1⟩],Dn:=⟨1355642507978497174757048827731169512448⟩ })] []
theorem qh1:KT qcd qic [qfh,qgf,qeL] 40:=λx=>by kernel_rfl
theorem qhZ:OT qcd:=entK (qg qot (qg qqD (qg qog qo))) hJ qh1
def qcu (a0:((List (List UInt8)) × (List ((List UInt8) × (List Int) × (List Int) × (List Int) × (List Int) × Unit)) × (List ((List Int) × (List Int) × Unit)) × Unit)):Option Int :=
 (qbI a0).bind λx1 =>
 some x1.2
def qc5:Entry:=⟨36,[.ty (.pair (.sl .str) (.pair (.sl (.pair .str (.pair (.sl I) (.pair (.sl I) (.pair (.sl I) (.pair (.sl I) .unit)))))) (.pair (.sl (.pair (.sl I) (.pair (.sl I) .unit))) .unit)))],[(I,0)],λx=>qcu x⟩
def qjV:TH:=qco [] []
theorem qjZ:KT qc5 qjV [qcd] 40:=λx=>by kernel_rfl
theorem qjP:OT qc5:=entK (qg qhZ qo) hJ qjZ
def qfV (a0:((List (List UInt8)) × (List ((List UInt8) × (List Int) × (List Int) × (List Int) × (List Int) × Unit)) × (List ((List Int) × (List Int) × Unit)) × Unit)) (a1:Int):Option Bool :=
 (qyU .i64 (1:Int) (a0.1.length:Int)).bind λx1 =>
 (qeQ a1 (0:Int) (w64 (x1 - 1))).bind λx2 =>
 some x2
def qeC:Entry:=⟨123,[.ty (.pair (.sl .str) (.pair (.sl (.pair .str (.pair (.sl I) (.pair (.sl I) (.pair (.sl I) (.pair (.sl I) .unit)))))) (.pair (.sl (.pair (.sl I) (.pair (.sl I) .unit))) .unit))),.ty I],[(.bool,0)],λx=>qfV x.1 x.2⟩
def qoj:TH:=qco [] []
theorem qnz:KT qeC qoj [qei] 40:=λx=>by kernel_rfl
theorem qnp:OT qeC:=entK (qg qj7 qo) hJ qnz
def qfg (a0:((List (List UInt8)) × (List ((List UInt8) × (List Int) × (List Int) × (List Int) × (List Int) × Unit)) × (List ((List Int) × (List Int) × Unit)) × Unit)) (a1:Int):Option Int :=
 (qfV a0 a1).bind λx1 =>
 bif !x1 then
  some 2
 else
  some 0
def qdW:Entry:=⟨64,[.ty (.pair (.sl .str) (.pair (.sl (.pair .str (.pair (.sl I) (.pair (.sl I) (.pair (.sl I) (.pair (.sl I) .unit)))))) (.pair (.sl (.pair (.sl I) (.pair (.sl I) .unit))) .unit))),.ty I],[(I,0)],λx=>qfg x.1 x.2⟩
def qlZ:TH:=qco [] []
theorem qlJ:KT qdW qlZ [qeC] 40:=λx=>by kernel_rfl
theorem qlH:OT qdW:=entK (qg qnp qo) hJ qlJ
def qdB (a0:((List (List UInt8)) × (List ((List UInt8) × (List Int) × (List Int) × (List Int) × (List Int) × Unit)) × (List ((List Int) × (List Int) × Unit)) × Unit)) (a1:Int):Option Int :=
 (qcu a0).bind λx1 =>
 bif !(decide (x1 = 0)) then
  some x1
 else
  (qfg a0 a1).bind λx2 =>
  some x2
def qdZ:Entry:=⟨14,[.ty (.pair (.sl .str) (.pair (.sl (.pair .str (.pair (.sl I) (.pair (.sl I) (.pair (.sl I) (.pair (.sl I) .unit)))))) (.pair (.sl (.pair (.sl I) (.pair (.sl I) .unit))) .unit))),.ty I],[(I,0)],λx=>qdB x.1 x.2⟩
def ql0:TH:=qco [] []
theorem qlP:KT qdZ ql0 [qc5,qdW] 40:=λx=>by kernel_rfl
theorem qlG:OT qdZ:=entK (qg qjP (qg qlH qo)) hJ qlP
def qgc (a0:((List Int) × (List Int) × Unit)) (a1:Int):Option Bool :=
 (qH (λ(s2:Int) =>
   bif decide (s2 < (a0.1.length:Int)) then
    (idx a0.1 s2).bind λx3 =>
    (qsQ .i64 a1 x3).bind λx4 =>
    bif decide (qq5 .i64 x4 (1:Int) = 0) then
     some (.inr (.inr false))
    else
     some (.inl (w64 (s2 + 1)))
   else
    some (.inr (.inl ()))) 0).bind (Sum.elim (λ(p5:Unit) =>
 (qH (λ(s7:Int) =>
   bif decide (s7 < (a0.2.1.length:Int)) then
    (idx a0.2.1 s7).bind λx8 =>
    (qsQ .i64 a1 x8).bind λx9 =>
    bif decide (qq5 .i64 x9 (1:Int) = 1) then
     some (.inr (.inr false))
    else
     some (.inl (w64 (s7 + 1)))
   else
    some (.inr (.inl ()))) 0).bind (Sum.elim (λ(p10:Unit) =>
 some true) some)) some)
def qgz:Entry:=⟨67,[.ty (.pair (.sl I) (.pair (.sl I) .unit)),.ty I],[(.bool,0)],λx=>qgc x.1 x.2⟩
def qqP:TH:=qco [([],67,.block 0,{ lv:=[],ps:=[],abn:=true,D:=⟨8388512⟩,rs:=[⟨0,2⟩],Dn:=⟨8388256⟩ }),
 ([],67,.loop 0,{ lv:=[⟨none,5,0⟩],ps:=[(I,0)],D:=⟨8388512⟩,rs:=[⟨0,2⟩],Dn:=⟨8355488⟩ }),
 ([],67,.block 2,{ lv:=[],ps:=[],abn:=true,D:=⟨549747425344⟩,rs:=[⟨0,2⟩],Dn:=⟨549730648128⟩ }),
 ([],67,.loop 2,{ lv:=[⟨none,6,0⟩],ps:=[(I,0)],D:=⟨549747425344⟩,rs:=[⟨0,2⟩],Dn:=⟨547583164480⟩ })] []
theorem qqm:KT qgz qqP [] 40:=λx=>by kernel_rfl
theorem qqw:OT qgz:=entK qo hJ qqm
def qaY (a0:((List (List UInt8)) × (List ((List UInt8) × (List Int) × (List Int) × (List Int) × (List Int) × Unit)) × (List ((List Int) × (List Int) × Unit)) × Unit)) (a1:Int):Option Bool :=
 (qH (λ(s2:Int) =>
   bif decide (s2 < (a0.2.2.1.length:Int)) then
    (idx a0.2.2.1 s2).bind λx3 =>
    (qgc x3 a1).bind λx4 =>
    bif x4 then
     some (.inr (.inr true))
    else
     some (.inl (w64 (s2 + 1)))
   else
    some (.inr (.inl ()))) 0).bind (Sum.elim (λ(p5:Unit) =>
 some false) some)
def qfp:Entry:=⟨18,[.ty (.pair (.sl .str) (.pair (.sl (.pair .str (.pair (.sl I) (.pair (.sl I) (.pair (.sl I) (.pair (.sl I) .unit)))))) (.pair (.sl (.pair (.sl I) (.pair (.sl I) .unit))) .unit))),.ty I],[(.bool,0)],λx=>qaY x.1 x.2⟩
def qoK:TH:=qco [([],18,.block 0,{ lv:=[],ps:=[],abn:=true,D:=⟨1048544⟩,rs:=[⟨0,2⟩],Dn:=⟨1048416⟩ }),
 ([],18,.loop 0,{ lv:=[⟨none,5,0⟩],ps:=[(I,0)],D:=⟨1048544⟩,rs:=[⟨0,2⟩],Dn:=⟨1040224⟩ })] []
theorem qoD:KT qfp qoK [qgz] 40:=λx=>by kernel_rfl
theorem qoA:OT qfp:=entK (qg qqw qo) hJ qoD
def cmp_Less_int (a0:Int) (a1:Int):Option Bool :=
 ((cmp_isNaN_int a0).bind λx1 =>
  bif x1 then
   (cmp_isNaN_int a1).bind λx2 =>
   bif !x2 then
    some true
   else
    some (decide (a0 < a1))
  else
   some (decide (a0 < a1))).bind λ(p3:Bool) =>
 some p3
def qfk:Entry:=⟨125,[.ty I,.ty I],[(.bool,0)],λx=>cmp_Less_int x.1 x.2⟩
def qoJ:TH:=qco [([],125,.region 1,{ lv:=[⟨none,4,0⟩],ps:=[(.bool,0)],D:=⟨131056⟩ })] []
theorem qos:KT qfk qoJ [qcP] 40:=λx=>by kernel_rfl
theorem qoz:OT qfk:=entK (qg qgM qo) hJ qos
def qcv (a0:Int):Option Bool :=
 some (!(decide (a0 = a0)))
def qcQ:Entry:=⟨126,[.ty I],[(.bool,0)],λx=>qcv x⟩
def qjD:TH:=qco [] []
theorem qjS:KT qcQ qjD [] 40:=λx=>by kernel_rfl
theorem qj9:OT qcQ:=entK qo hJ qjS
def qM (a0:(List Int)) (a1:Int):Option (Int × Bool) :=
 (qH (λ(s2:(Int × Int)) =>
   bif decide (s2.1 < s2.2) then
    (qsQ .u64 (IntKind.wrap .u64 (w64 (s2.1 + s2.2))) (1:Int)).bind λx3 =>
    (idx a0 (w64 (x3))).bind λx4 =>
    (cmp_Less_int x4 a1).bind λx5 =>
    (bif x5 then
      some (w64 ((w64 (x3)) + 1),s2.2)
     else
      some (s2.1,w64 (x3))).bind λ(p6:(Int × Int)) =>
    some (.inl (p6.1,p6.2))
   else
    some (.inr s2.1)) (0,(a0.length:Int))).bind λ(p7:Int) =>
 (bif decide (p7 < (a0.length:Int)) then
   (idx a0 p7).bind λx8 =>
   bif decide (x8 = a1) then
    some (p7,true)
   else
    (idx a0 p7).bind λx9 =>
    (qcv x9).bind λx10 =>
    bif x10 then
     (qcv a1).bind λx11 =>
     some (p7,x11)
    else
     some (p7,false)
  else
   some (p7,false)).bind λ(p12:(Int × Bool)) =>
 some (p12.1,p12.2)
def qaF:Entry:=⟨76,[.ty (.sl I),.ty I],[(I,0),(.bool,0)],λx=>qM x.1 x.2⟩
def qdP:TH:=qco [([],76,.block 0,{ lv:=[⟨none,7,0⟩],ps:=[(I,0)],D:=⟨2147476352⟩ }),
 ([],76,.loop 0,{ lv:=[⟨none,7,0⟩,⟨none,8,0⟩],ps:=[(I,0),(I,0)],D:=⟨2147476352⟩ }),
 ([],76,.cond 27,{ lv:=[⟨none,7,0⟩,⟨none,8,0⟩],ps:=[(I,0),(I,0)],D:=⟨1879048576⟩ }),
 ([],76,.region 8,{ lv:=[⟨none,4,0⟩,⟨none,5,0⟩],ps:=[(I,0),(.bool,0)],D:=⟨18014396361998384⟩ })] []
theorem qdT:KT qaF qdP [qfk,qcQ] 40:=λx=>by kernel_rfl
theorem qdM:OT qaF:=entK (qg qoz (qg qj9 qo)) hJ qdT
def qbE (a0:((List (List UInt8)) × (List ((List UInt8) × (List Int) × (List Int) × (List Int) × (List Int) × Unit)) × (List ((List Int) × (List Int) × Unit)) × Unit)) (a1:Int) (a2:(List Int)):Option (Int × Int) :=
 (qan a0 a1).bind λx1 =>
 bif !(decide (x1.2.2 = 0)) then
  some (0,x1.2.2)
 else
  ((qH (λ(s3:(Int × Int)) =>
     bif decide (s3.1 < (a2.length:Int)) then
      (idx a2 s3.1).bind λx4 =>
      (qt x4 (0:Int) (w64 (x1.1.2.2.2.1 - 1))).bind λx5 =>
      (qm x5 (2:Int)).bind λx6 =>
      (qm (decide (x4 > s3.2)) (9:Int)).bind λx7 =>
      (qy ([x6,x7])).bind λx8 =>
      bif !(decide (x8 = 0)) then
       some (.inr (.inr (s3.1,x8,x4)))
      else
       some (.inl (w64 (s3.1 + 1),x4))
     else
      some (.inr (.inl s3.2))) (0,(-1))).bind (Sum.elim (λ(p9:Int) =>
   some (0,0,p9)) some)).bind λ(p10:(Int × Int × Int)) =>
  bif !(decide (p10.2.1 = 0)) then
   some (p10.1,p10.2.1)
  else
   (qM a2 a1).bind λx11 =>
   bif !x11.2 then
    some (0,6)
   else
    ((qH (λ(s13:Int) =>
       bif decide (s13 < (a2.length:Int)) then
        (idx a2 s13).bind λx14 =>
        ((qw x1.1 x14).bind λx15 =>
         bif x15 then
          some 22
         else
          (qH (λ(s17:Int) =>
            bif decide (s17 < (x1.1.1.length:Int)) then
             ((idx x1.1.1 s17).bind λx18 =>
              (qsQ .i64 (0:Int) s17).bind λx19 =>
              bif decide (qq5 .i64 x19 (1:Int) = 0) then
               (qS x18 x14).bind λx20 =>
               bif x20 then
                (idx x1.1.2.1 s17).bind λx21 =>
                (qam x21 x14).bind λx22 =>
                (qM a2 x22).bind λx23 =>
                bif !x23.2 then
                 some (.inr (.inr (.inr 21)))
                else
                 some (.inl ())
               else
                some (.inl ())
              else
               some (.inl ())).bind (Sum.elim (λ(p24:Unit) =>
             some (.inl (w64 (s17 + 1)))) some)
            else
             some (.inr (.inl ()))) 0).bind (Sum.elim (λ(p25:Unit) =>
          some 0) some)).bind λ(p26:Int) =>
        bif !(decide (p26 = 0)) then
         some (.inr (.inr (s13,p26)))
        else
         some (.inl (w64 (s13 + 1)))
       else
        some (.inr (.inl ()))) 0).bind (Sum.elim (λ(p27:Unit) =>
     some (0,0)) some)).bind λ(p28:(Int × Int)) =>
    some (p28.1,p28.2)
def qci:Entry:=⟨20,[.ty (.pair (.sl .str) (.pair (.sl (.pair .str (.pair (.sl I) (.pair (.sl I) (.pair (.sl I) (.pair (.sl I) .unit)))))) (.pair (.sl (.pair (.sl I) (.pair (.sl I) .unit))) .unit))),.ty I,.ty (.sl I)],[(I,0),(I,0)],λx=>qbE x.1 x.2.1 x.2.2⟩
def qhY:TH:=qco [([28],70,.inl 0,{ lv:=[⟨none,4,0⟩,⟨none,5,0⟩,⟨some 0,11,0⟩],ps:=[(I,0),(I,0),(I,0)],D:=⟨33554416⟩,wr:=[⟨0,11⟩],rs:=[⟨0,8⟩,⟨0,11⟩],Dn:=⟨33488880⟩ }),
 ([28],70,.block 0,{ lv:=[⟨some 0,11,0⟩],ps:=[(I,0)],abn:=true,D:=⟨33552832⟩,wr:=[⟨0,11⟩] }),
 ([28],70,.loop 0,{ lv:=[⟨none,11,0⟩,⟨some 0,11,0⟩],ps:=[(I,0),(I,0)],D:=⟨33552832⟩,wr:=[⟨0,11⟩],rs:=[⟨0,8⟩,⟨0,11⟩],Dn:=⟨33487296⟩ }),
 ([42],70,.inl 0,{ lv:=[⟨none,4,0⟩,⟨none,5,0⟩],ps:=[(I,0),(I,0)],D:=⟨33554416⟩,rs:=[⟨0,8⟩,⟨0,14⟩],Dn:=⟨33488880⟩ }),
 ([42],70,.block 0,{ lv:=[],ps:=[],abn:=true,D:=⟨33552832⟩ }),
 ([42],70,.loop 0,{ lv:=[⟨none,11,0⟩],ps:=[(I,0)],D:=⟨33552832⟩,rs:=[⟨0,8⟩,⟨0,14⟩],Dn:=⟨33487296⟩ }),
 ([42],70,.region 4,{ lv:=[⟨none,8,0⟩],ps:=[(I,0)],D:=⟨983296⟩,rs:=[⟨0,8⟩,⟨0,14⟩],Dn:=⟨917760⟩ }),
 ([15,19,42],127,.block 0,{ lv:=[],ps:=[],abn:=true,D:=⟨549755812960⟩,wr:=[⟨3,6⟩] }),
 ([15,19,42],127,.loop 0,{ lv:=[⟨none,10,0⟩],ps:=[(I,0)],D:=⟨549755812960⟩,wr:=[⟨3,6⟩],rs:=[⟨2,15⟩,⟨3,6⟩],Dn:=⟨549688704032⟩ }),
 ([15,19,42],127,.block 1,{ lv:=[],ps:=[],abn:=true,D:=⟨274877902944⟩,wr:=[⟨3,6⟩],rs:=[⟨2,15⟩,⟨3,6⟩],Dn:=⟨274810794016⟩ })] [([19,42],77,14)]
theorem qh0:KT qci qhY [qI,qY,qah,qaZ,qay,qz,qx,qaF] 40:=λx=>by kernel_rfl
theorem qia:OT qci:=entK (qg qaA (qg qaL (qg qaX (qg qcJ (qg qbw (qg q8 (qg q7 (qg qdM qo)))))))) hJ qh0
def qc8 (a0:((List (List UInt8)) × (List ((List UInt8) × (List Int) × (List Int) × (List Int) × (List Int) × Unit)) × (List ((List Int) × (List Int) × Unit)) × Unit)) (a1:Int) (a2:Int):Option (Int × Int) :=
 (qan a0 a1).bind λx1 =>
 (qt a2 (0:Int) (w64 ((a0.2.1.length:Int) - 1))).bind λx2 =>
 (qm x2 (6:Int)).bind λx3 =>
 (qy ([x1.2.2,x3])).bind λx4 =>
 bif !(decide (x4 = 0)) then
  some (0,x4)
 else
  (idx x1.1.1 a2).bind λx5 =>
  (qS x5 x1.2.1).bind λx6 =>
  bif !x6 then
   some (0,20)
  else
   (idx x1.1.2.1 a2).bind λx7 =>
   (qam x7 x1.2.1).bind λx8 =>
   some (x8,0)
def qeI:Entry:=⟨79,[.ty (.pair (.sl .str) (.pair (.sl (.pair .str (.pair (.sl I) (.pair (.sl I) (.pair (.sl I) (.pair (.sl I) .unit)))))) (.pair (.sl (.pair (.sl I) (.pair (.sl I) .unit))) .unit))),.ty I,.ty I],[(I,0),(I,0)],λx=>qc8 x.1 x.2.1 x.2.2⟩
def qnW:TH:=qco [] []
theorem qmY:KT qeI qnW [qI,qah,qaZ,qay,qz,qx] 40:=λx=>by kernel_rfl
theorem qoc:OT qeI:=entK (qg qaA (qg qaX (qg qcJ (qg qbw (qg q8 (qg q7 qo)))))) hJ qmY
def qbQ (a0:((List (List UInt8)) × (List ((List UInt8) × (List Int) × (List Int) × (List Int) × (List Int) × Unit)) × (List ((List Int) × (List Int) × Unit)) × Unit)) (a1:Int) (a2:(List Int)):Option (Int × Bool) :=
 (qH (λ(s2:(Int × Int)) =>
   bif decide (s2.2 < (a2.length:Int)) then
    (qbB a0).bind λx3 =>
    (idx a2 s2.2).bind λx4 =>
    (qc8 x3 s2.1 x4).bind λx5 =>
    bif !(decide (x5.2 = 0)) then
     some (.inr (.inr (0,false)))
    else
     some (.inl (x5.1,w64 (s2.2 + 1)))
   else
    some (.inr (.inl s2.1))) (a1,0)).bind (Sum.elim (λ(p6:Int) =>
 some (p6,true)) some)
def qfo:Entry:=⟨22,[.ty (.pair (.sl .str) (.pair (.sl (.pair .str (.pair (.sl I) (.pair (.sl I) (.pair (.sl I) (.pair (.sl I) .unit)))))) (.pair (.sl (.pair (.sl I) (.pair (.sl I) .unit))) .unit))),.ty I,.ty (.sl I)],[(I,0),(.bool,0)],λx=>qbQ x.1 x.2.1 x.2.2⟩
def qoN:TH:=qco [([],22,.block 0,{ lv:=[⟨none,1,0⟩],ps:=[(I,0)],abn:=true,D:=⟨2147483394⟩ }),
 ([],22,.loop 0,{ lv:=[⟨none,1,0⟩,⟨none,8,0⟩],ps:=[(I,0),(I,0)],D:=⟨2147483394⟩ })] []
theorem qoI:KT qfo qoN [qdL,qeI] 40:=λx=>by kernel_rfl
theorem qov:OT qfo:=entK (qg qgP (qg qoc qo)) hJ qoI
def qc9 (a0:((List (List UInt8)) × (List ((List UInt8) × (List Int) × (List Int) × (List Int) × (List Int) × Unit)) × (List ((List Int) × (List Int) × Unit)) × Unit)) (a1:(List Int)):Option ((List (List UInt8)) × (List ((List UInt8) × (List Int) × (List Int) × (List Int) × (List Int) × Unit)) × (List ((List Int) × (List Int) × Unit)) × Unit) :=
 (qbB a0).bind λx1 =>
 (qH (λ(s3:(Int × (List (List UInt8)) × (List ((List UInt8) × (List Int) × (List Int) × (List Int) × (List Int) × Unit)) × (List ((List Int) × (List Int) × Unit)))) =>
   bif decide (s3.1 < (a0.2.1.length:Int)) then
    (qjw a1 s3.1).bind λx4 =>
    (bif !x4 then
      (qbB a0).bind λx5 =>
      (idx x5.2.1 s3.1).bind λx6 =>
      (app s3.2.2.1 ([x6])).bind λx7 =>
      some (s3.2.1,x7,s3.2.2.2)
     else
      some (s3.2.1,s3.2.2.1,s3.2.2.2)).bind λ(p8:((List (List UInt8)) × (List ((List UInt8) × (List Int) × (List Int) × (List Int) × (List Int) × Unit)) × (List ((List Int) × (List Int) × Unit)))) =>
    some (.inl (w64 (s3.1 + 1),p8.1,p8.2.1,p8.2.2))
   else
    some (.inr (s3.2.1,s3.2.2.1,s3.2.2.2))) (0,x1.1,[],x1.2.2.1)).bind λ(p9:((List (List UInt8)) × (List ((List UInt8) × (List Int) × (List Int) × (List Int) × (List Int) × Unit)) × (List ((List Int) × (List Int) × Unit)))) =>
 some (p9.1,p9.2.1,p9.2.2,())
def qeH:Entry:=⟨23,[.ty (.pair (.sl .str) (.pair (.sl (.pair .str (.pair (.sl I) (.pair (.sl I) (.pair (.sl I) (.pair (.sl I) .unit)))))) (.pair (.sl (.pair (.sl I) (.pair (.sl I) .unit))) .unit))),.ty (.sl I)],[((.pair (.sl .str) (.pair (.sl (.pair .str (.pair (.sl I) (.pair (.sl I) (.pair (.sl I) (.pair (.sl I) .unit)))))) (.pair (.sl (.pair (.sl I) (.pair (.sl I) .unit))) .unit))),0)],λx=>qc9 x.1 x.2⟩
def qmT:TH:=qco [([],23,.block 0,{ lv:=[⟨some 0,5,0⟩,⟨some 0,5,1⟩,⟨some 0,5,2⟩],ps:=[((.sl .str),0),((.sl (.pair .str (.pair (.sl I) (.pair (.sl I) (.pair (.sl I) (.pair (.sl I) .unit)))))),1),((.sl (.pair (.sl I) (.pair (.sl I) .unit))),0)],D:=⟨4294966336⟩,wr:=[⟨0,5⟩],rs:=[⟨0,2⟩],Dn:=⟨4294964288⟩ }),
 ([],23,.loop 0,{ lv:=[⟨none,6,0⟩,⟨some 0,5,0⟩,⟨some 0,5,1⟩,⟨some 0,5,2⟩],ps:=[(I,0),((.sl .str),0),((.sl (.pair .str (.pair (.sl I) (.pair (.sl I) (.pair (.sl I) (.pair (.sl I) .unit)))))),1),((.sl (.pair (.sl I) (.pair (.sl I) .unit))),0)],D:=⟨4294966336⟩,wr:=[⟨0,5⟩],rs:=[⟨0,2⟩,⟨0,5⟩],Dn:=⟨2145383488⟩ }),
 ([],23,.cond 20,{ lv:=[⟨some 0,5,0⟩,⟨some 0,5,1⟩,⟨some 0,5,2⟩],ps:=[((.sl .str),0),((.sl (.pair .str (.pair (.sl I) (.pair (.sl I) (.pair (.sl I) (.pair (.sl I) .unit)))))),1),((.sl (.pair (.sl I) (.pair (.sl I) .unit))),0)],D:=⟨4292870144⟩,wr:=[⟨0,5⟩],rs:=[⟨0,5⟩],Dn:=⟨2143289344⟩ })] []
theorem qnf:KT qeH qmT [qhu,qdL] 40:=λx=>by kernel_rfl
theorem qnb:OT qeH:=entK (qg qpr (qg qgP qo)) hJ qnf
def qcR (a0:((List (List UInt8)) × (List ((List UInt8) × (List Int) × (List Int) × (List Int) × (List Int) × Unit)) × (List ((List Int) × (List Int) × Unit)) × Unit)) (a1:Int) (a2:(List Int)):Option Bool :=
 (qi2).bind λx1 =>
 bif !x1 then
  some false
 else
  ((qjv a0).bind λx2 =>
   bif !x2 then
    some true
   else
    bif decide ((a0.2.1.length:Int) > 6) then
     some true
    else
     (qdB a0 a1).bind λx3 =>
     bif !(decide (x3 = 0)) then
      some true
     else
      some (decide ((a2.length:Int) > 8))).bind λ(p4:Bool) =>
  bif p4 then
   some true
  else
   (qbB a0).bind λx5 =>
   (qbK x5 a1).bind λx6 =>
   (qbB a0).bind λx7 =>
   (qaN x7 a1).bind λx8 =>
   (bif !(decide (x6.2 = 0)) then
     some true
    else
     some (decide ((x6.1.length:Int) > 256))).bind λ(p9:Bool) =>
   bif p9 then
    some false
   else
    (qbB a0).bind λx10 =>
    (qb5 x6.1).bind λx11 =>
    (qbE x10 a1 x11).bind λx12 =>
    (bif !(decide (x12.2 = 0) == decide (x8.2 = 12)) then
      some true
     else
      bif !(decide (x8.2 = 0)) then
       some (!(decide (x8.2 = 12)))
      else
       some false).bind λ(p13:Bool) =>
    bif p13 then
     some false
    else
     (bif decide (x8.2 = 0) then
       (qbQ a0 a1 x8.1).bind λx14 =>
       (bif !x14.2 then
         some true
        else
         (qaY a0 x14.1).bind λx15 =>
         bif !x15 then
          some true
         else
          some (decide ((x8.1.length:Int) > 256))).bind λ(p16:Bool) =>
       bif p16 then
        some (.inr false)
       else
        (bif decide ((x8.1.length:Int) > 0) then
          (slc x8.1 0 (w64 ((x8.1.length:Int) - 1))).bind λx17 =>
          (qbQ a0 a1 x17).bind λx18 =>
          (bif !x18.2 then
            some true
           else
            (qaY a0 x18.1).bind λx19 =>
            some x19).bind λ(p20:Bool) =>
          bif p20 then
           some (.inr (.inr false))
          else
           some (.inl ())
         else
          some (.inl ())).bind (Sum.elim (λ(p21:Unit) =>
        some (.inl ())) some)
      else
       some (.inl ())).bind (Sum.elim (λ(p22:Unit) =>
     (qbQ a0 a1 a2).bind λx23 =>
     (bif x23.2 then
       (qaY a0 x23.1).bind λx24 =>
       bif x24 then
        bif !(decide (x8.2 = 0)) then
         some true
        else
         some (decide ((x8.1.length:Int) > (a2.length:Int)))
       else
        some false
      else
       some false).bind λ(p25:Bool) =>
     bif p25 then
      some false
     else
      (qbB a0).bind λx26 =>
      (qbA x26 a1).bind λx27 =>
      (qaY a0 a1).bind λx28 =>
      bif x28 then
       some (decide (x27.2 = 20))
      else
       (bif !(decide (x27.2 = 0)) then
         some true
        else
         some (!(decide ((x27.1.length:Int) = 0) == decide (x8.2 = 12)))).bind λ(p29:Bool) =>
       bif p29 then
        some false
       else
        (qH (λ(s31:Int) =>
          bif decide (s31 < (x27.1.length:Int)) then
           (qH (λ(s33:((List Int) × Int)) =>
             bif decide (s33.2 < (x27.1.length:Int)) then
              (bif !(decide (s33.2 = s31)) then
                (idx x27.1 s33.2).bind λx34 =>
                (app s33.1 ([x34])).bind λx35 =>
                some x35
               else
                some s33.1).bind λ(p36:(List Int)) =>
              some (.inl (p36,w64 (s33.2 + 1)))
             else
              some (.inr s33.1)) ([],0)).bind λ(p37:(List Int)) =>
           (qc9 a0 p37).bind λx38 =>
           (qaN x38 a1).bind λx39 =>
           (bif decide (s31 < 0) then
             bif !(decide (x39.2 = 12)) then
              some true
             else
              bif decide (s31>=0) then
               some (!(decide (x39.2 = 0)))
              else
               some false
            else
             bif decide (s31>=0) then
              some (!(decide (x39.2 = 0)))
             else
              some false).bind λ(p40:Bool) =>
           bif p40 then
            some (.inr (.inr false))
           else
            some (.inl (w64 (s31 + 1)))
          else
           some (.inr (.inl ()))) (-1)).bind (Sum.elim (λ(p41:Unit) =>
        some true) some)) some)
def qa6:Entry:=⟨4,[.ty (.pair (.sl .str) (.pair (.sl (.pair .str (.pair (.sl I) (.pair (.sl I) (.pair (.sl I) (.pair (.sl I) .unit)))))) (.pair (.sl (.pair (.sl I) (.pair (.sl I) .unit))) .unit))),.ty I,.ty (.sl I)],[(.bool,0)],λx=>qcR x.1 x.2.1 x.2.2⟩
def qh8:TH:=qco [([],4,.region 3,{ lv:=[⟨none,47,0⟩],ps:=[(.bool,0)],D:=⟨281474708275200⟩,rs:=[⟨0,3⟩],Dn:=⟨281470413307904⟩ }),
 ([],4,.region 7,{ lv:=[⟨none,68,0⟩],ps:=[(.bool,0)],D:=⟨585684124340278263808⟩ }),
 ([],4,.region 10,{ lv:=[⟨none,90,0⟩],ps:=[(.bool,0)],D:=⟨2475577847115856892504571904⟩ }),
 ([],4,.cond 92,{ lv:=[],ps:=[],abn:=true,D:=⟨21778071482930158141341691833433972662272⟩ }),
 ([],4,.region 14,{ lv:=[⟨none,112,0⟩],ps:=[(.bool,0)],D:=⟨10383326066469427027659495955234816⟩ }),
 ([],4,.cond 115,{ lv:=[],ps:=[],abn:=true,D:=⟨21777988406190325104413918387691898109952⟩ }),
 ([],4,.region 18,{ lv:=[⟨none,133,0⟩],ps:=[(.bool,0)],D:=⟨21607930299479592429924287571917281427456⟩ }),
 ([],4,.region 21,{ lv:=[⟨none,157,0⟩],ps:=[(.bool,0)],D:=⟨365372621739575913223028516214286673868794888704⟩ }),
 ([],4,.region 26,{ lv:=[⟨none,179,0⟩],ps:=[(.bool,0)],D:=⟨1530998963189262013770106453881607709806611447259594752⟩ }),
 ([],4,.block 0,{ lv:=[],ps:=[],abn:=true,D:=⟨26959946667149107299126149198161272326609994113356953741981491659392⟩ }),
 ([],4,.loop 0,{ lv:=[⟨none,21,0⟩],ps:=[(I,0)],D:=⟨26959946667149107299126149198161272326609994113356953741981491659392⟩ }),
 ([],4,.block 2,{ lv:=[⟨none,22,0⟩],ps:=[((.sl I),1)],D:=⟨6427654097321345685280913435154912790301060375827351603249792⟩ }),
 ([],4,.loop 2,{ lv:=[⟨none,22,0⟩,⟨none,23,0⟩],ps:=[((.sl I),1),(I,0)],D:=⟨6427654097321345685280913435154912790301060375827351603249792⟩ }),
 ([],4,.cond 194,{ lv:=[⟨none,22,0⟩],ps:=[((.sl I),1)],D:=⟨6377535363152867656057162053978989078759993131575459069296640⟩ }),
 ([],4,.region 38,{ lv:=[⟨none,223,0⟩],ps:=[(.bool,0)],D:=⟨26958301162593318588624860117837073323132161686674938901240261640192⟩ })] []
theorem qh5:KT qa6 qh8 [qc1,qcO,qiU,qdZ,qfo,qeH,qdL,qfp,qcY,qci,qdi,qcg] 40:=λx=>by kernel_rfl
theorem qh7:OT qa6:=entK (qg qgY (qg qq7 (qg qtM (qg qlG (qg qov (qg qnb (qg qgP (qg qoA (qg qjN (qg qia (qg qk6 (qg qh9 qo)))))))))))) hJ qh5
end
end Go.Proofs.YtkcaaaiihhhnmaaGreatDoor
end
section
namespace Go.Proofs.YtkcaaaiihhhnmaaGreatDoor
open Go Go.Ab Go.Tx
theorem wit (n lo hi:Int):qt n lo hi = some (decide (lo<=n/\n<=hi)):=by
 unfold qt;by_cases h:lo<=n <;> by_cases h':n<=hi <;> simp [h,h']
theorem Wit (n lo hi:Int):qeQ n lo hi = some (decide (lo<=n/\n<=hi)):=by
 unfold qeQ;by_cases h:lo<=n <;> by_cases h':n<=hi <;> simp [h,h']
theorem wq {n:Int} (h1 : -9223372036854775808<=n) (h2:n<=9223372036854775807):w64 n = n:=qhg h1 h2
theorem unl (b:Bool) (e:Int):qm b e = some (if b then 0 else e):=by cases b <;> rfl
theorem qzz (l:List Int) (h:l.length<=1000000000):qy l = some (qit l):=by
 unfold qy; exact qxP l h
abbrev Rg:=Int × Int × Unit
def wOk (w:Rg):Prop:=(-1000000<=w.1/\w.1<=1000000)/\(1<=w.2.1/\w.2.1<=8)
instance (w:Rg):Decidable (wOk w):=by unfold wOk; infer_instance
end Go.Proofs.YtkcaaaiihhhnmaaGreatDoor
end
section
namespace Go.Proofs.YtkcaaaiihhhnmaaGreatDoor
open Go Go.Ab Go.Tx
abbrev Nm:=List UInt8
abbrev Gt:=List UInt8 × List (List UInt8) × Int × Unit
theorem qCE (l:List Nm) (m:Nm):qfS .str l m = decide (m ∈ l):=by
 have:=qul (τ:=.str) rfl (l:=l) (k:=m);by_cases h:m ∈ l
 ·rw [decide_eq_true h]; exact this.2 h
 ·rw [decide_eq_false h];cases hm:qfS .str l m with
  | false=>rfl
  | true=>exact absurd (this.1 hm) h
theorem qC2 (l:List Nm) (k:Nm):qjK .str l k = if k ∈ l then l else l ++ [k]:=by
 unfold qjK;rw [qCE];by_cases h:k ∈ l
 ·rw [decide_eq_true h,if_pos h]; rfl
 ·rw [decide_eq_false h,if_neg h]; rfl
theorem quh (l:List Nm) (m k:Nm):m ∈ qjK .str l k ↔ m ∈ l\/m = k:=by
 rw [qC2];split
 ·rename_i h; exact ⟨λh=>.inl h,λh'=>h'.elim id λe=>e ▸ h⟩
 ·simp
theorem qj8 {ρ:Type} (n:Nat) (K:Int->Option (Int ⊕ (Unit ⊕ ρ))) (q:Nat->Prop) [∀ i,Decidable (q i)] (r:ρ) (c:Prop) [Decidable c] (hc:c ↔ ∃ j,j < n/\q j)
  (h:∀ i,i < n->K (i:Int) = some (if q i then .inr (.inr r) else .inl ((i:Int) + 1))) :
  qH (λs=>bif decide (s < (n:Int)) then K s else some (.inr (.inl ()))) 0 = some (if c then .inr r else .inl ()):=by
 refine Ok.eq (qdl n (λi (s:Int)=>s = (i:Int)/\∀ j,j < i -> ¬ q j) _ ⟨rfl,by omega⟩ ?_);rintro i s hi ⟨rfl,hI⟩;by_cases hlt:i < n
 ·have h0:decide ((i:Int) < (n:Int)) = true:=by simp <;> omega
  simp only [h0,cond_true];rw [h i hlt];by_cases hq:q i
  ·rw [if_pos hq,qa1,if_pos (hc.2 ⟨i,hlt,hq⟩)]
  ·rw [if_neg hq,qaz];refine ⟨hlt,by simp,λj hj=>?_⟩;by_cases e:j = i
   ·subst e; exact hq
   ·exact hI j (by omega)
 ·have h0:decide ((i:Int) < (n:Int)) = false:=by simp <;> omega
  simp only [h0,cond_false];rw [qa1,if_neg (λh=>by
   obtain ⟨j,h1,h2⟩:=hc.1 h;exact hI j (by omega) h2)]
theorem qf5 {α:Type} {l:List α} {i:Nat} {a:α}:a ∈ l.take i ↔ ∃ j,j < i/\l[j]? = some a:=by
 rw [List.mem_iff_getElem?];constructor
 ·rintro ⟨j,h⟩;rw [List.getElem?_take] at h;split at h
  ·exact ⟨j,by assumption,h⟩
  ·cases h
 ·rintro ⟨j,h1,h2⟩;exact ⟨j,by rw [List.getElem?_take,if_pos h1]; exact h2⟩
theorem qm6 {α:Type} {g:Nat->α->Int}:∀ (l m:List α) (k:Nat),qaM g k (l ++ m) = if (qaM g k l).2 = 0 then qaM g (k + l.length) m else qaM g k l
 | [],m,k=>by simp [qaM]
 | a :: l,m,k=>by
  simp only [List.cons_append,qaM];by_cases h:g k a = 0
  ·simp only [h,if_true];rw [qm6 l m (k + 1),List.length_cons,show k + 1 + l.length = k + (l.length + 1) by omega]
  ·simp [h]
theorem qqh {α:Type} {g:Nat->α->Int}:∀ {l:List α} {k:Nat},(qaM g k l).2 = 0->qaM g k l = (0,0)
 | [],k,_=>rfl
 | a :: l,k,h=>by
  simp only [qaM] at h ⊢;by_cases h0:g k a = 0
  ·simp only [h0,if_true] at h ⊢; exact qqh h
  ·simp [h0] at h
theorem qvm {α:Type} {g:Nat->α->Int} {l:List α} {i:Nat} {a:α} (h:l[i]? = some a):(qaM g 0 (l.take (i + 1))).2 = if (qaM g 0 (l.take i)).2 = 0 then g i a else (qaM g 0 (l.take i)).2:=by
 have hlt:=qaQ h;rw [qcU a hlt,qaT h,qm6];split
 ·rw [List.length_take,Nat.min_eq_left (by omega),Nat.zero_add];simp only [qaM];by_cases h0:g i a = 0 <;> simp [h0]
 ·rfl
theorem qxw {α:Type} {g:Nat->α->Int} {l:List α} {i:Nat} {a:α} (h:l[i]? = some a) (h0:(qaM g 0 (l.take i)).2 = 0) (ha:g i a ≠ 0):qaM g 0 l = ((i:Int),g i a):=by
 have hlt:=qaQ h;have hl:l = l.take i ++ a :: l.drop (i + 1):=by
  have h2:l[i] = a:=by
   have:=List.getElem?_eq_getElem hlt;rw [this] at h; exact Option.some.inj h
  rw [<- h2,<- List.drop_eq_getElem_cons hlt]; simp
 rw [hl,qm6,if_pos h0,List.length_take,Nat.min_eq_left (by omega),Nat.zero_add];simp [qaM,ha]
def qzC (c:UInt8):Bool:=decide (97<=(c.toNat:Int)/\(c.toNat:Int)<=122) || decide (65<=(c.toNat:Int)/\(c.toNat:Int)<=90)
def qv5 (i:Nat) (c:UInt8):Bool:=!qzC c && (decide ((i:Int) = 0) || (!decide ((c.toNat:Int) = 45) && !decide (48<=(c.toNat:Int)/\(c.toNat:Int)<=57)))
def isN (s:Nm):Bool:=decide (1<=(s.length:Int)/\(s.length:Int)<=12) && (qa4 (λi c=>if qv5 i c = true then some false else none) 0 s).isNone
theorem qB7 (c:UInt8):(c.toNat:Int) < 256:=by
 have:=UInt8.toNat_lt c; omega
theorem qrJ (s:Nm) (hl:s.length<=1000000000):qbv s = some (isN s):=by
 unfold qbv;rw [qaO s _ (λi c=>if qv5 i c = true then some false else none) (λi c hi=>by
  have:=qaQ hi;have hu:=qB7 c;rw [qV hi];simp only [qa];rw [wq (by omega) (by omega)];simp only [wit,qa];have c1:(bif decide (97<=(c.toNat:Int)/\(c.toNat:Int)<=122) then some true else some (decide (65<=(c.toNat:Int)/\(c.toNat:Int)<=90))) = some (qzC c):=by
   unfold qzC; cases decide (97<=(c.toNat:Int)/\(c.toNat:Int)<=122) <;> rfl
  rw [c1];simp only [qa];have c2:(bif !qzC c then bif decide ((i:Int) = 0) then some true else bif !(decide ((c.toNat:Int) = 45)) then some (!decide (48<=(c.toNat:Int)/\(c.toNat:Int)<=57)) else some false else some false) = some (qv5 i c):=by
   unfold qv5;cases qzC c <;> cases decide ((i:Int) = 0) <;> cases decide ((c.toNat:Int) = 45) <;> rfl
  rw [c2];simp only [qa];cases qv5 i c
  ·simp only [cond_false,qf,if_false,stp]; rw [wq (by omega) (by omega)]
  ·rfl),q3]
 unfold isN;have hs:∀ r,qa4 (λi c=>if qv5 i c = true then some false else none) 0 s = some r->r = false:=by
  intro r hr;obtain ⟨i,a,_,h2,_⟩:=qaH hr;split at h2
  ·exact (Option.some.inj h2).symm
  ·cases h2
 cases hf:qa4 (λi c=>if qv5 i c = true then some false else none) 0 s with
 | none=>simp [wit]
 | some r=>rw [hs r hf]; simp
theorem qsm (s:Nm):qeJ s = some (isN s):=by
 unfold qeJ;by_cases h1:(s.length:Int) < 1
 ·have:¬ (1<=(s.length:Int)/\(s.length:Int)<=12):=by omega
  simp only [isN,decide_eq_false this,Bool.false_and];simp only [h1,decide_true,cond_true,qa]
 ·by_cases h2:(s.length:Int) > 12
  ·have:¬ (1<=(s.length:Int)/\(s.length:Int)<=12):=by omega
   simp only [isN,decide_eq_false this,Bool.false_and];simp only [h1,h2,decide_true,decide_false,cond_true,cond_false,qa]
  ·have hr:(1<=(s.length:Int)/\(s.length:Int)<=12):=by omega
   simp only [isN,decide_eq_true hr,Bool.true_and];simp only [h1,h2,decide_true,decide_false,cond_true,cond_false,qa];rw [qaO s _ (λi c=>if qv5 i c = true then some false else none) (λi c hi=>by
    have:=qaQ hi;have hu:=qB7 c;rw [qV hi];simp only [qa];have c1:(bif decide ((c.toNat:Int)>=97) then bif decide ((c.toNat:Int)<=122) then some true else bif decide ((c.toNat:Int)>=65) then some (decide ((c.toNat:Int)<=90)) else some false
      else bif decide ((c.toNat:Int)>=65) then some (decide ((c.toNat:Int)<=90)) else some false) = some (qzC c):=by
     unfold qzC;by_cases a1:(c.toNat:Int)>=97 <;> by_cases a2:(c.toNat:Int)<=122 <;> by_cases a3:(c.toNat:Int)>=65 <;> by_cases a4:(c.toNat:Int)<=90 <;> simp [a1,a2,a3,a4]
    rw [c1];simp only [qa];have c2:(bif !qzC c then bif decide ((i:Int) = 0) then some true else bif !(decide ((c.toNat:Int) = 45)) then bif decide ((c.toNat:Int) < 48) then some true else some (decide ((c.toNat:Int) > 57)) else some false else some false) = some (qv5 i c):=by
     unfold qv5;have e:(bif decide ((c.toNat:Int) < 48) then some true else some (decide ((c.toNat:Int) > 57))) = some (!decide (48<=(c.toNat:Int)/\(c.toNat:Int)<=57)):=by
      by_cases a1:(c.toNat:Int) < 48
      ·have:¬ (48<=(c.toNat:Int)/\(c.toNat:Int)<=57):=by omega
       rw [decide_eq_true a1,decide_eq_false this]; rfl
      ·rw [decide_eq_false a1];by_cases a2:(c.toNat:Int) > 57
       ·have:¬ (48<=(c.toNat:Int)/\(c.toNat:Int)<=57):=by omega
        rw [decide_eq_true a2,decide_eq_false this]; rfl
       ·have:(48<=(c.toNat:Int)/\(c.toNat:Int)<=57):=by omega
        rw [decide_eq_false a2,decide_eq_true this]; rfl
     rw [e];cases qzC c <;> cases decide ((i:Int) = 0) <;> cases decide ((c.toNat:Int) = 45) <;> rfl
    rw [c2];simp only [qa];cases qv5 i c
    ·simp only [cond_false,qf,if_false,stp]; rw [wq (by omega) (by omega)]
    ·rfl),q3]
   have hs:∀ r,qa4 (λi c=>if qv5 i c = true then some false else none) 0 s = some r->r = false:=by
    intro r hr;obtain ⟨i,a,_,h2,_⟩:=qaH hr;split at h2
    ·exact (Option.some.inj h2).symm
    ·cases h2
   cases hf:qa4 (λi c=>if qv5 i c = true then some false else none) 0 s with
   | none=>simp
   | some r=>rw [hs r hf]; simp
structure GB (gs:List Gt):Prop where
 len:gs.length<=8
 nm:∀ g ∈ gs,g.1.length<=30
 rl:∀ g ∈ gs,g.2.1.length<=6
 rn:∀ g ∈ gs,∀ r ∈ g.2.1,r.length<=30
theorem qvy (l:List Nm) (t:Nm) (hl:l.length<=1000000000):qfa l t = some (decide (t ∈ l)):=by
 unfold qfa;rw [qj8 l.length _ (λj=>l[j]? = some t) true (t ∈ l) (by
  rw [List.mem_iff_getElem?];exact ⟨λ⟨j,h⟩=>⟨j,qaQ h,h⟩,λ⟨j,_,h⟩=>⟨j,h⟩⟩) (λi hi=>by
  have hx:l[i]? = some l[i]:=List.getElem?_eq_getElem hi;rw [qV hx];simp only [qa,hx,qb];by_cases h:l[i] = t
  ·simp [h]
  ·simp only [h,decide_false,cond_false,if_false]; rw [wq (by omega) (by omega)])]
 by_cases h:t ∈ l <;> simp [h]
end Go.Proofs.YtkcaaaiihhhnmaaGreatDoor
end
section
namespace Go.Proofs.YtkcaaaiihhhnmaaGreatDoor
open Go Go.Ab Go.Tx
abbrev Lm:=Int × Int × Int × Int × Int × Unit
abbrev Mo:=Int × Int × Int × Unit
abbrev En:=Int × Int × Int × Int × Unit
structure LimOk (x:Lm):Prop where
 lo : -60<=x.1/\x.1<=60
 hi : -60<=x.2.1/\x.2.1<=60
 sp:1<=x.2.2.1/\x.2.2.1<=8
 pu:1<=x.2.2.2.1/\x.2.2.2.1<=3
 je:1<=x.2.2.2.2.1/\x.2.2.2.2.1<=6
theorem qxt (x:Lm):LimOk x ↔ (-60<=x.1/\x.1<=60)/\(-60<=x.2.1/\x.2.1<=60)/\(1<=x.2.2.1/\x.2.2.1<=8)/\(1<=x.2.2.2.1/\x.2.2.2.1<=3)/\(1<=x.2.2.2.2.1/\x.2.2.2.2.1<=6) :=
 ⟨λh=>⟨h.1,h.2,h.3,h.4,h.5⟩,λh=>⟨h.1,h.2.1,h.2.2.1,h.2.2.2.1,h.2.2.2.2⟩⟩
instance (x:Lm):Decidable (LimOk x):=decidable_of_iff _ (qxt x).symm
def qyy (x:Lm) (s:Mo):Prop:=(x.1<=s.1/\s.1<=x.2.1)/\(-x.2.2.1<=s.2.1/\s.2.1<=x.2.2.1)/\(-x.2.2.2.1<=s.2.2.1/\s.2.2.1<=x.2.2.2.1)
instance (x:Lm) (s:Mo):Decidable (qyy x s):=by unfold qyy; infer_instance
def nxt (s:Mo) (p:Int):Mo:=(s.1 + (s.2.1 + p),s.2.1 + p,p,())
def pok (x:Lm) (s:Mo) (p:Int):Prop:=(-x.2.2.2.1<=p/\p<=x.2.2.2.1)/\(-x.2.2.2.2.1<=p - s.2.2.1/\p - s.2.2.1<=x.2.2.2.2.1)/\qyy x (nxt s p)
instance (x:Lm) (s:Mo) (p:Int):Decidable (pok x s p):=by unfold pok; infer_instance
def mot (e:En):Mo:=(e.1,e.2.1,e.2.2.1,())
def qxS (m:Mo):Prop:=m.2.1 = 0/\m.2.2.1 = 0
instance (m:Mo):Decidable (qxS m):=by unfold qxS; infer_instance
def qC4 (m:Mo) (k:Int):En:=(m.1,m.2.1,m.2.2.1,k,())
inductive Pth (all:List En):Nat->List Int->Prop
 | nil {k:Nat} {e:En}:all[k]? = some e->e.2.2.2.1 < 0->Pth all k []
 | snoc {k:Nat} {e:En} {l:List Int}:all[k]? = some e->0<=e.2.2.2.1->Pth all e.2.2.2.1.toNat l->Pth all k (l ++ [e.2.2.1])
structure Good (x:Lm) (all:List En):Prop where
 nd:(all.map mot).Nodup
 ok:∀ e ∈ all,qyy x (mot e)
 bef:∀ (k:Nat) e,all[k]? = some e->e.2.2.2.1 < k /\ -1<=e.2.2.2.1
 pos:0 < all.length
def qCP (x:Lm) (m:Mo):Int:=((m.1 - x.1) * (2 * x.2.2.1 + 1) + (m.2.1 + x.2.2.1)) * (2 * x.2.2.2.1 + 1) + (m.2.2.1 + x.2.2.2.1)
def NN (x:Lm):Int:=(x.2.1 - x.1 + 1) * (2 * x.2.2.1 + 1) * (2 * x.2.2.2.1 + 1)
end Go.Proofs.YtkcaaaiihhhnmaaGreatDoor
end
section
namespace Go.Proofs.YtkcaaaiihhhnmaaGreatDoor
open Go Go.Ab Go.Tx
abbrev E6:=Int × Int × Int × Int × Int × Unit
def prj (e:E6):En:=(e.1,e.2.1,e.2.2.1,e.2.2.2.1,())
structure Sn (x:Lm) (fo:List E6) (sn:List Bool):Prop where
 len:sn.length = (NN x).toNat
 at_:∀ m,qyy x m->sn[(qCP x m).toNat]? = some (decide (m ∈ (fo.map prj).map mot))
end Go.Proofs.YtkcaaaiihhhnmaaGreatDoor
end
section
namespace Go.Proofs.YtkcaaaiihhhnmaaGreatDoor
open Go Go.Ab Go.Tx
theorem qiX (l:List Int) (h:l.length<=1000):qb5 l = some l:=by
 unfold qb5;rw [qwW (by omega)]; rfl
end Go.Proofs.YtkcaaaiihhhnmaaGreatDoor
end
section
namespace Go.Proofs.YtkcaaaiihhhnmaaGreatDoor
open Go Go.Ab Go.Tx
structure Bf (x:Lm) (s:Mo) (i:Nat) (all:List En) (d:Nat->Nat):Prop where
 le:i<=all.length
 root:all[0]? = some (qC4 s (-1))/\d 0 = 0
 par:∀ (k:Nat) e,all[k]? = some e->0 < k->∃ (j:Nat) (e':En),e.2.2.2.1 = (j:Int)/\j < k/\d k = d j + 1/\all[j]? = some e'/\pok x (mot e') e.2.2.1/\mot e = nxt (mot e') e.2.2.1
 mono:∀ k k',k<=k'->k' < all.length->d k<=d k'
 done:∀ (k:Nat) e,k < i->all[k]? = some e -> ¬ qxS (mot e)/\∀ p,pok x (mot e) p->∃ (k2:Nat) (e2:En),all[k2]? = some e2/\mot e2 = nxt (mot e) p/\d k2<=d k + 1
 top:∀ k,k < all.length->i < all.length->d k<=d i + 1
end Go.Proofs.YtkcaaaiihhhnmaaGreatDoor
end
section
namespace Go.Proofs.YtkcaaaiihhhnmaaGreatDoor
open Go Go.Ab Go.Tx
theorem qAP (l:List Int) (t:Int) (hl:l.length<=1000000000):qjw l t = some (decide (t ∈ l)):=by
 unfold qjw;have key:=qaO l (λs2=>(idx l s2).bind λx3 =>
    bif decide (x3 = t) then
     some (.inr (.inr true))
    else
     some (.inl (w64 (s2 + 1)))) (λ_ a=>if a = t then some true else none) (λi a hi=>by
  have:=qaQ hi;rw [qV hi];simp only [qa];by_cases h:a = t
  ·simp [h,stp]
  ·simp only [h,decide_false,cond_false,if_false,stp]; rw [wq (by omega) (by omega)])
 rw [key,q3];cases hf:qa4 (λ(_:Nat) a=>if a = t then some true else none) 0 l with
 | none =>
  rw [qbe] at hf;have:t ∉ l:=λh=>by
   obtain ⟨i,hi⟩:=List.mem_iff_getElem?.1 h;have:=hf i t hi;simp at this
  simp [this]
 | some r =>
  obtain ⟨i,a,h1,h2,_⟩:=qaH hf;split at h2
  ·rename_i h; subst h;simp only [qb] at h2; subst h2;simp [List.mem_of_getElem? h1]
  ·cases h2
end Go.Proofs.YtkcaaaiihhhnmaaGreatDoor
end
section
namespace Go.Proofs.YtkcaaaiihhhnmaaGreatDoor
open Go Go.Ab Go.Tx
abbrev Ts:=List Int × List Int × Unit
abbrev Ac:=Nm × List Int × List Int × List Int × List Int × Unit
abbrev Mc:=List Nm × List Ac × List Ts × Unit
abbrev qca (a:Ac):Ts:=(a.2.1,a.2.2.1,())
abbrev dos (a:Ac):Ts:=(a.2.2.2.1,a.2.2.2.2.1,())
def shT (t:Ts):Prop:=t.1.length<=10/\t.2.1.length<=10
instance (t:Ts):Decidable (shT t):=by unfold shT; infer_instance
structure MB (m:Mc):Prop where
 fl:m.1.length<=10
 ac:m.2.1.length<=12
 hm:m.2.2.1.length<=6
 fn:∀ s ∈ m.1,s.length<=30
 an:∀ a ∈ m.2.1,a.1.length<=30/\shT (qca a)/\shT (dos a)
 ht:∀ t ∈ m.2.2.1,shT t
theorem quB (t:Ts):qds t = some (decide (shT t)):=by
 unfold qds shT;by_cases h1:t.1.length<=10
 ·have h1':(t.1.length:Int)<=10:=by omega
  by_cases h2:t.2.1.length<=10
  ·have h2':(t.2.1.length:Int)<=10:=by omega
   simp [h1,h2,h1',h2']
  ·have h2':¬ (t.2.1.length:Int)<=10:=by omega
   simp [h1,h2,h1',h2']
 ·have h1':¬ (t.1.length:Int)<=10:=by omega
  simp [h1,h1']
theorem qCc (m:Mc):∃ b,qjv m = some b/\(b = true->MB m):=by
 unfold qjv;by_cases g1:(m.1.length:Int) > 10
 ·exact ⟨false,by simp only [g1,decide_true,cond_true,qa],λh=>by cases h⟩
 by_cases g2:(m.2.1.length:Int) > 12
 ·exact ⟨false,by simp only [g1,g2,decide_true,decide_false,cond_true,cond_false,qa],λh=>by cases h⟩
 by_cases g3:(m.2.2.1.length:Int) > 6
 ·exact ⟨false,by simp only [g1,g2,g3,decide_true,decide_false,cond_true,cond_false,qa],λh=>by cases h⟩
 simp only [g1,g2,g3,decide_false,cond_false,qa];rw [qaO m.1 _ (λ_ s=>if (s.length:Int) > 30 then some false else none) (λi a hi=>by
  have:=qaQ hi;rw [qV hi];simp only [qa];by_cases h:(a.length:Int) > 30
  ·simp only [h,decide_true,cond_true,if_true,stp]
  ·simp only [h,decide_false,cond_false,if_false,stp]; rw [wq (by omega) (by omega)]),q3]
 cases hf1:qa4 (λ_ (s:Nm)=>if (s.length:Int) > 30 then some false else none) 0 m.1 with
 | some r =>
  obtain ⟨i,a,_,h2,_⟩:=qaH hf1;split at h2
  ·cases h2; exact ⟨false,rfl,λh=>by cases h⟩
  ·cases h2
 | none =>
  simp only
  rw [qaO m.2.1 _ (λ_ a=>if (a.1.length:Int) > 30 \/ ¬ shT (qca a) \/ ¬ shT (dos a) then some false else none) (λi a hi=>by
   have:=qaQ hi;rw [qV hi];simp only [qa,quB];by_cases h:(a.1.length:Int) > 30
   ·simp only [h,decide_true,cond_true,true_or,if_true,stp,qa]
   ·by_cases h2:shT (qca a)
    ·by_cases h3:shT (dos a)
     ·simp only [h,h2,h3,decide_true,decide_false,cond_false,Bool.not_true,not_true,or_self,if_false,stp,qa]; rw [wq (by omega) (by omega)]
     ·simp only [h,h2,h3,decide_true,decide_false,cond_false,cond_true,Bool.not_true,Bool.not_false,not_true,not_false_eq_true,or_true,if_true,stp,qa]
    ·simp only [h,h2,decide_true,decide_false,cond_false,cond_true,Bool.not_true,Bool.not_false,not_false_eq_true,or_true,true_or,if_true,stp,qa]),q3]
  cases hf2:qa4 (λ_ (a:Ac)=>if (a.1.length:Int) > 30 \/ ¬ shT (qca a) \/ ¬ shT (dos a) then some false else none) 0 m.2.1 with
  | some r =>
   obtain ⟨i,a,_,h2,_⟩:=qaH hf2;split at h2
   ·cases h2; exact ⟨false,rfl,λh=>by cases h⟩
   ·cases h2
  | none =>
   simp only
   rw [qaO m.2.2.1 _ (λ_ a=>if ¬ shT a then some false else none) (λi a hi=>by
    have:=qaQ hi;rw [qV hi];simp only [qa,quB];by_cases h:shT a
    ·simp only [h,decide_true,cond_false,Bool.not_true,not_true,if_false,stp]; rw [wq (by omega) (by omega)]
    ·simp only [h,decide_false,cond_true,Bool.not_false,not_false_eq_true,if_true,stp]),q3]
   cases hf3:qa4 (λ_ (a:Ts)=>if ¬ shT a then some false else none) 0 m.2.2.1 with
   | some r =>
    obtain ⟨i,a,_,h2,_⟩:=qaH hf3;split at h2
    ·cases h2; exact ⟨false,rfl,λh=>by cases h⟩
    ·cases h2
   | none =>
    refine ⟨true,rfl,λ_=>⟨by omega,by omega,by omega,λs hs=>?_,λa ha=>?_,λt ht=>?_⟩⟩
    ·obtain ⟨i,hi⟩:=List.mem_iff_getElem?.1 hs;have:=qbe.1 hf1 i s hi;by_cases h:(s.length:Int) > 30
     ·simp only [h,if_true] at this; cases this
     ·omega
    ·obtain ⟨i,hi⟩:=List.mem_iff_getElem?.1 ha;have:=qbe.1 hf2 i a hi;by_cases h:(a.1.length:Int) > 30 \/ ¬ shT (qca a) \/ ¬ shT (dos a)
     ·simp only [h,if_true] at this; cases this
     ·simp only [not_or,Classical.not_not] at h;exact ⟨by omega,h.2⟩
    ·obtain ⟨i,hi⟩:=List.mem_iff_getElem?.1 ht;have:=qbe.1 hf3 i t hi;by_cases h:¬ shT t
     ·simp only [h,not_false_eq_true,if_true] at this; cases this
     ·exact Classical.not_not.1 h
theorem qi1 {t:Ts} (h:shT t):qaC t = some t:=by
 obtain ⟨h1,h2⟩:=h;unfold qaC;rw [qiX _ (by omega),qiX _ (by omega)]; rfl
theorem qtz {m:Mc} (hb:MB m):qbB m = some m:=by
 have h1:=hb.fl; have h2:=hb.ac; have h3:=hb.hm;unfold qbB qfr;rw [qwW (by omega)];simp only [qa];have k1:Ok (qH (λ(s4:(Int × (List Nm) × (List Ac) × (List Ts))) =>
   bif decide (s4.1 < (m.2.1.length:Int)) then
    (idx m.2.1 s4.1).bind λx5 =>
    (idx m.2.1 s4.1).bind λx6 =>
    (qaC (x6.2.1,x6.2.2.1,())).bind λx7 =>
    (idx m.2.1 s4.1).bind λx8 =>
    (qaC (x8.2.2.2.1,x8.2.2.2.2.1,())).bind λx9 =>
    (app s4.2.2.1 ([(x5.1,x7.1,x7.2.1,x9.1,x9.2.1,())])).bind λx10 =>
    some (.inl (w64 (s4.1 + 1),s4.2.1,x10,s4.2.2.2))
   else
    some (.inr (s4.2.1,s4.2.2.1,s4.2.2.2))) (0,m.1,[],[])) (λr=>r = (m.1,m.2.1,[])):=by
  refine qdl m.2.1.length (λi (s:Int × List Nm × List Ac × List Ts)=>s = ((i:Int),m.1,m.2.1.take i,[])) _ rfl ?_;rintro i s hi rfl;by_cases hlt:i < m.2.1.length
  ·obtain ⟨a,ha⟩:∃ a,m.2.1[i]? = some a:=⟨_,List.getElem?_eq_getElem hlt⟩
   have h0:decide ((i:Int) < (m.2.1.length:Int)) = true:=by simp <;> omega
   obtain ⟨_,b1,b2⟩:=hb.an a (List.mem_of_getElem? ha);simp only [h0,cond_true,qV ha,qa];rw [qi1 b1,qi1 b2];simp only [qa];rw [qew (by rw [List.length_take]; omega)];simp only [qa];rw [wq (by omega) (by omega),qaz];exact ⟨hlt,by rw [qcU a hlt,qaT ha]; simp⟩
  ·have:i = m.2.1.length:=by omega
   subst this;have h0:decide ((m.2.1.length:Int) < (m.2.1.length:Int)) = false:=by simp
   simp only [h0,cond_false];rw [qa1,List.take_length]
 rw [k1.eq];simp only [qa];have k2:Ok (qH (λ(s13:(Int × (List Nm) × (List Ac) × (List Ts))) =>
   bif decide (s13.1 < (m.2.2.1.length:Int)) then
    (idx m.2.2.1 s13.1).bind λx14 =>
    (qaC x14).bind λx15 =>
    (app s13.2.2.2 ([x15])).bind λx16 =>
    some (.inl (w64 (s13.1 + 1),s13.2.1,s13.2.2.1,x16))
   else
    some (.inr (s13.2.1,s13.2.2.1,s13.2.2.2))) (0,m.1,m.2.1,[])) (λr=>r = (m.1,m.2.1,m.2.2.1)):=by
  refine qdl m.2.2.1.length (λi (s:Int × List Nm × List Ac × List Ts)=>s = ((i:Int),m.1,m.2.1,m.2.2.1.take i)) _ rfl ?_;rintro i s hi rfl;by_cases hlt:i < m.2.2.1.length
  ·obtain ⟨a,ha⟩:∃ a,m.2.2.1[i]? = some a:=⟨_,List.getElem?_eq_getElem hlt⟩
   have h0:decide ((i:Int) < (m.2.2.1.length:Int)) = true:=by simp <;> omega
   have b1:=hb.ht a (List.mem_of_getElem? ha);simp only [h0,cond_true,qV ha,qa];rw [qi1 b1];simp only [qa];rw [qew (by rw [List.length_take]; omega)];simp only [qa];rw [wq (by omega) (by omega),qaz];exact ⟨hlt,by rw [qcU a hlt,qaT ha]; simp⟩
  ·have:i = m.2.2.1.length:=by omega
   subst this;have h0:decide ((m.2.2.1.length:Int) < (m.2.2.1.length:Int)) = false:=by simp
   simp only [h0,cond_false];rw [qa1,List.take_length]
 rw [k2.eq];rfl
theorem quQ {α:Type} (g:Nat->α->Int):∀ (l:List α) (k:Nat),qa4 (λi a=>if g i a = 0 then none else some (g i a)) k l = if (qaM g k l).2 = 0 then none else some (qaM g k l).2
 | [],k=>rfl
 | a :: l,k=>by
  simp only [qa4,qaM];by_cases h:g k a = 0
  ·simp only [h,if_true]; exact quQ g l (k + 1)
  ·simp [h]
theorem qqa {α σ:Type} (l:List α) (g:Nat->α->Int) (J:Nat->σ->Prop) (K:Int × σ->Option ((Int × σ) ⊕ (σ ⊕ (Int × Int × σ)))) (s0:σ) (h0:J 0 s0)
  (h:∀ (i:Nat) a s,l[i]? = some a->J i s->∃ s',J (i + 1) s'/\K ((i:Int),s) = some (if g i a = 0 then .inl ((i:Int) + 1,s') else .inr (.inr ((i:Int),g i a,s')))) :
  Ok ((qH (λs=>bif decide (s.1 < (l.length:Int)) then K s else some (.inr (.inl s.2))) (0,s0)).bind (Sum.elim (λp=>some (0,0,p)) some)) (λr=>(r.1,r.2.1) = qaM g 0 l):=by
 rw [qA7];refine (qdl l.length (λi (s:Int × σ)=>s.1 = (i:Int)/\J i s.2/\(qaM g 0 (l.take i)).2 = 0)
  (λr:σ ⊕ (Int × Int × σ)=>match r with
   | .inl _=>(qaM g 0 l) = (0,0)
   | .inr q=>(q.1,q.2.1) = qaM g 0 l) ⟨rfl,h0,rfl⟩ ?_).mono ?_
 ·rintro i ⟨i0,s⟩ hi ⟨e1,e2,e3⟩;simp only at e1 e2;subst e1;by_cases hlt:i < l.length
  ·have h0:decide ((i:Int) < (l.length:Int)) = true:=by simp <;> omega
   obtain ⟨a,ha⟩:∃ a,l[i]? = some a:=⟨_,List.getElem?_eq_getElem hlt⟩
   simp only [h0,cond_true];obtain ⟨s',hJ,hK⟩:=h i a s ha e2;rw [hK];by_cases hg:g i a = 0
   ·rw [if_pos hg,qaz];exact ⟨hlt,by simp,hJ,by rw [qvm ha,if_pos e3,hg]⟩
   ·rw [if_neg hg,qa1];exact (qxw ha e3 hg).symm
  ·have:i = l.length:=by omega
   subst this;have h0:decide ((l.length:Int) < (l.length:Int)) = false:=by simp
   simp only [h0,cond_false];rw [qa1];rw [List.take_length] at e3;exact qqh e3
 ·intro r hr;cases r with
  | inl p=>simp only at hr ⊢; rw [qm9]; exact hr.symm
  | inr q=>exact hr
def ixE (f:Int) (l:List Int) (i:Nat) (n:Int):Int:=if 0<=n/\n<=f - 1 then (if 0 < i/\n<=l.getD (i - 1) 0 then 9 else 0) else 6
def qvv (f:Int) (l:List Int):Int:=(qaM (ixE f l) 0 l).2
theorem qjI (l:List Int) (f:Int) (hl:l.length<=1000) (hf:0<=f/\f<=1000):qbb l f = some (qvv f l):=by
 unfold qbb;have key:=qqa l (ixE f l) (λi (p:Int)=>p = if i = 0 then -1 else l.getD (i - 1) 0) (λ(s2:Int × Int)=>(idx l s2.1).bind λx3 =>
     (qt x3 (0:Int) (w64 (f - 1))).bind λx4 =>
     (qm x4 (6:Int)).bind λx5 =>
     (qm (decide (x3 > s2.2)) (9:Int)).bind λx6 =>
     (qy ([x5,x6])).bind λx7 =>
     bif !(decide (x7 = 0)) then
      some (.inr (.inr (s2.1,x7,x3)))
     else
      some (.inl (w64 (s2.1 + 1),x3))) (-1) rfl (by
  rintro i a p ha rfl;have hlt:=qaQ ha;refine ⟨a,by simp [ha],?_⟩;rw [wq (by omega) (by omega),qV ha];simp only [qa,wit,unl];rw [qzz _ (by simp)];simp only [qa];rw [wq (by omega) (by omega)];unfold ixE;by_cases c1:0<=a/\a<=f - 1
  ·by_cases c2:i = 0
   ·subst c2;have c3:a > -1:=by omega
    simp [c1,c3,qit]
   ·have c4:0 < i:=by omega
    by_cases c3:a<=l.getD (i - 1) 0
    ·have c3':¬ a > l.getD (i - 1) 0:=by omega
     simp only [c1,c2,c3,c3',c4,and_self,decide_true,decide_false,if_true,if_false,qf,qit];rfl
    ·have c3':a > l.getD (i - 1) 0:=by omega
     simp only [c1,c2,c3,c3',c4,and_self,and_false,decide_true,decide_false,if_true,if_false,qf,qit];rfl
  ·simp only [c1,decide_false,if_false,qf,qit];rfl)
 obtain ⟨r,h1,h2⟩:=key;rw [h1];simp only [qa];unfold qvv;rw [<- h2]
theorem qjd (l:List Int) (f:Int) (hl:l.length<=1000) (hf:0<=f/\f<=1000):qby l f = some (qvv f l):=by
 unfold qby;rw [qaO l _ (λi n=>if ixE f l i n = 0 then none else some (ixE f l i n)) (λi a hi=>by
  have hlt:=qaQ hi;rw [qV hi];simp only [qa,Wit];rw [wq (n:=f - 1) (by omega) (by omega)];unfold ixE;by_cases c1:0<=a/\a<=f - 1
  ·by_cases c2:0 < i
   ·have c2':(i:Int) > 0:=by omega
    have e1:((i:Int) - 1) = ((i - 1:Nat):Int):=by omega
    obtain ⟨b,hb⟩:∃ b,l[i - 1]? = some b:=⟨_,List.getElem?_eq_getElem (by omega)⟩
    rw [wq (n:=(i:Int) - 1) (by omega) (by omega),e1,qV hb,qaT hb];by_cases c3:a<=b
    ·simp [c1,c2,c2',c3,stp]
    ·simp only [c1,c2,c2',c3,and_self,and_false,decide_true,decide_false,Bool.not_true,cond_false,cond_true,qa,if_true,if_false,stp];rw [wq (by omega) (by omega)]
   ·have c2':¬ (i:Int) > 0:=by omega
    simp only [c1,c2,c2',and_self,false_and,decide_true,decide_false,Bool.not_true,cond_false,cond_true,qa,if_true,if_false,stp];rw [wq (by omega) (by omega)]
  ·simp [c1,stp]),q3,quQ]
 unfold qvv;by_cases h:(qaM (ixE f l) 0 l).2 = 0 <;> simp [h]
def tsE (f:Int) (t:Ts):Int:=if qvv f t.1 = 0 then (if qvv f t.2.1 = 0 then (if ∃ x ∈ t.1,x ∈ t.2.1 then 13 else 0) else qvv f t.2.1) else qvv f t.1
theorem qsz (l:List Int) (x:Int) (hl:l.length<=1000000000):qac l x = some (decide (x ∈ l)):=by
 unfold qac qbL;rw [qaO l _ (λi n=>if x = n then some (i:Int) else none) (λi a hi=>by
  have:=qaQ hi;rw [qV hi];simp only [qa];by_cases h:x = a
  ·simp only [h,decide_true,cond_true,if_true,stp]
  ·simp only [h,decide_false,cond_false,if_false,stp]; rw [wq (by omega) (by omega)]),q3]
 cases hf:qa4 (λi n=>if x = n then some (i:Int) else none) 0 l with
 | none =>
  have:x ∉ l:=λh=>by
   obtain ⟨i,hi⟩:=List.mem_iff_getElem?.1 h;have:=qbe.1 hf i x hi;simp at this
  simp [this]
 | some r =>
  obtain ⟨i,a,h1,h2,_⟩:=qaH hf;by_cases h:x = a
  ·subst h;simp only [if_true,qb] at h2;have:x ∈ l:=List.mem_of_getElem? h1;have h3:r>=0:=by omega
   simp [this,h3]
  ·simp [h] at h2
theorem qk0 (t:Ts) (f:Int) (h:shT t) (hf:0<=f/\f<=1000):qaB t f = some (tsE f t):=by
 obtain ⟨h1,h2⟩:=h;unfold qaB;have key:=qwX t.1 (λx=>qac t.2.1 x) (λx=>decide (x ∈ t.2.1)) (λx _=>qsz _ _ (by omega)) (by omega);obtain ⟨p,e1,e2⟩:=qd.1 key;rw [e1];simp only [qa];rw [qjI _ _ (by omega) hf,qjI _ _ (by omega) hf];simp only [qa,unl];rw [Option.some.inj e2,qzz _ (by simp)];simp only [qa];unfold tsE;by_cases c1:qvv f t.1 = 0
 ·by_cases c2:qvv f t.2.1 = 0
  ·by_cases c3:∃ x ∈ t.1,x ∈ t.2.1
   ·simp [c1,c2,c3,qit]
   ·simp [c1,c2,c3,qit]
  ·simp [c1,c2,qit]
 ·simp [c1,qit]
theorem qlc (t:Ts) (f:Int) (h:shT t) (hf:0<=f/\f<=1000):qb9 t f = some (tsE f t):=by
 obtain ⟨h1,h2⟩:=h;unfold qb9;rw [qjd _ _ (by omega) hf,qjd _ _ (by omega) hf];simp only [qa];unfold tsE;by_cases c1:qvv f t.1 = 0
 ·by_cases c2:qvv f t.2.1 = 0
  ·simp only [c1,c2,decide_true,Bool.not_true,cond_false,if_true];rw [qj8 t.1.length _ (λj=>∃ x,t.1[j]? = some x/\x ∈ t.2.1) (13:Int) (∃ x ∈ t.1,x ∈ t.2.1) (by
    constructor
    ·rintro ⟨x,hx,hm⟩;obtain ⟨j,hj⟩:=List.mem_iff_getElem?.1 hx;exact ⟨j,qaQ hj,x,hj,hm⟩
    ·rintro ⟨j,_,x,hj,hm⟩;exact ⟨x,List.mem_of_getElem? hj,hm⟩) (λi hi=>by
    obtain ⟨a,ha⟩:∃ a,t.1[i]? = some a:=⟨_,List.getElem?_eq_getElem hi⟩
    rw [qV ha];simp only [qa];rw [qAP _ _ (by omega)];simp only [qa];by_cases c:a ∈ t.2.1
    ·simp [c,ha]
    ·simp only [c,decide_false,cond_false,ha,qb,exists_eq_left',if_false];rw [wq (by omega) (by omega)])]
   by_cases c3:∃ x ∈ t.1,x ∈ t.2.1
   ·rw [if_pos c3,if_pos c3]; rfl
   ·rw [if_neg c3,if_neg c3]; rfl
  ·simp [c1,c2]
 ·simp [c1]
def nmE (l:List Nm) (i:Nat) (s:Nm):Int:=if isN s = true then (if s ∈ l.take i then 5 else 0) else 4
def acE (m:Mc) (i:Nat) (a:Ac):Int :=
 if isN a.1 = true then (if a.1 ∈ (m.2.1.take i).map (·.1) then 5 else if tsE m.1.length (qca a) = 0 then tsE m.1.length (dos a) else tsE m.1.length (qca a)) else 4
def hmE (m:Mc) (_:Nat) (t:Ts):Int:=tsE m.1.length t
def qfE (m:Mc):Int × Int :=
 if (m.1.length:Int) > 0 then (if (m.1.length:Int)<=8/\(m.2.1.length:Int)<=10/\(m.2.2.1.length:Int)<=4 then
  (if (qaM (nmE m.1) 0 m.1).2 = 0 then (if (qaM (acE m) 0 m.2.1).2 = 0 then qaM (hmE m) 0 m.2.2.1 else qaM (acE m) 0 m.2.1) else qaM (nmE m.1) 0 m.1) else (0,8)) else (0,10)
theorem qnZ {m:Mc} (hb:MB m):qbr m = some (qfE m):=by
 have h1:=hb.fl; have h2:=hb.ac; have h3:=hb.hm;unfold qbr qfE;have c0:(bif decide ((m.1.length:Int)<=8) then bif decide ((m.2.1.length:Int)<=10) then some (decide ((m.2.2.1.length:Int)<=4)) else some false else some false)
   = some (decide ((m.1.length:Int)<=8/\(m.2.1.length:Int)<=10/\(m.2.2.1.length:Int)<=4)):=by
  by_cases a1:(m.1.length:Int)<=8 <;> by_cases a2:(m.2.1.length:Int)<=10 <;> simp [a1,a2]
 rw [c0];simp only [unl,qa];rw [qzz _ (by simp)];simp only [qa];by_cases g1:(m.1.length:Int) > 0
 ·by_cases g2:(m.1.length:Int)<=8/\(m.2.1.length:Int)<=10/\(m.2.2.1.length:Int)<=4
  ·rw [if_pos g1,if_pos g2,decide_eq_true g1,decide_eq_true g2];simp only [if_true,qit,decide_true,Bool.not_true,cond_false];obtain ⟨r1,e1,q1⟩:=qqa m.1 (nmE m.1) (λi (kn:List Nm)=>∀ r,r ∈ kn ↔ r ∈ m.1.take i) (λs6=>(idx m.1 s6.1).bind λx7 =>
      (qbv x7).bind λx8 =>
      (qy ([if x8 = true then 0 else 4,if (!(qfS .str s6.2 x7)) = true then 0 else 5])).bind λx11 =>
      bif !(decide (x11 = 0)) then
       some (.inr (.inr (s6.1,x11,qjK .str s6.2 x7)))
      else
       some (.inl (w64 (s6.1 + 1),qjK .str s6.2 x7))) [] (by simp) (by
    intro i a kn ha hk;have hlt:=qaQ ha;refine ⟨qjK .str kn a,λr=>by rw [quh,hk,qcU a hlt,qaT ha]; simp,?_⟩;rw [qV ha];simp only [qa];rw [qrJ a (by have:=hb.fn a (List.mem_of_getElem? ha); omega),qCE];simp only [qa];rw [qzz _ (by simp)];simp only [qa];rw [wq (by omega) (by omega)];unfold nmE;by_cases a3:isN a = true
    ·by_cases a4:a ∈ m.1.take i
     ·have:a ∈ kn:=(hk a).2 a4;simp [a3,a4,this,qit]
     ·have:a ∉ kn:=λh=>a4 ((hk a).1 h);simp [a3,a4,this,qit]
    ·simp [a3,qit])
   rw [e1];simp only [qa];by_cases E1:(qaM (nmE m.1) 0 m.1).2 = 0
   ·have E1':r1.2.1 = 0:=by rw [<- q1] at E1; exact E1
    rw [if_pos E1];simp only [E1',decide_true,Bool.not_true,cond_false];obtain ⟨r2,e2,q2⟩:=qqa m.2.1 (acE m) (λi (kn:List Nm)=>∀ r,r ∈ kn ↔ r ∈ (m.2.1.take i).map (·.1)) (λs15=>(idx m.2.1 s15.1).bind λx16 =>
       (qbv x16.1).bind λx17 =>
       (qy ([if x17 = true then 0 else 4,if (!(qfS .str s15.2 x16.1)) = true then 0 else 5])).bind λx20 =>
       (qaB (x16.2.1,x16.2.2.1,()) (m.1.length:Int)).bind λx21 =>
       (qaB (x16.2.2.2.1,x16.2.2.2.2.1,()) (m.1.length:Int)).bind λx22 =>
       (qy ([x20,x21,x22])).bind λx23 =>
       bif !(decide (x23 = 0)) then
        some (.inr (.inr (s15.1,x23,qjK .str s15.2 x16.1)))
       else
        some (.inl (w64 (s15.1 + 1),qjK .str s15.2 x16.1))) [] (by simp) (by
     intro i a kn ha hk;have hlt:=qaQ ha;refine ⟨qjK .str kn a.1,λr=>by rw [quh,hk,qcU a hlt,qaT ha]; simp,?_⟩;rw [qV ha];simp only [qa];obtain ⟨b0,b1,b2⟩:=hb.an a (List.mem_of_getElem? ha);rw [qrJ a.1 (by omega),qCE];simp only [qa];rw [qzz _ (by simp)];simp only [qa];rw [qk0 (qca a) _ b1 (by omega),qk0 (dos a) _ b2 (by omega)];simp only [qa];rw [qzz _ (by simp)];simp only [qa];rw [wq (by omega) (by omega)];unfold acE;by_cases a3:isN a.1 = true
     ·by_cases a4:a.1 ∈ (m.2.1.take i).map (·.1)
      ·have:a.1 ∈ kn:=(hk a.1).2 a4;simp only [a3,a4,this,decide_true,Bool.not_true,qf,if_true,if_false,qit];rfl
      ·have:a.1 ∉ kn:=λh=>a4 ((hk a.1).1 h);simp only [a3,a4,this,decide_false,Bool.not_false,if_true,if_false,qit];by_cases a5:tsE m.1.length (qca a) = 0
       ·by_cases a6:tsE m.1.length (dos a) = 0
        ·simp [a5,a6]
        ·simp [a5,a6]
       ·simp [a5]
     ·simp [a3,qit])
    rw [e2];simp only [qa];by_cases E2:(qaM (acE m) 0 m.2.1).2 = 0
    ·have E2':r2.2.1 = 0:=by rw [<- q2] at E2; exact E2
     rw [if_pos E2];simp only [E2',decide_true,Bool.not_true,cond_false];have e3:=qu7 m.2.2.1 (λ_ t=>qaB t (m.1.length:Int)) (hmE m) (λi a ha=>qk0 a _ (hb.ht a (List.mem_of_getElem? ha)) (by omega)) (by omega);rw [e3];rfl
    ·have E2':r2.2.1 ≠ 0:=by rw [<- q2] at E2; exact E2
     rw [if_neg E2];simp only [E2',decide_false,Bool.not_false,cond_true];rw [q2]
   ·have E1':r1.2.1 ≠ 0:=by rw [<- q1] at E1; exact E1
    rw [if_neg E1];simp only [E1',decide_false,Bool.not_false,cond_true];rw [q1]
  ·rw [if_pos g1,if_neg g2,decide_eq_true g1,decide_eq_false g2];rfl
 ·rw [if_neg g1,decide_eq_false g1];rfl
theorem qni {m:Mc} (hb:MB m):qbI m = some (qfE m):=by
 have h1:=hb.fl; have h2:=hb.ac; have h3:=hb.hm;unfold qbI qfE;by_cases g1:(m.1.length:Int) > 0
 ·have g1':¬ (m.1.length:Int) = 0:=by omega
  rw [if_pos g1,decide_eq_false g1'];simp only [cond_false];by_cases g2:(m.1.length:Int)<=8/\(m.2.1.length:Int)<=10/\(m.2.2.1.length:Int)<=4
  ·obtain ⟨a1,a2,a3⟩:=g2;have a1':¬ (m.1.length:Int) > 8:=by omega
   have a2':¬ (m.2.1.length:Int) > 10:=by omega
   have a3':¬ (m.2.2.1.length:Int) > 4:=by omega
   rw [if_pos ⟨a1,a2,a3⟩];simp only [a1',a2',a3',decide_false,cond_false,qa];rw [qaO m.1 _ (λi s=>if nmE m.1 i s = 0 then none else some ((i:Int),nmE m.1 i s)) (λi a hi=>by
    have hlt:=qaQ hi;rw [qV hi];simp only [qa];rw [qsm];simp only [qa];unfold nmE;by_cases c1:isN a = true
    ·rw [qAM (by omega)];simp only [qa,Int.toNat_natCast,Int.toNat_zero,List.drop_zero,c1,Bool.not_true,cond_false,if_true];rw [qvy _ _ (by simp; omega)];simp only [qa];by_cases c2:a ∈ m.1.take i
     ·simp [c2,stp]
     ·simp only [c2,decide_false,cond_false,if_false,if_true,stp]; rw [wq (by omega) (by omega)]
    ·simp [c1,stp]),q3]
   have f1:=qfP (nmE m.1) m.1 0;cases hf1:qa4 (λi s=>if nmE m.1 i s = 0 then none else some ((i:Int),nmE m.1 i s)) 0 m.1 with
   | some r =>
    rw [hf1] at f1;simp only at f1;have hr:r.2 ≠ 0:=by
     obtain ⟨i,a,_,h2,_⟩:=qaH hf1;split at h2
     ·cases h2
     ·rename_i h; cases h2; exact h
    simp only
    rw [f1,if_neg (by rw [<- Option.some.inj f1]; exact hr)]
   | none =>
    rw [hf1] at f1;simp only at f1 ⊢;rw [if_pos (by rw [<- Option.some.inj f1])];rw [qaO m.2.1 _ (λi s=>if acE m i s = 0 then none else some ((i:Int),acE m i s)) (λi a hi=>by
     have hlt:=qaQ hi;obtain ⟨b0,b1,b2⟩:=hb.an a (List.mem_of_getElem? hi);rw [qV hi];simp only [qa];rw [qsm];simp only [qa];unfold acE;by_cases c1:isN a.1 = true
     ·simp only [c1,Bool.not_true,cond_false,if_true];rw [qj8 i _ (λj=>∃ x,m.2.1[j]? = some x/\x.1 = a.1) (.inr (.inr ((i:Int),5)):Int ⊕ (Unit ⊕ (Int × Int))) (a.1 ∈ (m.2.1.take i).map (·.1)) (by
       rw [List.mem_map];constructor
       ·rintro ⟨x,hx,e⟩;obtain ⟨j,hj,hx⟩:=qf5.1 hx;exact ⟨j,hj,x,hx,e⟩
       ·rintro ⟨j,hj,x,hx,e⟩;exact ⟨x,qf5.2 ⟨j,hj,hx⟩,e⟩) (λj hj=>by
       obtain ⟨x,hx⟩:∃ x,m.2.1[j]? = some x:=⟨_,List.getElem?_eq_getElem (by omega)⟩
       rw [qV hx];simp only [qa];by_cases c:x.1 = a.1
       ·simp [c,hx]
       ·simp only [c,decide_false,cond_false,hx,qb,exists_eq_left',if_false];rw [wq (by omega) (by omega)])]
      by_cases c2:a.1 ∈ (m.2.1.take i).map (·.1)
      ·rw [if_pos c2,if_pos c2]; rfl
      ·rw [if_neg c2,if_neg c2];simp only [qa,Sum.elim_inl];rw [qlc (qca a) _ b1 (by omega),qlc (dos a) _ b2 (by omega)];simp only [qa];by_cases c3:tsE m.1.length (qca a) = 0
       ·by_cases c4:tsE m.1.length (dos a) = 0
        ·simp only [c3,c4,decide_true,Bool.not_true,cond_false,if_true,stp]; rw [wq (by omega) (by omega)]
        ·simp [c3,c4,stp]
       ·simp [c3,stp]
     ·simp [c1,stp]),q3]
    have f2:=qfP (acE m) m.2.1 0;cases hf2:qa4 (λi s=>if acE m i s = 0 then none else some ((i:Int),acE m i s)) 0 m.2.1 with
    | some r =>
     rw [hf2] at f2;simp only at f2;have hr:r.2 ≠ 0:=by
      obtain ⟨i,a,_,h2,_⟩:=qaH hf2;split at h2
      ·cases h2
      ·rename_i h; cases h2; exact h
     simp only
     rw [f2,if_neg (by rw [<- Option.some.inj f2]; exact hr)]
    | none =>
     rw [hf2] at f2;simp only at f2 ⊢;rw [if_pos (by rw [<- Option.some.inj f2])];rw [qaO m.2.2.1 _ (λi s=>if hmE m i s = 0 then none else some ((i:Int),hmE m i s)) (λi a hi=>by
      have hlt:=qaQ hi;rw [qV hi];simp only [qa];rw [qlc a _ (hb.ht a (List.mem_of_getElem? hi)) (by omega)];simp only [qa];unfold hmE;by_cases c3:tsE m.1.length a = 0
      ·simp only [c3,decide_true,Bool.not_true,cond_false,if_true,stp]; rw [wq (by omega) (by omega)]
      ·simp [c3,stp]),q3]
     rw [<- qfP (hmE m) m.2.2.1 0];cases qa4 (λi s=>if hmE m i s = 0 then none else some ((i:Int),hmE m i s)) 0 m.2.2.1 <;> rfl
  ·rw [if_neg g2];have key:(bif decide ((m.1.length:Int) > 8) then some true else bif decide ((m.2.1.length:Int) > 10) then some true else some (decide ((m.2.2.1.length:Int) > 4))) = some true:=by
    by_cases a1:(m.1.length:Int) > 8
    ·simp [a1]
    ·by_cases a2:(m.2.1.length:Int) > 10
     ·simp [a1,a2]
     ·have a3:(m.2.2.1.length:Int) > 4:=by
       rw [not_and,not_and] at g2;have:=g2 (by omega) (by omega);omega
      simp [a1,a2,a3]
   rw [key]; rfl
 ·have g1':(m.1.length:Int) = 0:=by omega
  rw [if_neg g1,decide_eq_true g1']; rfl
theorem qqt {m:Mc} (hb:MB m):qcu m = some (qfE m).2:=by
 unfold qcu;rw [qni hb]; rfl
end Go.Proofs.YtkcaaaiihhhnmaaGreatDoor
end
section
namespace Go.Proofs.YtkcaaaiihhhnmaaGreatDoor
open Go Go.Ab Go.Tx
theorem qfM {a:Nat} (h:a < 9223372036854775808):(BitVec.ofInt 64 (a:Int)).toNat = a:=by
 rw [BitVec.ofInt_natCast,BitVec.toNat_ofNat,Nat.mod_eq_of_lt (by omega)]
theorem qjM {a b:Nat} (ha:a < 9223372036854775808) (hb:b < 9223372036854775808):qq5 .i64 (a:Int) (b:Int) = ((a &&& b:Nat):Int):=by
 unfold qq5;have e:(BitVec.ofInt 64 (a:Int) &&& BitVec.ofInt 64 (b:Int)).toNat = a &&& b:=by rw [BitVec.toNat_and,qfM ha,qfM hb]
 show IntKind.wrap .i64 ((BitVec.ofInt 64 (a:Int) &&& BitVec.ofInt 64 (b:Int)).toNat:Int) = _;rw [e];have h:=Nat.and_le_left (n:=a) (m:=b);exact qhg (by omega) (by omega)
theorem qxK {a b:Nat} (ha:a < 2 ^ 62) (hb:b < 2 ^ 62):orI .i64 (a:Int) (b:Int) = ((a ||| b:Nat):Int):=by
 unfold orI;have e:(BitVec.ofInt 64 (a:Int) ||| BitVec.ofInt 64 (b:Int)).toNat = a ||| b:=by rw [BitVec.toNat_or,qfM (by omega),qfM (by omega)]
 show IntKind.wrap .i64 ((BitVec.ofInt 64 (a:Int) ||| BitVec.ofInt 64 (b:Int)).toNat:Int) = _;rw [e];have h:=Nat.or_lt_two_pow ha hb;exact qhg (by omega) (by omega)
def qBn (a b:Nat):Nat:=a &&& (2 ^ 64 - (b + 1))
theorem qt9 {a b:Nat} (ha:a < 2 ^ 62) (hb:b < 2 ^ 62):qix .i64 (a:Int) (b:Int) = ((qBn a b:Nat):Int):=by
 unfold qix;have e:(BitVec.ofInt 64 (a:Int) &&& ~~~ BitVec.ofInt 64 (b:Int)).toNat = qBn a b:=by
  rw [BitVec.toNat_and,BitVec.toNat_not,qfM (by omega),qfM (by omega)];unfold qBn;congr 1
  omega
 show IntKind.wrap .i64 ((BitVec.ofInt 64 (a:Int) &&& ~~~ BitVec.ofInt 64 (b:Int)).toNat:Int) = _;rw [e];have h:=Nat.and_le_left (n:=a) (m:=2 ^ 64 - (b + 1));unfold qBn;exact qhg (by omega) (by omega)
theorem qzZ {a b k:Nat} (ha:a < 2 ^ 62) (hb:b < 2 ^ 62):(qBn a b).testBit k = (a.testBit k && !b.testBit k):=by
 unfold qBn;rw [Nat.testBit_and,Nat.testBit_two_pow_sub_succ (by omega)];by_cases h:k < 64
 ·simp [h]
 ·have:a.testBit k = false:=Nat.testBit_lt_two_pow (Nat.lt_of_lt_of_le ha (Nat.pow_le_pow_right (by omega) (by omega)));simp [h,this]
theorem qmh {x:Int} (h0:0<=x) (h1:x < 62):qyU .i64 1 x = some ((2 ^ x.toNat:Nat):Int):=by
 unfold qyU;rw [if_pos h0];have e:min x.toNat (IntKind.bits .i64) = x.toNat:=by
  show min x.toNat 64 = x.toNat;omega
 rw [e,Int.one_mul];have h2:2 ^ x.toNat < 2 ^ 62:=Nat.pow_lt_pow_right (by omega) (by omega);have h3:((2:Int) ^ x.toNat) = ((2 ^ x.toNat:Nat):Int):=by simp
 rw [h3];generalize 2 ^ x.toNat = p at h2 ⊢;exact congrArg some (qhg (by omega) (by omega))
theorem qmn {a:Nat} {x:Int} (h0:0<=x) (h1:x < 62):qsQ .i64 (a:Int) x = some ((a / 2 ^ x.toNat:Nat):Int):=by
 unfold qsQ;rw [if_pos h0];have e:min x.toNat (IntKind.bits .i64) = x.toNat:=by
  show min x.toNat 64 = x.toNat;omega
 rw [e];have h3:((2:Int) ^ x.toNat) = ((2 ^ x.toNat:Nat):Int):=by simp
 rw [h3];generalize 2 ^ x.toNat = p;rw [Int.fdiv_eq_ediv_of_nonneg _ (by omega)]
 norm_cast
theorem qtX {a k:Nat} (ha:a < 9223372036854775808):qq5 .i64 ((a / 2 ^ k:Nat):Int) 1 = if a.testBit k = true then 1 else 0:=by
 have h:=qjM (a:=a / 2 ^ k) (b:=1) (Nat.lt_of_le_of_lt (Nat.div_le_self ..) ha) (by omega);rw [show ((1:Nat):Int) = 1 from rfl] at h;rw [h,Nat.and_one_is_mod,Nat.testBit_eq_decide_div_mod_eq];by_cases c:a / 2 ^ k % 2 = 1
 ·rw [c]; simp
 ·have:a / 2 ^ k % 2 = 0:=by omega
  rw [this]; simp
def qej (l:List Int):Nat:=l.foldl (λa x=>a ||| 2 ^ x.toNat) 0
theorem qzD (l:List Int) (h:∀ x ∈ l,0<=x) (k:Nat):∀ a:Nat,(l.foldl (λa x=>a ||| 2 ^ x.toNat) a).testBit k = (a.testBit k || decide ((k:Int) ∈ l)):=by
 induction l with
 | nil=>simp
 | cons x l ih =>
  intro a;rw [List.foldl_cons,ih (λy hy=>h y (by simp [hy])),Nat.testBit_or,Nat.testBit_two_pow];have:=h x (by simp);by_cases e:x = (k:Int)
  ·subst e; simp
  ·have e':x.toNat ≠ k:=by omega
   have e'':(k:Int) ≠ x:=λh=>e h.symm;simp [e',e'']
theorem qf3 {l:List Int} (h:∀ x ∈ l,0<=x) (k:Nat):(qej l).testBit k = decide ((k:Int) ∈ l):=by
 unfold qej; rw [qzD l h k]; simp
theorem qBa {l:List Int} {f:Nat} (h:∀ x ∈ l,0<=x/\x < f):qej l < 2 ^ f:=by
 refine Nat.lt_pow_two_of_testBit _ λk hk=>?_;rw [qf3 λx hx=>(h x hx).1];simp only [decide_eq_false_iff_not];intro hm;have:=(h _ hm).2;omega
def qBQ (l:List Int):Prop:=∀ x ∈ l,0<=x/\x < 8
theorem qnF {l:List Int} (h:qBQ l):qej l < 256:=by
 have:=qBa (f:=8) h;omega
theorem of_eq {l:List Int} (h:qBQ l) (hl:l.length<=1000):qgZ l = some ((qej l:Nat):Int):=by
 unfold qgZ;have key:Ok (qH (λ(s2:(Int × Int)) =>
   bif decide (s2.2 < (l.length:Int)) then
    (idx l s2.2).bind λx3 =>
    (qyU .i64 (1:Int) x3).bind λx4 =>
    some (.inl (orI .i64 s2.1 x4,w64 (s2.2 + 1)))
   else
    some (.inr s2.1)) (0,0)) (λr=>r = ((qej l:Nat):Int)):=by
  refine qdl l.length (λi (s:Int × Int)=>s = (((qej (l.take i):Nat):Int),(i:Int))) _ (by simp [qej]) ?_;rintro i s hi rfl;by_cases hlt:i < l.length
  ·obtain ⟨a,ha⟩:∃ a,l[i]? = some a:=⟨_,List.getElem?_eq_getElem hlt⟩
   have h0:decide ((i:Int) < (l.length:Int)) = true:=by simp <;> omega
   obtain ⟨b1,b2⟩:=h a (List.mem_of_getElem? ha);simp only [h0,cond_true,qV ha,qa];rw [qmh b1 (by omega)];simp only [qa];have c1:qej (l.take i) < 256:=qnF λx hx=>h x (List.mem_of_mem_take hx);have c2:2 ^ a.toNat < 2 ^ 62:=Nat.pow_lt_pow_right (by omega) (by omega);rw [qxK (by omega) c2,wq (by omega) (by omega),qaz];refine ⟨hlt,?_⟩;rw [qcU a hlt,qaT ha];unfold qej;rw [List.foldl_append];simp
  ·have:i = l.length:=by omega
   subst this;have h0:decide ((l.length:Int) < (l.length:Int)) = false:=by simp
   simp only [h0,cond_false];rw [qa1,List.take_length]
 rw [key.eq]; rfl
def qBj (t:Ts):Prop:=qBQ t.1/\qBQ t.2.1/\shT t
abbrev Bt:=Int × Int × Unit
def bt (t:Ts):Bt:=(((qej t.1:Nat):Int),((qej t.2.1:Nat):Int),())
def hold (t:Ts) (s:Nat):Bool:=(t.1.all λx=>s.testBit x.toNat) && (t.2.1.all λx=>!s.testBit x.toNat)
def qp2 (t:Ts) (s:Nat):Nat:=qBn (s ||| qej t.1) (qej t.2.1)
theorem qk7 {t:Ts} (h:qBj t):qaD t = some (bt t):=by
 obtain ⟨h1,h2,h3,h4⟩:=h;unfold qaD;rw [of_eq h1 (by omega),of_eq h2 (by omega)]; rfl
theorem qzL {l:List Int} (h:qBQ l) (s:Nat):s &&& qej l = qej l ↔ ∀ x ∈ l,s.testBit x.toNat = true:=by
 constructor
 ·intro e x hx;have h0:=(h x hx).1;have:(s &&& qej l).testBit x.toNat = true:=by
   rw [e,qf3 λx hx=>(h x hx).1];have:((x.toNat:Nat):Int) = x:=by omega
   rw [this]; simp [hx]
  rw [Nat.testBit_and] at this;simp only [qe] at this;exact this.1
 ·intro hs;refine Nat.eq_of_testBit_eq λk=>?_;rw [Nat.testBit_and,qf3 λx hx=>(h x hx).1];by_cases hk:(k:Int) ∈ l
  ·have:=hs _ hk;rw [Int.toNat_natCast] at this;simp [hk,this]
  ·simp [hk]
theorem qy6 {l:List Int} (h:qBQ l) (s:Nat):s &&& qej l = 0 ↔ ∀ x ∈ l,s.testBit x.toNat = false:=by
 constructor
 ·intro e x hx;have h0:=(h x hx).1;have:(s &&& qej l).testBit x.toNat = false:=by rw [e]; simp
  rw [Nat.testBit_and,qf3 λx hx=>(h x hx).1] at this;have e2:((x.toNat:Nat):Int) = x:=by omega
  rw [e2] at this;simpa [hx] using this
 ·intro hs;refine Nat.eq_of_testBit_eq λk=>?_;rw [Nat.testBit_and,qf3 λx hx=>(h x hx).1];by_cases hk:(k:Int) ∈ l
  ·have:=hs _ hk;rw [Int.toNat_natCast] at this;simp [this]
  ·simp [hk]
theorem qhT {t:Ts} (h:qBj t) {s:Nat} (hs:s < 256):qS (bt t) (s:Int) = some (hold t s):=by
 obtain ⟨h1,h2,_⟩:=h;have b1:=qnF h1;have b2:=qnF h2;unfold qS bt hold;simp only
 rw [qjM (by omega) (by omega),qjM (by omega) (by omega)];have e1:(((s &&& qej t.1:Nat):Int) = ((qej t.1:Nat):Int)) ↔ ∀ x ∈ t.1,s.testBit x.toNat = true:=by
  rw [<- qzL h1]; omega
 have e2:(((s &&& qej t.2.1:Nat):Int) = 0) ↔ ∀ x ∈ t.2.1,s.testBit x.toNat = false:=by
  rw [<- qy6 h2]; omega
 have f1:(t.1.all λx=>s.testBit x.toNat) = decide (∀ x ∈ t.1,s.testBit x.toNat = true):=by
  rw [Bool.eq_iff_iff]; simp
 have f2:(t.2.1.all λx=>!s.testBit x.toNat) = decide (∀ x ∈ t.2.1,s.testBit x.toNat = false):=by
  rw [Bool.eq_iff_iff]; simp
 rw [f1,f2];by_cases c1:∀ x ∈ t.1,s.testBit x.toNat = true
 ·rw [decide_eq_true (e1.2 c1),decide_eq_true c1];simp only [cond_true,Bool.true_and,qa];by_cases c2:∀ x ∈ t.2.1,s.testBit x.toNat = false
  ·rw [decide_eq_true (e2.2 c2),decide_eq_true c2]
  ·rw [decide_eq_false λe=>c2 (e2.1 e),decide_eq_false c2]
 ·rw [decide_eq_false λe=>c1 (e1.1 e),decide_eq_false c1];rfl
theorem qtb {t:Ts} (h:qBj t) {s:Nat} (hs:s < 256):qam (bt t) (s:Int) = some ((qp2 t s:Nat):Int):=by
 obtain ⟨h1,h2,_⟩:=h;have b1:=qnF h1;have b2:=qnF h2;unfold qam bt qp2;simp only
 have b3:s ||| qej t.1 < 2 ^ 8:=Nat.or_lt_two_pow (by omega) (by omega)
 rw [qxK (by omega) (by omega),qt9 (by omega) (by omega)]
theorem qzy {t:Ts} (h:qBj t) {s:Nat} (hs:s < 256) (k:Nat):(qp2 t s).testBit k = ((s.testBit k || decide ((k:Int) ∈ t.1)) && !decide ((k:Int) ∈ t.2.1)):=by
 obtain ⟨h1,h2,_⟩:=h;have b1:=qnF h1;have b2:=qnF h2;have b3:s ||| qej t.1 < 2 ^ 8:=Nat.or_lt_two_pow (by omega) (by omega)
 unfold qp2;rw [qzZ (by omega) (by omega),Nat.testBit_or,qf3 λx hx=>(h1 x hx).1,qf3 λx hx=>(h2 x hx).1]
theorem qtu {t:Ts} {f:Nat} (h:qBj t) (hf:∀ x ∈ t.1,x < f) {s:Nat} (h8:f<=8) (hs:s < 2 ^ f):qp2 t s < 2 ^ f:=by
 have h256:s < 256:=Nat.lt_of_lt_of_le hs (Nat.pow_le_pow_right (n:=2) (by omega) h8);refine Nat.lt_pow_two_of_testBit _ λk hk=>?_;rw [qzy h h256];have e1:s.testBit k = false:=Nat.testBit_lt_two_pow (Nat.lt_of_lt_of_le hs (Nat.pow_le_pow_right (by omega) hk));have e2:(k:Int) ∉ t.1:=λhm=>by have:=hf _ hm; omega
 simp [e1,e2]
theorem qzi {t:Ts} (h:qBj t) {s:Nat} (hs:s < 256):qgc t (s:Int) = some (hold t s):=by
 obtain ⟨h1,h2,hl1,hl2⟩:=h;unfold qgc hold;rw [qaO t.1 _ (λ_ x=>if s.testBit x.toNat = true then none else some false) (λi a hi=>by
  have:=qaQ hi;obtain ⟨b1,b2⟩:=h1 a (List.mem_of_getElem? hi);rw [qV hi];simp only [qa];rw [qmn b1 (by omega)];simp only [qa];rw [qtX (by omega)];by_cases c:s.testBit a.toNat = true
  ·simp only [c,if_true,show ¬ ((1:Int) = 0) by omega,decide_false,cond_false,stp]; rw [wq (by omega) (by omega)]
  ·simp only [c,if_false,decide_true,cond_true,stp,qf]),q3]
 cases hf:qa4 (λ_ (x:Int)=>if s.testBit x.toNat = true then none else some false) 0 t.1 with
 | some r =>
  obtain ⟨i,a,ha,e,_⟩:=qaH hf;by_cases c:s.testBit a.toNat = true
  ·simp [c] at e
  ·simp only [c,if_false,qf,qb] at e;subst e;have:(t.1.all λx=>s.testBit x.toNat) = false:=List.all_eq_false.2 ⟨a,List.mem_of_getElem? ha,by simpa using c⟩;rw [this]; rfl
 | none =>
  have e1:(t.1.all λx=>s.testBit x.toNat) = true:=List.all_eq_true.2 λx hx=>by
   obtain ⟨i,hi⟩:=List.mem_iff_getElem?.1 hx;have:=qbe.1 hf i x hi;by_cases c:s.testBit x.toNat = true
   ·exact c
   ·simp [c] at this
  rw [e1];simp only [Bool.true_and];rw [qaO t.2.1 _ (λ_ x=>if s.testBit x.toNat = true then some false else none) (λi a hi=>by
   have:=qaQ hi;obtain ⟨b1,b2⟩:=h2 a (List.mem_of_getElem? hi);rw [qV hi];simp only [qa];rw [qmn b1 (by omega)];simp only [qa];rw [qtX (by omega)];by_cases c:s.testBit a.toNat = true
   ·simp only [c,if_true,decide_true,cond_true,stp]
   ·simp only [c,if_false,show ¬ ((0:Int) = 1) by omega,decide_false,cond_false,stp,qf]; rw [wq (by omega) (by omega)]),q3]
  cases hf2:qa4 (λ_ (x:Int)=>if s.testBit x.toNat = true then some false else none) 0 t.2.1 with
  | some r =>
   obtain ⟨i,a,ha,e,_⟩:=qaH hf2;by_cases c:s.testBit a.toNat = true
   ·simp only [c,if_true,qb] at e;subst e;have:(t.2.1.all λx=>!s.testBit x.toNat) = false:=List.all_eq_false.2 ⟨a,List.mem_of_getElem? ha,by simp [c]⟩;rw [this]
   ·simp [c] at e
  | none =>
   have e1:(t.2.1.all λx=>!s.testBit x.toNat) = true:=List.all_eq_true.2 λx hx=>by
    obtain ⟨i,hi⟩:=List.mem_iff_getElem?.1 hx;have:=qbe.1 hf2 i x hi;by_cases c:s.testBit x.toNat = true
    ·simp [c] at this
    ·simpa using c
   rw [e1]
end Go.Proofs.YtkcaaaiihhhnmaaGreatDoor
end
section
namespace Go.Proofs.YtkcaaaiihhhnmaaGreatDoor
open Go Go.Ab Go.Tx
end Go.Proofs.YtkcaaaiihhhnmaaGreatDoor
end
section
namespace Go.Proofs.YtkcaaaiihhhnmaaGreatDoor
open Go Go.Ab Go.Tx
end Go.Proofs.YtkcaaaiihhhnmaaGreatDoor
end
section
namespace Go.Proofs.YtkcaaaiihhhnmaaGreatDoor
open Go Go.Ab Go.Tx
def okF (f:Nat) (t:Ts):Prop:=(∀ x ∈ t.1,0<=x/\x < f)/\(∀ x ∈ t.2.1,0<=x/\x < f)/\shT t
theorem okF.ok {f:Nat} {t:Ts} (h:okF f t) (h8:f<=8):qBj t:=⟨λx hx=>by have:=h.1 x hx; omega,λx hx=>by have:=h.2.1 x hx; omega,h.2.2⟩
structure VM (m:Mc):Prop where
 f0:0 < m.1.length
 f8:m.1.length<=8
 a10:m.2.1.length<=10
 h4:m.2.2.1.length<=4
 nd:∀ a ∈ m.2.1,okF m.1.length (qca a)
 ds:∀ a ∈ m.2.1,okF m.1.length (dos a)
 ht:∀ t ∈ m.2.2.1,okF m.1.length t
theorem qxy {f:Nat} {l:List Int} (h:qvv f l = 0):∀ x ∈ l,0<=x/\x < (f:Int):=by
 intro x hx;obtain ⟨i,hi⟩:=List.mem_iff_getElem?.1 hx;have:=qbZ.1 h i x hi;unfold ixE at this;split at this
 ·omega
 ·omega
theorem qxU {f:Nat} {t:Ts} (hs:shT t) (h:tsE f t = 0):okF f t:=by
 unfold tsE at h;split at h
 ·rename_i h1;split at h
  ·rename_i h2; exact ⟨qxy h1,qxy h2,hs⟩
  ·rename_i h2; exact absurd h h2
 ·rename_i h1; exact absurd h h1
theorem qmm {m:Mc} (hb:MB m) (h:(qfE m).2 = 0):VM m/\qfE m = (0,0):=by
 unfold qfE at h ⊢;split at h
 ·rename_i h1;split at h
  ·rename_i h2;split at h
   ·rename_i h3;split at h
    ·rename_i h4;rw [if_pos h1,if_pos h2,if_pos h3,if_pos h4];refine ⟨⟨by omega,by omega,by omega,by omega,λa ha=>?_,λa ha=>?_,λt ht=>?_⟩,qqh h⟩
     ·obtain ⟨i,hi⟩:=List.mem_iff_getElem?.1 ha;have:=qbZ.1 h4 i a hi;obtain ⟨_,b1,b2⟩:=hb.an a ha;unfold acE at this;split at this
      ·split at this
       ·omega
       ·split at this
        ·rename_i h5; exact qxU b1 h5
        ·rename_i h5; exact absurd this h5
      ·omega
     ·obtain ⟨i,hi⟩:=List.mem_iff_getElem?.1 ha;have:=qbZ.1 h4 i a hi;obtain ⟨_,b1,b2⟩:=hb.an a ha;unfold acE at this;split at this
      ·split at this
       ·omega
       ·split at this
        ·exact qxU b2 this
        ·rename_i h5; exact absurd this h5
      ·omega
     ·obtain ⟨i,hi⟩:=List.mem_iff_getElem?.1 ht;exact qxU (hb.ht t ht) (qbZ.1 h i t hi)
    ·rename_i h4; exact absurd h h4
   ·rename_i h3; exact absurd h h3
  ·cases h
 ·cases h
abbrev Bm:=List Bt × List Bt × List Bt × Int × Unit
def bm (m:Mc):Bm:=(m.2.1.map λa=>bt (qca a),m.2.1.map λa=>bt (dos a),m.2.2.1.map bt,((2 ^ m.1.length:Nat):Int),())
def qv9 (m:Mc):Bm × Int:=if (qfE m).2 = 0 then (bm m,0) else (([],[],[],0,()),(qfE m).2)
theorem qBp {m:Mc} (hb:MB m):qgu m = some (qv9 m):=by
 unfold qgu qv9;rw [qnZ hb];simp only [qa];by_cases h:(qfE m).2 = 0
 ·obtain ⟨hv,_⟩:=qmm hb h;have h8:=hv.f8; have h10:=hv.a10; have h4:=hv.h4;simp only [h,decide_true,Bool.not_true,cond_false,if_true];rw [qmh (by omega) (by omega)];simp only [qa,Int.toNat_natCast];have k1:Ok (qH (λ(s5:(Int × (List Bt) × (List Bt) × (List Bt) × Int)) =>
    bif decide (s5.1 < (m.2.1.length:Int)) then
     (idx m.2.1 s5.1).bind λx6 =>
     (qaD (x6.2.1,x6.2.2.1,())).bind λx7 =>
     (app s5.2.1 ([x7])).bind λx8 =>
     (qaD (x6.2.2.2.1,x6.2.2.2.2.1,())).bind λx9 =>
     (app s5.2.2.1 ([x9])).bind λx10 =>
     some (.inl (w64 (s5.1 + 1),x8,x10,s5.2.2.2.1,s5.2.2.2.2))
    else
     some (.inr (s5.2.1,s5.2.2.1,s5.2.2.2.1,s5.2.2.2.2))) (0,[],[],[],((2 ^ m.1.length:Nat):Int))) (λr=>r = (m.2.1.map λa=>bt (qca a),m.2.1.map λa=>bt (dos a),[],((2 ^ m.1.length:Nat):Int))):=by
   refine qdl m.2.1.length (λi (s:Int × List Bt × List Bt × List Bt × Int)=>s = ((i:Int),(m.2.1.take i).map (λa=>bt (qca a)),(m.2.1.take i).map (λa=>bt (dos a)),[],((2 ^ m.1.length:Nat):Int))) _ rfl ?_;rintro i s hi rfl;by_cases hlt:i < m.2.1.length
   ·obtain ⟨a,ha⟩:∃ a,m.2.1[i]? = some a:=⟨_,List.getElem?_eq_getElem hlt⟩
    have h0:decide ((i:Int) < (m.2.1.length:Int)) = true:=by simp <;> omega
    have hm:=List.mem_of_getElem? ha;simp only [h0,cond_true,qV ha,qa];rw [qk7 ((hv.nd a hm).ok h8)];simp only [qa];rw [qew (by simp; omega)];simp only [qa];rw [qk7 ((hv.ds a hm).ok h8)];simp only [qa];rw [qew (by simp; omega)];simp only [qa];rw [wq (by omega) (by omega),qaz];exact ⟨hlt,by rw [qcU a hlt,qaT ha]; simp⟩
   ·have:i = m.2.1.length:=by omega
    subst this;have h0:decide ((m.2.1.length:Int) < (m.2.1.length:Int)) = false:=by simp
    simp only [h0,cond_false];rw [qa1,List.take_length]
  rw [k1.eq];simp only [qa];have k2:Ok (qH (λ(s14:(Int × (List Bt) × (List Bt) × (List Bt) × Int)) =>
    bif decide (s14.1 < (m.2.2.1.length:Int)) then
     (idx m.2.2.1 s14.1).bind λx15 =>
     (qaD x15).bind λx16 =>
     (app s14.2.2.2.1 ([x16])).bind λx17 =>
     some (.inl (w64 (s14.1 + 1),s14.2.1,s14.2.2.1,x17,s14.2.2.2.2))
    else
     some (.inr (s14.2.1,s14.2.2.1,s14.2.2.2.1,s14.2.2.2.2))) (0,m.2.1.map (λa=>bt (qca a)),m.2.1.map (λa=>bt (dos a)),[],((2 ^ m.1.length:Nat):Int))) (λr=>r = (m.2.1.map (λa=>bt (qca a)),m.2.1.map (λa=>bt (dos a)),m.2.2.1.map bt,((2 ^ m.1.length:Nat):Int))):=by
   refine qdl m.2.2.1.length (λi (s:Int × List Bt × List Bt × List Bt × Int)=>s = ((i:Int),m.2.1.map (λa=>bt (qca a)),m.2.1.map (λa=>bt (dos a)),(m.2.2.1.take i).map bt,((2 ^ m.1.length:Nat):Int))) _ rfl ?_;rintro i s hi rfl;by_cases hlt:i < m.2.2.1.length
   ·obtain ⟨a,ha⟩:∃ a,m.2.2.1[i]? = some a:=⟨_,List.getElem?_eq_getElem hlt⟩
    have h0:decide ((i:Int) < (m.2.2.1.length:Int)) = true:=by simp <;> omega
    have hm:=List.mem_of_getElem? ha;simp only [h0,cond_true,qV ha,qa];rw [qk7 ((hv.ht a hm).ok h8)];simp only [qa];rw [qew (by simp; omega)];simp only [qa];rw [wq (by omega) (by omega),qaz];exact ⟨hlt,by rw [qcU a hlt,qaT ha]; simp⟩
   ·have:i = m.2.2.1.length:=by omega
    subst this;have h0:decide ((m.2.2.1.length:Int) < (m.2.2.1.length:Int)) = false:=by simp
    simp only [h0,cond_false];rw [qa1,List.take_length]
  rw [k2.eq];rfl
 ·simp [h]
def stE (m:Mc) (s:Int):Int:=if (qfE m).2 = 0 then (if 0<=s/\s<=((2 ^ m.1.length:Nat):Int) - 1 then 0 else 2) else (qfE m).2
theorem qf1 {m:Mc} (hv:VM m):0 < 2 ^ m.1.length/\2 ^ m.1.length<=256:=⟨Nat.pow_pos (by omega),Nat.pow_le_pow_right (n:=2) (by omega) hv.f8⟩
theorem qdO {m:Mc} (hb:MB m) (s:Int):qan m s = some ((qv9 m).1,s,stE m s):=by
 unfold qan;rw [qBp hb];simp only [qa,wit,unl];rw [qzz _ (by simp)];simp only [qa];unfold qv9 stE;by_cases h:(qfE m).2 = 0
 ·obtain ⟨hv,_⟩:=qmm hb h;obtain ⟨p1,p2⟩:=qf1 hv;simp only [h,if_true,bm,qit];generalize 2 ^ m.1.length = p at p1 p2 ⊢;rw [wq (by omega) (by omega)];by_cases c:0<=s/\s<=(p:Int) - 1 <;> simp [c,qit]
 ·simp [h,qit]
theorem qt8 {m:Mc} (hb:MB m) (s:Int):qdB m s = some (stE m s):=by
 unfold qdB;rw [qqt hb];simp only [qa];unfold stE;by_cases h:(qfE m).2 = 0
 ·obtain ⟨hv,_⟩:=qmm hb h;obtain ⟨p1,p2⟩:=qf1 hv;have h8:=hv.f8;simp only [h,if_true,decide_true,Bool.not_true,cond_false];unfold qfg qfV;rw [qmh (by omega) (by omega)];simp only [qa,Int.toNat_natCast,Wit];generalize 2 ^ m.1.length = p at p1 p2 ⊢;rw [wq (by omega) (by omega)];by_cases c:0<=s/\s<=(p:Int) - 1 <;> simp [c]
 ·simp [h]
theorem qhr {m:Mc} (hb:MB m) {s:Int} (h:stE m s = 0):VM m/\qfE m = (0,0)/\qv9 m = (bm m,0)/\∃ n:Nat,s = (n:Int)/\n < 2 ^ m.1.length/\n < 256:=by
 unfold stE at h;split at h
 ·rename_i h1;obtain ⟨hv,h2⟩:=qmm hb h1;obtain ⟨p1,p2⟩:=qf1 hv;split at h
  ·rename_i h3;refine ⟨hv,h2,by unfold qv9; rw [if_pos h1],s.toNat,by omega,?_,?_⟩
   ·generalize 2 ^ m.1.length = p at p1 p2 h3 ⊢; omega
   ·generalize 2 ^ m.1.length = p at p1 p2 h3 ⊢; omega
  ·cases h
 ·rename_i h1; exact absurd h h1
def qjO (m:Mc) (i:Nat):Ac:=m.2.1.getD i ([],[],[],[],[],())
theorem qdA {m:Mc} {i:Nat} {a:Ac} (h:m.2.1[i]? = some a):qjO m i = a:=qaT h
theorem qzd {i:Nat} (h:i < 62):qsQ .i64 0 (i:Int) = some 0:=by
 have:=qmn (a:=0) (x:=(i:Int)) (by omega) (by omega);simpa using this
theorem and_zero:qq5 .i64 0 1 = 0:=by
 have:=qjM (a:=0) (b:=1) (by omega) (by omega);simpa using this
end Go.Proofs.YtkcaaaiihhhnmaaGreatDoor
end
section
namespace Go.Proofs.YtkcaaaiihhhnmaaGreatDoor
open Go Go.Ab Go.Tx
theorem qAV (a b:Int):cmp_Less_int a b = some (decide (a < b)):=by
 unfold cmp_Less_int cmp_isNaN_int;simp
theorem qA4 {n:Nat} (h:n < 1000000):qsQ .u64 (n:Int) 1 = some ((n / 2:Nat):Int):=by
 unfold qsQ;rw [if_pos (by omega)];have e:min (1:Int).toNat (IntKind.bits .u64) = 1:=by
  show min 1 64 = 1;rfl
 rw [e,show ((2:Int) ^ 1) = 2 from rfl,Int.fdiv_eq_ediv_of_nonneg _ (by omega)]
 norm_cast
theorem wrap_u64 {n:Int} (h0:0<=n) (h:n < 1000000):IntKind.wrap .u64 n = n:=by
 show n % (2 ^ 64:Int) = n;omega
def asc (l:List Int):Prop:=∀ (i j:Nat) a b,i < j->l[i]? = some a->l[j]? = some b->a < b
theorem qsp {l:List Int} (hs:asc l) (hl:l.length<=1000) (t:Int):∃ p,qM l t = some (p,decide (t ∈ l)):=by
 unfold qM;have k1:Ok (qH (λ(s2:(Int × Int)) =>
   bif decide (s2.1 < s2.2) then
    (qsQ .u64 (IntKind.wrap .u64 (w64 (s2.1 + s2.2))) (1:Int)).bind λx3 =>
    (idx l (w64 (x3))).bind λx4 =>
    (cmp_Less_int x4 t).bind λx5 =>
    (bif x5 then
      some (w64 ((w64 (x3)) + 1),s2.2)
     else
      some (s2.1,w64 (x3))).bind λ(p6:(Int × Int)) =>
    some (.inl (p6.1,p6.2))
   else
    some (.inr s2.1)) (0,(l.length:Int))) (λr:Int=>∃ n:Nat,r = (n:Int)/\n<=l.length/\(∀ k a,k < n->l[k]? = some a->a < t)/\∀ k a,n<=k->l[k]? = some a->t<=a):=by
  refine qmC (λs:Int × Int=>(s.2 - s.1).toNat) (λs:Int × Int=>∃ i j:Nat,s = ((i:Int),(j:Int))/\i<=j/\j<=l.length/\(∀ k a,k < i->l[k]? = some a->a < t)/\∀ k a,j<=k->l[k]? = some a->t<=a) _ ⟨0,l.length,rfl,by omega,by omega,by omega,λk a hk ha=>by have:=qaQ ha; omega⟩ ?_;rintro s ⟨i,j,rfl,h1,h2,h3,h4⟩;by_cases hlt:i < j
  ·have h0:decide ((i:Int) < (j:Int)) = true:=by simp <;> omega
   simp only [h0,cond_true];rw [wq (n:=(i:Int) + (j:Int)) (by omega) (by omega),wrap_u64 (by omega) (by omega),show (i:Int) + (j:Int) = ((i + j:Nat):Int) by omega,qA4 (by omega)];simp only [qa];rw [wq (n:=(((i + j) / 2:Nat):Int)) (by omega) (by omega)];obtain ⟨a,ha⟩:∃ a,l[(i + j) / 2]? = some a:=⟨_,List.getElem?_eq_getElem (by omega)⟩
   rw [qV ha];simp only [qa,qAV];rw [wq (n:=(((i + j) / 2:Nat):Int) + 1) (by omega) (by omega)];by_cases c:a < t
   ·simp only [c,decide_true,cond_true,qa];rw [qaz];refine ⟨⟨(i + j) / 2 + 1,j,by simp,by omega,h2,λk b hk hb=>?_,h4⟩,by simp only; omega⟩;by_cases e:k = (i + j) / 2
    ·subst e; rw [ha] at hb; cases hb; exact c
    ·have:=hs k _ b a (by omega) hb ha; omega
   ·simp only [c,decide_false,cond_false,qa];rw [qaz];refine ⟨⟨i,(i + j) / 2,rfl,by omega,by omega,h3,λk b hk hb=>?_⟩,by simp only; omega⟩;by_cases e:k = (i + j) / 2
    ·subst e; rw [ha] at hb; cases hb; omega
    ·have:=hs _ k a b (by omega) ha hb; omega
  ·have h0:decide ((i:Int) < (j:Int)) = false:=by simp <;> omega
   simp only [h0,cond_false];rw [qa1];exact ⟨i,rfl,by omega,h3,λk a hk ha=>h4 k a (by omega) ha⟩
 obtain ⟨r,e1,n,rfl,hn,h3,h4⟩:=k1;rw [e1];simp only [qa];by_cases hlt:n < l.length
 ·have h0:decide ((n:Int) < (l.length:Int)) = true:=by simp <;> omega
  obtain ⟨a,ha⟩:∃ a,l[n]? = some a:=⟨_,List.getElem?_eq_getElem hlt⟩
  simp only [h0,cond_true,qV ha,qa];by_cases c:a = t
  ·subst c;have:a ∈ l:=List.mem_of_getElem? ha;exact ⟨n,by simp [this]⟩
  ·have:t ∉ l:=λhm=>by
    obtain ⟨k,hk⟩:=List.mem_iff_getElem?.1 hm;by_cases e:k < n
    ·have:=h3 k t e hk; omega
    ·by_cases e2:k = n
     ·subst e2; rw [ha] at hk; cases hk; exact c rfl
     ·have h5:=h4 n a (by omega) ha;have:=hs n k a t (by omega) ha hk; omega
   exact ⟨n,by simp [c,this,qcv]⟩
 ·have h0:decide ((n:Int) < (l.length:Int)) = false:=by simp <;> omega
  have:t ∉ l:=λhm=>by
   obtain ⟨k,hk⟩:=List.mem_iff_getElem?.1 hm;have:=h3 k t (by have:=qaQ hk; omega) hk; omega
  exact ⟨n,by simp only [h0,cond_false,qa,this,decide_false]⟩
def qgD (m:Mc) (s:Nat):Bool:=m.2.2.1.any λt=>hold t s
theorem qjL {m:Mc} (hv:VM m) {n:Nat} (hn:n < 256):qw (bm m) (n:Int) = some (qgD m n):=by
 unfold qw;have h4:=hv.h4;have h8:=hv.f8;have key:=qwX (m.2.2.1.map bt) (λx=>qS x (n:Int)) (λx=>decide (∃ t ∈ m.2.2.1,bt t = x/\hold t n = true)) (λx hx=>by
  obtain ⟨t,ht,rfl⟩:=List.mem_map.1 hx;rw [qhT ((hv.ht t ht).ok h8) hn];congr 1
  rw [Bool.eq_iff_iff,decide_eq_true_iff];constructor
  ·intro h; exact ⟨t,ht,rfl,h⟩
  ·rintro ⟨t2,ht2,e,h⟩;have a1:=qhT ((hv.ht t ht).ok h8) hn;have a2:=qhT ((hv.ht t2 ht2).ok h8) hn;rw [e,a1] at a2;rw [Option.some.inj a2]; exact h) (by simp; omega)
 refine key.trans ?_;congr 1
 unfold qgD;rw [Bool.eq_iff_iff,List.any_eq_true,List.any_eq_true];constructor
 ·rintro ⟨x,hx,h⟩;obtain ⟨t,ht,_,h⟩:=of_decide_eq_true h;exact ⟨t,ht,h⟩
 ·rintro ⟨t,ht,h⟩;exact ⟨bt t,List.mem_map.2 ⟨t,ht,rfl⟩,decide_eq_true ⟨t,ht,rfl,h⟩⟩
theorem qke {m:Mc} (hv:VM m) {n:Nat} (hn:n < 256):qaY m (n:Int) = some (qgD m n):=by
 unfold qaY;have h4:=hv.h4;have h8:=hv.f8;rw [qj8 m.2.2.1.length _ (λj=>∃ t,m.2.2.1[j]? = some t/\hold t n = true) true (qgD m n = true) (by
  unfold qgD;rw [List.any_eq_true];constructor
  ·rintro ⟨t,ht,h⟩;obtain ⟨j,hj⟩:=List.mem_iff_getElem?.1 ht;exact ⟨j,qaQ hj,t,hj,h⟩
  ·rintro ⟨j,_,t,hj,h⟩;exact ⟨t,List.mem_of_getElem? hj,h⟩) (λi hi=>by
  obtain ⟨t,ht⟩:∃ t,m.2.2.1[i]? = some t:=⟨_,List.getElem?_eq_getElem hi⟩
  rw [qV ht];simp only [qa];rw [qzi ((hv.ht t (List.mem_of_getElem? ht)).ok h8) hn];simp only [qa];by_cases c:hold t n = true
  ·simp [c,ht]
  ·have c':hold t n = false:=by simpa using c
   simp only [c',cond_false,ht,qb,exists_eq_left',qf,if_false];rw [wq (by omega) (by omega)])]
 by_cases c:qgD m n = true
 ·simp [c]
 ·simp [c]
def seE (p:Int) (l:List Int) (i:Nat) (n:Int):Int:=if 0<=n/\n<=p - 1 then (if 0 < i/\n<=l.getD (i - 1) 0 then 9 else 0) else 2
def opens (m:Mc) (l:List Int) (n:Nat):Prop:=∃ a ∈ m.2.1,hold (qca a) n = true/\(((qp2 (dos a) n:Nat):Int) ∉ l)
instance (m:Mc) (l:List Int) (n:Nat):Decidable (opens m l n):=by unfold opens; infer_instance
def clE (m:Mc) (l:List Int) (_:Nat) (n:Int):Int:=if qgD m n.toNat = true then 22 else if opens m l n.toNat then 21 else 0
def qis (m:Mc) (s:Int) (l:List Int):Int × Int :=
 if (qaM (seE ((2 ^ m.1.length:Nat):Int) l) 0 l).2 = 0 then (if s ∈ l then qaM (clE m l) 0 l else (0,6)) else qaM (seE ((2 ^ m.1.length:Nat):Int) l) 0 l
theorem qCV {m:Mc} (hv:VM m) {l:List Int} (h:(qaM (seE ((2 ^ m.1.length:Nat):Int) l) 0 l).2 = 0):asc l/\∀ x ∈ l,∃ n:Nat,x = (n:Int)/\n < 256/\n < 2 ^ m.1.length:=by
 obtain ⟨p1,p2⟩:=qf1 hv;generalize 2 ^ m.1.length = p at p1 p2 h ⊢;have h1:=qbZ.1 h;have hstep:∀ (i:Nat) a b,l[i]? = some a->l[i + 1]? = some b->a < b:=λi a b ha hb=>by
  have:=h1 (i + 1) b hb;unfold seE at this;split at this
  ·simp only [Nat.zero_add] at this;rw [show i + 1 - 1 = i from rfl,qaT ha] at this;split at this
   ·omega
   ·rename_i hn; simp only [Nat.zero_lt_succ,true_and] at hn; omega
  ·omega
 constructor
 ·intro i j a b hij ha hb;obtain ⟨d,rfl⟩:∃ d,j = i + 1 + d:=⟨j - (i + 1),by omega⟩
  clear hij;induction d generalizing b with
  | zero=>exact hstep i a b ha hb
  | succ d ih =>
   have hlt:=qaQ hb;obtain ⟨c,hc⟩:∃ c,l[i + 1 + d]? = some c:=⟨_,List.getElem?_eq_getElem (by omega)⟩
   have:=ih c hc;have:=hstep _ c b hc hb;omega
 ·intro x hx;obtain ⟨i,hi⟩:=List.mem_iff_getElem?.1 hx;have:=h1 i x hi;unfold seE at this;split at this
  ·exact ⟨x.toNat,by omega,by omega,by omega⟩
  ·omega
theorem qoH {m:Mc} (hb:MB m) (s:Int) (l:List Int) (hl:l.length<=1000):qbE m s l = some (if stE m s = 0 then qis m s l else (0,stE m s)):=by
 unfold qbE;rw [qdO hb];simp only [qa];by_cases h:stE m s = 0
 ·obtain ⟨hv,_,ho,n,rfl,hn,hn2⟩:=qhr hb h;have h8:=hv.f8; have h10:=hv.a10;obtain ⟨p1,p2⟩:=qf1 hv;simp only [h,decide_true,Bool.not_true,cond_false,if_true,ho];unfold qis;have hbm:(bm m).2.2.2.1 = ((2 ^ m.1.length:Nat):Int):=rfl;rw [hbm];obtain ⟨r1,e1,q1⟩:=qqa l (seE ((2 ^ m.1.length:Nat):Int) l) (λi (p:Int)=>p = if i = 0 then -1 else l.getD (i - 1) 0) (λ(s2:Int × Int)=>(idx l s2.1).bind λx4 =>
      (qt x4 (0:Int) (w64 (((2 ^ m.1.length:Nat):Int) - 1))).bind λx5 =>
      (qm x5 (2:Int)).bind λx6 =>
      (qm (decide (x4 > s2.2)) (9:Int)).bind λx7 =>
      (qy ([x6,x7])).bind λx8 =>
      bif !(decide (x8 = 0)) then
       some (.inr (.inr (s2.1,x8,x4)))
      else
       some (.inl (w64 (s2.1 + 1),x4))) (-1) rfl (by
   rintro i a p ha rfl;have hlt:=qaQ ha;refine ⟨a,by simp [ha],?_⟩;generalize 2 ^ m.1.length = q at p1 p2 ⊢;rw [wq (by omega) (by omega),qV ha];simp only [qa,wit,unl];rw [qzz _ (by simp)];simp only [qa];rw [wq (by omega) (by omega)];unfold seE;by_cases c1:0<=a/\a<=(q:Int) - 1
   ·by_cases c2:i = 0
    ·subst c2;have c3:a > -1:=by omega
     simp [c1,c3,qit]
    ·have c4:0 < i:=by omega
     by_cases c3:a<=l.getD (i - 1) 0
     ·have c3':¬ a > l.getD (i - 1) 0:=by omega
      simp only [c1,c2,c3,c3',c4,and_self,decide_true,decide_false,if_true,if_false,qf,qit];rfl
     ·have c3':a > l.getD (i - 1) 0:=by omega
      simp only [c1,c2,c3,c3',c4,and_self,and_false,decide_true,decide_false,if_true,if_false,qf,qit];rfl
   ·simp only [c1,decide_false,if_false,qf,qit];rfl)
  rw [e1];simp only [qa];by_cases E1:(qaM (seE ((2 ^ m.1.length:Nat):Int) l) 0 l).2 = 0
  ·have E1':r1.2.1 = 0:=by rw [<- q1] at E1; exact E1
   obtain ⟨hasc,hel⟩:=qCV hv E1;rw [if_pos E1];simp only [E1',decide_true,Bool.not_true,cond_false];obtain ⟨p,hp⟩:=qsp hasc hl (n:Int);rw [hp];simp only [qa];by_cases hm:(n:Int) ∈ l
   ·simp only [hm,decide_true,Bool.not_true,cond_false,if_true];have e3:=qu7 l (λ_ x14=>(qw (bm m) x14).bind λx15 =>
         bif x15 then
          some 22
         else
          (qH (λ(s17:Int) =>
            bif decide (s17 < ((bm m).1.length:Int)) then
             ((idx (bm m).1 s17).bind λx18 =>
              (qsQ .i64 (0:Int) s17).bind λx19 =>
              bif decide (qq5 .i64 x19 (1:Int) = 0) then
               (qS x18 x14).bind λx20 =>
               bif x20 then
                (idx (bm m).2.1 s17).bind λx21 =>
                (qam x21 x14).bind λx22 =>
                (qM l x22).bind λx23 =>
                bif !x23.2 then
                 some (.inr (.inr (.inr 21)))
                else
                 some (.inl ())
               else
                some (.inl ())
              else
               some (.inl ())).bind (Sum.elim (λ(p24:Unit) =>
             some (.inl (w64 (s17 + 1)))) some)
            else
             some (.inr (.inl ()))) 0).bind (Sum.elim (λ(p25:Unit) =>
          some 0) some)) (clE m l) (λi a ha=>by
     obtain ⟨k,rfl,hk,_⟩:=hel a (List.mem_of_getElem? ha);rw [qjL hv hk];simp only [qa];unfold clE;rw [Int.toNat_natCast];by_cases c:qgD m k = true
     ·simp [c]
     ·have c':qgD m k = false:=by simpa using c
      simp only [c',cond_false,qf,if_false];rw [show ((bm m).1.length:Int) = ((m.2.1.length:Nat):Int) by simp [bm]];rw [qj8 m.2.1.length _ (λj=>∃ a,m.2.1[j]? = some a/\hold (qca a) k = true/\(((qp2 (dos a) k:Nat):Int) ∉ l)) (21:Int) (opens m l k) (by
       unfold opens;constructor
       ·rintro ⟨t,ht,h⟩;obtain ⟨j,hj⟩:=List.mem_iff_getElem?.1 ht;exact ⟨j,qaQ hj,t,hj,h⟩
       ·rintro ⟨j,_,t,hj,h⟩;exact ⟨t,List.mem_of_getElem? hj,h⟩) (λi hi=>by
       obtain ⟨a,ha⟩:∃ a,m.2.1[i]? = some a:=⟨_,List.getElem?_eq_getElem hi⟩
       have hm:=List.mem_of_getElem? ha;have i1:(bm m).1[i]? = some (bt (qca a)):=by simp [bm,ha]
       have i2:(bm m).2.1[i]? = some (bt (dos a)):=by simp [bm,ha]
       rw [qV i1,qV i2,qzd (by omega)];simp only [qa];rw [and_zero,qhT ((hv.nd a hm).ok h8) hk,qtb ((hv.ds a hm).ok h8) hk];simp only [decide_true,cond_true,qa];by_cases d:hold (qca a) k = true
       ·obtain ⟨p,hp⟩:=qsp hasc hl ((qp2 (dos a) k:Nat):Int);simp only [d,cond_true,hp,qa,ha,qb,exists_eq_left',true_and];by_cases d2:((qp2 (dos a) k:Nat):Int) ∈ l
        ·simp only [d2,decide_true,Bool.not_true,cond_false,qa,Sum.elim_inl,not_true,if_false]; rw [wq (by omega) (by omega)]
        ·simp [d2]
       ·have d':hold (qca a) k = false:=by simpa using d
        simp only [d',cond_false,qa,Sum.elim_inl,ha,qb,exists_eq_left',qf,false_and,if_false];rw [wq (by omega) (by omega)])]
      by_cases d:opens m l k
      ·simp [d]
      ·simp [d]) (by omega)
    rw [e3];rfl
   ·simp [hm]
  ·have E1':r1.2.1 ≠ 0:=by rw [<- q1] at E1; exact E1
   rw [if_neg E1];simp only [E1',decide_false,Bool.not_false,cond_true];rw [q1]
 ·simp [h]
end Go.Proofs.YtkcaaaiihhhnmaaGreatDoor
end
section
namespace Go.Proofs.YtkcaaaiihhhnmaaGreatDoor
open Go Go.Ab Go.Tx
abbrev Ent:=Nat × Int × Int × List Int
structure SS where
 nA:Nat
 hm:Nat->Bool
 nx:Nat->Nat->Option Nat
def qsP (x:SS) (i:Nat) (e:Ent) (out:List Ent) (a:Nat):List Ent :=
 match x.nx e.1 a with
 | none=>out
 | some t=>if t ∈ out.map (·.1) then out else out ++ [(t,(i:Int),(a:Int),e.2.2.2 ++ [(a:Int)])]
def qde (x:SS) (i:Nat) (e:Ent) (out:List Ent) (n:Nat):List Ent:=(List.range n).foldl (qsP x i e) out
theorem qhx (x:SS) (i:Nat) (e:Ent) (out:List Ent) (n:Nat):qde x i e out (n + 1) = qsP x i e (qde x i e out n) n:=by
 unfold qde;rw [List.range_succ,List.foldl_append]; rfl
def qgO (x:SS) (i:Nat) (out:List Ent):List Ent :=
 match out[i]? with
 | none=>out
 | some e=>if x.hm e.1 = true then out else qde x i e out x.nA
def RA (x:SS) (s:Nat):Nat->List Ent
 | 0=>[(s,-1,-1,[])]
 | i + 1=>qgO x i (RA x s i)
def qeA (x:SS) (s:Nat):List Ent:=RA x s 256
def qzE (x:SS) (out:List Ent) (k:Nat) (e:Ent):Prop :=
 (k = 0/\e.2.1 = -1/\e.2.2.1 = -1/\e.2.2.2 = []) \/
 ∃ (b a:Nat) (eb:Ent),b < k/\out[b]? = some eb/\a < x.nA/\e.2.1 = (b:Int)/\e.2.2.1 = (a:Int)/\x.nx eb.1 a = some e.1/\x.hm eb.1 = false/\e.2.2.2 = eb.2.2.2 ++ [(a:Int)]
structure GA (x:SS) (s:Nat) (out:List Ent):Prop where
 nd:(out.map (·.1)).Nodup
 lt:∀ e ∈ out,e.1 < 256
 zero:out[0]? = some (s,-1,-1,[])
 aft:∀ (k:Nat) e,out[k]? = some e->qzE x out k e
theorem qyG:∀ (N:Nat) (l:List Nat),l.Nodup->(∀ a ∈ l,a < N)->l.length<=N
 | 0,l,_,h=>by
  cases l with
  | nil=>simp
  | cons a l=>exact absurd (h a (by simp)) (by omega)
 | N + 1,l,hd,h=>by
  have h1:=qyG N (l.filter λa=>decide (a ≠ N)) (hd.filter _) (λa ha=>by
   simp only [List.mem_filter,decide_eq_true_eq] at ha;have:=h a ha.1; omega)
  have h2:(l.filter λa=>!decide (a ≠ N)).length<=1:=by
   have hn:(l.filter λa=>!decide (a ≠ N)).Nodup:=hd.filter _
   match hl:l.filter λa=>!decide (a ≠ N) with
   | []=>simp
   | [a]=>simp
   | a :: b :: t =>
    exfalso
    have ha:a ∈ l.filter λa=>!decide (a ≠ N):=by rw [hl]; simp
    have hb:b ∈ l.filter λa=>!decide (a ≠ N):=by rw [hl]; simp
    simp only [List.mem_filter,Bool.not_eq_true',decide_eq_false_iff_not,Decidable.not_not] at ha hb;rw [hl] at hn;have:a ≠ b:=by
     have:=(List.nodup_cons.1 hn).1;simp only [List.mem_cons,not_or] at this; exact this.1
    exact this (by rw [ha.2,hb.2])
  have h3:l.length = (l.filter λa=>decide (a ≠ N)).length + (l.filter λa=>!decide (a ≠ N)).length:=by
   clear h h1 h2 hd;induction l with
   | nil=>rfl
   | cons a l ih =>
    by_cases e:a = N
    ·simp [e,List.filter_cons] at ih ⊢; omega
    ·simp [e,List.filter_cons] at ih ⊢; omega
  omega
theorem GA.len {x:SS} {s:Nat} {out:List Ent} (h:GA x s out):out.length<=256:=by
 have:=qyG 256 (out.map (·.1)) h.nd (λa ha=>by
  obtain ⟨e,he,rfl⟩:=List.mem_map.1 ha;exact h.lt e he)
 simpa using this
def SS.ok (x:SS):Prop:=∀ s a t,s < 256->x.nx s a = some t->t < 256
theorem qkR {α:Type} {l m:List α} {k:Nat} {a:α} (h:l[k]? = some a):(l ++ m)[k]? = some a:=by
 have:=(List.getElem?_eq_some_iff.1 h).1;rw [List.getElem?_append_left this]; exact h
theorem qzE.app {x:SS} {out m:List Ent} {k:Nat} {e:Ent} (h:qzE x out k e):qzE x (out ++ m) k e:=by
 rcases h with h | ⟨b,a,eb,h1,h2,h3⟩
 ·exact .inl h
 ·exact .inr ⟨b,a,eb,h1,qkR h2,h3⟩
theorem qrY {x:SS} (hx:x.ok) {s:Nat} {out:List Ent} (h:GA x s out) {i a:Nat} {e:Ent} (he:out[i]? = some e) (hh:x.hm e.1 = false) (ha:a < x.nA) :
  GA x s (qsP x i e out a)/\∃ l,qsP x i e out a = out ++ l:=by
 unfold qsP;split
 ·exact ⟨h,[],by simp⟩
 ·rename_i t ht;split
  ·exact ⟨h,[],by simp⟩
  ·rename_i hn;refine ⟨⟨?_,?_,qkR h.zero,?_⟩,_,rfl⟩
   ·rw [List.map_append,List.nodup_append];refine ⟨h.nd,by simp,?_⟩;intro b hb c hc e1;simp only [List.map_cons,List.map_nil,List.mem_singleton] at hc;subst e1; subst hc;exact hn hb
   ·intro e' h';rw [List.mem_append] at h';rcases h' with h' | h'
    ·exact h.lt e' h'
    ·simp only [List.mem_singleton] at h';subst h';exact hx _ _ _ (h.lt e (List.mem_of_getElem? he)) ht
   ·intro k e' h';by_cases hk:k < out.length
    ·rw [List.getElem?_append_left hk] at h';exact (h.aft k e' h').app
    ·rw [List.getElem?_append_right (by omega)] at h';have hk0:k - out.length = 0:=by
      rcases Nat.eq_zero_or_pos (k - out.length) with h0 | h0
      ·exact h0
      ·rw [List.getElem?_eq_none (by simp; omega)] at h'; cases h'
     rw [hk0] at h';simp only [List.getElem?_cons_zero,qb] at h';subst h';have:=(List.getElem?_eq_some_iff.1 he).1;exact .inr ⟨i,a,e,by omega,qkR he,ha,rfl,rfl,ht,hh,rfl⟩
theorem qhF {x:SS} (hx:x.ok) {s:Nat} {out:List Ent} (h:GA x s out) {i:Nat} {e:Ent} (he:out[i]? = some e) (hh:x.hm e.1 = false) :
  ∀ n,n<=x.nA->GA x s (qde x i e out n)/\∃ l,qde x i e out n = out ++ l
 | 0,_=>⟨h,[],by simp [qde]⟩
 | n + 1,hn=>by
  obtain ⟨h1,l,h2⟩:=qhF hx h he hh n (by omega);rw [qhx];obtain ⟨h3,l',h4⟩:=qrY hx h1 (i:=i) (a:=n) (e:=e) (by rw [h2]; exact qkR he) hh (by omega);exact ⟨h3,l ++ l',by rw [h4,h2,List.append_assoc]⟩
theorem qpe {x:SS} (hx:x.ok) {s:Nat} {out:List Ent} (h:GA x s out) (i:Nat):GA x s (qgO x i out)/\∃ l,qgO x i out = out ++ l:=by
 unfold qgO;split
 ·exact ⟨h,[],by simp⟩
 ·rename_i e he;split
  ·exact ⟨h,[],by simp⟩
  ·rename_i hh;exact qhF hx h he (by simpa using hh) _ (by omega)
theorem qg2 {x:SS} (hx:x.ok) {s:Nat} (hs:s < 256):∀ i,GA x s (RA x s i)
 | 0=>⟨by simp [RA],by simp [RA,hs],rfl,λk e h=>by
   cases k with
   | zero=>simp only [RA,List.getElem?_cons_zero,qb] at h; subst h; exact .inl ⟨rfl,rfl,rfl,rfl⟩
   | succ k=>simp [RA] at h⟩
 | i + 1=>(qpe hx (qg2 hx hs i) i).1
theorem qAI {x:SS} (hx:x.ok) {s:Nat} (hs:s < 256) (i:Nat):∀ k,∃ l,RA x s (i + k) = RA x s i ++ l
 | 0=>⟨[],by simp⟩
 | k + 1=>by
  obtain ⟨l,h⟩:=qAI hx hs i k;obtain ⟨l',h'⟩:=(qpe hx (qg2 hx hs (i + k)) (i + k)).2;exact ⟨l ++ l',by show qgO x (i + k) (RA x s (i + k)) = _; rw [h',h,List.append_assoc]⟩
theorem qtc {x:SS} {s i:Nat} (h:(RA x s i).length<=i):∀ k,RA x s (i + k) = RA x s i
 | 0=>rfl
 | k + 1=>by
  show qgO x (i + k) (RA x s (i + k)) = _;rw [qtc h k];unfold qgO;rw [List.getElem?_eq_none (by omega)]
theorem qx6 {x:SS} {s i:Nat} (hx:x.ok) (hs:s < 256) (h:(RA x s i).length<=i):qeA x s = RA x s i:=by
 unfold qeA;by_cases hi:i<=256
 ·obtain ⟨k,e⟩:∃ k,256 = i + k:=⟨256 - i,by omega⟩
  rw [e]; exact qtc h k
 ·obtain ⟨k,rfl⟩:∃ k,i = 256 + k:=⟨i - 256,by omega⟩
  exact (qtc (GA.len (qg2 hx hs 256)) k).symm
theorem qdQ {x:SS} (hx:x.ok) {s:Nat} (hs:s < 256):GA x s (qeA x s):=qg2 hx hs 256
theorem qBG {x:SS} (hx:x.ok) {s:Nat} (hs:s < 256) {i j k:Nat} {e:Ent} (h:(RA x s i)[k]? = some e) (hj:i<=j):(RA x s j)[k]? = some e:=by
 obtain ⟨d,rfl⟩:∃ d,j = i + d:=⟨j - i,by omega⟩
 obtain ⟨l,e1⟩:=qAI hx hs i d;rw [e1]; exact qkR h
theorem qw1 {x:SS} (hx:x.ok) {s:Nat} (hs:s < 256):∀ {k:Nat} {e:Ent},(qeA x s)[k]? = some e->(RA x s k)[k]? = some e:=by
 intro k e h;by_cases hk:k < (RA x s k).length
 ·obtain ⟨e',he'⟩:∃ e',(RA x s k)[k]? = some e':=⟨_,List.getElem?_eq_getElem hk⟩
  have hl:=(GA.len (qg2 hx hs k))
  have:=qBG hx hs he' (j:=256) (by omega);unfold qeA at h;rw [h] at this;rw [he',this]
 ·have:=qx6 hx hs (i:=k) (by omega);rw [this,List.getElem?_eq_none (by omega)] at h;cases h
theorem qmX {x:SS} (hx:x.ok) {s:Nat} {out:List Ent} (h:GA x s out) {i:Nat} {e:Ent} (he:out[i]? = some e) (hh:x.hm e.1 = false) {a t:Nat} (ht:x.nx e.1 a = some t) :
  ∀ n,n<=x.nA->a < n->t ∈ (qde x i e out n).map (·.1)
 | 0,_,h0=>by omega
 | n + 1,hn,h0=>by
  rw [qhx];obtain ⟨h1,l,h2⟩:=qhF hx h he hh n (by omega);obtain ⟨_,l',h4⟩:=qrY hx h1 (i:=i) (a:=n) (e:=e) (by rw [h2]; exact qkR he) hh (by omega);by_cases ha:a < n
  ·rw [h4,List.map_append,List.mem_append];exact .inl (qmX hx h he hh ht n (by omega) ha)
  ·have:a = n:=by omega
   subst this;unfold qsP;rw [ht];simp only
   split
   ·assumption
   ·simp
theorem qmO {x:SS} (hx:x.ok) {s:Nat} (hs:s < 256) {e:Ent} (he:e ∈ qeA x s) (hh:x.hm e.1 = false) {a t:Nat} (ha:a < x.nA) (ht:x.nx e.1 a = some t):∃ e' ∈ qeA x s,e'.1 = t:=by
 obtain ⟨k,hk⟩:=List.mem_iff_getElem?.1 he;have h1:=qw1 hx hs hk;have h2:=qmX hx (qg2 hx hs k) h1 hh ht x.nA (by omega) ha;have h3:RA x s (k + 1) = qde x k e (RA x s k) x.nA:=by
  show qgO x k (RA x s k) = _;unfold qgO;rw [h1];simp [hh]
 rw [<- h3] at h2;obtain ⟨e',h4,h5⟩:=List.mem_map.1 h2;obtain ⟨j,hj⟩:=List.mem_iff_getElem?.1 h4;have hk':=(GA.len (qdQ hx hs))
 have hlt:=(List.getElem?_eq_some_iff.1 hk).1;exact ⟨e',List.mem_of_getElem? (qBG hx hs hj (j:=256) (by omega)),h5⟩
theorem qtA {x:SS} (hx:x.ok) {s:Nat} (hs:s < 256) (p:Nat->Prop) (h0:p s) (h:∀ u a t,p u->x.hm u = false->a < x.nA->x.nx u a = some t->p t):∀ e ∈ qeA x s,p e.1:=by
 have hg:=qdQ hx hs;have key:∀ n:Nat,∀ k:Nat,k < n->∀ e:Ent,(qeA x s)[k]? = some e->p e.1:=by
  intro n;induction n with
  | zero=>intro k hk; omega
  | succ n ih =>
   intro k hk e he;rcases hg.aft k e he with ⟨rfl,_⟩ | ⟨b,a,eb,hb,h1,h2,_,_,h3,h4,_⟩
   ·rw [hg.zero] at he;obtain rfl:=Option.some.inj he;exact h0
   ·exact h _ a _ (ih b (by omega) eb h1) h4 h2 h3
 intro e he;obtain ⟨k,hk⟩:=List.mem_iff_getElem?.1 he;exact key (k + 1) k (by omega) e hk
end Go.Proofs.YtkcaaaiihhhnmaaGreatDoor
end
section
namespace Go.Proofs.YtkcaaaiihhhnmaaGreatDoor
open Go Go.Ab Go.Tx
theorem qB2 (l:List Int) (m:Int):qfS I l m = decide (m ∈ l):=by
 have:=qul (τ:=I) rfl (l:=l) (k:=m);by_cases h:m ∈ l
 ·rw [decide_eq_true h]; exact this.2 h
 ·rw [decide_eq_false h];cases hm:qfS I l m with
  | false=>rfl
  | true=>exact absurd (this.1 hm) h
theorem qCa (l:List Int) (m k:Int):m ∈ qjK I l k ↔ m ∈ l\/m = k:=by
 unfold qjK;rw [qB2];by_cases h:k ∈ l
 ·rw [decide_eq_true h];exact ⟨λh=>.inl h,λh'=>h'.elim id λe=>e ▸ h⟩
 ·rw [decide_eq_false h];show m ∈ l ++ [k] ↔ _;simp
def nxB (m:Mc) (bar:Nat->Bool) (s a:Nat):Option Nat :=
 if a < m.2.1.length/\bar a = false/\hold (qca (qjO m a)) s = true then some (qp2 (dos (qjO m a)) s) else none
def qbX (m:Mc) (bar:Nat->Bool):SS:=⟨m.2.1.length,qgD m,nxB m bar⟩
theorem qc0 {m:Mc} (hv:VM m) (bar:Nat->Bool):(qbX m bar).ok:=by
 intro s a t hs h;simp only [qbX,nxB] at h;split at h
 ·rename_i hc;cases h;obtain ⟨x,hx⟩:∃ x,m.2.1[a]? = some x:=⟨_,List.getElem?_eq_getElem hc.1⟩
  rw [qdA hx];have h8:=hv.f8;have hd:=hv.ds x (List.mem_of_getElem? hx);have:=qtu (f:=8) (hd.ok h8) (λy hy=>by have:=hd.1 y hy; omega) (by omega) (s:=s) (by omega);omega
 ·cases h
theorem qko {m:Mc} (hv:VM m) (bar:Nat->Bool) {n:Nat} (hn:n < 2 ^ m.1.length):∀ e ∈ qeA (qbX m bar) n,e.1 < 2 ^ m.1.length:=by
 have h256:=qf1 hv;refine qtA (qc0 hv bar) (by omega) (λu=>u < 2 ^ m.1.length) hn λu a t hu _ _ ht=>?_;simp only [qbX,nxB] at ht;split at ht
 ·rename_i hc;cases ht;obtain ⟨x,hx⟩:∃ x,m.2.1[a]? = some x:=⟨_,List.getElem?_eq_getElem hc.1⟩
  rw [qdA hx];have hd:=hv.ds x (List.mem_of_getElem? hx);exact qtu (hd.ok hv.f8) (λy hy=>(hd.1 y hy).2) hv.f8 hu
 ·cases ht
def prg (e:Ent):Int × Int × Int × Unit:=((e.1:Int),e.2.1,e.2.2.1,())
theorem qwH (l:List Ent) (t:Nat):((t:Int) ∈ (l.map λe=>((e.1:Nat):Int))) ↔ t ∈ l.map (·.1):=by
 simp only [List.mem_map];constructor
 ·rintro ⟨e,he,h⟩; exact ⟨e,he,by omega⟩
 ·rintro ⟨e,he,h⟩; exact ⟨e,he,by omega⟩
theorem qwP {m:Mc} (hv:VM m) {b:Nat} (hb:b < 9223372036854775808) {s:Nat} {out:List Ent} (hg:GA (qbX m b.testBit) s out) {i:Nat} {e:Ent} (he:out[i]? = some e) (hh:qgD m e.1 = false) {kn:List Int} (hk:∀ t,t ∈ kn ↔ t ∈ out.map λe=>((e.1:Nat):Int)) :
  Ok (qH (λ(s7:(Int × (List (Int × Int × Int × Unit)) × (List Int))) =>
         bif decide (s7.1 < ((bm m).1.length:Int)) then
          (idx (bm m).1 s7.1).bind λx8 =>
          ((qsQ .i64 (b:Int) s7.1).bind λx9 =>
           bif decide (qq5 .i64 x9 (1:Int) = 0) then
            (qS x8 (e.1:Int)).bind λx10 =>
            bif x10 then
             (idx (bm m).2.1 s7.1).bind λx11 =>
             (qam x11 (e.1:Int)).bind λx12 =>
             (bif !(qfS I s7.2.2 x12) then
               (app s7.2.1 ([(x12,(i:Int),s7.1,())])).bind λx13 =>
               some (x13,qjK I s7.2.2 x12)
              else
               some (s7.2.1,s7.2.2)).bind λ(p14:((List (Int × Int × Int × Unit)) × (List Int))) =>
             some (false,p14.1,p14.2)
            else
             some (false,s7.2.1,s7.2.2)
           else
            some (false,s7.2.1,s7.2.2)).bind λ(p15:(Bool × (List (Int × Int × Int × Unit)) × (List Int))) =>
          bif p15.1 then
           some (.inr (.inr (p15.2.1,p15.2.2)))
          else
           some (.inl (w64 (s7.1 + 1),p15.2.1,p15.2.2))
         else
          some (.inr (.inl (s7.2.1,s7.2.2)))) (0,out.map prg,kn))
   λ(r:((List (Int × Int × Int × Unit)) × (List Int)) ⊕ ((List (Int × Int × Int × Unit)) × (List Int)))=>∃ kn',r = .inl ((qde (qbX m b.testBit) i e out m.2.1.length).map prg,kn')/\∀ t,t ∈ kn' ↔ t ∈ (qde (qbX m b.testBit) i e out m.2.1.length).map λe=>((e.1:Nat):Int):=by
 have h8:=hv.f8; have h10:=hv.a10;have hE:e.1 < 256:=hg.lt e (List.mem_of_getElem? he);have hlen:(bm m).1.length = m.2.1.length:=by simp [bm]
 refine qdl m.2.1.length (λj (st:Int × List (Int × Int × Int × Unit) × List Int)=>st.1 = (j:Int)/\st.2.1 = (qde (qbX m b.testBit) i e out j).map prg/\∀ t,t ∈ st.2.2 ↔ t ∈ (qde (qbX m b.testBit) i e out j).map λe=>((e.1:Nat):Int)) _ ⟨rfl,rfl,hk⟩ ?_;rintro j ⟨j0,l,kn'⟩ hj ⟨e1,e2,e3⟩;simp only at e1 e2 e3;subst e1;by_cases hlt:j < m.2.1.length
 ·have h0:decide ((j:Int) < ((bm m).1.length:Int)) = true:=by rw [hlen]; simp <;> omega
  obtain ⟨a,ha⟩:∃ a,m.2.1[j]? = some a:=⟨_,List.getElem?_eq_getElem hlt⟩
  have hm:=List.mem_of_getElem? ha;have i1:(bm m).1[j]? = some (bt (qca a)):=by simp [bm,ha]
  have i2:(bm m).2.1[j]? = some (bt (dos a)):=by simp [bm,ha]
  have hsh:=qmn (a:=b) (x:=(j:Int)) (by omega) (by omega);rw [Int.toNat_natCast] at hsh;simp only [h0,cond_true,qV i1,qa];rw [hsh];simp only [qa];rw [qtX hb];have hgn:qde (qbX m b.testBit) i e out (j + 1) = qsP (qbX m b.testBit) i e (qde (qbX m b.testBit) i e out j) j:=qhx _ _ _ _ _;obtain ⟨hg2,_⟩:=qhF (qc0 hv _) hg he hh j (by show j<=m.2.1.length; omega);have hl2:=hg2.len;by_cases hbit:b.testBit j = true
  ·have hnx:(qbX m b.testBit).nx e.1 j = none:=by simp [qbX,nxB,hbit]
   have ht:qsP (qbX m b.testBit) i e (qde (qbX m b.testBit) i e out j) j = qde (qbX m b.testBit) i e out j:=by unfold qsP; rw [hnx]
   simp only [hbit,if_true];simp only [show decide ((1:Int) = 0) = false from rfl,cond_false,qa];rw [wq (by omega) (by omega),qaz];rw [hgn,ht];exact ⟨hlt,by simp,e2,e3⟩
  ·have hbit':b.testBit j = false:=by simpa using hbit
   simp only [hbit',qf,if_false,decide_true,cond_true];rw [qhT ((hv.nd a hm).ok h8) hE];simp only [qa];by_cases c:hold (qca a) e.1 = true
   ·have hnx:(qbX m b.testBit).nx e.1 j = some (qp2 (dos a) e.1):=by
     simp only [qbX,nxB];rw [qdA ha,if_pos ⟨hlt,hbit',c⟩]
    simp only [c,cond_true,qV i2,qa];rw [qtb ((hv.ds a hm).ok h8) hE];simp only [qa,qB2];by_cases hin:((qp2 (dos a) e.1:Nat):Int) ∈ kn'
    ·have ht:qsP (qbX m b.testBit) i e (qde (qbX m b.testBit) i e out j) j = qde (qbX m b.testBit) i e out j:=by
      unfold qsP; rw [hnx];simp only
      rw [if_pos ((qwH _ _).1 ((e3 _).1 hin))]
     rw [decide_eq_true hin];simp only [Bool.not_true,cond_false,qa];rw [wq (by omega) (by omega),qaz];rw [hgn,ht];exact ⟨hlt,by simp,e2,e3⟩
    ·have ht:qsP (qbX m b.testBit) i e (qde (qbX m b.testBit) i e out j) j = qde (qbX m b.testBit) i e out j ++ [(qp2 (dos a) e.1,(i:Int),(j:Int),e.2.2.2 ++ [(j:Int)])]:=by
      unfold qsP; rw [hnx];simp only
      rw [if_neg (λh=>hin ((e3 _).2 ((qwH _ _).2 h)))]
     rw [decide_eq_false hin];simp only [Bool.not_false,cond_true];rw [qew (by rw [e2]; simp; omega)];simp only [qa,cond_false];rw [wq (by omega) (by omega),qaz];rw [hgn,ht];refine ⟨hlt,by simp,?_,λt=>?_⟩
     ·rw [e2,List.map_append]; rfl
     ·simp only
      rw [qCa,e3,List.map_append,List.mem_append];simp
   ·have c':hold (qca a) e.1 = false:=by simpa using c
    have hnx:(qbX m b.testBit).nx e.1 j = none:=by
     simp only [qbX,nxB];rw [qdA ha,if_neg (λh=>c h.2.2)]
    have ht:qsP (qbX m b.testBit) i e (qde (qbX m b.testBit) i e out j) j = qde (qbX m b.testBit) i e out j:=by unfold qsP; rw [hnx]
    simp only [c',cond_false,qa];rw [wq (by omega) (by omega),qaz];rw [hgn,ht];exact ⟨hlt,by simp,e2,e3⟩
 ·have:j = m.2.1.length:=by omega
  subst this;have h0:decide ((m.2.1.length:Int) < ((bm m).1.length:Int)) = false:=by rw [hlen]; simp
  simp only [h0,cond_false];rw [qa1];exact ⟨kn',by rw [e2],e3⟩
theorem qiw {m:Mc} (hv:VM m) {n b:Nat} (hn:n < 256) (hb:b < 9223372036854775808):qad (bm m) (n:Int) (b:Int) = some ((qeA (qbX m b.testBit) n).map prg):=by
 have hok:=qc0 hv b.testBit;unfold qad;have key:∀ o:Option (List (Int × Int × Int × Unit)),Ok o (λr=>r = (qeA (qbX m b.testBit) n).map prg)->(o.bind λp19=>some p19) = some ((qeA (qbX m b.testBit) n).map prg):=by
  intro o h; rw [h.eq]; rfl
 refine key _ (qmC (λst=>257 - st.2.1.toNat) (λ(st:List (Int × Int × Int × Unit) × Int × List Int)=>∃ i:Nat,st.2.1 = (i:Int)/\i<=256/\st.1 = (RA (qbX m b.testBit) n i).map prg/\∀ t,t ∈ st.2.2 ↔ t ∈ (RA (qbX m b.testBit) n i).map λe=>((e.1:Nat):Int)) _ ⟨0,rfl,by omega,rfl,λt=>?_⟩ ?_)
 ·simp only
  rw [qCa];simp [RA]
 ·rintro ⟨l,i0,kn⟩ ⟨i,e1,e0,e2,e3⟩;simp only at e1 e2 e3;subst e1;have hg:=qg2 hok hn i;have hl:=hg.len;have hll:l.length = (RA (qbX m b.testBit) n i).length:=by rw [e2]; simp
  by_cases hlt:i < (RA (qbX m b.testBit) n i).length
  ·obtain ⟨e,he⟩:∃ e,(RA (qbX m b.testBit) n i)[i]? = some e:=⟨_,List.getElem?_eq_getElem hlt⟩
   have hE:e.1 < 256:=hg.lt e (List.mem_of_getElem? he);have h0:decide ((i:Int) < (l.length:Int)) = true:=by simp <;> omega
   have hi:l[i]? = some (prg e):=by rw [e2]; simp [he]
   have hst:RA (qbX m b.testBit) n (i + 1) = if qgD m e.1 = true then RA (qbX m b.testBit) n i else qde (qbX m b.testBit) i e (RA (qbX m b.testBit) n i) m.2.1.length:=by
    show qgO _ _ _ = _;unfold qgO;rw [he]; rfl
   simp only [h0,cond_true,qV hi,qa];rw [show (prg e).1 = (e.1:Int) from rfl,qjL hv hE];simp only [qa];by_cases hh:qgD m e.1 = true
   ·simp only [hh,cond_true,qa];rw [wq (by omega) (by omega),qaz];rw [if_pos hh] at hst;exact ⟨⟨i + 1,by simp,by omega,by rw [hst]; exact e2,by rw [hst]; exact e3⟩,by simp only; omega⟩
   ·have hh':qgD m e.1 = false:=by simpa using hh
    rw [if_neg hh] at hst;simp only [hh',cond_false];obtain ⟨r,hr,kn',rfl,h3⟩:=qwP hv hb hg he hh' e3;rw [<- e2] at hr;rw [hr];simp only [qa,Sum.elim_inl];rw [wq (by omega) (by omega),qaz];exact ⟨⟨i + 1,by simp,by omega,by rw [hst],by rw [hst]; exact h3⟩,by simp only; omega⟩
  ·have h0:decide ((i:Int) < (l.length:Int)) = false:=by simp <;> omega
   simp only [h0,cond_false];rw [qa1,e2,qx6 hok hn (i:=i) (by omega)]
theorem GA.path {x:SS} {s:Nat} {out:List Ent} (h:GA x s out):∀ (n k:Nat) (e:Ent),k < n->out[k]? = some e->e.2.2.2.length<=k
 | 0,_,_,h0,_=>by omega
 | n + 1,k,e,h0,he=>by
  rcases h.aft k e he with ⟨rfl,_,_,h1⟩ | ⟨b,a,eb,hb,h1,_,_,_,_,_,h2⟩
  ·rw [h1]; simp
  ·have:=GA.path h n b eb (by omega) h1;rw [h2,List.length_append,List.length_singleton]; omega
end Go.Proofs.YtkcaaaiihhhnmaaGreatDoor
end
section
namespace Go.Proofs.YtkcaaaiihhhnmaaGreatDoor
open Go Go.Ab Go.Tx
def hIx (m:Mc) (l:List Ent):Option (Nat × Ent):=qa4 (λi e=>if qgD m e.1 = true then some (i,e) else none) 0 l
theorem qgT {α ρ π:Type} (g:Nat->α->Option ρ) (f:ρ->π):∀ (l:List α) (k:Nat),qa4 (λi a=>(g i a).map f) k l = (qa4 g k l).map f
 | [],_=>rfl
 | a :: l,k=>by
  unfold qa4;cases g k a with
  | some r=>rfl
  | none=>exact qgT g f l (k + 1)
theorem qoQ {α ρ:Type} {g:Nat->α->Option ρ}:∀ (l:List α) (k:Nat) {r:ρ},qa4 g k l = some r->∃ i a,l[i]? = some a/\g (k + i) a = some r
 | [],_,_,h=>by cases h
 | a :: l,k,r,h=>by
  unfold qa4 at h;cases hg:g k a with
  | some r'=>rw [hg] at h; cases h; exact ⟨0,a,rfl,hg⟩
  | none =>
   rw [hg] at h;obtain ⟨i,a',h1,h2⟩:=qoQ l (k + 1) h;exact ⟨i + 1,a',h1,by rw [show k + (i + 1) = k + 1 + i by omega]; exact h2⟩
theorem qve {m:Mc} {l:List Ent} {i:Nat} {e:Ent} (h:hIx m l = some (i,e)):l[i]? = some e/\qgD m e.1 = true:=by
 obtain ⟨j,a,h1,h2⟩:=qoQ l 0 h;simp only [Nat.zero_add] at h2;split at h2
 ·rename_i hh;cases h2;exact ⟨h1,hh⟩
 ·cases h2
theorem qxO {x:SS} {s:Nat} {out:List Ent} (hg:GA x s out) {k0:Nat} {e0:Ent} (he0:out[k0]? = some e0) :
  qH (λ(s11:((List Int) × Int × Int × Int)) =>
     bif decide (s11.2.2.1>=0) then
      (app s11.1 ([s11.2.2.2])).bind λx12 =>
      (idx (out.map prg) s11.2.2.1).bind λx13 =>
      some (.inl (x12,x13.1,x13.2.1,x13.2.2.1))
     else
      some (.inr s11.1)) ([],(prg e0).1,(prg e0).2.1,(prg e0).2.2.1) = some e0.2.2.2.reverse:=by
 have hl:=hg.len;refine Ok.eq (qmC (λst=>(st.2.2.1 + 1).toNat) (λ(st:List Int × Int × Int × Int)=>∃ (k:Nat) (e:Ent),out[k]? = some e/\st.2 = ((e.1:Int),e.2.1,e.2.2.1)/\e0.2.2.2 = e.2.2.2 ++ st.1.reverse/\st.1.length<=e0.2.2.2.length) _ ⟨k0,e0,he0,rfl,by simp,by simp⟩ ?_);rintro ⟨acc,q⟩ ⟨k,e,he,e1,e2,e3⟩;simp only at e1 e2 e3;subst e1;have hp0:=hg.path (k0 + 1) k0 e0 (by omega) he0;have hk0:=(List.getElem?_eq_some_iff.1 he0).1;rcases hg.aft k e he with ⟨rfl,h1,h2,h3⟩ | ⟨b,a,eb,hb,h1,h2,h3,h4,h5,h6,h7⟩
 ·simp only
  rw [h1];simp only [show decide ((-1:Int)>=0) = false from rfl,cond_false];rw [qa1,e2,h3];simp
 ·simp only
  rw [h3,h4];have h0:decide ((b:Int)>=0) = true:=by simp
  have hi:(out.map prg)[b]? = some (prg eb):=by rw [List.getElem?_map,h1]; rfl
  simp only [h0,cond_true];rw [qew (by omega)];simp only [qa,qV hi];rw [qaz];refine ⟨⟨b,eb,h1,rfl,?_,?_⟩,?_⟩
  ·simp only
   rw [e2,h7]; simp
  ·have:e0.2.2.2.length = (e.2.2.2 ++ acc.reverse).length:=by rw [<- e2]
   rw [h7] at this;simp only [List.length_append,List.length_singleton,List.length_reverse] at this ⊢;omega
  ·rcases hg.aft b eb h1 with ⟨_,h8,_⟩ | ⟨b',_,_,h8,_,_,h9,_⟩
   ·show (eb.2.1 + 1).toNat < ((b:Int) + 1).toNat;rw [h8]; omega
   ·show (eb.2.1 + 1).toNat < ((b:Int) + 1).toNat;rw [h9]; omega
def qiu (m:Mc) (n:Nat):List Int × Int:=match hIx m (qeA (qbX m λ_=>false) n) with
 | some p=>(p.2.2.2.2,0)
 | none=>([],12)
theorem qml:Nat.testBit 0 = λ_=>false:=by funext k; simp
theorem qr4 {m:Mc} (hv:VM m) {out:List Ent} (hl:out.length<=256) (hs:∀ e ∈ out,e.1 < 256) :
  qH (ρ:=Unit ⊕ Int) (λ(s4:Int) =>
     bif decide (s4 < ((out.map prg).length:Int)) then
      (idx (out.map prg) s4).bind λx5 =>
      (qw (bm m) x5.1).bind λx6 =>
      bif x6 then
       some (.inr (.inr s4))
      else
       some (.inl (w64 (s4 + 1)))
     else
      some (.inr (.inl ()))) 0 = some (qxX ((hIx m out).map λp=>(p.1:Int))):=by
 have h:=qaO out (λs4=>(idx (out.map prg) s4).bind λx5 =>
      (qw (bm m) x5.1).bind λx6 =>
      bif x6 then
       some (.inr (.inr s4))
      else
       some (.inl (w64 (s4 + 1)))) (λi e=>(if qgD m e.1 = true then some (i,e) else none).map λ(p:Nat × Ent)=>(p.1:Int)) (λi e he=>by
  have hi:(out.map prg)[i]? = some (prg e):=by rw [List.getElem?_map,he]; rfl
  have:=(List.getElem?_eq_some_iff.1 he).1;rw [qV hi];simp only [qa];rw [show (prg e).1 = (e.1:Int) from rfl,qjL hv (hs e (List.mem_of_getElem? he))];simp only [qa];by_cases c:qgD m e.1 = true
  ·simp [c,stp]
  ·have c':qgD m e.1 = false:=by simpa using c
   simp only [c',cond_false];rw [wq (by omega) (by omega)];simp [stp])
 rw [List.length_map];refine h.trans ?_;rw [qgT];rfl
theorem qn0 {m:Mc} (hb:MB m) (s:Int):qaN m s = some (if stE m s = 0 then qiu m s.toNat else ([],stE m s)):=by
 unfold qaN;rw [qdO hb];simp only [qa];by_cases h:stE m s = 0
 ·obtain ⟨hv,_,ho,n,rfl,hn,hn2⟩:=qhr hb h;simp only [h,decide_true,Bool.not_true,cond_false,if_true,ho,Int.toNat_natCast];have hms:=qiw hv (n:=n) (b:=0) hn2 (by omega);rw [qml] at hms;rw [show ((0:Nat):Int) = 0 from rfl] at hms;rw [hms];simp only [qa];have hg:=qdQ (qc0 hv λ_=>false) hn2;have hl:=hg.len;rw [qr4 hv hl hg.lt,q3];unfold qiu;cases hx:hIx m (qeA (qbX m λ_=>false) n) with
  | none=>rfl
  | some p =>
   obtain ⟨i,e⟩:=p;obtain ⟨h1,h2⟩:=qve hx;have hi:((qeA (qbX m λ_=>false) n).map prg)[i]? = some (prg e):=by rw [List.getElem?_map,h1]; rfl
   have h0:decide ((i:Int) < 0) = false:=by simp
   simp only [Option.map_some,qa,h0,cond_false,qV hi];rw [qxO hg h1];have hp:=hg.path (i + 1) i e (by omega) h1;have:=(List.getElem?_eq_some_iff.1 h1).1;simp only [qa];unfold qBk;rw [if_pos (by rw [List.length_reverse]; omega),List.reverse_reverse];rfl
 ·simp [h]
theorem qqu (x y:Int):∀ l:List Int,y ∈ Go.Ab.qtd x l ↔ y = x\/y ∈ l
 | []=>by simp [Go.Ab.qtd]
 | z :: l=>by
  unfold Go.Ab.qtd;split
  ·simp
  ·simp only [List.mem_cons,qqu x y l];constructor
   ·rintro (h | h | h) <;> simp [h]
   ·rintro (h | h | h) <;> simp [h]
theorem qmW (y:Int):∀ l:List Int,y ∈ qfB l ↔ y ∈ l
 | []=>by simp [qfB]
 | x :: l=>by
  show y ∈ Go.Ab.qtd x (qfB l) ↔ _;rw [qqu,qmW y l,List.mem_cons]
theorem qu1 (x:Int):∀ l:List Int,l.Pairwise (· < ·)->x ∉ l->(Go.Ab.qtd x l).Pairwise (· < ·)
 | [],_,_=>by simp [Go.Ab.qtd]
 | z :: l,h,hx=>by
  unfold Go.Ab.qtd;rw [List.pairwise_cons] at h;rw [List.mem_cons,not_or] at hx;split
  ·rename_i hz;refine List.pairwise_cons.2 ⟨λy hy=>?_,List.pairwise_cons.2 h⟩;rcases List.mem_cons.1 hy with rfl | hy
   ·omega
   ·have:=h.1 y hy; omega
  ·rename_i hz;refine List.pairwise_cons.2 ⟨λy hy=>?_,qu1 x l h.2 hx.2⟩;rcases (qqu x y l).1 hy with rfl | hy
   ·omega
   ·exact h.1 y hy
theorem qss:∀ l:List Int,l.Nodup->(qfB l).Pairwise (· < ·)
 | [],_=>by simp [qfB]
 | x :: l,h=>by
  rw [List.nodup_cons] at h;show (Go.Ab.qtd x (qfB l)).Pairwise _;exact qu1 x _ (qss l h.2) (λhm=>h.1 ((qmW x l).1 hm))
theorem qu3:∀ {l m:List Int},l.Pairwise (· < ·)->m.Pairwise (· < ·)->(∀ x,x ∈ l ↔ x ∈ m)->l = m
 | [],[],_,_,_=>rfl
 | [],b :: m,_,_,h=>by have:=(h b).2 List.mem_cons_self; cases this
 | a :: l,[],_,_,h=>by have:=(h a).1 List.mem_cons_self; cases this
 | a :: l,b :: m,h1,h2,h=>by
  rw [List.pairwise_cons] at h1 h2;have e:a = b:=by
   rcases List.mem_cons.1 ((h a).1 List.mem_cons_self) with e | e
   ·exact e
   ·rcases List.mem_cons.1 ((h b).2 List.mem_cons_self) with e' | e'
    ·exact e'.symm
    ·have:=h1.1 b e'; have:=h2.1 a e; omega
  subst e;rw [qu3 h1.2 h2.2 λx=>?_];constructor
  ·intro hx;rcases List.mem_cons.1 ((h x).1 (List.mem_cons_of_mem _ hx)) with e | e
   ·have:=h1.1 x hx; omega
   ·exact e
  ·intro hx;rcases List.mem_cons.1 ((h x).2 (List.mem_cons_of_mem _ hx)) with e | e
   ·have:=h2.1 x hx; omega
   ·exact e
def qg8 (l:List Ent) (N:Nat):List Int:=List.map (λi:Nat=>(i:Int)) ((List.range N).filter λi=>decide (i ∈ l.map (·.1)))
theorem qtQ (l:List Ent) (N:Nat):(qg8 l N).length<=N:=by
 unfold qg8;rw [List.length_map];exact Nat.le_trans (List.length_filter_le ..) (by simp)
theorem qnP (l:List Ent) (N:Nat):(qg8 l N).Pairwise (· < ·):=by
 unfold qg8;rw [List.pairwise_map];exact List.Pairwise.imp (λh=>by omega) (List.Pairwise.filter _ List.pairwise_lt_range)
theorem qqK {x:SS} {s:Nat} {out:List Ent} (hg:GA x s out) {N:Nat} (hN:∀ e ∈ out,e.1 < N):qfB (out.map λe=>((e.1:Nat):Int)) = qg8 out N:=by
 refine qu3 (qss _ ?_) (qnP _ _) λy=>?_
 ·have:=hg.nd;rw [List.Nodup,List.pairwise_map] at this ⊢;exact this.imp λh e=>h (by omega)
 ·rw [qmW];unfold qg8;simp only [List.mem_map,List.mem_filter,List.mem_range,decide_eq_true_eq];constructor
  ·rintro ⟨e,he,rfl⟩;exact ⟨e.1,⟨hN e he,e,he,rfl⟩,rfl⟩
  ·rintro ⟨a,⟨_,e,he,rfl⟩,rfl⟩;exact ⟨e,he,rfl⟩
def qd4 (m:Mc) (n:Nat):List Int:=qg8 (qeA (qbX m λ_=>false) n) (2 ^ m.1.length)
theorem qow {m:Mc} (hb:MB m) (s:Int):qbK m s = some (if stE m s = 0 then (qd4 m s.toNat,0) else ([],stE m s)):=by
 unfold qbK;rw [qdO hb];simp only [qa];by_cases h:stE m s = 0
 ·obtain ⟨hv,_,ho,n,rfl,hn,hn2⟩:=qhr hb h;simp only [h,decide_true,Bool.not_true,cond_false,if_true,ho,Int.toNat_natCast];have hms:=qiw hv (n:=n) (b:=0) hn2 (by omega);rw [qml] at hms;rw [show ((0:Nat):Int) = 0 from rfl] at hms;rw [hms];simp only [qa];have hg:=qdQ (qc0 hv λ_=>false) hn2;have hl:=hg.len;rw [qAY ((qeA (qbX m λ_=>false) n).map prg) (λx6=>x6.1)]
  ·simp only [qa];rw [List.map_map];unfold qxr;rw [if_pos (by simp; omega)];simp only [qa];have:=qqK hg (qko hv (λ_=>false) hn);unfold qd4;rw [<- this];rfl
  ·intro i a out ha ho';have hlt:=(List.getElem?_eq_some_iff.1 ha).1;rw [List.length_map] at hlt;have h0:decide ((i:Int) < (((qeA (qbX m λ_=>false) n).map prg).length:Int)) = true:=by rw [List.length_map]; simp <;> omega
   simp only [h0,cond_true,qV ha,qa];rw [qew (by omega)];simp only [qa];rw [wq (by omega) (by omega)]
  ·intro out ho';have h0:decide ((((qeA (qbX m λ_=>false) n).map prg).length:Int) < (((qeA (qbX m λ_=>false) n).map prg).length:Int)) = false:=by simp
   simp only [h0,cond_false]
 ·simp [h]
end Go.Proofs.YtkcaaaiihhhnmaaGreatDoor
end
section
namespace Go.Proofs.YtkcaaaiihhhnmaaGreatDoor
open Go Go.Ab Go.Tx
def qdb (k b:Nat):List Int:=List.map (λi:Nat=>(i:Int)) ((List.range k).filter λi=>b.testBit i)
theorem qx2:∀ s:Fin 64,s.val ≠ 0->qdb 6 s.val = ((Lib.ctz 64 s.val:Nat):Int) :: qdb 6 (s.val &&& (s.val - 1))/\s.val &&& (s.val - 1) < s.val:=by decide +kernel
theorem qmi (k b:Nat):(qdb k b).length<=k:=by
 unfold qdb;rw [List.length_map];exact Nat.le_trans (List.length_filter_le ..) (by simp)
theorem qzw {b:Nat} (hb:b < 64) (a:Nat):b.testBit a = decide ((a:Int) ∈ qdb 6 b):=by
 rw [Bool.eq_iff_iff,decide_eq_true_iff];unfold qdb;simp only [List.mem_map,List.mem_filter,List.mem_range];constructor
 ·intro h;refine ⟨a,⟨?_,h⟩,rfl⟩;rcases Nat.lt_or_ge a 6 with h6 | h6
  ·exact h6
  ·have:=Nat.testBit_lt_two_pow (x:=b) (i:=a) (Nat.lt_of_lt_of_le hb (Nat.pow_le_pow_right (n:=2) (by omega) h6));rw [this] at h; cases h
 ·rintro ⟨i,⟨_,h⟩,e⟩;have:i = a:=by omega
  rw [<- this]; exact h
theorem qzt {n:Nat} (h:n < 64):qR (n:Int) = some ((Lib.ctz 64 n:Nat):Int):=by
 unfold qR;rw [if_pos ⟨Int.natCast_nonneg _,Int.lt_trans (show (n:Int) < 64 by omega) (by decide)⟩,Int.toNat_natCast]
theorem qxa {a b:Nat} (ha:a < 64) (hb:b < 64):qq5 .i64 (a:Int) (b:Int) = ((a &&& b:Nat):Int):=qjM (Nat.lt_trans ha (by decide)) (Nat.lt_trans hb (by decide))
theorem qyB {b:Nat} (hb:b < 64) (T:Int->Option Int) (hT:∀ n:Nat,n < 64->T (n:Int) = some ((Lib.ctz 64 n:Nat):Int)) :
  Ok (qH (λ(s3:(Int × (List Int))) =>
   bif !(decide (s3.1 = 0)) then
    (T (IntKind.wrap .u64 (s3.1))).bind λx4 =>
    (app s3.2 ([x4])).bind λx5 =>
    some (.inl (qq5 .i64 s3.1 (w64 (s3.1 - 1)),x5))
   else
    some (.inr s3.2)) ((b:Int),[])) (λr=>r = qdb 6 b):=by
 refine qmC (λst=>st.1.toNat) (λ(st:Int × List Int)=>∃ s:Nat,s < 64/\st.1 = (s:Int)/\st.2 ++ qdb 6 s = qdb 6 b) _ ⟨b,hb,rfl,rfl⟩ ?_;rintro ⟨s0,acc⟩ ⟨s,hs,e1,e2⟩;simp only at e1 e2;subst e1;by_cases h:s = 0
 ·subst h;have h0:(!(decide (((0:Nat):Int) = 0))) = false:=rfl;simp only [h0,cond_false];rw [qa1];have:qdb 6 0 = []:=by decide
  rw [this,List.append_nil] at e2;exact e2
 ·have h0:(!(decide ((s:Int) = 0))) = true:=by simp <;> omega
  obtain ⟨b1,b2⟩:=qx2 ⟨s,hs⟩ h;simp only at b1 b2;have hl:acc.length<=6:=by
   have h1:=qmi 6 b;rw [<- e2,List.length_append] at h1; omega
  simp only [h0,cond_true];rw [wrap_u64 (by omega) (by omega)];rw [hT s hs];simp only [qa];rw [qew (by omega)];simp only [qa];rw [wq (by omega) (by omega),show (s:Int) - 1 = ((s - 1:Nat):Int) by omega,qxa (by omega) (by omega),qaz];refine ⟨⟨s &&& (s - 1),by omega,rfl,?_⟩,?_⟩
  ·simp only
   rw [<- e2,b1]; simp
  ·simp only [Int.toNat_natCast]; exact b2
theorem qAU {b:Nat} (hb:b < 64):qb6 (b:Int) = some (qdb 6 b):=by
 unfold qb6;rw [(qyB hb qR λn hn=>qzt hn).eq];rfl
def qBL (l m:List Int):Bool:=match qa4 (λi (x:Int)=>if x = m.getD i 0 then none else some (decide (x < m.getD i 0))) 0 l with
 | some b=>b
 | none=>false
theorem qBx (a b:Int):qbP a b = some (if a < b then -1 else if a > b then 1 else 0):=by
 unfold qbP cmp_isNaN_int;by_cases h1:a < b
 ·simp [h1]
 ·by_cases h2:a > b
  ·have h2':b < a:=h2;simp [h1,h2']
  ·have h2':¬ b < a:=h2;simp [h1,h2']
theorem qv3 {l m:List Int} (h:l.length = m.length) (hl:l.length<=1000):∃ c,qai l m = some c/\decide (c>=0) = !qBL l m:=by
 unfold qai;have hf:=qaO l (λs2=>(idx l s2).bind λx3 =>
    bif decide (s2>=(m.length:Int)) then
     some (.inr (.inr 1))
    else
     (idx m s2).bind λx4 =>
     (qbP x3 x4).bind λx5 =>
     bif !(decide (x5 = 0)) then
      some (.inr (.inr x5))
     else
      some (.inl (w64 (s2 + 1)))) (λi (x:Int)=>(if x = m.getD i 0 then none else some (decide (x < m.getD i 0))).map λb=>if b = true then (-1:Int) else 1) (λi a ha=>by
  have hlt:=(List.getElem?_eq_some_iff.1 ha).1;obtain ⟨b,hb⟩:∃ b,m[i]? = some b:=⟨_,List.getElem?_eq_getElem (by omega)⟩
  have h0:decide ((i:Int)>=(m.length:Int)) = false:=by simp <;> omega
  simp only [qV ha,qV hb,qa,qaT hb,h0,cond_false,qBx];by_cases c:a = b
  ·subst c;simp only [Int.lt_irrefl,gt_iff_lt,if_false,decide_true,Bool.not_true,cond_false,if_true,Option.map_none,stp];rw [wq (by omega) (by omega)]
  ·by_cases d:a < b
   ·simp [c,d,stp]
   ·have d':a > b:=by omega
    have d2:b < a:=d';simp [c,d,d2,stp])
 rw [hf,q3,qgT];unfold qBL;cases hx:qa4 (λi (x:Int)=>if x = m.getD i 0 then none else some (decide (x < m.getD i 0))) 0 l with
 | none=>exact ⟨0,by simp [h],rfl⟩
 | some b=>cases b with
  | true=>exact ⟨-1,rfl,rfl⟩
  | false=>exact ⟨1,rfl,rfl⟩
def qCq (m:Mc) (n:Nat) (st:List Int × Bool) (b:Nat):List Int × Bool :=
 if st.2 = true/\((qdb 6 b).length > st.1.length\/(qdb 6 b).length = st.1.length/\qBL (qdb 6 b) st.1 = false) then st
 else if hIx m (qeA (qbX m b.testBit) n) = none then (qdb 6 b,true) else st
def qoL (m:Mc) (n:Nat) (N:Nat):List Int × Bool:=(List.range N).foldl (qCq m n) ([],false)
theorem qmP (m:Mc) (n N:Nat):qoL m n (N + 1) = qCq m n (qoL m n N) N:=by
 unfold qoL;rw [List.range_succ,List.foldl_append]; rfl
theorem qpU (m:Mc) (n:Nat):∀ N,(qoL m n N).1.length<=6
 | 0=>by simp [qoL]
 | N + 1=>by
  rw [qmP];unfold qCq;split
  ·exact qpU m n N
  ·split
   ·exact qmi 6 N
   ·exact qpU m n N
theorem qxB {l best:List Int} {f:Bool} (h1:l.length<=6) (h2:best.length<=6) :
  (bif f then
        bif decide ((l.length:Int) > (best.length:Int)) then
         some true
        else
         bif decide ((l.length:Int) = (best.length:Int)) then
          (qai l best).bind λx9 =>
          some (decide (x9>=0))
         else
          some false
       else
        some false) = some (decide (f = true/\(l.length > best.length\/l.length = best.length/\qBL l best = false))):=by
 cases f with
 | false=>simp
 | true =>
  simp only [cond_true];by_cases c:l.length > best.length
  ·have:decide ((l.length:Int) > (best.length:Int)) = true:=by simp <;> omega
   simp only [this,cond_true];simp [c]
  ·have:decide ((l.length:Int) > (best.length:Int)) = false:=by simp <;> omega
   simp only [this,cond_false];by_cases d:l.length = best.length
   ·have:decide ((l.length:Int) = (best.length:Int)) = true:=by simp <;> omega
    obtain ⟨q,hq,hq2⟩:=qv3 d (by omega);simp only [this,cond_true,hq,qa,hq2];congr 1
    cases qBL l best <;> simp [c,d]
   ·have:decide ((l.length:Int) = (best.length:Int)) = false:=by simp <;> omega
    simp only [this,cond_false];simp [c,d]
end Go.Proofs.YtkcaaaiihhhnmaaGreatDoor
end
section
namespace Go.Proofs.YtkcaaaiihhhnmaaGreatDoor
open Go Go.Ab Go.Tx
theorem qrq {m:Mc} (hb:MB m) (s:Int) (h6:stE m s = 0->m.2.1.length<=6):qbA m s = some (if stE m s = 0 then (if qgD m s.toNat = true then ([],20) else ((qoL m s.toNat (2 ^ m.2.1.length)).1,0)) else ([],stE m s)):=by
 unfold qbA;rw [qdO hb];simp only [qa];by_cases h:stE m s = 0
 ·have h7:=h6 h;clear h6;obtain ⟨hv,_,ho,n,rfl,hn,hn2⟩:=qhr hb h;simp only [h,decide_true,cond_true,ho,Int.toNat_natCast];rw [qjL hv hn2];simp only [qa];by_cases hh:qgD m n = true
  ·simp only [hh,cond_true,qa,if_true];rfl
  ·have hh':qgD m n = false:=by simpa using hh
   simp only [hh',cond_false,qa,if_true,qf,if_false,decide_true,Bool.not_true];have hp:2 ^ m.2.1.length<=64:=Nat.pow_le_pow_right (n:=2) (by omega) h7;rw [qmh (by omega) (by omega)];simp only [qa,Int.toNat_natCast];have key:∀ o:Option (List Int),Ok o (λr=>r = (qoL m n (2 ^ m.2.1.length)).1)->(o.bind λp=>some (p,(0:Int))) = some ((qoL m n (2 ^ m.2.1.length)).1,0):=by
    intro o h; rw [h.eq]; rfl
   refine key _ (qdl (2 ^ m.2.1.length) (λi (st:List Int × Bool × Int)=>st = ((qoL m n i).1,(qoL m n i).2,(i:Int))) _ rfl ?_);rintro i st hi rfl;have hbl:=qpU m n i;by_cases hlt:i < 2 ^ m.2.1.length
   ·have h0:decide ((i:Int) < ((2 ^ m.2.1.length:Nat):Int)) = true:=by simp only [decide_eq_true_eq] <;> omega
    simp only [h0,cond_true];rw [qAU (by omega)];simp only [qa];rw [qxB (qmi 6 i) hbl];have hnx:=qmP m n i;unfold qCq at hnx;simp only [qa];by_cases c:(qoL m n i).2 = true/\((qdb 6 i).length > (qoL m n i).1.length\/(qdb 6 i).length = (qoL m n i).1.length/\qBL (qdb 6 i) (qoL m n i).1 = false)
    ·rw [if_pos c] at hnx;rw [decide_eq_true c];simp only [cond_true,qa];rw [wq (by omega) (by omega),qaz,hnx];exact ⟨hlt,rfl⟩
    ·rw [if_neg c] at hnx;rw [decide_eq_false c];simp only [cond_false];rw [qiw hv hn2 (Nat.lt_of_lt_of_le hlt (Nat.le_trans hp (by decide)))];simp only [qa];have hg:=qdQ (qc0 hv i.testBit) hn2;rw [qr4 hv hg.len hg.lt,q3];cases hx:hIx m (qeA (qbX m i.testBit) n) with
     | none =>
      rw [if_pos hx] at hnx;simp only [Option.map_none,qa];simp only [show (!decide ((-1:Int)>=0)) = true from rfl,cond_true,qa];rw [wq (by omega) (by omega),qaz,hnx];exact ⟨hlt,rfl⟩
     | some p =>
      rw [if_neg (by rw [hx]; simp)] at hnx;have h1:(!decide ((p.1:Int)>=0)) = false:=by simp
      simp only [Option.map_some,qa];simp only [h1,cond_false,qa];rw [wq (by omega) (by omega),qaz,hnx];exact ⟨hlt,rfl⟩
   ·have:i = 2 ^ m.2.1.length:=by omega
    subst this;have h0:decide (((2 ^ m.2.1.length:Nat):Int) < ((2 ^ m.2.1.length:Nat):Int)) = false:=by simp
    simp only [h0,cond_false];rw [qa1]
 ·have h':decide (stE m s = 0) = false:=by simp [h]
  rw [if_neg h];simp only [h',cond_false,qa,Bool.not_false,cond_true]
end Go.Proofs.YtkcaaaiihhhnmaaGreatDoor
end
section
namespace Go.Proofs.YtkcaaaiihhhnmaaGreatDoor
open Go Go.Ab Go.Tx
def step (x:SS) (s:Nat) (a:Int):Option Nat:=if 0<=a/\a.toNat < x.nA then x.nx s a.toNat else none
def walk (x:SS):Nat->List Int->Option Nat
 | s,[]=>some s
 | s,a :: l=>(step x s a).bind λt=>walk x t l
theorem ql7 (x:SS) (m:List Int):∀ (l:List Int) (s:Nat),walk x s (l ++ m) = (walk x s l).bind λt=>walk x t m
 | [],s=>rfl
 | a :: l,s=>by
  show (step x s a).bind (λt=>walk x t (l ++ m)) = ((step x s a).bind λt=>walk x t l).bind λt=>walk x t m;cases step x s a with
  | none=>rfl
  | some t=>exact ql7 x m l t
theorem qmE {x:SS} {s:Nat} {out:List Ent} (hg:GA x s out):∀ (n k:Nat) (e:Ent),k < n->out[k]? = some e->walk x s e.2.2.2 = some e.1
 | 0,_,_,h,_=>by omega
 | n + 1,k,e,hk,he=>by
  rcases hg.aft k e he with ⟨rfl,_,_,h3⟩ | ⟨b,a,eb,hb,h1,h2,h3,h4,h5,h6,h7⟩
  ·rw [hg.zero] at he;cases he;rfl
  ·rw [h7,ql7,qmE hg n b eb (by omega) h1];simp only [qa];unfold walk step;rw [if_pos ⟨by omega,by simpa using h2⟩,Int.toNat_natCast,h5];rfl
theorem qtf {x:SS} {s:Nat} {out:List Ent} (hg:GA x s out) {k:Nat} {e:Ent} (he:out[k]? = some e) (hp:e.2.2.2 ≠ []):∃ u,walk x s e.2.2.2.dropLast = some u/\x.hm u = false:=by
 rcases hg.aft k e he with ⟨rfl,_,_,h3⟩ | ⟨b,a,eb,hb,h1,h2,h3,h4,h5,h6,h7⟩
 ·exact absurd h3 hp
 ·exact ⟨eb.1,by rw [h7,List.dropLast_concat]; exact qmE hg (b + 1) b eb (by omega) h1,h6⟩
def qo4 (e:Ent):Nat:=e.2.2.2.length
structure BF (i:Nat) (out:List Ent):Prop where
 mono:∀ (j k:Nat) a b,j<=k->out[j]? = some a->out[k]? = some b->qo4 a<=qo4 b
 near:∀ a b,out[i]? = some a->b ∈ out->qo4 b<=qo4 a + 1
theorem qn6 (x:SS) (i:Nat) (e:Ent) (out:List Ent):∀ n,∃ l,qde x i e out n = out ++ l/\∀ b ∈ l,qo4 b = qo4 e + 1
 | 0=>⟨[],by simp [qde],by simp⟩
 | n + 1=>by
  obtain ⟨l,h1,h2⟩:=qn6 x i e out n;rw [qhx];unfold qsP;split
  ·exact ⟨l,h1,h2⟩
  ·split
   ·exact ⟨l,h1,h2⟩
   ·refine ⟨l ++ [_],by rw [h1,List.append_assoc],λb hb=>?_⟩;rcases List.mem_append.1 hb with hb | hb
    ·exact h2 b hb
    ·simp only [List.mem_singleton] at hb;subst hb;simp [qo4]
theorem qxv (x:SS) (i:Nat) (out:List Ent):(qgO x i out = out)\/∃ e l,out[i]? = some e/\qgO x i out = out ++ l/\∀ b ∈ l,qo4 b = qo4 e + 1:=by
 unfold qgO;split
 ·exact .inl rfl
 ·rename_i e he;split
  ·exact .inl rfl
  ·obtain ⟨l,h1,h2⟩:=qn6 x i e out x.nA;exact .inr ⟨e,l,he,h1,h2⟩
theorem qBz (x:SS) (s:Nat):∀ i,BF i (RA x s i)
 | 0=>⟨λj k a b _ ha hb=>by
   have h1:=(List.getElem?_eq_some_iff.1 ha).1;have h2:=(List.getElem?_eq_some_iff.1 hb).1;simp only [RA,List.length_singleton] at h1 h2;have e1:j = 0:=by omega
   have e2:k = 0:=by omega
   subst e1; subst e2;rw [ha] at hb; cases hb; exact Nat.le_refl _,λa b ha hb=>by
   simp only [RA,List.mem_singleton,List.getElem?_cons_zero,qb] at ha hb;subst ha; subst hb; omega⟩
 | i + 1=>by
  have hB:=qBz x s i;show BF (i + 1) (qgO x i (RA x s i));generalize RA x s i = out at hB ⊢;rcases qxv x i out with h | ⟨e,l,he,h,hl⟩
  ·rw [h];refine ⟨hB.mono,λa b ha hb=>?_⟩;have hlt:=(List.getElem?_eq_some_iff.1 ha).1;obtain ⟨c,hc⟩:∃ c,out[i]? = some c:=⟨_,List.getElem?_eq_getElem (by omega)⟩
   have h1:=hB.near c b hc hb;have h2:=hB.mono i (i + 1) c a (by omega) hc ha;omega
  ·rw [h];have hil:=(List.getElem?_eq_some_iff.1 he).1;have up:∀ (k:Nat) b,(out ++ l)[k]? = some b->qo4 b<=qo4 e + 1:=λk b hb=>by
    rcases List.mem_append.1 (List.mem_of_getElem? hb) with h1 | h1
    ·exact hB.near e b he h1
    ·rw [hl b h1]; omega
   have lo:∀ (k:Nat) b,i<=k->(out ++ l)[k]? = some b->qo4 e<=qo4 b:=λk b hk hb=>by
    by_cases hlt:k < out.length
    ·rw [List.getElem?_append_left hlt] at hb;exact hB.mono i k e b hk he hb
    ·rw [List.getElem?_append_right (by omega)] at hb;rw [hl b (List.mem_of_getElem? hb)]; omega
   refine ⟨λj k a b hjk ha hb=>?_,λa b ha hb=>?_⟩
   ·by_cases hlt:k < out.length
    ·rw [List.getElem?_append_left hlt] at hb;rw [List.getElem?_append_left (by omega)] at ha;exact hB.mono j k a b hjk ha hb
    ·rw [List.getElem?_append_right (by omega)] at hb;rw [hl b (List.mem_of_getElem? hb)];exact up j a ha
   ·obtain ⟨k,hk⟩:=List.mem_iff_getElem?.1 hb;have h1:=up k b hk;have h2:=lo (i + 1) a (by omega) ha;omega
theorem qxW {x:SS} (hx:x.ok) {s:Nat} (hs:s < 256) {e:Ent} (he:e ∈ qeA x s) (hh:x.hm e.1 = false) {a t:Nat} (ha:a < x.nA) (ht:x.nx e.1 a = some t):∃ e' ∈ qeA x s,e'.1 = t/\qo4 e'<=qo4 e + 1:=by
 obtain ⟨k,hk⟩:=List.mem_iff_getElem?.1 he;have h1:=qw1 hx hs hk;have h2:=qmX hx (qg2 hx hs k) h1 hh ht x.nA (by omega) ha;have h3:RA x s (k + 1) = qde x k e (RA x s k) x.nA:=by
  show qgO x k (RA x s k) = _;unfold qgO;rw [h1];simp [hh]
 obtain ⟨l,h6,h7⟩:=qn6 x k e (RA x s k) x.nA;rw [<- h3] at h2;obtain ⟨e',h4,h5⟩:=List.mem_map.1 h2;obtain ⟨j,hj⟩:=List.mem_iff_getElem?.1 h4;have hk':=(GA.len (qdQ hx hs))
 have hlt:=(List.getElem?_eq_some_iff.1 hk).1;refine ⟨e',List.mem_of_getElem? (qBG hx hs hj (j:=256) (by omega)),h5,?_⟩;rw [h3,h6] at h4;rcases List.mem_append.1 h4 with h4 | h4
 ·exact (qBz x s k).near e e' h1 h4
 ·rw [h7 e' h4]; omega
theorem qpL {x:SS} (hx:x.ok) {s:Nat} (hs:s < 256):∀ (l:List Int) (e:Ent) (t:Nat),e ∈ qeA x s->walk x e.1 l = some t->x.hm t = true->∃ e' ∈ qeA x s,x.hm e'.1 = true/\qo4 e'<=qo4 e + l.length
 | [],e,t,he,h,hh=>by
  cases h;exact ⟨e,he,hh,by omega⟩
 | a :: l,e,t,he,h,hh=>by
  by_cases c:x.hm e.1 = true
  ·exact ⟨e,he,c,by omega⟩
  ·unfold walk at h;obtain ⟨u,hu,hw⟩:=qd.1 h;unfold step at hu;split at hu
   ·rename_i ha;obtain ⟨e',h1,h2,h3⟩:=qxW hx hs he (by simpa using c) ha.2 hu;subst h2;obtain ⟨e2,h4,h5,h6⟩:=qpL hx hs l e' t h1 hw hh;exact ⟨e2,h4,h5,by simp only [List.length_cons]; omega⟩
   ·cases hu
theorem qkL {x:SS} (hx:x.ok) {s:Nat} (hs:s < 256):(s,(-1:Int),(-1:Int),([]:List Int)) ∈ qeA x s:=List.mem_of_getElem? (qdQ hx hs).zero
theorem qsZ {m:Mc} (hv:VM m) {n:Nat} (hn:n < 256) {bar:Nat->Bool} {l:List Int} {t:Nat} (h:walk (qbX m bar) n l = some t) (hh:qgD m t = true) :
  ∃ i e,hIx m (qeA (qbX m bar) n) = some (i,e)/\qo4 e<=l.length:=by
 obtain ⟨e',h1,h2,h3⟩:=qpL (qc0 hv bar) hn l _ t (qkL (qc0 hv bar) hn) h hh;have h3':qo4 e'<=l.length:=by simpa [qo4] using h3
 have h2':qgD m e'.1 = true:=h2;obtain ⟨k,hk⟩:=List.mem_iff_getElem?.1 h1;cases hx:hIx m (qeA (qbX m bar) n) with
 | none =>
  have:=qbe.1 hx k e' hk;simp [h2'] at this
 | some p =>
  obtain ⟨i,e⟩:=p;refine ⟨i,e,rfl,?_⟩;obtain ⟨j,a,g1,g2,g3⟩:=qaH hx;simp only [Nat.zero_add] at g2 g3;have hij:j = i/\a = e:=by
   split at g2
   ·cases g2; exact ⟨rfl,rfl⟩
   ·cases g2
  obtain ⟨rfl,rfl⟩:=hij;by_cases hlt:k < j
  ·have:=g3 k e' hlt hk;simp [h2'] at this
  ·have:=(qBz (qbX m bar) n 256).mono j k a e' (by omega) g1 hk;omega
theorem qmx {m:Mc} {l:List Ent}:hIx m l = none ↔ ∀ e ∈ l,qgD m e.1 = false:=by
 unfold hIx;rw [qbe];constructor
 ·intro h e he;obtain ⟨k,hk⟩:=List.mem_iff_getElem?.1 he;have:=h k e hk;cases c:qgD m e.1 with
  | true=>simp [c] at this
  | false=>rfl
 ·intro h i e he;simp [h e (List.mem_of_getElem? he)]
def qlW (m:Mc) (n b:Nat):Prop:=hIx m (qeA (qbX m b.testBit) n) = none
theorem qva (m:Mc) (n:Nat):∀ N,((qoL m n N).2 = true->∃ B,B < N/\(qoL m n N).1 = qdb 6 B/\qlW m n B)/\∀ B,B < N->qlW m n B->(qoL m n N).2 = true/\(qoL m n N).1.length<=(qdb 6 B).length
 | 0=>⟨by simp [qoL],λB h=>by omega⟩
 | N + 1=>by
  obtain ⟨h1,h2⟩:=qva m n N;rw [qmP];unfold qCq;generalize qoL m n N = st at h1 h2 ⊢;split
  ·rename_i c;refine ⟨λh=>?_,λB hB hs=>?_⟩
   ·obtain ⟨B,g1,g2,g3⟩:=h1 h;exact ⟨B,by omega,g2,g3⟩
   ·by_cases e:B < N
    ·exact h2 B e hs
    ·have:B = N:=by omega
     subst this;refine ⟨c.1,?_⟩;rcases c.2 with c | c
     ·omega
     ·omega
  ·rename_i c;split
   ·rename_i d;refine ⟨λ_=>⟨N,by omega,rfl,d⟩,λB hB hs=>⟨rfl,?_⟩⟩;by_cases e:B < N
    ·obtain ⟨g1,g2⟩:=h2 B e hs;have:¬ (qdb 6 N).length > st.1.length:=λh=>c ⟨g1,.inl h⟩;show (qdb 6 N).length<=_;omega
    ·have:B = N:=by omega
     subst this;exact Nat.le_refl _
   ·rename_i d;refine ⟨λh=>?_,λB hB hs=>?_⟩
    ·obtain ⟨B,g1,g2,g3⟩:=h1 h;exact ⟨B,by omega,g2,g3⟩
    ·by_cases e:B < N
     ·exact h2 B e hs
     ·have:B = N:=by omega
      subst this;exact absurd hs d
theorem qwj {m:Mc} (hv:VM m) {n:Nat} (hn:n < 256) (hh:qgD m n = false):qlW m n (2 ^ m.2.1.length - 1):=by
 unfold qlW;rw [qmx];refine qtA (qc0 hv _) hn (λu=>qgD m u = false) hh λu a t _ _ ha ht=>?_;simp only [qbX,nxB] at ht ha;rw [Nat.testBit_two_pow_sub_one,decide_eq_true ha] at ht;simp at ht
theorem qyj {m:Mc} (hv:VM m) {n:Nat} (hn:n < 256) (hh:qgD m n = false):∃ B,B < 2 ^ m.2.1.length/\(qoL m n (2 ^ m.2.1.length)).1 = qdb 6 B/\qlW m n B/\∀ B',B' < 2 ^ m.2.1.length->qlW m n B'->(qdb 6 B).length<=(qdb 6 B').length:=by
 obtain ⟨h1,h2⟩:=qva m n (2 ^ m.2.1.length);have hp:0 < 2 ^ m.2.1.length:=Nat.pow_pos (by omega);obtain ⟨h3,_⟩:=h2 (2 ^ m.2.1.length - 1) (by omega) (qwj hv hn hh);obtain ⟨B,g1,g2,g3⟩:=h1 h3;exact ⟨B,g1,g2,g3,λB' hB hs=>by rw [<- g2]; exact (h2 B' hB hs).2⟩
def qkc (m:Mc) (left:List Int) (N:Nat):List Ac:=((List.range N).filter λi:Nat=>decide ((i:Int) ∉ left)).map (qjO m)
theorem qwk (m:Mc) (left:List Int) (N:Nat):qkc m left (N + 1) = qkc m left N ++ if (N:Int) ∈ left then [] else [qjO m N]:=by
 unfold qkc;rw [List.range_succ,List.filter_append,List.map_append];congr 1
 by_cases h:(N:Int) ∈ left
 ·rw [if_pos h]; simp [h]
 ·rw [if_neg h]; simp [h]
theorem qyk (m:Mc) (left:List Int) (N:Nat):(qkc m left N).length<=N:=by
 unfold qkc;rw [List.length_map];exact Nat.le_trans (List.length_filter_le ..) (by simp)
def wo (m:Mc) (left:List Int):Mc:=(m.1,qkc m left m.2.1.length,m.2.2.1,())
theorem qjo (m:Mc) (left:List Int):(qkc m left m.2.1.length).Sublist m.2.1:=by
 have h:m.2.1 = (List.range m.2.1.length).map (qjO m):=qua m.2.1 ([],[],[],[],[],());unfold qkc;have h2:=(List.filter_sublist (l:=List.range m.2.1.length) (p:=λi:Nat=>decide ((i:Int) ∉ left))).map (qjO m);rw [<- h] at h2;exact h2
theorem quU {m:Mc} {left:List Int} {N:Nat} {x:Ac}:x ∈ qkc m left N ↔ ∃ i:Nat,i < N/\(i:Int) ∉ left/\x = qjO m i:=by
 unfold qkc;simp only [List.mem_map,List.mem_filter,List.mem_range,decide_eq_true_eq];constructor
 ·rintro ⟨i,⟨h1,h2⟩,rfl⟩; exact ⟨i,h1,h2,rfl⟩
 ·rintro ⟨i,h1,h2,rfl⟩; exact ⟨i,⟨h1,h2⟩,rfl⟩
theorem qCo {m:Mc} (hb:MB m) (left:List Int):MB (wo m left):=⟨hb.fl,Nat.le_trans (qjo m left).length_le hb.ac,hb.hm,hb.fn,λa ha=>hb.an a ((qjo m left).subset ha),hb.ht⟩
theorem qzI {m:Mc}:(qaM (acE m) 0 m.2.1).2 = 0 ↔ (m.2.1.map (·.1)).Nodup/\∀ a ∈ m.2.1,isN a.1 = true/\tsE m.1.length (qca a) = 0/\tsE m.1.length (dos a) = 0:=by
 rw [qbZ];simp only [Nat.zero_add];constructor
 ·intro h;have one:∀ (i:Nat) a,m.2.1[i]? = some a->isN a.1 = true/\a.1 ∉ (m.2.1.take i).map (·.1)/\tsE m.1.length (qca a) = 0/\tsE m.1.length (dos a) = 0:=λi a ha=>by
   have:=h i a ha;unfold acE at this;split at this
   ·rename_i h1;split at this
    ·cases this
    ·rename_i h2;split at this
     ·rename_i h3; exact ⟨h1,h2,h3,this⟩
     ·rename_i h3; exact absurd this h3
   ·cases this
  refine ⟨?_,λa ha=>?_⟩
  ·rw [List.Nodup,List.pairwise_iff_getElem];intro i j hi hj hij he;rw [List.length_map] at hi hj;simp only [List.getElem_map] at he;obtain ⟨_,h2,_⟩:=one j m.2.1[j] (by simp [hj]);exact h2 (List.mem_map.2 ⟨m.2.1[i],List.mem_iff_getElem?.2 ⟨i,by rw [List.getElem?_take]; simp [hij,hi]⟩,he⟩)
  ·obtain ⟨i,hi⟩:=List.mem_iff_getElem?.1 ha;obtain ⟨h1,_,h3⟩:=one i a hi;exact ⟨h1,h3⟩
 ·rintro ⟨hd,h⟩ i a ha;obtain ⟨h1,h3,h4⟩:=h a (List.mem_of_getElem? ha);unfold acE;have h2:a.1 ∉ (m.2.1.take i).map (·.1):=λhm=>by
   have hlt:=(List.getElem?_eq_some_iff.1 ha).1;obtain ⟨b,hb,hab⟩:=List.mem_map.1 hm;obtain ⟨j,hj⟩:=List.mem_iff_getElem?.1 hb;rw [List.getElem?_take] at hj;split at hj
   ·rename_i hji;rw [List.Nodup,List.pairwise_iff_getElem] at hd;have h5:=hd j i (by rw [List.length_map]; omega) (by rw [List.length_map]; omega) hji;simp only [List.getElem_map] at h5;have e1:=(List.getElem?_eq_some_iff.1 ha).2;have e2:=(List.getElem?_eq_some_iff.1 hj).2;rw [e1,e2] at h5;exact h5 hab
   ·cases hj
  rw [if_pos h1,if_neg h2,if_pos h3,h4]
theorem qBt {m:Mc} (h:(qfE m).2 = 0) (left:List Int):(qfE (wo m left)).2 = 0:=by
 unfold qfE at h ⊢;split at h
 ·rename_i h1;split at h
  ·rename_i h2;split at h
   ·rename_i h3;split at h
    ·rename_i h4;have h2':((wo m left).1.length:Int)<=8/\((wo m left).2.1.length:Int)<=10/\((wo m left).2.2.1.length:Int)<=4:=⟨h2.1,by have:=(qjo m left).length_le; have e:(wo m left).2.1 = qkc m left m.2.1.length:=rfl; rw [e]; omega,h2.2.2⟩
     have h4':(qaM (acE (wo m left)) 0 (wo m left).2.1).2 = 0:=by
      rw [qzI] at h4 ⊢;exact ⟨h4.1.sublist ((qjo m left).map _),λa ha=>h4.2 a ((qjo m left).subset ha)⟩
     have h3':(qaM (nmE (wo m left).1) 0 (wo m left).1).2 = 0:=h3;have h1':((wo m left).1.length:Int) > 0:=h1;rw [if_pos h1',if_pos h2',if_pos h3',if_pos h4'];exact h
    ·rename_i h4; exact absurd h h4
   ·rename_i h3; exact absurd h h3
  ·cases h
 ·cases h
theorem qBR {m:Mc} {s:Int} (h:stE m s = 0) (left:List Int):stE (wo m left) s = 0:=by
 unfold stE at h ⊢;split at h
 ·rename_i h1;split at h
  ·rename_i h2;rw [if_pos (qBt h1 left)];exact if_pos h2
  ·cases h
 ·rename_i h1; exact absurd h h1
theorem quX {m1 m2:Mc} (v1:VM m1) (v2:VM m2) {b1 b2:Nat->Bool} {n:Nat} (hn:n < 256) (hh:m1.2.2.1 = m2.2.2.1) (ht:∀ u a t,nxB m1 b1 u a = some t->∃ a',nxB m2 b2 u a' = some t) :
  ∀ e ∈ qeA (qbX m1 b1) n,∃ e' ∈ qeA (qbX m2 b2) n,e'.1 = e.1:=by
 refine qtA (qc0 v1 b1) hn (λu=>∃ e' ∈ qeA (qbX m2 b2) n,e'.1 = u) ⟨_,qkL (qc0 v2 b2) hn,rfl⟩ ?_;rintro u a t ⟨e',he,rfl⟩ h1 _ h2;obtain ⟨a',h3⟩:=ht _ a t h2;have h4:(qbX m2 b2).hm e'.1 = false:=by
  have:qgD m1 e'.1 = false:=h1;show qgD m2 e'.1 = false;unfold qgD at this ⊢;rw [<- hh]; exact this
 have h5:a' < (qbX m2 b2).nA:=by
  unfold nxB at h3;split at h3
  ·rename_i c; exact c.1
  ·cases h3
 exact qmO (qc0 v2 b2) hn he h4 h5 h3
theorem qBC {m:Mc} (v:VM m) {left:List Int} (v':VM (wo m left)) {bar:Nat->Bool} (hbar:∀ a,bar a = decide ((a:Int) ∈ left)) {n:Nat} (hn:n < 256) :
  hIx (wo m left) (qeA (qbX (wo m left) λ_=>false) n) = none ↔ hIx m (qeA (qbX m bar) n) = none:=by
 rw [qmx,qmx];have to:∀ u a t,nxB (wo m left) (λ_=>false) u a = some t->∃ a',nxB m bar u a' = some t:=λu a t h=>by
  unfold nxB at h;split at h
  ·rename_i c;obtain ⟨x,hx⟩:∃ x,(wo m left).2.1[a]? = some x:=⟨_,List.getElem?_eq_getElem c.1⟩
   rw [qdA hx] at c h;obtain ⟨i,h1,h2,h3⟩:=quU.1 (List.mem_of_getElem? hx);subst h3;refine ⟨i,?_⟩;unfold nxB;rw [if_pos ⟨h1,by rw [hbar,decide_eq_false h2],c.2.2⟩,h]
  ·cases h
 have fro:∀ u a t,nxB m bar u a = some t->∃ a',nxB (wo m left) (λ_=>false) u a' = some t:=λu a t h=>by
  unfold nxB at h;split at h
  ·rename_i c;have h2:(a:Int) ∉ left:=by
    have:=c.2.1;rw [hbar] at this;simpa using this
   have:qjO m a ∈ qkc m left m.2.1.length:=quU.2 ⟨a,c.1,h2,rfl⟩;obtain ⟨k,hk⟩:=List.mem_iff_getElem?.1 this;have hk':(wo m left).2.1[k]? = some (qjO m a):=hk;refine ⟨k,?_⟩;unfold nxB;rw [qdA hk',if_pos ⟨(List.getElem?_eq_some_iff.1 hk').1,rfl,c.2.2⟩,h]
  ·cases h
 constructor
 ·intro h e he;obtain ⟨e',h1,h2⟩:=quX v v' hn rfl fro e he;have:=h e' h1;rw [h2] at this;exact this
 ·intro h e he;obtain ⟨e',h1,h2⟩:=quX v' v hn rfl to e he;have:=h e' h1;rw [h2] at this;exact this
def qyP (l:List Int) (k:Int) (N:Nat):List Int:=((List.range N).filter λi:Nat=>decide ((i:Int) ≠ k)).map λi=>l.getD i 0
theorem qya (l:List Int) (k:Int) (N:Nat):qyP l k (N + 1) = qyP l k N ++ if (N:Int) = k then [] else [l.getD N 0]:=by
 unfold qyP;rw [List.range_succ,List.filter_append,List.map_append];congr 1
 by_cases h:(N:Int) = k
 ·rw [if_pos h]; simp [h]
 ·rw [if_neg h]; simp [h]
theorem quJ (l:List Int) (k:Int) (N:Nat):(qyP l k N).length<=N:=by
 unfold qyP;rw [List.length_map];exact Nat.le_trans (List.length_filter_le ..) (by simp)
theorem qAm (l:List Int):qyP l (-1) l.length = l:=by
 unfold qyP;have h:(List.range l.length).filter (λi:Nat=>decide ((i:Int) ≠ -1)) = List.range l.length:=by
  rw [List.filter_eq_self];intro a _;simp only [decide_eq_true_eq] <;> omega
 rw [h];exact (qua l 0).symm
theorem qzg:∀ (B:Fin 64) (k:Fin 6),k.val < (qdb 6 B.val).length->B.val - 2 ^ ((qdb 6 B.val).getD k.val 0).toNat < 64/\(qdb 6 (B.val - 2 ^ ((qdb 6 B.val).getD k.val 0).toNat)).length < (qdb 6 B.val).length/\qyP (qdb 6 B.val) (k.val:Int) (qdb 6 B.val).length = qdb 6 (B.val - 2 ^ ((qdb 6 B.val).getD k.val 0).toNat):=by decide +kernel
end Go.Proofs.YtkcaaaiihhhnmaaGreatDoor
end
section
namespace Go.Proofs.YtkcaaaiihhhnmaaGreatDoor
open Go Go.Ab Go.Tx
abbrev SS0 (m:Mc):SS:=qbX m λ_=>false
theorem qCR {m:Mc} (hv:VM m) {bar:Nat->Bool} {u a t:Nat} (hu:u < 2 ^ m.1.length) (h:nxB m bar u a = some t):t < 2 ^ m.1.length:=by
 unfold nxB at h;split at h
 ·rename_i hc;cases h;obtain ⟨x,hx⟩:∃ x,m.2.1[a]? = some x:=⟨_,List.getElem?_eq_getElem hc.1⟩
  rw [qdA hx];have hd:=hv.ds x (List.mem_of_getElem? hx);exact qtu (hd.ok hv.f8) (λy hy=>(hd.1 y hy).2) hv.f8 hu
 ·cases h
theorem qB1 {m:Mc} (h:qfE m = (0,0)) {t:Nat} (ht:t < 2 ^ m.1.length):stE m (t:Int) = 0:=by
 unfold stE;rw [h];generalize 2 ^ m.1.length = p at ht ⊢;rw [if_pos rfl,if_pos ⟨by omega,by omega⟩]
theorem qyS {m:Mc} (hb:MB m) (s k:Int):qc8 m s k = some (if stE m s = 0 then (if 0<=k/\k<=(m.2.1.length:Int) - 1 then (if hold (qca (qjO m k.toNat)) s.toNat = true then (((qp2 (dos (qjO m k.toNat)) s.toNat:Nat):Int),0) else (0,20)) else (0,6)) else (0,stE m s)):=by
 unfold qc8;have h12:=hb.ac;rw [qdO hb];simp only [qa];rw [wq (by omega) (by omega)];simp only [wit,unl,qa];rw [qzz _ (by simp)];simp only [qa];by_cases h:stE m s = 0
 ·obtain ⟨hv,_,ho,n,rfl,hn,hn2⟩:=qhr hb h;have h8:=hv.f8; have h10:=hv.a10;simp only [h,qit,if_true,ho,bm,Int.toNat_natCast];by_cases c:0<=k/\k<=(m.2.1.length:Int) - 1
  ·obtain ⟨i,rfl⟩:∃ i:Nat,k = (i:Int):=⟨k.toNat,by omega⟩
   obtain ⟨a,ha⟩:∃ a,m.2.1[i]? = some a:=⟨_,List.getElem?_eq_getElem (by omega)⟩
   have hm:=List.mem_of_getElem? ha;have i1:(m.2.1.map λa=>bt (qca a))[i]? = some (bt (qca a)):=by simp [ha]
   have i2:(m.2.1.map λa=>bt (dos a))[i]? = some (bt (dos a)):=by simp [ha]
   simp only [c,and_self,decide_true,if_true,Bool.not_true,cond_false,qV i1,qa,Int.toNat_natCast,qdA ha];rw [qhT ((hv.nd a hm).ok h8) hn2];simp only [qa];by_cases c:hold (qca a) n = true
   ·simp only [c,Bool.not_true,cond_false,if_true,qV i2,qa];rw [qtb ((hv.ds a hm).ok h8) hn2];rfl
   ·simp [c]
  ·simp [c]
 ·simp [h,qit]
theorem qyu {m:Mc} (hb:MB m) {u:Nat} (h:stE m (u:Int) = 0) (k:Int):∃ e:Int,e ≠ 0/\qc8 m (u:Int) k = some (match step (SS0 m) u k with | some t=>((t:Int),0) | none=>(0,e)):=by
 rw [qyS hb,if_pos h];have hA:(SS0 m).nA = m.2.1.length:=rfl;unfold step;by_cases c:0<=k/\k<=(m.2.1.length:Int) - 1
 ·have c1:0<=k/\k.toNat < (SS0 m).nA:=⟨c.1,by rw [hA]; omega⟩
  rw [if_pos c,if_pos c1];by_cases d:hold (qca (qjO m k.toNat)) u = true
  ·have:(SS0 m).nx u k.toNat = some (qp2 (dos (qjO m k.toNat)) u):=by
    show nxB m (λ_=>false) u k.toNat = _;unfold nxB;rw [if_pos ⟨by omega,rfl,d⟩]
   rw [this,Int.toNat_natCast,if_pos d];exact ⟨1,by omega,rfl⟩
  ·have:(SS0 m).nx u k.toNat = none:=by
    show nxB m (λ_=>false) u k.toNat = _;unfold nxB;rw [if_neg (λh=>d h.2.2)]
   rw [this,Int.toNat_natCast,if_neg d];exact ⟨20,by omega,rfl⟩
 ·have c1:¬ (0<=k/\k.toNat < (SS0 m).nA):=by rw [hA]; omega
  rw [if_neg c,if_neg c1];exact ⟨6,by omega,rfl⟩
theorem qBg {m:Mc} (hv:VM m) {u t:Nat} {k:Int} (hu:u < 2 ^ m.1.length) (h:step (SS0 m) u k = some t):t < 2 ^ m.1.length:=by
 unfold step at h;split at h
 ·exact qCR (bar:=λ_=>false) hv hu h
 ·cases h
theorem qqn {m:Mc} (hv:VM m):∀ {l:List Int} {u t:Nat},u < 2 ^ m.1.length->walk (SS0 m) u l = some t->t < 2 ^ m.1.length
 | [],u,t,hu,h=>by cases h; exact hu
 | a :: l,u,t,hu,h=>by
  unfold walk at h;obtain ⟨v,h1,h2⟩:=qd.1 h;exact qqn hv (qBg hv hu h1) h2
theorem qnY {m:Mc} (hb:MB m) {n:Nat} (h:stE m (n:Int) = 0) (l:List Int) (hl:l.length<=1000):qbQ m (n:Int) l = some (match walk (SS0 m) n l with | some t=>((t:Int),true) | none=>(0,false)):=by
 unfold qbQ;obtain ⟨hv,hm0,_,n',e0,hn,hn2⟩:=qhr hb h;have:n' = n:=by omega
 subst this;have key:∀ o:Option (Int ⊕ (Int × Bool)),Ok o (λr=>r = match walk (SS0 m) n' l with | some t=>.inl (t:Int) | none=>.inr (0,false))->o.bind (Sum.elim (λ(p6:Int)=>some (p6,true)) some) = some (match walk (SS0 m) n' l with | some t=>((t:Int),true) | none=>(0,false)):=by
  intro o ho;rw [ho.eq];cases walk (SS0 m) n' l <;> rfl
 refine key _ (qdl l.length (λi (s:Int × Int)=>s.2 = (i:Int)/\∃ u:Nat,s.1 = (u:Int)/\walk (SS0 m) n' (l.take i) = some u) _ ⟨rfl,n',rfl,rfl⟩ ?_);rintro i ⟨s1,s2⟩ hi ⟨e1,u,e2,hw⟩;simp only at e1 e2;subst e1; subst e2;have hu:=qqn hv hn hw;by_cases hlt:i < l.length
 ·have h0:decide ((i:Int) < (l.length:Int)) = true:=by simp <;> omega
  obtain ⟨k,hk⟩:∃ k,l[i]? = some k:=⟨_,List.getElem?_eq_getElem hlt⟩
  obtain ⟨e,he,hnx⟩:=qyu hb (qB1 hm0 hu) k;simp only [h0,cond_true];rw [qtz hb];simp only [qa,qV hk];rw [hnx];have htk:l.take (i + 1) = l.take i ++ [k]:=by rw [qcU 0 hlt,qaT hk]
  have hws:walk (SS0 m) n' (l.take (i + 1)) = step (SS0 m) u k:=by
   rw [htk,ql7,hw];simp only [qa];unfold walk;cases step (SS0 m) u k <;> rfl
  cases hs:step (SS0 m) u k with
  | some t =>
   simp only [qa,decide_true,Bool.not_true,cond_false];rw [wq (by omega) (by omega),qaz];exact ⟨hlt,by simp,t,rfl,by rw [hws,hs]⟩
  | none =>
   have hc:(!decide (e = 0)) = true:=by simp [he]
   simp only [qa,hc,cond_true];rw [qa1];have:walk (SS0 m) n' l = none:=by
    rw [<- List.take_append_drop (i + 1) l,ql7,hws,hs]; rfl
   rw [this]
 ·have:i = l.length:=by omega
  subst this;have h0:decide ((l.length:Int) < (l.length:Int)) = false:=by simp
  simp only [h0,cond_false];rw [qa1];rw [List.take_length] at hw;rw [hw]
theorem qv2 {m:Mc} (hb:MB m) (left:List Int) (hl:left.length<=1000):qc9 m left = some (wo m left):=by
 unfold qc9;have h12:=hb.ac;rw [qtz hb];simp only [qa];have key:∀ o:Option (List Nm × List Ac × List Ts),Ok o (λr=>r = (m.1,qkc m left m.2.1.length,m.2.2.1))->(o.bind λ(p9:List Nm × List Ac × List Ts)=>some (p9.1,p9.2.1,p9.2.2,())) = some (wo m left):=by
  intro o ho;rw [ho.eq]; rfl
 refine key _ (qdl m.2.1.length (λi (s:Int × List Nm × List Ac × List Ts)=>s = ((i:Int),m.1,qkc m left i,m.2.2.1)) _ rfl ?_);rintro i s hi rfl;by_cases hlt:i < m.2.1.length
 ·have h0:decide ((i:Int) < (m.2.1.length:Int)) = true:=by simp <;> omega
  obtain ⟨a,ha⟩:∃ a,m.2.1[i]? = some a:=⟨_,List.getElem?_eq_getElem hlt⟩
  simp only [h0,cond_true];rw [qAP _ _ (by omega)];simp only [qa];have hk:=qyk m left i;have hnx:=qwk m left i;by_cases c:(i:Int) ∈ left
  ·rw [if_pos c,List.append_nil] at hnx;simp only [c,decide_true,Bool.not_true,cond_false,qa];rw [wq (by omega) (by omega),qaz,hnx];exact ⟨hlt,rfl⟩
  ·rw [if_neg c] at hnx;simp only [c,decide_false,Bool.not_false,cond_true];simp only [qa,qV ha];rw [qew (by omega)];simp only [qa];rw [wq (by omega) (by omega),qaz,hnx,qdA ha];exact ⟨hlt,rfl⟩
 ·have:i = m.2.1.length:=by omega
  subst this;have h0:decide ((m.2.1.length:Int) < (m.2.1.length:Int)) = false:=by simp
  simp only [h0,cond_false];rw [qa1]
theorem qvS {m:Mc} (hv:VM m) {n:Nat} (hn:n < 2 ^ m.1.length):(qis m (n:Int) (qd4 m n)).2 = 0 ↔ hIx m (qeA (SS0 m) n) = none:=by
 have h256:=qf1 hv;have hn2:n < 256:=by omega
 have hok:=qc0 hv λ_=>false;have hmem:∀ x:Int,x ∈ qd4 m n ↔ ∃ e ∈ qeA (SS0 m) n,x = ((e.1:Nat):Int):=λx=>by
  unfold qd4 qg8;simp only [List.mem_map,List.mem_filter,List.mem_range,decide_eq_true_eq];constructor
  ·rintro ⟨a,⟨_,e,he,rfl⟩,rfl⟩; exact ⟨e,he,rfl⟩
  ·rintro ⟨e,he,rfl⟩; exact ⟨e.1,⟨qko hv _ hn e he,e,he,rfl⟩,rfl⟩
 have hasc:=qnP (qeA (SS0 m) n) (2 ^ m.1.length);have h1:(qaM (seE ((2 ^ m.1.length:Nat):Int) (qd4 m n)) 0 (qd4 m n)).2 = 0:=by
  rw [qbZ];intro i x hx;obtain ⟨e,he,rfl⟩:=(hmem x).1 (List.mem_of_getElem? hx);have:=qko hv _ hn e he;unfold seE;rw [if_pos (by generalize 2 ^ m.1.length = p at this ⊢; omega),Nat.zero_add,if_neg];rintro ⟨g1,g2⟩;obtain ⟨j,rfl⟩:∃ j,i = j + 1:=⟨i - 1,by omega⟩
  have hlt:=(List.getElem?_eq_some_iff.1 hx).1;obtain ⟨y,hy⟩:∃ y,(qd4 m n)[j]? = some y:=⟨_,List.getElem?_eq_getElem (by omega)⟩
  rw [Nat.add_sub_cancel,qaT hy] at g2;have hp:(qd4 m n).Pairwise (· < ·):=hasc;rw [List.pairwise_iff_getElem] at hp;have:=hp j (j + 1) (by omega) hlt (by omega);have e1:=(List.getElem?_eq_some_iff.1 hx).2;have e2:=(List.getElem?_eq_some_iff.1 hy).2;rw [e1,e2] at this;omega
 have h2:(n:Int) ∈ qd4 m n:=(hmem _).2 ⟨_,qkL hok hn2,rfl⟩;unfold qis;rw [if_pos h1,if_pos h2,qbZ,qmx];constructor
 ·intro h e he;obtain ⟨i,hi⟩:=List.mem_iff_getElem?.1 ((hmem _).2 ⟨e,he,rfl⟩);have:=h i _ hi;unfold clE at this;rw [Int.toNat_natCast] at this;cases c:qgD m e.1 with
  | true=>rw [c,if_pos rfl] at this; cases this
  | false=>rfl
 ·intro h i x hx;obtain ⟨e,he,rfl⟩:=(hmem x).1 (List.mem_of_getElem? hx);unfold clE;rw [Int.toNat_natCast,h e he,if_neg (by simp),if_neg];rintro ⟨a,ha,g1,g2⟩;obtain ⟨k,hk⟩:=List.mem_iff_getElem?.1 ha;obtain ⟨e',h3,h4⟩:=qmO hok hn2 he (h e he) (a:=k) (t:=qp2 (dos a) e.1) (List.getElem?_eq_some_iff.1 hk).1 (by
   show nxB m (λ_=>false) e.1 k = _;unfold nxB;rw [qdA hk,if_pos ⟨(List.getElem?_eq_some_iff.1 hk).1,rfl,g1⟩])
  exact g2 ((hmem _).2 ⟨e',h3,by rw [h4]⟩)
theorem qm7 (m:Mc) (n:Nat):(qiu m n).2 = if hIx m (qeA (SS0 m) n) = none then 12 else 0:=by
 unfold qiu;cases hIx m (qeA (qbX m λ_=>false) n) <;> rfl
theorem qAJ {m:Mc} (hb:MB m) {n:Nat} (h:stE m (n:Int) = 0) {B:Nat} (hB:B < 64):∃ q,qaN (wo m (qdb 6 B)) (n:Int) = some q/\(q.2 = 12/\qlW m n B\/q.2 = 0 /\ ¬ qlW m n B):=by
 have h':=qBR h (qdb 6 B);obtain ⟨hv,_,_,n',e0,hn,hn2⟩:=qhr hb h;have:n' = n:=by omega
 subst this;obtain ⟨hv',_⟩:=qhr (qCo hb _) h';rw [qn0 (qCo hb _),if_pos h',Int.toNat_natCast];refine ⟨_,rfl,?_⟩;rw [qm7];have:=qBC hv hv' (bar:=B.testBit) (λa=>qzw hB a) hn2;unfold qlW;by_cases c:hIx m (qeA (qbX m B.testBit) n') = none
 ·exact .inl ⟨if_pos (this.2 c),c⟩
 ·exact .inr ⟨if_neg λh=>c (this.1 h),c⟩
theorem qxG (b:List Int) (hb:b.length<=1000) (k:Int):qH (λ(s33:((List Int) × Int)) =>
             bif decide (s33.2 < (b.length:Int)) then
              (bif !(decide (s33.2 = k)) then
                (idx b s33.2).bind λx34 =>
                (app s33.1 ([x34])).bind λx35 =>
                some x35
               else
                some s33.1).bind λ(p36:(List Int)) =>
              some (.inl (p36,w64 (s33.2 + 1)))
             else
              some (.inr s33.1)) ([],0) = some (qyP b k b.length):=by
 refine Ok.eq (qdl b.length (λi (s:List Int × Int)=>s = (qyP b k i,(i:Int))) _ rfl ?_);rintro i s hi rfl;by_cases hlt:i < b.length
 ·have h0:decide ((i:Int) < (b.length:Int)) = true:=by simp <;> omega
  obtain ⟨a,ha⟩:∃ a,b[i]? = some a:=⟨_,List.getElem?_eq_getElem hlt⟩
  have hk:=quJ b k i;have hnx:=qya b k i;simp only [h0,cond_true];by_cases c:(i:Int) = k
  ·rw [if_pos c,List.append_nil] at hnx;simp only [c,decide_true,Bool.not_true,cond_false,qa];rw [<- c,wq (by omega) (by omega),qaz,c,hnx];exact ⟨hlt,by rw [<- c]; rfl⟩
  ·rw [if_neg c] at hnx;simp only [c,decide_false,Bool.not_false,cond_true,qV ha,qa];rw [qew (by omega)];simp only [qa];rw [wq (by omega) (by omega),qaz,hnx,qaT ha];exact ⟨hlt,rfl⟩
 ·have:i = b.length:=by omega
  subst this;have h0:decide ((b.length:Int) < (b.length:Int)) = false:=by simp
  simp only [h0,cond_false];rw [qa1]
theorem qxR {B:Nat} (hB:B < 64) (h:qdb 6 B = []):B = 0:=by
 rcases Nat.eq_zero_or_pos B with h0 | h0
 ·exact h0
 ·have:=(qx2 ⟨B,hB⟩ (by show B ≠ 0; omega)).1;simp only at this;rw [h] at this; cases this
theorem qp8 {m:Mc} (hb:MB m) {n:Nat} (h:stE m (n:Int) = 0) (h6:m.2.1.length<=6) (h8:List Int × Int) (he:h8.2 = if hIx m (qeA (SS0 m) n) = none then 12 else 0) :
  ((qbA m (n:Int)).bind λx27 =>
      (qaY m (n:Int)).bind λx28 =>
      bif x28 then
       some (decide (x27.2 = 20))
      else
       (bif !(decide (x27.2 = 0)) then
         some true
        else
         some (!(decide ((x27.1.length:Int) = 0) == decide (h8.2 = 12)))).bind λ(p29:Bool) =>
       bif p29 then
        some false
       else
        (qH (λ(s31:Int) =>
          bif decide (s31 < (x27.1.length:Int)) then
           (qH (λ(s33:((List Int) × Int)) =>
             bif decide (s33.2 < (x27.1.length:Int)) then
              (bif !(decide (s33.2 = s31)) then
                (idx x27.1 s33.2).bind λx34 =>
                (app s33.1 ([x34])).bind λx35 =>
                some x35
               else
                some s33.1).bind λ(p36:(List Int)) =>
              some (.inl (p36,w64 (s33.2 + 1)))
             else
              some (.inr s33.1)) ([],0)).bind λ(p37:(List Int)) =>
           (qc9 m p37).bind λx38 =>
           (qaN x38 (n:Int)).bind λx39 =>
           (bif decide (s31 < 0) then
             bif !(decide (x39.2 = 12)) then
              some true
             else
              bif decide (s31>=0) then
               some (!(decide (x39.2 = 0)))
              else
               some false
            else
             bif decide (s31>=0) then
              some (!(decide (x39.2 = 0)))
             else
              some false).bind λ(p40:Bool) =>
           bif p40 then
            some (.inr (.inr false))
           else
            some (.inl (w64 (s31 + 1)))
          else
           some (.inr (.inl ()))) (-1)).bind (Sum.elim (λ(p41:Unit) =>
        some true) some)) = some true:=by
 obtain ⟨hv,_,_,n',e0,hn,hn2⟩:=qhr hb h;have:n' = n:=by omega
 subst this;clear e0;rw [qrq hb _ (λ_=>h6),if_pos h,Int.toNat_natCast,qke hv hn2];simp only [qa];by_cases hh:qgD m n' = true
 ·simp [hh]
 ·have hh':qgD m n' = false:=by simpa using hh
  obtain ⟨B,hB,hbe,hs,hmin⟩:=qyj hv hn2 hh';have hp:2 ^ m.2.1.length<=64:=Nat.pow_le_pow_right (n:=2) (by omega) h6;have hp0:0 < 2 ^ m.2.1.length:=Nat.pow_pos (by omega);have hB6:B < 64:=by omega
  rw [hbe];have hbl:=qmi 6 B;have hz:decide (((qdb 6 B).length:Int) = 0) = decide (h8.2 = 12):=by
   rw [he];by_cases c:hIx m (qeA (SS0 m) n') = none
   ·rw [if_pos c];have s0:qlW m n' 0:=by
     unfold qlW; rw [qml]; exact c
    have:=hmin 0 hp0 s0;have e:(qdb 6 0).length = 0:=by decide
    have:(qdb 6 B).length = 0:=by omega
    simp [this]
   ·rw [if_neg c];have:(qdb 6 B).length ≠ 0:=λe=>by
     have e2:=qxR hB6 (List.length_eq_zero_iff.1 e);subst e2;unfold qlW at hs;rw [qml] at hs;exact c hs
    have h1:decide (((qdb 6 B).length:Int) = 0) = false:=decide_eq_false (λe=>this (by omega));rw [h1]; rfl
  simp only [hh',qf,if_false,cond_false,decide_true,Bool.not_true,hz,BEq.rfl,qa];have key:∀ o:Option (Unit ⊕ Bool),Ok o (λr=>r = .inl ())->(o.bind (Sum.elim (λ(p41:Unit)=>some true) some)) = some true:=by
   intro o ho;rw [ho.eq]; rfl
  refine key _ (qmC (λs:Int=>((qdb 6 B).length - s).toNat) (λs:Int=>-1<=s/\s<=(qdb 6 B).length) _ (by omega) ?_);intro s hs2;by_cases hlt:s < ((qdb 6 B).length:Int)
  ·have h0:decide (s < ((qdb 6 B).length:Int)) = true:=by simpa using hlt
   simp only [h0,cond_true];rw [qxG (qdb 6 B) (by omega)];simp only [qa];have hcl:=quJ (qdb 6 B) s (qdb 6 B).length;rw [qv2 hb (qyP (qdb 6 B) s (qdb 6 B).length) (by omega)];simp only [qa];have fin:∀ o:Option Bool,o = some false->Rnd (o.bind λ(p40:Bool) =>
           bif p40 then
            some (.inr (.inr false))
           else
            some (.inl (w64 (s + 1)))) (λs':Int=>(-1<=s'/\s'<=(qdb 6 B).length)/\((qdb 6 B).length - s').toNat < ((qdb 6 B).length - s).toNat) (λr:Unit ⊕ Bool=>r = .inl ()):=by
    intro o ho;subst ho;simp only [qa,cond_false];rw [wq (by omega) (by omega),qaz];omega
   by_cases c:s < 0
   ·have e:s = -1:=by omega
    rw [e,qAm];obtain ⟨q,hq,hq2⟩:=qAJ hb h hB6;rw [hq];simp only [qa];rw [e] at fin;refine fin _ ?_;rcases hq2 with ⟨q2,_⟩ | ⟨_,q2⟩
    ·simp [q2]
    ·exact absurd hs q2
   ·obtain ⟨k,rfl⟩:∃ k:Nat,s = (k:Int):=⟨s.toNat,by omega⟩
    obtain ⟨b1,b2,b3⟩:=qzg ⟨B,hB6⟩ ⟨k,by omega⟩ (by show k < (qdb 6 B).length; omega);simp only at b1 b2 b3;rw [b3];obtain ⟨q,hq,hq2⟩:=qAJ hb h b1;rw [hq];simp only [qa];refine fin _ ?_;rcases hq2 with ⟨_,q2⟩ | ⟨q2,_⟩
    ·exfalso
     have:=hmin _ (Nat.lt_of_le_of_lt (Nat.sub_le _ _) hB) q2;omega
    ·have c1:decide ((k:Int) < 0) = false:=by simp
     have c2:decide ((k:Int)>=0) = true:=by simp
     simp [c1,c2,q2]
  ·have h0:decide (s < ((qdb 6 B).length:Int)) = false:=by simpa using hlt
   simp only [h0,cond_false];rw [qa1]
theorem qy3 {m:Mc} (hb:MB m) {n:Nat} (h:stE m (n:Int) = 0) (acts:List Int) (ha:acts.length<=8) {α:Type} (k:Option α) (bad:Option α) :
  ((qbQ m (n:Int) acts).bind λx23 =>
     (bif x23.2 then
       (qaY m x23.1).bind λx24 =>
       bif x24 then
        bif !(decide ((qiu m n).2 = 0)) then
         some true
        else
         some (decide (((qiu m n).1.length:Int) > (acts.length:Int)))
       else
        some false
      else
       some false).bind λ(p25:Bool) =>
     bif p25 then bad else k) = k:=by
 obtain ⟨hv,_,_,n',e0,hn,hn2⟩:=qhr hb h;have:n' = n:=by omega
 subst this;rw [qnY hb h _ (by omega)];simp only [qa];cases hw:walk (SS0 m) n' acts with
 | none=>simp
 | some t =>
  have ht:=qqn hv hn hw;have h256:=qf1 hv;simp only [cond_true];rw [qke hv (by omega)];simp only [qa];by_cases c:qgD m t = true
  ·obtain ⟨i,e,h1,h2⟩:=qsZ hv hn2 hw c;unfold qiu;rw [h1];have h3:decide ((e.2.2.2.length:Int) > (acts.length:Int)) = false:=by
    have:e.2.2.2.length<=acts.length:=h2;exact decide_eq_false (by omega)
   simp only [c,h3,cond_true,decide_true,Bool.not_true,cond_false,qa]
  ·have c':qgD m t = false:=by simpa using c
   simp [c']
theorem qlI (m:Mc) (s:Int) (acts:List Int):qcR m s acts = some true:=by
 unfold qcR qi2;simp only [qa,Bool.not_true,cond_false];obtain ⟨b,e,hb⟩:=qCc m;rw [e];cases b with
 | false=>simp
 | true =>
  have hb:=hb rfl;simp only [qa,Bool.not_true,cond_false];by_cases c:(m.2.1.length:Int) > 6
  ·simp only [c,decide_true,cond_true,qa]
  ·rw [decide_eq_false c];simp only [cond_false];rw [qt8 hb];simp only [qa];by_cases h:stE m s = 0
   ·by_cases hl:(acts.length:Int) > 8
    ·simp only [h,hl,decide_true,Bool.not_true,cond_false,qa,cond_true]
    ·simp only [h,decide_true,Bool.not_true,cond_false,qa];rw [decide_eq_false hl];simp only [cond_false,qtz hb,qa];rw [qow hb,qn0 hb,if_pos h,if_pos h];have hst:=h;obtain ⟨hv,_,ho,n,rfl,hn,hn2⟩:=qhr hb h;have hr:=qtQ (qeA (qbX m λ_=>false) n) (2 ^ m.1.length);have hp:=qf1 hv;have hr2:(qd4 m n).length<=256:=by unfold qd4; omega
     have c1:decide (((qd4 m n).length:Int) > 256) = false:=by simp <;> omega
     simp only [qa,Int.toNat_natCast,decide_true,Bool.not_true,cond_false,c1];rw [qiX _ (by omega)];simp only [qa];rw [qoH hb _ _ (by omega),if_pos h];simp only [qa];have hcl:=qvS hv hn;have hT:=qp8 hb h (by omega) (qiu m n) (qm7 m n);have hG:=λ(k bad:Option Bool)=>qy3 hb h acts (by omega) k bad;have hg:=qdQ (qc0 hv λ_=>false) hn2;have hlen:=hg.len;cases hx:hIx m (qeA (SS0 m) n) with
     | none =>
      have q1:=hcl.2 hx;have q2:(qiu m n).2 = 12:=by rw [qm7,if_pos hx]
      have d1:decide ((qiu m n).2 = 12) = true:=by rw [q2]; rfl
      have d2:decide ((qiu m n).2 = 0) = false:=by rw [q2]; rfl
      have d3:decide ((qis m (n:Int) (qd4 m n)).2 = 0) = true:=by rw [q1]; rfl
      rw [d1] at hT;rw [d2] at hG;simp only [Bool.not_false,cond_true] at hG;simp only [d1,d2,d3,BEq.rfl,Bool.not_true,Bool.not_false,cond_false,cond_true,qa,Sum.elim_inl];rw [hG];exact hT
     | some p =>
      obtain ⟨i,e⟩:=p;obtain ⟨h1,h2⟩:=qve hx;have q1:(qis m (n:Int) (qd4 m n)).2 ≠ 0:=λq=>by rw [hcl.1 q] at hx; cases hx
      have q2:qiu m n = (e.2.2.2,0):=by unfold qiu; rw [hx]
      have d1:decide ((qiu m n).2 = 12) = false:=by rw [q2]; rfl
      have d2:decide ((qiu m n).2 = 0) = true:=by rw [q2]; rfl
      have d3:decide ((qis m (n:Int) (qd4 m n)).2 = 0) = false:=by simp [q1]
      rw [d1] at hT;rw [d2] at hG;have hw:=qmE hg (i + 1) i e (by omega) h1;have hpl:=hg.path (i + 1) i e (by omega) h1;have hi:i < (qeA (qbX m λ_=>false) n).length:=(List.getElem?_eq_some_iff.1 h1).1;have d4:decide ((e.2.2.2.length:Int) > 256) = false:=by simp <;> omega
      simp only [d1,d2,d3,BEq.rfl,Bool.not_true,Bool.not_false,cond_false,cond_true,qa];rw [q2] at hG ⊢;simp only [Bool.not_true,cond_false] at hG ⊢;rw [qnY hb h _ (by omega),hw];simp only [qa,Bool.not_true,cond_false];rw [qke hv (hg.lt e (List.mem_of_getElem? h1)),h2];simp only [qa,Bool.not_true,cond_false,d4];by_cases hnil:e.2.2.2 = []
      ·have d5:decide ((e.2.2.2.length:Int) > 0) = false:=by rw [hnil]; rfl
       simp only [d5,cond_false,qa,Sum.elim_inl];rw [hG];exact hT
      ·have h0:0 < e.2.2.2.length:=List.length_pos_iff.2 hnil;have d5:decide ((e.2.2.2.length:Int) > 0) = true:=by simp <;> omega
       obtain ⟨u,hu,hu2⟩:=qtf hg h1 hnil;have hul:=qqn hv hn hu;have hu3:qgD m u = false:=hu2;simp only [d5,cond_true];rw [wq (by omega) (by omega),qAM (by omega)];have e6:((e.2.2.2.length:Int) - 1).toNat = e.2.2.2.length - 1:=by omega
       have e5:(e.2.2.2.take ((e.2.2.2.length:Int) - 1).toNat).drop (0:Int).toNat = e.2.2.2.dropLast:=by
        rw [e6,List.dropLast_eq_take];exact List.drop_zero
       rw [e5];simp only [qa];rw [qnY hb h _ (by rw [List.length_dropLast]; omega),hu];simp only [qa,Bool.not_true,cond_false];rw [qke hv (by omega),hu3];simp only [qa,cond_false,Sum.elim_inl];rw [hG];exact hT
   ·have h':decide (stE m s = 0) = false:=decide_eq_false h;simp only [h',Bool.not_false,cond_true,qa]
end Go.Proofs.YtkcaaaiihhhnmaaGreatDoor
end
section
namespace Go.Proofs.YtkcaaaiihhhnmaaGreatDoor.safetyProved
open Go Go.Ab Go.Tx Go.ChangeShapes Go.WideShapes Go.ChangeAt Go.RowKit
theorem hlib:∀ g h args r,Lb g = some h->h args = some r->qbj Tryz.prog g args [] r []:=λg h args r hg hr=>by
 unfold Lb at hg;split at hg
 ·rename_i e;subst e;cases hg;cases args with
  | nil=>cases hr; exact qzP
  | cons a l=>cases hr
 ·split at hg
  ·rename_i e;subst e;cases hg;simp only at hr;split at hr
   ·rename_i n;unfold qR at hr;split at hr
    ·rename_i hn;obtain ⟨k,rfl⟩:=Int.eq_ofNat_of_zero_le hn.1;cases hr;exact qCK k (Int.ofNat_lt.1 hn.2)
    ·cases hr
   ·cases hr
  ·cases hg
theorem true_ (x:denP ([(.pair (.sl .str) (.pair (.sl (.pair .str (.pair (.sl I) (.pair (.sl I) (.pair (.sl I) (.pair (.sl I) .unit)))))) (.pair (.sl (.pair (.sl I) (.pair (.sl I) .unit))) .unit))),I,(.sl I)].map Pm.ty)) (hx:qCf maxLen [(.pair (.sl .str) (.pair (.sl (.pair .str (.pair (.sl I) (.pair (.sl I) (.pair (.sl I) (.pair (.sl I) .unit)))))) (.pair (.sl (.pair (.sl I) (.pair (.sl I) .unit))) .unit))),I,(.sl I)] x):qa6.F x = some true:=qlI x.1 x.2.1 x.2.2
set_option maxRecDepth 100000 in
theorem contract (H:Type) (enc:TypeId × Value->H) (W:World) (base:Nat) (args:Array Value) (ds gs:List (DataW H)) (before:List MemPlace)
  (hval:∀ (j:Nat) t v,Tryz.f4.params[j]? = some t->args[j]? = some v->Value.okWide Tryz.prog W .any base t v)
  (hW:DataW.Whole enc Tryz.prog Tryz.f4.params.toList Rows.safetyProvedSpec.vars false W args.toList ds gs before) (hgl:ql1 W (cx0 W)) :
  Calls Tryz.prog 4 args W λe W'=>∃ v,e = .returned v/\Rows.safetyProvedSpec.post enc Tryz.prog Tryz.f4 false true false false W args v W' :=
 qsK (τs:=[(.pair (.sl .str) (.pair (.sl (.pair .str (.pair (.sl I) (.pair (.sl I) (.pair (.sl I) (.pair (.sl I) .unit)))))) (.pair (.sl (.pair (.sl I) (.pair (.sl I) .unit))) .unit))),I,(.sl I)]) (ts:=[26,3,30]) (tb:=4) (F:=qa6.F) follows qcm hlib qzs Tryz.func4 (by kernel_rfl) (by kernel_rfl) (by kernel_rfl) (by kernel_rfl) (by kernel_rfl) (by kernel_rfl) Tryz.underlying4 qh7 true_ rfl
  (λH ds h=>by
   match ds,h with
   | [d1,d2,d3],_=>rfl) H enc W base args ds gs before hval hW hgl
set_option maxRecDepth 100000 in
theorem lifted (os:Os) (started:os.Started) (H:Type) (enc:TypeId × Value->H) :
  ReturnsInHanded {} Tryz.checked os 4 .any (λw args=>(Rows.safetyProvedSpec.pre enc Tryz.prog Tryz.f4 Rows.safetyProvedRow.domain false w args/\laidMetH Tryz.prog qvG w)/\sizedMet enc Tryz.prog Tryz.f4 (OpenSpec.ofChange Rows.safetyProvedSpec) false w args)
   (Rows.safetyProvedSpec.post enc Tryz.prog Tryz.f4 false true false false):=by
 refine returnsInHanded_of_change_and (C:=Tryz.checked) (X:=λw _=>laidMetH Tryz.prog qvG w) (λ_ _ _ hh h=>h.of_heap hh) own started (by kernel_rfl) Tryz.func4
  (ChangeSpec.witness_shaped (enc:=enc) (C:=Tryz.checked) (os:=os) (X:=λw _=>laidMetH Tryz.prog qvG w) false (World.laidAll Tryz.prog os qvG) #[.agg #[.slice none 0 0,.slice none 0 0,.slice none 0 0],.int .i64 0,.slice none 0 0] 8 (World.laidAll_os _ _ _)
   (World.shaped_of_ZipB (by kernel_rfl) (by kernel_rfl)) (by kernel_rfl) (by kernel_rfl) (by kernel_rfl)
   (by rw [MakeChecks.laidMetH_plain _ _ _ (by kernel_rfl)]; exact laidMet_laidAll _ (by kernel_rfl) (by kernel_rfl))) ?_
 intro W base args ds gs before hval hW _ _ hL _;exact contract H enc W base args ds gs before hval hW (qA3 hL)
theorem said:Rows.SafetyProvedSaid :=
 OpenClaim.holds_of_wide 4 Tryz.f4 rfl rfl rfl rfl rfl rfl rfl ⟨rfl,rfl,rfl,rfl,rfl⟩ rfl rfl rfl rfl rfl (by kernel_rfl) Tryz.func4 (by kernel_rfl)
  (of_decide_eq_true (by kernel_rfl)) (by unfold Func.isWrapper; first | (rw [if_pos (by decide +kernel)]; kernel_rfl) | (rw [if_neg (by decide +kernel)]; exact ⟨rfl,rfl⟩))
  (λos started H enc _=>lifted os started H enc)
theorem proved:Rows.SafetyProvedCardSaid :=
 Claim7.holds_tied_plain_at .later [] [.data, .data] true (true, "e1fab70e5dba04e5b9d943c364cb30e45070e78fb89e0c99eb25930192b6c822") true
  said (λ_ h=>by cases h) (by kernel_rfl) (λ_ h=>by cases h) safetyProved_row_tie rfl ⟨rfl,rfl⟩ (by kernel_rfl) rfl
  (λf fn hf hfn=>by
   obtain rfl : f = 4 := Option.some.inj ((show Tryz.prog.funcNamed "ductility/ductilitylaw09.SafetyProved" = some 4 by kernel_rfl).symm.trans hf) |>.symm
   obtain rfl:fn = Tryz.f4:=(Option.some.inj (Tryz.func4.symm.trans hfn)).symm;exact ⟨by kernel_rfl,λj t ht=>by
    have hp:Tryz.f4.params = #[26,3,30]:=by kernel_rfl
    rw [hp] at ht;rcases j with _ | _ | _ | j
    ·simp at ht; subst ht; exact (show Tryz.prog.wantsStandIn 26 = false by kernel_rfl)
    ·simp at ht; subst ht; exact (show Tryz.prog.wantsStandIn 3 = false by kernel_rfl)
    ·simp at ht; subst ht; exact (show Tryz.prog.wantsStandIn 30 = false by kernel_rfl)
    ·simp at ht⟩)
  (by kernel_rfl)
end Go.Proofs.YtkcaaaiihhhnmaaGreatDoor.safetyProved
end
