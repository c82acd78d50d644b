/-
  ONE LAW OF A CHAPTER: its program side is run by an interpreter that is proved sound; what it computes is shown to be what the law says. No conditions. Part 6 of 6.
-/
import Derived.Test.YtbcdgfgacigaoaaGreatMExe
import Derived.Test.YtbcdgfgacigaoaaGreatProg
import Derived.KernelRfl
set_option linter.unusedSimpArgs false
set_option linter.unusedVariables false
set_option linter.unnecessarySimpa false
section
set_option maxRecDepth 100000
namespace Go.Proofs.YtbcdgfgacigaoaaGreat
open Go Go.Ab Go.Tx
noncomputable section
@[reducible] def I:Ty:=.int .i64
@[reducible] def w64 (n:Int):Int:=IntKind.wrap .i64 n
def qBO:List (List Tmp × FuncId × Kind × Join)->List Tmp->FuncId->Kind->Option Join
 | [],_,_,_=>none
 | (c,f,k,j) :: l,c',f',k'=>if f = f' then (if k = k' then (if c = c' then some j else qBO l c' f' k') else qBO l c' f' k') else qBO l c' f' k'
def qvU:Nat:=12
def qbS (js:List (List Tmp × FuncId × Kind × Join)) (inl:List (List Tmp × FuncId × Tmp)):TH where
 lib:=λg=>decide (g = qvU)
 join:=qBO js
 inl:=λc f d=>inl.any λ(c',f',d')=>decide (f = f') && decide (d = d') && decide (c = c')
def Lb:FuncId->Option (List V->Option V):=λg=>if g = qvU then some (λargs=>match args with
  | []=>some (.val (.bool true))
  | _=>none) else none
theorem hJ {js:List (List Tmp × FuncId × Kind × Join)} {inl:List (List Tmp × FuncId × Tmp)}:∀ g,(qbS js inl).lib g = false->Lb g = none:=λg h=>by
 simp only [qbS,decide_eq_false_iff_not] at h;simp [Lb,h]
def KT (e:Entry) (j:TH) (l:List Entry) (n:Nat):Prop:=∀ x:denP e.ps,fnT Tryz.prog Hn.hints j (qyR l) n e.g (qlT e.ps x) e.rs = e.F x
abbrev OT (e:Entry):Prop:=qfw Tryz.prog Hn.hints Lb e
theorem entK {e:Entry} {j:TH} {l:List Entry} {n:Nat} (h:TOk Tryz.prog Hn.hints Lb (qyR l)) (hj:∀ g,j.lib g = false->Lb g = none) (k:KT e j l n):OT e:=qtj h hj n e.g e.ps e.rs e.F k
abbrev gT:Ty:=.pair I (.pair I .unit)
def qkk:Option Bool:=some true
def qeg:Entry:=⟨12,[],[(.bool,0)],λ_=>qkk⟩
theorem qsF:qfw Tryz.prog Hn.hints Lb qeg:=λx y h vs hv=>by
 obtain rfl:true = y:=Option.some.inj h;simp only [qeg,qlT,RVL] at hv;subst hv;refine ⟨.val (.bool true),⟨1,λm hm=>?_⟩,by simp [qss,qeg,ofL,qdG,ofTy,RV,RTy]⟩;obtain ⟨m',rfl⟩:∃ m',m = m' + 1:=⟨m - 1,by omega⟩
 simp [qu5,Lb,qvU,qeg]
def qeR (a0:(List (List (Int × Int × Unit)))) (a1:Int):Option Bool :=
 bif decide ((a0.length:Int) > a1) then
  some false
 else
  (qA (λ(s2:Int) =>
    bif decide (s2 < (a0.length:Int)) then
     (idx a0 s2).bind λx3 =>
     bif decide ((x3.length:Int) > 5) then
      some (.inr (.inr false))
     else
      some (.inl (w64 (s2 + 1)))
    else
     some (.inr (.inl ()))) 0).bind (Sum.elim (λ(p4:Unit) =>
  some true) some)
def qfL:Entry:=⟨77,[.ty (.sl (.sl gT)),.ty I],[(.bool,0)],λx=>qeR x.1 x.2⟩
def qsW:TH:=qbS [([],77,.block 0,{ lv:=[],ps:=[],abn:=true,D:=⟨4193312⟩ }),
 ([],77,.loop 0,{ lv:=[⟨none,5,0⟩],ps:=[(I,0)],D:=⟨4193312⟩ })] []
theorem qsB:KT qfL qsW [] 40:=λx=>by kernel_rfl
theorem qml:OT qfL:=entK qn hJ qsB
def qfK (a0:((List (List (Int × Int × Unit))) × (List (List (Int × Int × Unit))) × Unit)):Option Bool :=
 ((qeR a0.1 (8:Int)).bind λx1 =>
  bif x1 then
   (qeR a0.2.1 (8:Int)).bind λx2 =>
   some x2
  else
   some false).bind λ(p3:Bool) =>
 some p3
def qgd:Entry:=⟨13,[.ty (.pair (.sl (.sl gT)) (.pair (.sl (.sl gT)) .unit))],[(.bool,0)],λx=>qfK x⟩
def qo5:TH:=qbS [([],13,.region 1,{ lv:=[⟨none,2,0⟩],ps:=[(.bool,0)],D:=⟨2044⟩,rs:=[⟨0,1⟩],Dn:=⟨1908⟩ })] []
theorem qp2:KT qgd qo5 [qfL] 40:=λx=>by kernel_rfl
theorem qqa:OT qgd:=entK (qh qml qn) hJ qp2
def qby (a0:(List (Int × Int × Unit))):Option (List (Int × Int × Unit)) :=
 (app [] a0).bind λx1 =>
 some x1
def qcu:Entry:=⟨22,[.ty (.sl gT)],[((.sl gT),1)],λx=>qby x⟩
def qmd:TH:=qbS [] []
theorem qlv:KT qcu qmd [] 40:=λx=>by kernel_rfl
theorem qgC:OT qcu:=entK qn hJ qlv
def qaU (a0:(List (List (Int × Int × Unit)))):Option (List (List (Int × Int × Unit))) :=
 (qA (λ(s3:((List (List (Int × Int × Unit))) × Int)) =>
   bif decide (s3.2 < (a0.length:Int)) then
    (idx a0 s3.2).bind λx4 =>
    (qby x4).bind λx5 =>
    (app s3.1 ([x5])).bind λx6 =>
    some (.inl (x6,w64 (s3.2 + 1)))
   else
    some (.inr s3.1)) ([],0)).bind λ(p7:(List (List (Int × Int × Unit)))) =>
 some p7
def qbJ:Entry:=⟨29,[.ty (.sl (.sl gT))],[((.sl (.sl gT)),2)],λx=>qaU x⟩
def qlg:TH:=qbS [([],29,.block 0,{ lv:=[⟨none,3,0⟩],ps:=[((.sl (.sl gT)),2)],D:=⟨524280⟩ }),
 ([],29,.loop 0,{ lv:=[⟨none,3,0⟩,⟨none,4,0⟩],ps:=[((.sl (.sl gT)),2),(I,0)],D:=⟨524280⟩ })] []
theorem ql9:KT qbJ qlg [qcu] 40:=λx=>by kernel_rfl
theorem qd7:OT qbJ:=entK (qh qgC qn) hJ ql9
def qa8 (a0:((List (List (Int × Int × Unit))) × (List (List (Int × Int × Unit))) × Unit)):Option ((List (List (Int × Int × Unit))) × (List (List (Int × Int × Unit))) × Unit) :=
 (qaU a0.1).bind λx1 =>
 (qaU a0.2.1).bind λx2 =>
 some (x1,x2,())
def qfx:Entry:=⟨15,[.ty (.pair (.sl (.sl gT)) (.pair (.sl (.sl gT)) .unit))],[((.pair (.sl (.sl gT)) (.pair (.sl (.sl gT)) .unit)),2)],λx=>qa8 x⟩
def qnX:TH:=qbS [] []
theorem qnY:KT qfx qnX [qbJ] 40:=λx=>by kernel_rfl
theorem qn8:OT qfx:=entK (qh qd7 qn) hJ qnY
def qk (a0:Bool) (a1:Int):Option Int :=
 bif a0 then
  some 0
 else
  some a1
def qbO:Entry:=⟨80,[.ty .bool,.ty I],[(I,0)],λx=>qk x.1 x.2⟩
def qqS:TH:=qbS [] []
theorem qqW:KT qbO qqS [] 40:=λx=>by kernel_rfl
theorem qdj:OT qbO:=entK qn hJ qqW
def qN (a0:(List Int)):Option Int :=
 (qA (λ(s2:Int) =>
   bif decide (s2 < (a0.length:Int)) then
    (idx a0 s2).bind λx3 =>
    bif !(decide (x3 = 0)) then
     some (.inr (.inr x3))
    else
     some (.inl (w64 (s2 + 1)))
   else
    some (.inr (.inl ()))) 0).bind (Sum.elim (λ(p4:Unit) =>
 some 0) some)
def qbE:Entry:=⟨79,[.ty (.sl I)],[(I,0)],λx=>qN x⟩
def qth:TH:=qbS [([],79,.block 0,{ lv:=[],ps:=[],abn:=true,D:=⟨32656⟩ }),
 ([],79,.loop 0,{ lv:=[⟨none,7,0⟩],ps:=[(I,0)],D:=⟨32656⟩ })] []
theorem qsE:KT qbE qth [] 40:=λx=>by kernel_rfl
theorem qcZ:OT qbE:=entK qn hJ qsE
def qdY (a0:Int) (a1:Int) (a2:Int):Option Bool :=
 (bif decide (a1<=a0) then
   some (decide (a0<=a2))
  else
   some false).bind λ(p1:Bool) =>
 some p1
def qds:Entry:=⟨81,[.ty I,.ty I,.ty I],[(.bool,0)],λx=>qdY x.1 x.2.1 x.2.2⟩
def qqN:TH:=qbS [([],81,.region 1,{ lv:=[⟨none,6,0⟩],ps:=[(.bool,0)],D:=⟨32704⟩ })] []
theorem qqG:KT qds qqN [] 40:=λx=>by kernel_rfl
theorem qg2:OT qds:=entK qn hJ qqG
def qc2 (a0:Int) (a1:Int):Option Bool :=
 (qdY a0 (w64 (0 - a1)) a1).bind λx1 =>
 some x1
def qd2:Entry:=⟨152,[.ty I,.ty I],[(.bool,0)],λx=>qc2 x.1 x.2⟩
def qo7:TH:=qbS [] []
theorem qpR:KT qd2 qo7 [qds] 40:=λx=>by kernel_rfl
theorem qiR:OT qd2:=entK (qh qg2 qn) hJ qpR
def qav (a0:(Int × Int × Unit)) (a1:Int):Option Bool :=
 ((qc2 a0.1 a1).bind λx1 =>
  bif x1 then
   (qc2 a0.2.1 a1).bind λx2 =>
   some x2
  else
   some false).bind λ(p3:Bool) =>
 some p3
def qaC:Entry:=⟨105,[.ty gT,.ty I],[(.bool,0)],λx=>qav x.1 x.2⟩
def qjj:TH:=qbS [([],105,.region 1,{ lv:=[⟨none,4,0⟩],ps:=[(.bool,0)],D:=⟨32752⟩,rs:=[⟨0,2⟩],Dn:=⟨31696⟩ })] []
theorem qjf:KT qaC qjj [qd2] 40:=λx=>by kernel_rfl
theorem qbH:OT qaC:=entK (qh qiR qn) hJ qjf
def qZ (a0:(Int × Int × Unit)):Option Bool :=
 (qav a0 (9:Int)).bind λx1 =>
 some (!x1)
def qer:Entry:=⟨147,[.ty gT],[(.bool,0)],λx=>qZ x⟩
def qlr:TH:=qbS [] []
theorem qmf:KT qer qlr [qaC] 40:=λx=>by kernel_rfl
theorem qla:OT qer:=entK (qh qbH qn) hJ qmf
def qau (a0:(Int × Int × Unit)):Option (Int × Int × Unit) :=
 some (a0.1,w64 (0 - a0.2.1),())
def qaO:Entry:=⟨83,[.ty gT],[(gT,0)],λx=>qau x⟩
def qlR:TH:=qbS [] []
theorem qlI:KT qaO qlR [] 40:=λx=>by kernel_rfl
theorem qbM:OT qaO:=entK qn hJ qlI
def qP (a0:(Int × Int × Unit)) (a1:(Int × Int × Unit)):Option (Int × Int × Unit) :=
 some (w64 ((w64 (a0.1 * a1.1)) - (w64 (a0.2.1 * a1.2.1))),w64 ((w64 (a0.1 * a1.2.1)) + (w64 (a0.2.1 * a1.1))),())
def qaa:Entry:=⟨82,[.ty gT,.ty gT],[(gT,0)],λx=>qP x.1 x.2⟩
def qkg:TH:=qbS [] []
theorem qkr:KT qaa qkg [] 40:=λx=>by kernel_rfl
theorem qaz:OT qaa:=entK qn hJ qkr
def qbB (a0:(Int × Int × Unit)) (a1:(Int × Int × Unit)):Option (Int × Int × Unit) :=
 some (w64 (a0.1 + a1.1),w64 (a0.2.1 + a1.2.1),())
def qbG:Entry:=⟨154,[.ty gT,.ty gT],[(gT,0)],λx=>qbB x.1 x.2⟩
def qln:TH:=qbS [] []
theorem qmq:KT qbG qln [] 40:=λx=>by kernel_rfl
theorem qej:OT qbG:=entK qn hJ qmq
def qbA (a0:Int) (a1:Int) (a2:((List (List (Int × Int × Unit))) × (List (List (Int × Int × Unit))) × Unit)) (a3:(List (List (Int × Int × Unit)))):Option (Int × Int × Unit) :=
 (qA (λ(s2:(Int × Int × Int)) =>
   bif decide (s2.1 < (a2.1.length:Int)) then
    (idx a2.1 s2.1).bind λx3 =>
    (idx a3 s2.1).bind λx4 =>
    (idx x4 a0).bind λx5 =>
    (idx x3 a1).bind λx6 =>
    (qau x6).bind λx7 =>
    (qP x5 x7).bind λx8 =>
    (qbB (s2.2.1,s2.2.2,()) x8).bind λx9 =>
    some (.inl (w64 (s2.1 + 1),x9.1,x9.2.1))
   else
    some (.inr (s2.2.1,s2.2.2))) (0,0,0)).bind λ(p10:(Int × Int)) =>
 some (p10.1,p10.2,())
def qei:Entry:=⟨186,[.ty I,.ty I,.ptr (.pair (.sl (.sl gT)) (.pair (.sl (.sl gT)) .unit)),.ptr (.sl (.sl gT))],[(gT,0)],λx=>qbA x.1 x.2.1 x.2.2.1 x.2.2.2⟩
def ql4:TH:=qbS [([],186,.block 0,{ lv:=[⟨some 0,7,0⟩,⟨some 0,7,1⟩],ps:=[(I,0),(I,0)],D:=⟨17179861760⟩,wr:=[⟨0,7⟩] }),
 ([],186,.loop 0,{ lv:=[⟨none,13,0⟩,⟨some 0,7,0⟩,⟨some 0,7,1⟩],ps:=[(I,0),(I,0),(I,0)],D:=⟨17179861760⟩,wr:=[⟨0,7⟩] })] []
theorem ql7:KT qei ql4 [qaO,qbG,qaa] 40:=λx=>by kernel_rfl
theorem qlO:OT qei:=entK (qh qbM (qh qej (qh qaz qn))) hJ ql7
def qar (a0:Int) (a1:Int) (a2:((List (List (Int × Int × Unit))) × (List (List (Int × Int × Unit))) × Unit)) (a3:(List (List (Int × Int × Unit)))):Option (List (List (Int × Int × Unit))) :=
 (mkS ([]:(List (Int × Int × Unit))) a0).bind λx1 =>
 bif decide (a0 = a0) then
  (qA (λ(s3:((List (List (Int × Int × Unit))) × Int)) =>
    bif decide (s3.2 < (x1.length:Int)) then
     (qA (λ(s5:((List (List (Int × Int × Unit))) × Int)) =>
       bif decide (s5.2 < a1) then
        (idx s5.1 s3.2).bind λx6 =>
        (qbA s3.2 s5.2 a2 a3).bind λx7 =>
        (idx s5.1 s3.2).bind λx8 =>
        (app x8 ([x7])).bind λx9 =>
        (idx s5.1 s3.2).bind λx10 =>
        bif decide (s3.2 = s3.2) then
         let l11:(List (List (Int × Int × Unit))):=List.set s5.1 s3.2.toNat x9
         some (.inl (l11,w64 (s5.2 + 1)))
        else
         none
       else
        some (.inr s5.1)) (s3.1,0)).bind λ(p12:(List (List (Int × Int × Unit)))) =>
     some (.inl (p12,w64 (s3.2 + 1)))
    else
     some (.inr s3.1)) (x1,0)).bind λ(p13:(List (List (Int × Int × Unit)))) =>
  some p13
 else
  none
def qa0:Entry:=⟨85,[.ty I,.ty I,.fn 186 [.p (.pair (.sl (.sl gT)) (.pair (.sl (.sl gT)) .unit)),.p (.sl (.sl gT))]],[((.sl (.sl gT)),2)],λx=>qar x.1 x.2.1 x.2.2.1 x.2.2.2⟩
def qex:TH:=qbS [([],85,.block 0,{ lv:=[⟨none,7,0⟩],ps:=[((.sl (.sl gT)),2)],D:=⟨68719467392⟩ }),
 ([],85,.loop 0,{ lv:=[⟨none,7,0⟩,⟨none,14,0⟩],ps:=[((.sl (.sl gT)),2),(I,0)],D:=⟨68719467392⟩ }),
 ([],85,.block 2,{ lv:=[⟨none,7,0⟩],ps:=[((.sl (.sl gT)),2)],D:=⟨34359476864⟩ }),
 ([],85,.loop 2,{ lv:=[⟨none,7,0⟩,⟨none,18,0⟩],ps:=[((.sl (.sl gT)),2),(I,0)],D:=⟨34359476864⟩ })] []
theorem qez:KT qa0 qex [qei] 40:=λx=>by kernel_rfl
theorem qey:OT qa0:=entK (qh qlO qn) hJ qez
def qeY (a0:(List (List (Int × Int × Unit)))) (a1:Int) (a2:((List (List (Int × Int × Unit))) × (List (List (Int × Int × Unit))) × Unit)):Option (List (List (Int × Int × Unit))) :=
 (qar a1 a1 a2 a0).bind λx1 =>
 some x1
def qft:Entry:=⟨185,[.ty (.sl (.sl gT)),.ptr I,.ptr (.pair (.sl (.sl gT)) (.pair (.sl (.sl gT)) .unit))],[((.sl (.sl gT)),2)],λx=>qeY x.1 x.2.1 x.2.2⟩
def qn7:TH:=qbS [] []
theorem qnZ:KT qft qn7 [qa0] 40:=λx=>by kernel_rfl
theorem qnV:OT qft:=entK (qh qey qn) hJ qnZ
def qfk (a0:((List (List (Int × Int × Unit))) × (List (List (Int × Int × Unit))) × Unit)) (a1:Int):Option ((List (List (Int × Int × Unit))) × (List (List (Int × Int × Unit))) × Unit) :=
 (qeY a0.1 a1 (a0.1,a0.2.1,())).bind λx1 =>
 (qeY a0.2.1 a1 (a0.1,a0.2.1,())).bind λx2 =>
 some (x1,x2,())
def qgZ:Entry:=⟨148,[.ty (.pair (.sl (.sl gT)) (.pair (.sl (.sl gT)) .unit)),.ty I],[((.pair (.sl (.sl gT)) (.pair (.sl (.sl gT)) .unit)),2)],λx=>qfk x.1 x.2⟩
def qqX:TH:=qbS [] []
theorem qqY:KT qgZ qqX [qft] 40:=λx=>by kernel_rfl
theorem qqK:OT qgZ:=entK (qh qnV qn) hJ qqY
def qaL (a0:(List (List (Int × Int × Unit)))) (a1:Int) (a2:Int):Option (Int × Int × Unit) :=
 (idx a0 a1).bind λx1 =>
 (idx x1 a2).bind λx2 =>
 some x2
def qbo:Entry:=⟨87,[.ty (.sl (.sl gT)),.ty I,.ty I],[(gT,0)],λx=>qaL x.1 x.2.1 x.2.2⟩
def qmO:TH:=qbS [] []
theorem qmt:KT qbo qmO [] 40:=λx=>by kernel_rfl
theorem qc3:OT qbo:=entK qn hJ qmt
def qac (a0:(List (List (Int × Int × Unit)))) (a1:Int) (a2:Int):Option (List (List (Int × Int × Unit))) :=
 (qA (λ(s2:((List (List (Int × Int × Unit))) × Int)) =>
   bif decide (s2.2 < (a0.length:Int)) then
    (idx a0 s2.2).bind λx3 =>
    (bif !(decide (s2.2 = a1)) then
      (slc x3 0 a2).bind λx4 =>
      bif decide (a2 = a2) then
       (slc x3 (w64 (a2 + 1)) (x3.length:Int)).bind λx5 =>
       (app x4 x5).bind λx6 =>
       (app s2.1 ([x6])).bind λx7 =>
       some x7
      else
       none
     else
      some s2.1).bind λ(p8:(List (List (Int × Int × Unit)))) =>
    some (.inl (p8,w64 (s2.2 + 1)))
   else
    some (.inr s2.1)) ([],0)).bind λ(p9:(List (List (Int × Int × Unit)))) =>
 some p9
def qbv:Entry:=⟨150,[.ty (.sl (.sl gT)),.ty I,.ty I],[((.sl (.sl gT)),2001)],λx=>qac x.1 x.2.1 x.2.2⟩
def qii:TH:=qbS [([],150,.block 0,{ lv:=[⟨none,7,0⟩],ps:=[((.sl (.sl gT)),2001)],D:=⟨8589931392⟩ }),
 ([],150,.loop 0,{ lv:=[⟨none,7,0⟩,⟨none,12,0⟩],ps:=[((.sl (.sl gT)),2001),(I,0)],D:=⟨8589931392⟩ }),
 ([],150,.cond 19,{ lv:=[⟨none,7,0⟩],ps:=[((.sl (.sl gT)),2001)],D:=⟨4293918848⟩ })] []
theorem qin:KT qbv qii [] 40:=λx=>by kernel_rfl
theorem qeD:OT qbv:=entK qn hJ qin
def qbq (a0:(Int × Int × Unit)) (a1:(Int × Int × Unit)):Option (Int × Int × Unit) :=
 some (w64 (a0.1 - a1.1),w64 (a0.2.1 - a1.2.1),())
def qb9:Entry:=⟨104,[.ty gT,.ty gT],[(gT,0)],λx=>qbq x.1 x.2⟩
def qkl:TH:=qbS [] []
theorem qkQ:KT qb9 qkl [] 40:=λx=>by kernel_rfl
theorem qgi:OT qb9:=entK qn hJ qkQ
def qao (n:Nat):(List (List (Int × Int × Unit)))->Option (Int × Int × Unit) :=
 Nat.rec (motive:=λ_=>(List (List (Int × Int × Unit)))->Option (Int × Int × Unit)) (λ_=>none) (λ_ ih a0 =>
 bif decide ((a0.length:Int) = 0) then
  some (1,0,())
 else
  (qA (λ(s2:(Int × Int × Int)) =>
    bif decide (s2.1 < (a0.length:Int)) then
     (qaL a0 (0:Int) s2.1).bind λx3 =>
     (qac a0 (0:Int) s2.1).bind λx4 =>
     (ih x4).bind λx5 =>
     (qP x3 x5).bind λx6 =>
     (bif decide (s2.1.tmod 2 = 1) then
       (qbq (0,0,()) x6).bind λx7 =>
       some (x7.1,x7.2.1)
      else
       some (x6.1,x6.2.1)).bind λ(p8:(Int × Int)) =>
     (qbB (s2.2.1,s2.2.2,()) (p8.1,p8.2,())).bind λx9 =>
     some (.inl (w64 (s2.1 + 1),x9.1,x9.2.1))
    else
     some (.inr (s2.2.1,s2.2.2))) (0,0,0)).bind λ(p10:(Int × Int)) =>
  some (p10.1,p10.2,())) n
def qag:(List (List (Int × Int × Unit)))->Option (Int × Int × Unit):=qao 12
def qbx:Entry:=⟨136,[.ty (.sl (.sl gT))],[(gT,0)],λx=>qag x⟩
def qgA:TH:=qbS [([],136,.block 0,{ lv:=[⟨some 0,3,0⟩,⟨some 0,3,1⟩],ps:=[(I,0),(I,0)],D:=⟨8589930544⟩,wr:=[⟨0,3⟩,⟨0,5⟩] }),
 ([],136,.loop 0,{ lv:=[⟨none,12,0⟩,⟨some 0,3,0⟩,⟨some 0,3,1⟩],ps:=[(I,0),(I,0),(I,0)],D:=⟨8589930544⟩,wr:=[⟨0,3⟩,⟨0,5⟩],rs:=[⟨0,5⟩],Dn:=⟨8589930512⟩ }),
 ([],136,.cond 25,{ lv:=[⟨some 0,5,0⟩,⟨some 0,5,1⟩],ps:=[(I,0),(I,0)],D:=⟨469762048⟩,wr:=[⟨0,5⟩] })] []
def qX (n:Nat):Entry:=⟨136,[.ty (.sl (.sl gT))],[(gT,0)],λx=>qao n x⟩
theorem qgx (n:Nat) (x:denP (qX (n + 1)).ps):fnT Tryz.prog Hn.hints qgA (qyR [(qX n),qbo,qbv,qb9,qbG,qaa]) 40 136 (qlT (qX (n + 1)).ps x) (qX (n + 1)).rs = (qX (n + 1)).F x:=by kernel_rfl
theorem qcr:∀ n,qfw Tryz.prog Hn.hints Lb (qX n)
 | 0=>λx y h=>by cases (show none = some y from h)
 | n + 1=>qtj (qh (qcr n) (qh qc3 (qh qeD (qh qgi (qh qej (qh qaz qn)))))) hJ 40 _ _ _ _ (qgx n)
theorem qc8:qfw Tryz.prog Hn.hints Lb qbx:=qcr 12
def qbP (a0:((List (List (Int × Int × Unit))) × (List (List (Int × Int × Unit))) × Unit)):Option (((List (List (Int × Int × Unit))) × (List (List (Int × Int × Unit))) × Unit) × (Int × Int × Unit) × Int) :=
 (bif decide ((a0.1.length:Int) > 0) then
   (qk (decide ((a0.2.1.length:Int) = (a0.1.length:Int))) (10:Int)).bind λx1 =>
   (qk (decide ((a0.1.length:Int)<=6)) (8:Int)).bind λx2 =>
   (qN ([x1,x2])).bind λx3 =>
   some x3
  else
   (qk false (10:Int)).bind λx4 =>
   (qk (decide ((a0.1.length:Int)<=6)) (8:Int)).bind λx5 =>
   (qN ([x4,x5])).bind λx6 =>
   some x6).bind λ(p7:Int) =>
 bif !(decide (p7 = 0)) then
  some (([],[],()),(0,0,()),p7)
 else
  (idx a0.1 0).bind λx8 =>
  (qA (λ(s10:(Int × Int)) =>
    bif decide (s10.2 < (a0.1.length:Int)) then
     (idx a0.1 s10.2).bind λx11 =>
     (idx a0.2.1 s10.2).bind λx12 =>
     (bif decide (w64 (0 + (x11.length:Int)) < 0) then
       none
      else
       bif decide (w64 ((w64 (0 + (x11.length:Int))) + (x12.length:Int)) < 0) then
        none
       else
        bif decide (w64 ((w64 (0 + (x11.length:Int))) + (x12.length:Int)) < 0) then
         none
        else
         let v13:Bool:=decide (w64 ((w64 ((w64 (0 + (x11.length:Int))) + (x12.length:Int))) - 0) > 0)
         bif v13 then
          bif (decide (0 < w64 ((w64 ((w64 (0 + (x11.length:Int))) + (x12.length:Int))) - 0)) && decide (w64 ((w64 ((w64 (0 + (x11.length:Int))) + (x12.length:Int))) - 0)<=4294967296)) then
           bif List.isEmpty x11 then
            bif List.isEmpty x12 then
             ((qA (λ(s15:Int) =>
                bif decide (s15 < 0) then
                 none
                else
                 some (.inr (.inl ()))) 0).bind (Sum.elim (λ(p16:Unit) =>
              some (-1)) some)).bind λ(p17:Int) =>
             some (decide (p17>=0))
            else
             (app [] x12).bind λx18 =>
             ((qA (λ(s20:Int) =>
                bif decide (s20 < (x18.length:Int)) then
                 (idx x18 s20).bind λx21 =>
                 (qZ x21).bind λx22 =>
                 bif x22 then
                  some (.inr (.inr s20))
                 else
                  some (.inl (w64 (s20 + 1)))
                else
                 some (.inr (.inl ()))) 0).bind (Sum.elim (λ(p23:Unit) =>
              some (-1)) some)).bind λ(p24:Int) =>
             some (decide (p24>=0))
           else
            (app [] x11).bind λx25 =>
            (app x25 x12).bind λx26 =>
            ((qA (λ(s28:Int) =>
               bif decide (s28 < (x26.length:Int)) then
                (idx x26 s28).bind λx29 =>
                (qZ x29).bind λx30 =>
                bif x30 then
                 some (.inr (.inr s28))
                else
                 some (.inl (w64 (s28 + 1)))
               else
                some (.inr (.inl ()))) 0).bind (Sum.elim (λ(p31:Unit) =>
             some (-1)) some)).bind λ(p32:Int) =>
            some (decide (p32>=0))
          else
           none
         else
          bif List.isEmpty x11 then
           bif List.isEmpty x12 then
            ((qA (λ(s34:Int) =>
               bif decide (s34 < 0) then
                none
               else
                some (.inr (.inl ()))) 0).bind (Sum.elim (λ(p35:Unit) =>
             some (-1)) some)).bind λ(p36:Int) =>
            some (decide (p36>=0))
           else
            (app [] x12).bind λx37 =>
            ((qA (λ(s39:Int) =>
               bif decide (s39 < (x37.length:Int)) then
                (idx x37 s39).bind λx40 =>
                (qZ x40).bind λx41 =>
                bif x41 then
                 some (.inr (.inr s39))
                else
                 some (.inl (w64 (s39 + 1)))
               else
                some (.inr (.inl ()))) 0).bind (Sum.elim (λ(p42:Unit) =>
             some (-1)) some)).bind λ(p43:Int) =>
            some (decide (p43>=0))
          else
           (app [] x11).bind λx44 =>
           (app x44 x12).bind λx45 =>
           ((qA (λ(s47:Int) =>
              bif decide (s47 < (x45.length:Int)) then
               (idx x45 s47).bind λx48 =>
               (qZ x48).bind λx49 =>
               bif x49 then
                some (.inr (.inr s47))
               else
                some (.inl (w64 (s47 + 1)))
              else
               some (.inr (.inl ()))) 0).bind (Sum.elim (λ(p50:Unit) =>
            some (-1)) some)).bind λ(p51:Int) =>
           some (decide (p51>=0))).bind λ(p52:Bool) =>
     (bif decide ((x11.length:Int) > 0) then
       bif decide ((x11.length:Int) = (x8.length:Int)) then
        (qk (decide ((x12.length:Int) = (x8.length:Int))) (10:Int)).bind λx53 =>
        (qk (decide ((x11.length:Int)<=3)) (8:Int)).bind λx54 =>
        (qk (!p52) (2:Int)).bind λx55 =>
        (qN ([s10.1,x53,x54,x55])).bind λx56 =>
        some x56
       else
        (qk false (10:Int)).bind λx57 =>
        (qk (decide ((x11.length:Int)<=3)) (8:Int)).bind λx58 =>
        (qk (!p52) (2:Int)).bind λx59 =>
        (qN ([s10.1,x57,x58,x59])).bind λx60 =>
        some x60
      else
       (qk false (10:Int)).bind λx61 =>
       (qk (decide ((x11.length:Int)<=3)) (8:Int)).bind λx62 =>
       (qk (!p52) (2:Int)).bind λx63 =>
       (qN ([s10.1,x61,x62,x63])).bind λx64 =>
       some x64).bind λ(p65:Int) =>
     some (.inl (p65,w64 (s10.2 + 1)))
    else
     some (.inr s10.1)) (p7,0)).bind λ(p66:Int) =>
  bif !(decide (p66 = 0)) then
   some (([],[],()),(0,0,()),p66)
  else
   (qfk (a0.1,a0.2.1,()) (x8.length:Int)).bind λx67 =>
   (qag x67.1).bind λx68 =>
   let v69:Bool:=!(bif decide (x68.1 = 0) then (bif decide (x68.2.1 = 0) then true else false) else false)
   (qk v69 (11:Int)).bind λx70 =>
   some (x67,x68,x70)
def qcj:Entry:=⟨78,[.ty (.pair (.sl (.sl gT)) (.pair (.sl (.sl gT)) .unit))],[((.pair (.sl (.sl gT)) (.pair (.sl (.sl gT)) .unit)),2000),(gT,0),(I,0)],λx=>qbP x⟩
def qob:TH:=qbS [([],78,.region 1,{ lv:=[⟨none,5,0⟩],ps:=[(I,0)],D:=⟨17179861024⟩,rs:=[⟨0,1⟩],Dn:=⟨17043275808⟩ }),
 ([],78,.block 0,{ lv:=[⟨none,5,0⟩],ps:=[(I,0)],D:=⟨618970019642549399961208736⟩ }),
 ([],78,.loop 0,{ lv:=[⟨none,5,0⟩,⟨none,47,0⟩],ps:=[(I,0),(I,0)],D:=⟨618970019642549399961208736⟩,rs:=[⟨0,1⟩],Dn:=⟨618970019638045800333838240⟩ }),
 ([],78,.region 9,{ lv:=[⟨none,10,0⟩],ps:=[(.bool,0)],D:=⟨4467570830351533056⟩ }),
 ([7,61],183,.inl 0,{ lv:=[⟨none,4,0⟩],ps:=[(I,0)],D:=⟨524272⟩ }),
 ([7,61],183,.block 0,{ lv:=[],ps:=[],abn:=true,D:=⟨524064⟩ }),
 ([7,61],183,.loop 0,{ lv:=[⟨none,8,0⟩],ps:=[(I,0)],D:=⟨524064⟩ }),
 ([],78,.region 10,{ lv:=[⟨none,5,0⟩],ps:=[(I,0)],D:=⟨309485005209659050297393184⟩ })] [([],78,60),([],78,61),([60],146,24),([61],145,7)]
theorem qnW:KT qcj qob [qbE,qbx,qer,qgZ,qbO] 40:=λx=>by kernel_rfl
theorem qfo:OT qcj:=entK (qh qcZ (qh qc8 (qh qla (qh qqK (qh qdj qn))))) hJ qnW
def qa1 (a0:Int) (a1:Int) (a2:(List (List (Int × Int × Unit)))) (a3:(Int × Int × Unit)):Option (Int × Int × Unit) :=
 (qac a2 a1 a0).bind λx1 =>
 (qag x1).bind λx2 =>
 (qau a3).bind λx3 =>
 (qP x2 x3).bind λx4 =>
 bif decide ((w64 (a0 + a1)).tmod 2 = 1) then
  (qbq (0,0,()) x4).bind λx5 =>
  some x5
 else
  some x4
def qbU:Entry:=⟨149,[.ty I,.ty I,.ptr (.sl (.sl gT)),.ptr gT],[(gT,0)],λx=>qa1 x.1 x.2.1 x.2.2.1 x.2.2.2⟩
def qhu:TH:=qbS [] []
theorem qhl:KT qbU qhu [qbx,qbv,qaO,qb9,qaa] 40:=λx=>by kernel_rfl
theorem qhh:OT qbU:=entK (qh qc8 (qh qeD (qh qbM (qh qgi (qh qaz qn))))) hJ qhl
def q8 (a0:Int) (a1:Int) (a2:(List (List (Int × Int × Unit)))) (a3:(Int × Int × Unit)):Option (List (List (Int × Int × Unit))) :=
 (mkS ([]:(List (Int × Int × Unit))) a0).bind λx1 =>
 bif decide (a0 = a0) then
  (qA (λ(s3:((List (List (Int × Int × Unit))) × Int)) =>
    bif decide (s3.2 < (x1.length:Int)) then
     (qA (λ(s5:((List (List (Int × Int × Unit))) × Int)) =>
       bif decide (s5.2 < a1) then
        (idx s5.1 s3.2).bind λx6 =>
        (qa1 s3.2 s5.2 a2 a3).bind λx7 =>
        (idx s5.1 s3.2).bind λx8 =>
        (app x8 ([x7])).bind λx9 =>
        (idx s5.1 s3.2).bind λx10 =>
        bif decide (s3.2 = s3.2) then
         let l11:(List (List (Int × Int × Unit))):=List.set s5.1 s3.2.toNat x9
         some (.inl (l11,w64 (s5.2 + 1)))
        else
         none
       else
        some (.inr s5.1)) (s3.1,0)).bind λ(p12:(List (List (Int × Int × Unit)))) =>
     some (.inl (p12,w64 (s3.2 + 1)))
    else
     some (.inr s3.1)) (x1,0)).bind λ(p13:(List (List (Int × Int × Unit)))) =>
  some p13
 else
  none
def qan:Entry:=⟨85,[.ty I,.ty I,.fn 149 [.p (.sl (.sl gT)),.p gT]],[((.sl (.sl gT)),2)],λx=>q8 x.1 x.2.1 x.2.2.1 x.2.2.2⟩
def qcW:TH:=qbS [([],85,.block 0,{ lv:=[⟨none,7,0⟩],ps:=[((.sl (.sl gT)),2)],D:=⟨68719467392⟩ }),
 ([],85,.loop 0,{ lv:=[⟨none,7,0⟩,⟨none,14,0⟩],ps:=[((.sl (.sl gT)),2),(I,0)],D:=⟨68719467392⟩ }),
 ([],85,.block 2,{ lv:=[⟨none,7,0⟩],ps:=[((.sl (.sl gT)),2)],D:=⟨34359476864⟩ }),
 ([],85,.loop 2,{ lv:=[⟨none,7,0⟩,⟨none,18,0⟩],ps:=[((.sl (.sl gT)),2),(I,0)],D:=⟨34359476864⟩ })] []
theorem qcQ:KT qan qcW [qbU] 40:=λx=>by kernel_rfl
theorem qc5:OT qan:=entK (qh qhh qn) hJ qcQ
def qaK (a0:(List Int)):Option Int :=
 (qA (λ(s2:(Int × Int)) =>
   bif decide (s2.2 < (a0.length:Int)) then
    (idx a0 s2.2).bind λx3 =>
    (qA (λ(s5:(Int × Int)) =>
      bif !(decide (s5.2 = 0)) then
       bif decide (s5.2 = 0) then
        none
       else
        some (.inl (s5.2,s5.1.tmod s5.2))
      else
       some (.inr s5.1)) (s2.1,x3)).bind λ(p6:Int) =>
    some (.inl (p6,w64 (s2.2 + 1)))
   else
    some (.inr s2.1)) (0,0)).bind λ(p7:Int) =>
 some (max p7 (w64 (0 - p7)))
def qcF:Entry:=⟨151,[.ty (.sl I)],[(I,0)],λx=>qaK x⟩
def qpG:TH:=qbS [([],151,.block 0,{ lv:=[⟨none,3,0⟩],ps:=[(I,0)],D:=⟨524072⟩ }),
 ([],151,.loop 0,{ lv:=[⟨none,3,0⟩,⟨none,8,0⟩],ps:=[(I,0),(I,0)],D:=⟨524072⟩ }),
 ([],151,.block 2,{ lv:=[⟨none,3,0⟩],ps:=[(I,0)],D:=⟨258088⟩ }),
 ([],151,.loop 2,{ lv:=[⟨none,3,0⟩,⟨none,5,0⟩],ps:=[(I,0),(I,0)],D:=⟨258088⟩ })] []
theorem qqx:KT qcF qpG [] 40:=λx=>by kernel_rfl
theorem qgq:OT qcF:=entK qn hJ qqx
def qch (a0:Int) (a1:Int) (a2:(List (List (Int × Int × Unit)))) (a3:Int):Option (Int × Int × Unit) :=
 (idx a2 a0).bind λx1 =>
 (idx x1 a1).bind λx2 =>
 bif decide (a3 = 0) then
  none
 else
  (idx a2 a0).bind λx3 =>
  (idx x3 a1).bind λx4 =>
  bif decide (a3 = 0) then
   none
  else
   some (w64 (x2.1.tdiv a3),w64 (x4.2.1.tdiv a3),())
def qec:Entry:=⟨176,[.ty I,.ty I,.ptr (.sl (.sl gT)),.ptr I],[(gT,0)],λx=>qch x.1 x.2.1 x.2.2.1 x.2.2.2⟩
def qmc:TH:=qbS [] []
theorem qle:KT qec qmc [] 40:=λx=>by kernel_rfl
theorem qlL:OT qec:=entK qn hJ qle
def qaq (a0:Int) (a1:Int) (a2:(List (List (Int × Int × Unit)))) (a3:Int):Option (List (List (Int × Int × Unit))) :=
 (mkS ([]:(List (Int × Int × Unit))) a0).bind λx1 =>
 bif decide (a0 = a0) then
  (qA (λ(s3:((List (List (Int × Int × Unit))) × Int)) =>
    bif decide (s3.2 < (x1.length:Int)) then
     (qA (λ(s5:((List (List (Int × Int × Unit))) × Int)) =>
       bif decide (s5.2 < a1) then
        (idx s5.1 s3.2).bind λx6 =>
        (qch s3.2 s5.2 a2 a3).bind λx7 =>
        (idx s5.1 s3.2).bind λx8 =>
        (app x8 ([x7])).bind λx9 =>
        (idx s5.1 s3.2).bind λx10 =>
        bif decide (s3.2 = s3.2) then
         let l11:(List (List (Int × Int × Unit))):=List.set s5.1 s3.2.toNat x9
         some (.inl (l11,w64 (s5.2 + 1)))
        else
         none
       else
        some (.inr s5.1)) (s3.1,0)).bind λ(p12:(List (List (Int × Int × Unit)))) =>
     some (.inl (p12,w64 (s3.2 + 1)))
    else
     some (.inr s3.1)) (x1,0)).bind λ(p13:(List (List (Int × Int × Unit)))) =>
  some p13
 else
  none
def qaX:Entry:=⟨85,[.ty I,.ty I,.fn 176 [.p (.sl (.sl gT)),.p I]],[((.sl (.sl gT)),2)],λx=>qaq x.1 x.2.1 x.2.2.1 x.2.2.2⟩
def qeA:TH:=qbS [([],85,.block 0,{ lv:=[⟨none,7,0⟩],ps:=[((.sl (.sl gT)),2)],D:=⟨68719467392⟩ }),
 ([],85,.loop 0,{ lv:=[⟨none,7,0⟩,⟨none,14,0⟩],ps:=[((.sl (.sl gT)),2),(I,0)],D:=⟨68719467392⟩ }),
 ([],85,.block 2,{ lv:=[⟨none,7,0⟩],ps:=[((.sl (.sl gT)),2)],D:=⟨34359476864⟩ }),
 ([],85,.loop 2,{ lv:=[⟨none,7,0⟩,⟨none,18,0⟩],ps:=[((.sl (.sl gT)),2),(I,0)],D:=⟨34359476864⟩ })] []
theorem qew:KT qaX qeA [qec] 40:=λx=>by kernel_rfl
theorem qeB:OT qaX:=entK (qh qlL qn) hJ qew
def qdr (a0:(List (List (Int × Int × Unit)))) (a1:Int):Option (Int × (List (List (Int × Int × Unit))) × Unit) :=
 (qA (λ(s2:(Int × Int)) =>
   bif decide (s2.1 < (a0.length:Int)) then
    (idx a0 s2.1).bind λx3 =>
    (qA (λ(s5:(Int × Int)) =>
      bif decide (s5.1 < (x3.length:Int)) then
       (idx x3 s5.1).bind λx6 =>
       (qaK ([s5.2,x6.1,x6.2.1])).bind λx7 =>
       some (.inl (w64 (s5.1 + 1),x7))
      else
       some (.inr s5.2)) (0,s2.2)).bind λ(p8:Int) =>
    some (.inl (w64 (s2.1 + 1),p8))
   else
    some (.inr s2.2)) (0,a1)).bind λ(p9:Int) =>
 (idx a0 0).bind λx10 =>
 (qaq (a0.length:Int) (x10.length:Int) a0 p9).bind λx11 =>
 bif decide (p9 = 0) then
  none
 else
  some (w64 (a1.tdiv p9),x11,())
def qdD:Entry:=⟨128,[.ty (.sl (.sl gT)),.ty I],[((.pair I (.pair (.sl (.sl gT)) .unit)),2)],λx=>qdr x.1 x.2⟩
def qnU:TH:=qbS [([],128,.block 0,{ lv:=[⟨some 0,5,0⟩],ps:=[(I,0)],D:=⟨8589919872⟩,wr:=[⟨0,5⟩,⟨0,9⟩] }),
 ([],128,.loop 0,{ lv:=[⟨none,14,0⟩,⟨some 0,5,0⟩],ps:=[(I,0),(I,0)],D:=⟨8589919872⟩,wr:=[⟨0,5⟩,⟨0,9⟩] }),
 ([],128,.block 2,{ lv:=[⟨some 0,5,0⟩],ps:=[(I,0)],D:=⟨4293920384⟩,wr:=[⟨0,5⟩,⟨0,9⟩] }),
 ([],128,.loop 2,{ lv:=[⟨none,20,0⟩,⟨some 0,5,0⟩],ps:=[(I,0),(I,0)],D:=⟨4293920384⟩,wr:=[⟨0,5⟩,⟨0,9⟩],rs:=[⟨0,9⟩],Dn:=⟨4126147712⟩ })] []
theorem qn5:KT qdD qnU [qcF,qaX] 40:=λx=>by kernel_rfl
theorem qib:OT qdD:=entK (qh qgq (qh qeB qn)) hJ qn5
def qaP (a0:(List (List (Int × Int × Unit)))) (a1:(Int × Int × Unit)):Option (Int × (List (List (Int × Int × Unit))) × Unit) :=
 (q8 (a0.length:Int) (a0.length:Int) a0 a1).bind λx1 =>
 (qau a1).bind λx2 =>
 (qP a1 x2).bind λx3 =>
 (qdr x1 x3.1).bind λx4 =>
 some x4
def qbu:Entry:=⟨84,[.ty (.sl (.sl gT)),.ty gT],[((.pair I (.pair (.sl (.sl gT)) .unit)),2)],λx=>qaP x.1 x.2⟩
def qig:TH:=qbS [] []
theorem qie:KT qbu qig [qan,qdD,qaO,qaa] 40:=λx=>by kernel_rfl
theorem qeE:OT qbu:=entK (qh qc5 (qh qib (qh qbM (qh qaz qn)))) hJ qie
def qbs (a0:Int) (a1:Int) (a2:((List (List (Int × Int × Unit))) × (List (List (Int × Int × Unit))) × Unit)) (a3:Int):Option (Int × Int × Unit) :=
 (qaL a2.2.1 a3 a0).bind λx1 =>
 (qau x1).bind λx2 =>
 some x2
def qcL:Entry:=⟨86,[.ty I,.ty I,.ptr (.pair (.sl (.sl gT)) (.pair (.sl (.sl gT)) .unit)),.ptr I],[(gT,0)],λx=>qbs x.1 x.2.1 x.2.2.1 x.2.2.2⟩
def qiQ:TH:=qbS [] []
theorem qiD:KT qcL qiQ [qbo,qaO] 40:=λx=>by kernel_rfl
theorem qi9:OT qcL:=entK (qh qc3 (qh qbM qn)) hJ qiD
def qT (a0:Int) (a1:Int) (a2:((List (List (Int × Int × Unit))) × (List (List (Int × Int × Unit))) × Unit)) (a3:Int):Option (List (List (Int × Int × Unit))) :=
 (mkS ([]:(List (Int × Int × Unit))) a0).bind λx1 =>
 bif decide (a0 = a0) then
  (qA (λ(s3:((List (List (Int × Int × Unit))) × Int)) =>
    bif decide (s3.2 < (x1.length:Int)) then
     (qA (λ(s5:((List (List (Int × Int × Unit))) × Int)) =>
       bif decide (s5.2 < a1) then
        (idx s5.1 s3.2).bind λx6 =>
        (qbs s3.2 s5.2 a2 a3).bind λx7 =>
        (idx s5.1 s3.2).bind λx8 =>
        (app x8 ([x7])).bind λx9 =>
        (idx s5.1 s3.2).bind λx10 =>
        bif decide (s3.2 = s3.2) then
         let l11:(List (List (Int × Int × Unit))):=List.set s5.1 s3.2.toNat x9
         some (.inl (l11,w64 (s5.2 + 1)))
        else
         none
       else
        some (.inr s5.1)) (s3.1,0)).bind λ(p12:(List (List (Int × Int × Unit)))) =>
     some (.inl (p12,w64 (s3.2 + 1)))
    else
     some (.inr s3.1)) (x1,0)).bind λ(p13:(List (List (Int × Int × Unit)))) =>
  some p13
 else
  none
def qaw:Entry:=⟨85,[.ty I,.ty I,.fn 86 [.p (.pair (.sl (.sl gT)) (.pair (.sl (.sl gT)) .unit)),.p I]],[((.sl (.sl gT)),2)],λx=>qT x.1 x.2.1 x.2.2.1 x.2.2.2⟩
def qdM:TH:=qbS [([],85,.block 0,{ lv:=[⟨none,7,0⟩],ps:=[((.sl (.sl gT)),2)],D:=⟨68719467392⟩ }),
 ([],85,.loop 0,{ lv:=[⟨none,7,0⟩,⟨none,14,0⟩],ps:=[((.sl (.sl gT)),2),(I,0)],D:=⟨68719467392⟩ }),
 ([],85,.block 2,{ lv:=[⟨none,7,0⟩],ps:=[((.sl (.sl gT)),2)],D:=⟨34359476864⟩ }),
 ([],85,.loop 2,{ lv:=[⟨none,7,0⟩,⟨none,18,0⟩],ps:=[((.sl (.sl gT)),2),(I,0)],D:=⟨34359476864⟩ })] []
theorem qdQ:KT qaw qdM [qcL] 40:=λx=>by kernel_rfl
theorem qdK:OT qaw:=entK (qh qi9 qn) hJ qdQ
def qbi (a0:Int) (a1:Int) (a2:(List (List (Int × Int × Unit)))) (a3:(List (List (Int × Int × Unit)))):Option (Int × Int × Unit) :=
 (qA (λ(s2:(Int × Int × Int)) =>
   bif decide (s2.1 < (a2.length:Int)) then
    (qaL a3 a0 s2.1).bind λx3 =>
    (qaL a2 s2.1 a1).bind λx4 =>
    (qP x3 x4).bind λx5 =>
    (qbB (s2.2.1,s2.2.2,()) x5).bind λx6 =>
    some (.inl (w64 (s2.1 + 1),x6.1,x6.2.1))
   else
    some (.inr (s2.2.1,s2.2.2))) (0,0,0)).bind λ(p7:(Int × Int)) =>
 some (p7.1,p7.2,())
def qco:Entry:=⟨153,[.ty I,.ty I,.ptr (.sl (.sl gT)),.ptr (.sl (.sl gT))],[(gT,0)],λx=>qbi x.1 x.2.1 x.2.2.1 x.2.2.2⟩
def qid:TH:=qbS [([],153,.block 0,{ lv:=[⟨some 0,7,0⟩,⟨some 0,7,1⟩],ps:=[(I,0),(I,0)],D:=⟨67107072⟩,wr:=[⟨0,7⟩] }),
 ([],153,.loop 0,{ lv:=[⟨none,11,0⟩,⟨some 0,7,0⟩,⟨some 0,7,1⟩],ps:=[(I,0),(I,0),(I,0)],D:=⟨67107072⟩,wr:=[⟨0,7⟩] })] []
theorem qik:KT qco qid [qbo,qbG,qaa] 40:=λx=>by kernel_rfl
theorem qif:OT qco:=entK (qh qc3 (qh qej (qh qaz qn))) hJ qik
def qaI (a0:Int) (a1:Int) (a2:(List (List (Int × Int × Unit)))) (a3:(List (List (Int × Int × Unit)))):Option (List (List (Int × Int × Unit))) :=
 (mkS ([]:(List (Int × Int × Unit))) a0).bind λx1 =>
 bif decide (a0 = a0) then
  (qA (λ(s3:((List (List (Int × Int × Unit))) × Int)) =>
    bif decide (s3.2 < (x1.length:Int)) then
     (qA (λ(s5:((List (List (Int × Int × Unit))) × Int)) =>
       bif decide (s5.2 < a1) then
        (idx s5.1 s3.2).bind λx6 =>
        (qbi s3.2 s5.2 a2 a3).bind λx7 =>
        (idx s5.1 s3.2).bind λx8 =>
        (app x8 ([x7])).bind λx9 =>
        (idx s5.1 s3.2).bind λx10 =>
        bif decide (s3.2 = s3.2) then
         let l11:(List (List (Int × Int × Unit))):=List.set s5.1 s3.2.toNat x9
         some (.inl (l11,w64 (s5.2 + 1)))
        else
         none
       else
        some (.inr s5.1)) (s3.1,0)).bind λ(p12:(List (List (Int × Int × Unit)))) =>
     some (.inl (p12,w64 (s3.2 + 1)))
    else
     some (.inr s3.1)) (x1,0)).bind λ(p13:(List (List (Int × Int × Unit)))) =>
  some p13
 else
  none
def qas:Entry:=⟨85,[.ty I,.ty I,.fn 153 [.p (.sl (.sl gT)),.p (.sl (.sl gT))]],[((.sl (.sl gT)),2)],λx=>qaI x.1 x.2.1 x.2.2.1 x.2.2.2⟩
def qdq:TH:=qbS [([],85,.block 0,{ lv:=[⟨none,7,0⟩],ps:=[((.sl (.sl gT)),2)],D:=⟨68719467392⟩ }),
 ([],85,.loop 0,{ lv:=[⟨none,7,0⟩,⟨none,14,0⟩],ps:=[((.sl (.sl gT)),2),(I,0)],D:=⟨68719467392⟩ }),
 ([],85,.block 2,{ lv:=[⟨none,7,0⟩],ps:=[((.sl (.sl gT)),2)],D:=⟨34359476864⟩ }),
 ([],85,.loop 2,{ lv:=[⟨none,7,0⟩,⟨none,18,0⟩],ps:=[((.sl (.sl gT)),2),(I,0)],D:=⟨34359476864⟩ })] []
theorem qdo:KT qas qdq [qco] 40:=λx=>by kernel_rfl
theorem qdu:OT qas:=entK (qh qif qn) hJ qdo
def qaM (a0:(List (List (Int × Int × Unit)))) (a1:(List (List (Int × Int × Unit)))):Option (List (List (Int × Int × Unit))) :=
 (idx a1 0).bind λx1 =>
 (qaI (a0.length:Int) (x1.length:Int) a1 a0).bind λx2 =>
 some x2
def qbh:Entry:=⟨89,[.ty (.sl (.sl gT)),.ty (.sl (.sl gT))],[((.sl (.sl gT)),2)],λx=>qaM x.1 x.2⟩
def qjS:TH:=qbS [] []
theorem qjT:KT qbh qjS [qas] 40:=λx=>by kernel_rfl
theorem qdc:OT qbh:=entK (qh qdu qn) hJ qjT
def qh3 (a0:Int) (a1:Int):Option ((Int × Int × Unit) × Int) :=
 (qaK ([a0,a1])).bind λx1 =>
 bif decide (x1 = 0) then
  none
 else
  bif decide (x1 = 0) then
   none
  else
   ((qc2 (w64 (a0.tdiv x1)) (1000000000:Int)).bind λx2 =>
    bif !x2 then
     some true
    else
     some (decide (w64 (a1.tdiv x1) > 1000000000))).bind λ(p3:Bool) =>
   bif p3 then
    some ((0,0,()),8)
   else
    some ((w64 (a0.tdiv x1),w64 (a1.tdiv x1),()),0)
def qh1:Entry:=⟨88,[.ty I,.ty I],[(gT,0),(I,0)],λx=>qh3 x.1 x.2⟩
def qsM:TH:=qbS [([],88,.region 3,{ lv:=[⟨none,27,0⟩],ps:=[(.bool,0)],D:=⟨267911168⟩,rs:=[⟨0,7⟩],Dn:=⟨250609664⟩ })] []
theorem qsr:KT qh1 qsM [qcF,qd2] 40:=λx=>by kernel_rfl
theorem qsv:OT qh1:=entK (qh qgq (qh qiR qn)) hJ qsr
def qc1 (a0:((List (List (Int × Int × Unit))) × (List (List (Int × Int × Unit))) × Unit)) (a1:Int):Option ((Int × Int × Unit) × Int) :=
 (qbP (a0.1,a0.2.1,())).bind λx1 =>
 (qdY a1 (0:Int) (w64 ((x1.1.2.1.length:Int) - 1))).bind λx2 =>
 (qk x2 (6:Int)).bind λx3 =>
 (qN ([x1.2.2,x3])).bind λx4 =>
 bif !(decide (x4 = 0)) then
  some ((0,0,()),x4)
 else
  (qA (λ(s6:(Int × Int)) =>
    bif decide (s6.2 < (a0.2.1.length:Int)) then
     (idx a0.2.1 s6.2).bind λx7 =>
     (idx x7 a1).bind λx8 =>
     (idx x7 a1).bind λx9 =>
     (qau x9).bind λx10 =>
     (qP x8 x10).bind λx11 =>
     some (.inl (w64 (s6.1 + x11.1),w64 (s6.2 + 1)))
    else
     some (.inr s6.1)) (0,0)).bind λ(p12:Int) =>
  bif decide (p12 = 0) then
   some ((0,0,()),12)
  else
   (qaP x1.1.1 x1.2.1).bind λx13 =>
   (idx x1.1.2.1 a1).bind λx14 =>
   (qT (x1.1.2.1.length:Int) (1:Int) x1.1 a1).bind λx15 =>
   (qaM ([x14]) x13.2.1).bind λx16 =>
   (qaM x16 x15).bind λx17 =>
   (idx x17 0).bind λx18 =>
   (idx x18 0).bind λx19 =>
   (qh3 x19.1 (w64 (x13.1 * p12))).bind λx20 =>
   some (x20.1,x20.2)
def qdS:Entry:=⟨14,[.ty (.pair (.sl (.sl gT)) (.pair (.sl (.sl gT)) .unit)),.ty I],[(gT,0),(I,0)],λx=>qc1 x.1 x.2⟩
def qk4:TH:=qbS [([],14,.block 0,{ lv:=[⟨none,9,0⟩],ps:=[(I,0)],D:=⟨72057319160048128⟩ }),
 ([],14,.loop 0,{ lv:=[⟨none,9,0⟩,⟨none,38,0⟩],ps:=[(I,0),(I,0)],D:=⟨72057319160048128⟩ })] []
theorem qk3:KT qdS qk4 [qbE,qaw,qbu,qbh,qcj,qh1,qbO,qaO,qaa,qds] 40:=λx=>by kernel_rfl
theorem qk7:OT qdS:=entK (qh qcZ (qh qdK (qh qeE (qh qdc (qh qfo (qh qsv (qh qdj (qh qbM (qh qaz (qh qg2 qn)))))))))) hJ qk3
def qeS (a0:Int) (a1:Int) (a2:Int):Option Bool :=
 (bif decide (a1<=a0) then
   some (decide (a0<=a2))
  else
   some false).bind λ(p1:Bool) =>
 some p1
def qfF:Entry:=⟨18,[.ty I,.ty I,.ty I],[(.bool,0)],λx=>qeS x.1 x.2.1 x.2.2⟩
def qs6:TH:=qbS [([],18,.region 1,{ lv:=[⟨none,6,0⟩],ps:=[(.bool,0)],D:=⟨32704⟩ })] []
theorem qs3:KT qfF qs6 [] 40:=λx=>by kernel_rfl
theorem qlC:OT qfF:=entK qn hJ qs3
def qbj (a0:(Int × Int × Unit)) (a1:Int):Option Bool :=
 ((qeS a0.1 (w64 (0 - a1)) a1).bind λx1 =>
  bif x1 then
   (qeS a0.2.1 (w64 (0 - a1)) a1).bind λx2 =>
   some x2
  else
   some false).bind λ(p3:Bool) =>
 some p3
def qcJ:Entry:=⟨114,[.ty gT,.ty I],[(.bool,0)],λx=>qbj x.1 x.2⟩
def qpy:TH:=qbS [([],114,.region 1,{ lv:=[⟨none,4,0⟩],ps:=[(.bool,0)],D:=⟨524272⟩,rs:=[⟨0,2⟩],Dn:=⟨520144⟩ })] []
theorem qpP:KT qcJ qpy [qfF] 40:=λx=>by kernel_rfl
theorem qf7:OT qcJ:=entK (qh qlC qn) hJ qpP
def qet (a0:((List (List (Int × Int × Unit))) × (List (List (Int × Int × Unit))) × Unit)):Option Int :=
 (bif decide ((a0.1.length:Int) = 0) then
   some true
  else
   some (!(decide ((a0.2.1.length:Int) = (a0.1.length:Int))))).bind λ(p1:Bool) =>
 bif p1 then
  some 10
 else
  bif decide ((a0.1.length:Int) > 6) then
   some 8
  else
   (qA (λ(s3:Int) =>
     bif decide (s3 < (a0.1.length:Int)) then
      (idx a0.1 s3).bind λx4 =>
      (idx a0.2.1 s3).bind λx5 =>
      (bif decide ((x4.length:Int) = 0) then
        some true
       else
        (idx a0.1 0).bind λx6 =>
        bif !(decide ((x4.length:Int) = (x6.length:Int))) then
         some true
        else
         some (!(decide ((x5.length:Int) = (x4.length:Int))))).bind λ(p7:Bool) =>
      bif p7 then
       some (.inr (.inr 10))
      else
       bif decide ((x4.length:Int) > 3) then
        some (.inr (.inr 8))
       else
        (qA (λ(s9:Int) =>
          bif decide (s9 < (x4.length:Int)) then
           ((idx x4 s9).bind λx10 =>
            (qbj x10 (9:Int)).bind λx11 =>
            bif !x11 then
             some true
            else
             (idx x5 s9).bind λx12 =>
             (qbj x12 (9:Int)).bind λx13 =>
             some (!x13)).bind λ(p14:Bool) =>
           bif p14 then
            some (.inr (.inr (.inr (.inr 2))))
           else
            some (.inl (w64 (s9 + 1)))
          else
           some (.inr (.inl ()))) 0).bind (Sum.elim (λ(p15:Unit) =>
        some (.inl (w64 (s3 + 1)))) some)
     else
      some (.inr (.inl ()))) 0).bind (Sum.elim (λ(p16:Unit) =>
   some 0) some)
def qgk:Entry:=⟨134,[.ty (.pair (.sl (.sl gT)) (.pair (.sl (.sl gT)) .unit))],[(I,0)],λx=>qet x⟩
def qqf:TH:=qbS [([],134,.region 1,{ lv:=[⟨none,19,0⟩],ps:=[(.bool,0)],D:=⟨1048448⟩,rs:=[⟨0,1⟩],Dn:=⟨1011456⟩ }),
 ([],134,.block 0,{ lv:=[],ps:=[],abn:=true,D:=⟨19342813113834066778521720⟩,rs:=[⟨0,1⟩],Dn:=⟨19342813113834066744967288⟩ }),
 ([],134,.loop 0,{ lv:=[⟨none,3,0⟩],ps:=[(I,0)],D:=⟨19342813113834066778521720⟩,rs:=[⟨0,1⟩],Dn:=⟨19342813113693258389651576⟩ }),
 ([],134,.region 9,{ lv:=[⟨none,60,0⟩],ps:=[(.bool,0)],D:=⟨2305840810190438400⟩,rs:=[⟨0,1⟩],Dn:=⟨2305700072702083072⟩ }),
 ([],134,.block 2,{ lv:=[],ps:=[],abn:=true,D:=⟨19342794667089993085747264⟩ }),
 ([],134,.loop 2,{ lv:=[⟨none,6,0⟩],ps:=[(I,0)],D:=⟨19342794667089993085747264⟩ }),
 ([],134,.region 16,{ lv:=[⟨none,83,0⟩],ps:=[(.bool,0)],D:=⟨19341632522213349383995392⟩ })] []
theorem qo1:KT qgk qqf [qcJ] 40:=λx=>by kernel_rfl
theorem qpB:OT qgk:=entK (qh qf7 qn) hJ qo1
def qjv (a0:(Int × Int × Unit)):Option (Int × Int × Unit) :=
 some (a0.1,w64 (0 - a0.2.1),())
def qiU:Entry:=⟨95,[.ty gT],[(gT,0)],λx=>qjv x⟩
def qud:TH:=qbS [] []
theorem quR:KT qiU qud [] 40:=λx=>by kernel_rfl
theorem qtX:OT qiU:=entK qn hJ quR
def qf2 (a0:(Int × Int × Unit)) (a1:(Int × Int × Unit)):Option (Int × Int × Unit) :=
 some (w64 ((w64 (a0.1 * a1.1)) - (w64 (a0.2.1 * a1.2.1))),w64 ((w64 (a0.1 * a1.2.1)) + (w64 (a0.2.1 * a1.1))),())
def qeH:Entry:=⟨94,[.ty gT,.ty gT],[(gT,0)],λx=>qf2 x.1 x.2⟩
def qvR:TH:=qbS [] []
theorem qvF:KT qeH qvR [] 40:=λx=>by kernel_rfl
theorem qhz:OT qeH:=entK qn hJ qvF
def qhp (a0:(Int × Int × Unit)) (a1:(Int × Int × Unit)):Option (Int × Int × Unit) :=
 some (w64 (a0.1 + a1.1),w64 (a0.2.1 + a1.2.1),())
def qgv:Entry:=⟨68,[.ty gT,.ty gT],[(gT,0)],λx=>qhp x.1 x.2⟩
def qva:TH:=qbS [] []
theorem qvK:KT qgv qva [] 40:=λx=>by kernel_rfl
theorem qka:OT qgv:=entK qn hJ qvK
def qbm (a0:(List (List (Int × Int × Unit)))) (a1:(List (List (Int × Int × Unit)))):Option (List (List (Int × Int × Unit))) :=
 (qA (λ(s3:((List (List (Int × Int × Unit))) × Int)) =>
   (idx a0 0).bind λx4 =>
   bif decide (s3.2 < (x4.length:Int)) then
    (qA (λ(s7:((List (Int × Int × Unit)) × Int)) =>
      (idx a1 0).bind λx8 =>
      bif decide (s7.2 < (x8.length:Int)) then
       (qA (λ(s10:(Int × Int × Int)) =>
         bif decide (s10.1 < (a0.length:Int)) then
          (idx a0 s10.1).bind λx11 =>
          (idx x11 s3.2).bind λx12 =>
          (idx a1 s10.1).bind λx13 =>
          (idx x13 s7.2).bind λx14 =>
          (qjv x14).bind λx15 =>
          (qf2 x12 x15).bind λx16 =>
          (qhp (s10.2.1,s10.2.2,()) x16).bind λx17 =>
          some (.inl (w64 (s10.1 + 1),x17.1,x17.2.1))
         else
          some (.inr (s10.2.1,s10.2.2))) (0,0,0)).bind λ(p18:(Int × Int)) =>
       (app s7.1 ([(p18.1,p18.2,())])).bind λx19 =>
       some (.inl (x19,w64 (s7.2 + 1)))
      else
       some (.inr s7.1)) ([],0)).bind λ(p20:(List (Int × Int × Unit))) =>
    (app s3.1 ([p20])).bind λx21 =>
    some (.inl (x21,w64 (s3.2 + 1)))
   else
    some (.inr s3.1)) ([],0)).bind λ(p22:(List (List (Int × Int × Unit)))) =>
 some p22
def qeo:Entry:=⟨91,[.ty (.sl (.sl gT)),.ty (.sl (.sl gT))],[((.sl (.sl gT)),2)],λx=>qbm x.1 x.2⟩
def qoS:TH:=qbS [([],91,.block 0,{ lv:=[⟨none,5,0⟩],ps:=[((.sl (.sl gT)),2)],D:=⟨576460752303423456⟩,wr:=[⟨0,9⟩] }),
 ([],91,.loop 0,{ lv:=[⟨none,5,0⟩,⟨none,6,0⟩],ps:=[((.sl (.sl gT)),2),(I,0)],D:=⟨576460752303423456⟩,wr:=[⟨0,9⟩] }),
 ([],91,.block 2,{ lv:=[⟨none,7,0⟩],ps:=[((.sl gT),1)],D:=⟨36028797018441600⟩,wr:=[⟨0,9⟩] }),
 ([],91,.loop 2,{ lv:=[⟨none,7,0⟩,⟨none,8,0⟩],ps:=[((.sl gT),1),(I,0)],D:=⟨36028797018441600⟩,wr:=[⟨0,9⟩],rs:=[⟨0,9⟩],Dn:=⟨36028797018441088⟩ }),
 ([],91,.block 4,{ lv:=[⟨some 0,9,0⟩,⟨some 0,9,1⟩],ps:=[(I,0),(I,0)],D:=⟨2251799679468544⟩,wr:=[⟨0,9⟩] }),
 ([],91,.loop 4,{ lv:=[⟨none,10,0⟩,⟨some 0,9,0⟩,⟨some 0,9,1⟩],ps:=[(I,0),(I,0),(I,0)],D:=⟨2251799679468544⟩,wr:=[⟨0,9⟩] })] []
theorem qqB:KT qeo qoS [qgv,qiU,qeH] 40:=λx=>by kernel_rfl
theorem qi0:OT qeo:=entK (qh qka (qh qtX (qh qhz qn))) hJ qqB
def qeu (a0:(List (List (Int × Int × Unit)))) (a1:Int) (a2:Int):Option (List (List (Int × Int × Unit))) :=
 (qA (λ(s2:((List (List (Int × Int × Unit))) × Int)) =>
   bif decide (s2.2 < (a0.length:Int)) then
    (bif decide (s2.2 = a1) then
      some s2.1
     else
      (qA (λ(s4:((List (Int × Int × Unit)) × Int)) =>
        bif decide (s4.2 < (a0.length:Int)) then
         (bif !(decide (s4.2 = a2)) then
           (idx a0 s2.2).bind λx5 =>
           (idx x5 s4.2).bind λx6 =>
           (app s4.1 ([x6])).bind λx7 =>
           some x7
          else
           some s4.1).bind λ(p8:(List (Int × Int × Unit))) =>
         some (.inl (p8,w64 (s4.2 + 1)))
        else
         some (.inr s4.1)) ([],0)).bind λ(p9:(List (Int × Int × Unit))) =>
      (app s2.1 ([p9])).bind λx10 =>
      some x10).bind λ(p11:(List (List (Int × Int × Unit)))) =>
    some (.inl (p11,w64 (s2.2 + 1)))
   else
    some (.inr s2.1)) ([],0)).bind λ(p12:(List (List (Int × Int × Unit)))) =>
 some p12
def qf8:Entry:=⟨138,[.ty (.sl (.sl gT)),.ty I,.ty I],[((.sl (.sl gT)),2)],λx=>qeu x.1 x.2.1 x.2.2⟩
def qp1:TH:=qbS [([],138,.block 0,{ lv:=[⟨none,7,0⟩],ps:=[((.sl (.sl gT)),2)],D:=⟨8796093022080⟩ }),
 ([],138,.loop 0,{ lv:=[⟨none,7,0⟩,⟨none,8,0⟩],ps:=[((.sl (.sl gT)),2),(I,0)],D:=⟨8796093022080⟩ }),
 ([],138,.block 1,{ lv:=[⟨none,7,0⟩],ps:=[((.sl (.sl gT)),2)],D:=⟨8796092892800⟩ }),
 ([],138,.block 2,{ lv:=[⟨none,9,0⟩],ps:=[((.sl gT),1)],D:=⟨549754766848⟩ }),
 ([],138,.loop 2,{ lv:=[⟨none,9,0⟩,⟨none,10,0⟩],ps:=[((.sl gT),1),(I,0)],D:=⟨549754766848⟩ }),
 ([],138,.cond 28,{ lv:=[⟨none,9,0⟩],ps:=[((.sl gT),1)],D:=⟨549218943488⟩ })] []
theorem qoP:KT qf8 qp1 [] 40:=λx=>by kernel_rfl
theorem qoR:OT qf8:=entK qn hJ qoP
def qlf (a0:Int) (a1:Int):Option Int :=
 bif decide (a1 = 0) then
  none
 else
  (bif decide (a0.tmod a1 < 0) then
    some (w64 ((a0.tmod a1) + a1))
   else
    some (a0.tmod a1)).bind λ(p1:Int) =>
  some p1
def qmu:Entry:=⟨67,[.ty I,.ty I],[(I,0)],λx=>qlf x.1 x.2⟩
def qyn:TH:=qbS [([],67,.cond 9,{ lv:=[⟨none,0,0⟩],ps:=[(I,0)],D:=⟨7169⟩ })] []
theorem qxV:KT qmu qyn [] 40:=λx=>by kernel_rfl
theorem qyr:OT qmu:=entK qn hJ qxV
def qmj (a0:(Int × Int × Unit)) (a1:(Int × Int × Unit)):Option (Int × Int × Unit) :=
 some (w64 (a0.1 - a1.1),w64 (a0.2.1 - a1.2.1),())
def qkM:Entry:=⟨41,[.ty gT,.ty gT],[(gT,0)],λx=>qmj x.1 x.2⟩
def qwy:TH:=qbS [] []
theorem qvP:KT qkM qwy [] 40:=λx=>by kernel_rfl
theorem qvL:OT qkM:=entK qn hJ qvP
def qbt (n:Nat):(List (List (Int × Int × Unit)))->Option (Int × Int × Unit) :=
 Nat.rec (motive:=λ_=>(List (List (Int × Int × Unit)))->Option (Int × Int × Unit)) (λ_=>none) (λ_ ih a0 =>
 bif decide ((a0.length:Int) = 0) then
  some (1,0,())
 else
  (qA (λ(s2:(Int × Int × Int)) =>
    bif decide (s2.1 < (a0.length:Int)) then
     (idx a0 0).bind λx3 =>
     (idx x3 s2.1).bind λx4 =>
     (qeu a0 (0:Int) s2.1).bind λx5 =>
     (ih x5).bind λx6 =>
     (qf2 x4 x6).bind λx7 =>
     (qlf s2.1 (2:Int)).bind λx8 =>
     (bif decide (x8 = 0) then
       (qhp (s2.2.1,s2.2.2,()) x7).bind λx9 =>
       some (x9.1,x9.2.1)
      else
       (qmj (s2.2.1,s2.2.2,()) x7).bind λx10 =>
       some (x10.1,x10.2.1)).bind λ(p11:(Int × Int)) =>
     some (.inl (w64 (s2.1 + 1),p11.1,p11.2))
    else
     some (.inr (s2.2.1,s2.2.2))) (0,0,0)).bind λ(p12:(Int × Int)) =>
  some (p12.1,p12.2,())) n
def qbW:(List (List (Int × Int × Unit)))->Option (Int × Int × Unit):=qbt 12
def qfZ:Entry:=⟨69,[.ty (.sl (.sl gT))],[(gT,0)],λx=>qbW x⟩
def qks:TH:=qbS [([],69,.block 0,{ lv:=[⟨some 0,3,0⟩,⟨some 0,3,1⟩],ps:=[(I,0),(I,0)],D:=⟨68719475760⟩,wr:=[⟨0,3⟩,⟨0,5⟩] }),
 ([],69,.loop 0,{ lv:=[⟨none,4,0⟩,⟨some 0,3,0⟩,⟨some 0,3,1⟩],ps:=[(I,0),(I,0),(I,0)],D:=⟨68719475760⟩,wr:=[⟨0,3⟩,⟨0,5⟩],rs:=[⟨0,5⟩],Dn:=⟨68719475728⟩ }),
 ([],69,.cond 29,{ lv:=[⟨some 0,3,0⟩,⟨some 0,3,1⟩],ps:=[(I,0),(I,0)],D:=⟨67645734912⟩,wr:=[⟨0,3⟩] })] []
def qaB (n:Nat):Entry:=⟨69,[.ty (.sl (.sl gT))],[(gT,0)],λx=>qbt n x⟩
theorem qke (n:Nat) (x:denP (qaB (n + 1)).ps):fnT Tryz.prog Hn.hints qks (qyR [(qaB n),qgv,qeH,qkM,qmu,qf8]) 40 69 (qlT (qaB (n + 1)).ps x) (qaB (n + 1)).rs = (qaB (n + 1)).F x:=by kernel_rfl
theorem qfh:∀ n,qfw Tryz.prog Hn.hints Lb (qaB n)
 | 0=>λx y h=>by cases (show none = some y from h)
 | n + 1=>qtj (qh (qfh n) (qh qka (qh qhz (qh qvL (qh qyr (qh qoR qn)))))) hJ 40 _ _ _ _ (qke n)
theorem qkh:qfw Tryz.prog Hn.hints Lb qfZ:=qfh 12
def qbp (a0:((List (List (Int × Int × Unit))) × (List (List (Int × Int × Unit))) × Unit)):Option Int :=
 (qet (a0.1,a0.2.1,())).bind λx1 =>
 bif !(decide (x1 = 0)) then
  some x1
 else
  (qbm a0.1 a0.1).bind λx2 =>
  (qbW x2).bind λx3 =>
  let v4:Bool:=(bif decide (x3.1 = 0) then (bif decide (x3.2.1 = 0) then true else false) else false)
  bif v4 then
   some 11
  else
   some 0
def qcd:Entry:=⟨56,[.ty (.pair (.sl (.sl gT)) (.pair (.sl (.sl gT)) .unit))],[(I,0)],λx=>qbp x⟩
def qkK:TH:=qbS [] []
theorem qko:KT qcd qkK [qeo,qfZ,qgk] 40:=λx=>by kernel_rfl
theorem qgo:OT qcd:=entK (qh qi0 (qh qkh (qh qpB qn))) hJ qko
def qfM (a0:(List (List (Int × Int × Unit)))) (a1:(List (List (Int × Int × Unit)))):Option (List (List (Int × Int × Unit))) :=
 (qA (λ(s3:((List (List (Int × Int × Unit))) × Int)) =>
   bif decide (s3.2 < (a0.length:Int)) then
    (qA (λ(s6:((List (Int × Int × Unit)) × Int)) =>
      (idx a1 0).bind λx7 =>
      bif decide (s6.2 < (x7.length:Int)) then
       (qA (λ(s9:(Int × Int × Int)) =>
         bif decide (s9.1 < (a1.length:Int)) then
          (idx a0 s3.2).bind λx10 =>
          (idx x10 s9.1).bind λx11 =>
          (idx a1 s9.1).bind λx12 =>
          (idx x12 s6.2).bind λx13 =>
          (qf2 x11 x13).bind λx14 =>
          (qhp (s9.2.1,s9.2.2,()) x14).bind λx15 =>
          some (.inl (w64 (s9.1 + 1),x15.1,x15.2.1))
         else
          some (.inr (s9.2.1,s9.2.2))) (0,0,0)).bind λ(p16:(Int × Int)) =>
       (app s6.1 ([(p16.1,p16.2,())])).bind λx17 =>
       some (.inl (x17,w64 (s6.2 + 1)))
      else
       some (.inr s6.1)) ([],0)).bind λ(p18:(List (Int × Int × Unit))) =>
    (app s3.1 ([p18])).bind λx19 =>
    some (.inl (x19,w64 (s3.2 + 1)))
   else
    some (.inr s3.1)) ([],0)).bind λ(p20:(List (List (Int × Int × Unit)))) =>
 some p20
def qgu:Entry:=⟨92,[.ty (.sl (.sl gT)),.ty (.sl (.sl gT))],[((.sl (.sl gT)),2)],λx=>qfM x.1 x.2⟩
def qqi:TH:=qbS [([],92,.block 0,{ lv:=[⟨none,5,0⟩],ps:=[((.sl (.sl gT)),2)],D:=⟨72057594037927904⟩,wr:=[⟨0,9⟩] }),
 ([],92,.loop 0,{ lv:=[⟨none,5,0⟩,⟨none,6,0⟩],ps:=[((.sl (.sl gT)),2),(I,0)],D:=⟨72057594037927904⟩,wr:=[⟨0,9⟩] }),
 ([],92,.block 2,{ lv:=[⟨none,7,0⟩],ps:=[((.sl gT),1)],D:=⟨4503599627241344⟩,wr:=[⟨0,9⟩] }),
 ([],92,.loop 2,{ lv:=[⟨none,7,0⟩,⟨none,8,0⟩],ps:=[((.sl gT),1),(I,0)],D:=⟨4503599627241344⟩,wr:=[⟨0,9⟩],rs:=[⟨0,9⟩],Dn:=⟨4503599627240832⟩ }),
 ([],92,.block 4,{ lv:=[⟨some 0,9,0⟩,⟨some 0,9,1⟩],ps:=[(I,0),(I,0)],D:=⟨281474943157248⟩,wr:=[⟨0,9⟩] }),
 ([],92,.loop 4,{ lv:=[⟨none,10,0⟩,⟨some 0,9,0⟩,⟨some 0,9,1⟩],ps:=[(I,0),(I,0),(I,0)],D:=⟨281474943157248⟩,wr:=[⟨0,9⟩] })] []
theorem qoK:KT qgu qqi [qgv,qeH] 40:=λx=>by kernel_rfl
theorem qqp:OT qgu:=entK (qh qka (qh qhz qn)) hJ qoK
def ql6 (a0:Int):Option Int :=
 some (max a0 (w64 (0 - a0)))
def qkx:Entry:=⟨42,[.ty I],[(I,0)],λx=>ql6 x⟩
def qvu:TH:=qbS [] []
theorem qwt:KT qkx qvu [] 40:=λx=>by kernel_rfl
theorem qwE:OT qkx:=entK qn hJ qwt
def qlz (a0:Int) (a1:Int):Option Int :=
 (qA (λ(s2:(Int × Int)) =>
   bif !(decide (s2.2 = 0)) then
    bif decide (s2.2 = 0) then
     none
    else
     some (.inl (s2.2,s2.1.tmod s2.2))
   else
    some (.inr s2.1)) (a0,a1)).bind λ(p3:Int) =>
 (ql6 p3).bind λx4 =>
 some x4
def qmR:Entry:=⟨155,[.ty I,.ty I],[(I,0)],λx=>qlz x.1 x.2⟩
def qyN:TH:=qbS [([],155,.block 0,{ lv:=[⟨none,0,0⟩],ps:=[(I,0)],D:=⟨2019⟩ }),
 ([],155,.loop 0,{ lv:=[⟨none,0,0⟩,⟨none,1,0⟩],ps:=[(I,0),(I,0)],D:=⟨2019⟩ })] []
theorem qyo:KT qmR qyN [qkx] 40:=λx=>by kernel_rfl
theorem qxJ:OT qmR:=entK (qh qwE qn) hJ qyo
def qiy (a0:(List (List (Int × Int × Unit)))):Option Bool :=
 (qeR a0 (5:Int)).bind λx1 =>
 some x1
def qk1:Entry:=⟨51,[.ty (.sl (.sl gT))],[(.bool,0)],λx=>qiy x⟩
def qwd:TH:=qbS [] []
theorem qvx:KT qk1 qwd [qfL] 40:=λx=>by kernel_rfl
theorem qu9:OT qk1:=entK (qh qml qn) hJ qvx
def qb7 (a0:(Int × Int × Unit)):Option Bool :=
 (qav a0 (20:Int)).bind λx1 =>
 some (!x1)
def qcG:Entry:=⟨187,[.ty gT],[(.bool,0)],λx=>qb7 x⟩
def qiL:TH:=qbS [] []
theorem qit:KT qcG qiL [qaC] 40:=λx=>by kernel_rfl
theorem qiX:OT qcG:=entK (qh qbH qn) hJ qit
def qD (a0:(List (Int × Int × Unit))):Option Int :=
 (qA (λ(s2:Int) =>
   bif decide (s2 < (a0.length:Int)) then
    (idx a0 s2).bind λx3 =>
    (qb7 x3).bind λx4 =>
    bif x4 then
     some (.inr (.inr s2))
    else
     some (.inl (w64 (s2 + 1)))
   else
    some (.inr (.inl ()))) 0).bind (Sum.elim (λ(p5:Unit) =>
 some (-1)) some)
def qx:Entry:=⟨183,[.ty (.sl gT),.fn 187 []],[(I,0)],λx=>qD x.1⟩
def qaS:TH:=qbS [([],183,.block 0,{ lv:=[],ps:=[],abn:=true,D:=⟨524064⟩ }),
 ([],183,.loop 0,{ lv:=[⟨none,8,0⟩],ps:=[(I,0)],D:=⟨524064⟩ })] []
theorem qaT:KT qx qaS [qcG] 40:=λx=>by kernel_rfl
theorem qaR:OT qx:=entK (qh qiX qn) hJ qaT
def qp (a0:(List (Int × Int × Unit))):Option Bool :=
 (qD a0).bind λx1 =>
 some (decide (x1>=0))
def qu:Entry:=⟨145,[.ty (.sl gT),.fn 187 []],[(.bool,0)],λx=>qp x.1⟩
def qaG:TH:=qbS [] []
theorem qaH:KT qu qaG [qx] 40:=λx=>by kernel_rfl
theorem qaE:OT qu:=entK (qh qaR qn) hJ qaH
def qcX (a0:(List (List (Int × Int × Unit)))):Option (Int × Int) :=
 (qk (decide ((a0.length:Int) > 0)) (10:Int)).bind λx1 =>
 (qk (decide ((a0.length:Int)<=3)) (8:Int)).bind λx2 =>
 (qN ([x1,x2])).bind λx3 =>
 bif !(decide (x3 = 0)) then
  some (0,x3)
 else
  (qA (λ(s5:Int) =>
    bif decide (s5 < (a0.length:Int)) then
     (idx a0 s5).bind λx6 =>
     (qp x6).bind λx7 =>
     (qk (decide ((x6.length:Int) = (a0.length:Int))) (10:Int)).bind λx8 =>
     (qk (!x7) (2:Int)).bind λx9 =>
     (qN ([x8,x9])).bind λx10 =>
     bif !(decide (x10 = 0)) then
      some (.inr (.inr (s5,x10)))
     else
      some (.inl (w64 (s5 + 1)))
    else
     some (.inr (.inl ()))) 0).bind (Sum.elim (λ(p11:Unit) =>
  some (0,0)) some)
def qdT:Entry:=⟨159,[.ty (.sl (.sl gT))],[(I,0),(I,0)],λx=>qcX x⟩
def qkY:TH:=qbS [([],159,.block 0,{ lv:=[],ps:=[],abn:=true,D:=⟨140737471578592⟩ }),
 ([],159,.loop 0,{ lv:=[⟨none,24,0⟩],ps:=[(I,0)],D:=⟨140737471578592⟩ })] []
theorem qkz:KT qdT qkY [qbE,qbO,qu] 40:=λx=>by kernel_rfl
theorem qkw:OT qdT:=entK (qh qcZ (qh qdj (qh qaE qn))) hJ qkz
def qea (a0:(List (List (Int × Int × Unit)))):Option Int :=
 (qcX a0).bind λx1 =>
 some x1.2
def qeI:Entry:=⟨108,[.ty (.sl (.sl gT))],[(I,0)],λx=>qea x⟩
def qmJ:TH:=qbS [] []
theorem qng:KT qeI qmJ [qdT] 40:=λx=>by kernel_rfl
theorem qmZ:OT qeI:=entK (qh qkw qn) hJ qng
def qbI (a0:(Int × (List (List (Int × Int × Unit))) × Unit)):Option (Int × (List (List (Int × Int × Unit))) × Unit) :=
 (qaU a0.2.1).bind λx1 =>
 some (a0.1,x1,())
def qdg:Entry:=⟨54,[.ty (.pair I (.pair (.sl (.sl gT)) .unit))],[((.pair I (.pair (.sl (.sl gT)) .unit)),2)],λx=>qbI x⟩
def qjQ:TH:=qbS [] []
theorem qjW:KT qdg qjQ [qbJ] 40:=λx=>by kernel_rfl
theorem qjP:OT qdg:=entK (qh qd7 qn) hJ qjW
def qcS (a0:(Int × (List (List (Int × Int × Unit))) × Unit)) (a1:Int):Option Int :=
 (qdY a0.1 (1:Int) (100000000000:Int)).bind λx1 =>
 (qk x1 (2:Int)).bind λx2 =>
 (qk (decide ((a0.2.1.length:Int) = a1)) (10:Int)).bind λx3 =>
 (qN ([x2,x3])).bind λx4 =>
 (qA (λ(s6:(Int × Int)) =>
   bif decide (s6.2 < (a0.2.1.length:Int)) then
    (idx a0.2.1 s6.2).bind λx7 =>
    (qk (decide ((x7.length:Int) = a1)) (10:Int)).bind λx8 =>
    (qN ([s6.1,x8])).bind λx9 =>
    some (.inl (x9,w64 (s6.2 + 1)))
   else
    some (.inr s6.1)) (x4,0)).bind λ(p10:Int) =>
 bif !(decide (p10 = 0)) then
  some p10
 else
  (qA (λ(s12:(Int × Int)) =>
    bif decide (s12.2 < (a0.2.1.length:Int)) then
     (idx a0.2.1 s12.2).bind λx13 =>
     (qA (λ(s15:(Int × Int)) =>
       bif decide (s15.2 < (x13.length:Int)) then
        (idx x13 s15.2).bind λx16 =>
        (qav x16 (100000000000:Int)).bind λx17 =>
        bif !x17 then
         some (.inr (.inr (.inr (.inr 2))))
        else
         (qaK ([s15.1,x16.1,x16.2.1])).bind λx18 =>
         some (.inl (x18,w64 (s15.2 + 1)))
       else
        some (.inr (.inl s15.1))) (s12.1,0)).bind (Sum.elim (λ(p19:Int) =>
     some (.inl (p19,w64 (s12.2 + 1)))) some)
    else
     some (.inr (.inl s12.1))) (a0.1,0)).bind (Sum.elim (λ(p20:Int) =>
  (qk (decide (p20 = 1)) (3:Int)).bind λx21 =>
  some x21) some)
def qdE:Entry:=⟨129,[.ty (.pair I (.pair (.sl (.sl gT)) .unit)),.ty I],[(I,0)],λx=>qcS x.1 x.2⟩
def qkj:TH:=qbS [([],129,.block 0,{ lv:=[⟨none,5,0⟩],ps:=[(I,0)],D:=⟨2198754821280⟩ }),
 ([],129,.loop 0,{ lv:=[⟨none,5,0⟩,⟨none,28,0⟩],ps:=[(I,0),(I,0)],D:=⟨2198754821280⟩ }),
 ([],129,.block 2,{ lv:=[⟨none,8,0⟩],ps:=[(I,0)],abn:=true,D:=⟨2361182678484869191040⟩,wr:=[⟨0,12⟩] }),
 ([],129,.loop 2,{ lv:=[⟨none,8,0⟩,⟨none,49,0⟩],ps:=[(I,0),(I,0)],D:=⟨2361182678484869191040⟩,wr:=[⟨0,12⟩] }),
 ([],129,.block 4,{ lv:=[⟨none,8,0⟩],ps:=[(I,0)],abn:=true,D:=⟨1180555591920392344960⟩,wr:=[⟨0,12⟩] }),
 ([],129,.loop 4,{ lv:=[⟨none,8,0⟩,⟨none,55,0⟩],ps:=[(I,0),(I,0)],D:=⟨1180555591920392344960⟩,wr:=[⟨0,12⟩],rs:=[⟨0,12⟩],Dn:=⟨1134438731736118461824⟩ })] []
theorem qkA:KT qdE qkj [qcF,qbE,qbO,qaC,qds] 40:=λx=>by kernel_rfl
theorem qkm:OT qdE:=entK (qh qgq (qh qcZ (qh qdj (qh qbH (qh qg2 qn))))) hJ qkA
def qbd (a0:Int) (a1:Int) (a2:(List (List (Int × Int × Unit)))) (a3:Int):Option (Int × Int × Unit) :=
 (qaL a2 a0 a1).bind λx1 =>
 (qP x1 (a3,0,())).bind λx2 =>
 some x2
def qce:Entry:=⟨165,[.ty I,.ty I,.ptr (.sl (.sl gT)),.ptr I],[(gT,0)],λx=>qbd x.1 x.2.1 x.2.2.1 x.2.2.2⟩
def qhD:TH:=qbS [] []
theorem qhX:KT qce qhD [qbo,qaa] 40:=λx=>by kernel_rfl
theorem qhQ:OT qce:=entK (qh qc3 (qh qaz qn)) hJ qhX
def qab (a0:Int) (a1:Int) (a2:(List (List (Int × Int × Unit)))) (a3:Int):Option (List (List (Int × Int × Unit))) :=
 (mkS ([]:(List (Int × Int × Unit))) a0).bind λx1 =>
 bif decide (a0 = a0) then
  (qA (λ(s3:((List (List (Int × Int × Unit))) × Int)) =>
    bif decide (s3.2 < (x1.length:Int)) then
     (qA (λ(s5:((List (List (Int × Int × Unit))) × Int)) =>
       bif decide (s5.2 < a1) then
        (idx s5.1 s3.2).bind λx6 =>
        (qbd s3.2 s5.2 a2 a3).bind λx7 =>
        (idx s5.1 s3.2).bind λx8 =>
        (app x8 ([x7])).bind λx9 =>
        (idx s5.1 s3.2).bind λx10 =>
        bif decide (s3.2 = s3.2) then
         let l11:(List (List (Int × Int × Unit))):=List.set s5.1 s3.2.toNat x9
         some (.inl (l11,w64 (s5.2 + 1)))
        else
         none
       else
        some (.inr s5.1)) (s3.1,0)).bind λ(p12:(List (List (Int × Int × Unit)))) =>
     some (.inl (p12,w64 (s3.2 + 1)))
    else
     some (.inr s3.1)) (x1,0)).bind λ(p13:(List (List (Int × Int × Unit)))) =>
  some p13
 else
  none
def qap:Entry:=⟨85,[.ty I,.ty I,.fn 165 [.p (.sl (.sl gT)),.p I]],[((.sl (.sl gT)),2)],λx=>qab x.1 x.2.1 x.2.2.1 x.2.2.2⟩
def qdd:TH:=qbS [([],85,.block 0,{ lv:=[⟨none,7,0⟩],ps:=[((.sl (.sl gT)),2)],D:=⟨68719467392⟩ }),
 ([],85,.loop 0,{ lv:=[⟨none,7,0⟩,⟨none,14,0⟩],ps:=[((.sl (.sl gT)),2),(I,0)],D:=⟨68719467392⟩ }),
 ([],85,.block 2,{ lv:=[⟨none,7,0⟩],ps:=[((.sl (.sl gT)),2)],D:=⟨34359476864⟩ }),
 ([],85,.loop 2,{ lv:=[⟨none,7,0⟩,⟨none,18,0⟩],ps:=[((.sl (.sl gT)),2),(I,0)],D:=⟨34359476864⟩ })] []
theorem qdb:KT qap qdd [qce] 40:=λx=>by kernel_rfl
theorem qc9:OT qap:=entK (qh qhQ qn) hJ qdb
def qca (a0:(List (List (Int × Int × Unit)))) (a1:Int):Option (List (List (Int × Int × Unit))) :=
 (idx a0 0).bind λx1 =>
 (qab (a0.length:Int) (x1.length:Int) a0 a1).bind λx2 =>
 some x2
def qcA:Entry:=⟨117,[.ty (.sl (.sl gT)),.ty I],[((.sl (.sl gT)),2)],λx=>qca x.1 x.2⟩
def qiJ:TH:=qbS [] []
theorem qir:KT qcA qiJ [qap] 40:=λx=>by kernel_rfl
theorem qiN:OT qcA:=entK (qh qc9 qn) hJ qir
def qaf (a0:(List (Int × Int × Unit))) (a1:(List (Int × Int × Unit))):Option Bool :=
 bif !(decide ((a0.length:Int) = (a1.length:Int))) then
  some false
 else
  (qA (λ(s2:Int) =>
    bif decide (s2 < (a0.length:Int)) then
     (idx a0 s2).bind λx3 =>
     (idx a1 s2).bind λx4 =>
     let v5:Bool:=!(bif decide (x3.1 = x4.1) then (bif decide (x3.2.1 = x4.2.1) then true else false) else false)
     bif v5 then
      some (.inr (.inr false))
     else
      some (.inl (w64 (s2 + 1)))
    else
     some (.inr (.inl ()))) 0).bind (Sum.elim (λ(p6:Unit) =>
  some true) some)
def qax:Entry:=⟨177,[.ty (.sl gT),.ty (.sl gT)],[(.bool,0)],λx=>qaf x.1 x.2⟩
def qdN:TH:=qbS [([],177,.block 0,{ lv:=[],ps:=[],abn:=true,D:=⟨67100704⟩ }),
 ([],177,.loop 0,{ lv:=[⟨none,13,0⟩],ps:=[(I,0)],D:=⟨67100704⟩ })] []
theorem qdH:KT qax qdN [] 40:=λx=>by kernel_rfl
theorem qdF:OT qax:=entK qn hJ qdH
def qfJ (a0:(List (List (Int × Int × Unit)))) (a1:(List (List (Int × Int × Unit)))):Option (Int × Bool) :=
 (qA (λ(s2:Int) =>
   bif decide (s2 < (a0.length:Int)) then
    (idx a0 s2).bind λx3 =>
    (idx a1 s2).bind λx4 =>
    (qaf x3 x4).bind λx5 =>
    bif !x5 then
     some (.inr (.inr (s2,true)))
    else
     some (.inl (w64 (s2 + 1)))
   else
    some (.inr (.inl ()))) 0).bind (Sum.elim (λ(p6:Unit) =>
 some (0,false)) some)
def qge:Entry:=⟨130,[.ty (.sl (.sl gT)),.ty (.sl (.sl gT))],[(I,0),(.bool,0)],λx=>qfJ x.1 x.2⟩
def qo9:TH:=qbS [([],130,.block 0,{ lv:=[],ps:=[],abn:=true,D:=⟨16776384⟩ }),
 ([],130,.loop 0,{ lv:=[⟨none,10,0⟩],ps:=[(I,0)],D:=⟨16776384⟩ })] []
theorem qqv:KT qge qo9 [qax] 40:=λx=>by kernel_rfl
theorem qpT:OT qge:=entK (qh qdF qn) hJ qqv
def qc6 (a0:(List (List (Int × Int × Unit)))):Option (Int × Int) :=
 bif decide ((a0.length:Int) = 0) then
  some (0,10)
 else
  bif decide ((a0.length:Int) > 3) then
   some (0,8)
  else
   (qA (λ(s2:Int) =>
     bif decide (s2 < (a0.length:Int)) then
      (idx a0 s2).bind λx3 =>
      bif !(decide ((x3.length:Int) = (a0.length:Int))) then
       some (.inr (.inr (s2,10)))
      else
       (qA (λ(s5:Int) =>
         (idx a0 s2).bind λx6 =>
         bif decide (s5 < (x6.length:Int)) then
          (idx a0 s2).bind λx7 =>
          (idx x7 s5).bind λx8 =>
          (qbj x8 (20:Int)).bind λx9 =>
          bif !x9 then
           some (.inr (.inr (.inr (.inr (s2,2)))))
          else
           some (.inl (w64 (s5 + 1)))
         else
          some (.inr (.inl ()))) 0).bind (Sum.elim (λ(p10:Unit) =>
       some (.inl (w64 (s2 + 1)))) some)
     else
      some (.inr (.inl ()))) 0).bind (Sum.elim (λ(p11:Unit) =>
   some (0,0)) some)
def qdP:Entry:=⟨113,[.ty (.sl (.sl gT))],[(I,0),(I,0)],λx=>qc6 x⟩
def qkn:TH:=qbS [([],113,.block 0,{ lv:=[],ps:=[],abn:=true,D:=⟨70368744173616⟩ }),
 ([],113,.loop 0,{ lv:=[⟨none,4,0⟩],ps:=[(I,0)],D:=⟨70368744173616⟩ }),
 ([],113,.block 2,{ lv:=[],ps:=[],abn:=true,D:=⟨70368609959968⟩ }),
 ([],113,.loop 2,{ lv:=[⟨none,5,0⟩],ps:=[(I,0)],D:=⟨70368609959968⟩ })] []
theorem qkZ:KT qdP qkn [qcJ] 40:=λx=>by kernel_rfl
theorem qkd:OT qdP:=entK (qh qf7 qn) hJ qkZ
def qd3 (a0:(List (List (Int × Int × Unit)))):Option Int :=
 (qc6 a0).bind λx1 =>
 some x1.2
def qeQ:Entry:=⟨33,[.ty (.sl (.sl gT))],[(I,0)],λx=>qd3 x⟩
def qnf:TH:=qbS [] []
theorem qnt:KT qeQ qnf [qdP] 40:=λx=>by kernel_rfl
theorem qnr:OT qeQ:=entK (qh qkd qn) hJ qnt
def qcR (a0:(Int × (List (List (Int × Int × Unit))) × Unit)) (a1:Int):Option Int :=
 (qeS a0.1 (1:Int) (100000000000:Int)).bind λx1 =>
 bif !x1 then
  some 2
 else
  bif !(decide ((a0.2.1.length:Int) = a1)) then
   some 10
  else
   (qA (λ(s3:Int) =>
     bif decide (s3 < a1) then
      (idx a0.2.1 s3).bind λx4 =>
      bif !(decide ((x4.length:Int) = a1)) then
       some (.inr (.inr 10))
      else
       some (.inl (w64 (s3 + 1)))
     else
      some (.inr (.inl ()))) 0).bind (Sum.elim (λ(p5:Unit) =>
   (qA (λ(s7:(Int × Int)) =>
     bif decide (s7.2 < a1) then
      (qA (λ(s9:(Int × Int)) =>
        bif decide (s9.2 < a1) then
         (idx a0.2.1 s7.2).bind λx10 =>
         (idx x10 s9.2).bind λx11 =>
         (qbj x11 (100000000000:Int)).bind λx12 =>
         bif !x12 then
          some (.inr (.inr (.inr (.inr 2))))
         else
          (idx a0.2.1 s7.2).bind λx13 =>
          (idx x13 s9.2).bind λx14 =>
          (idx a0.2.1 s7.2).bind λx15 =>
          (idx x15 s9.2).bind λx16 =>
          (qlz x14.1 x16.2.1).bind λx17 =>
          (qlz s9.1 x17).bind λx18 =>
          some (.inl (x18,w64 (s9.2 + 1)))
        else
         some (.inr (.inl s9.1))) (s7.1,0)).bind (Sum.elim (λ(p19:Int) =>
      some (.inl (p19,w64 (s7.2 + 1)))) some)
     else
      some (.inr (.inl s7.1))) (a0.1,0)).bind (Sum.elim (λ(p20:Int) =>
   bif !(decide (p20 = 1)) then
    some 3
   else
    some 0) some)) some)
def qdI:Entry:=⟨131,[.ty (.pair I (.pair (.sl (.sl gT)) .unit)),.ty I],[(I,0)],λx=>qcR x.1 x.2⟩
def qk5:TH:=qbS [([],131,.block 0,{ lv:=[],ps:=[],abn:=true,D:=⟨2147221536⟩ }),
 ([],131,.loop 0,{ lv:=[⟨none,5,0⟩],ps:=[(I,0)],D:=⟨2147221536⟩,rs:=[⟨0,2⟩],Dn:=⟨2138832928⟩ }),
 ([],131,.block 2,{ lv:=[⟨none,6,0⟩],ps:=[(I,0)],abn:=true,D:=⟨18889465931469990920640⟩ }),
 ([],131,.loop 2,{ lv:=[⟨none,6,0⟩,⟨none,7,0⟩],ps:=[(I,0),(I,0)],D:=⟨18889465931469990920640⟩ }),
 ([],131,.block 4,{ lv:=[⟨none,6,0⟩],ps:=[(I,0)],abn:=true,D:=⟨18889465931203702948160⟩ }),
 ([],131,.loop 4,{ lv:=[⟨none,6,0⟩,⟨none,8,0⟩],ps:=[(I,0),(I,0)],D:=⟨18889465931203702948160⟩,rs:=[⟨0,2⟩],Dn:=⟨18880224535972245668160⟩ })] []
theorem qkV:KT qdI qk5 [qmR,qfF,qcJ] 40:=λx=>by kernel_rfl
theorem qk0:OT qdI:=entK (qh qxJ (qh qlC (qh qf7 qn))) hJ qkV
def quL (a0:Int) (a1:Int):Option (List (List (Int × Int × Unit))) :=
 (qA (λ(s3:((List (List (Int × Int × Unit))) × Int)) =>
   bif decide (s3.2 < a0) then
    (mkS (0,0,()) a0).bind λx4 =>
    bif decide (a0 = a0) then
     (idx x4 s3.2).bind λx5 =>
     (idx x4 s3.2).bind λx6 =>
     let l7:(List (Int × Int × Unit)):=List.set x4 s3.2.toNat (a1,0,())
     (app s3.1 ([l7])).bind λx8 =>
     some (.inl (x8,w64 (s3.2 + 1)))
    else
     none
   else
    some (.inr s3.1)) ([],0)).bind λ(p9:(List (List (Int × Int × Unit)))) =>
 some p9
def qfQ (a0:(List (List (Int × Int × Unit)))) (a1:(List (List (Int × Int × Unit)))):Option Int :=
 (qA (λ(s2:Int) =>
   bif decide (s2 < (a0.length:Int)) then
    (qA (λ(s4:Int) =>
      (idx a0 s2).bind λx5 =>
      bif decide (s4 < (x5.length:Int)) then
       (idx a0 s2).bind λx6 =>
       (idx x6 s4).bind λx7 =>
       (idx a1 s2).bind λx8 =>
       (idx x8 s4).bind λx9 =>
       let v10:Bool:=!(bif decide (x7.1 = x9.1) then (bif decide (x7.2.1 = x9.2.1) then true else false) else false)
       bif v10 then
        some (.inr (.inr (.inr (.inr s2))))
       else
        some (.inl (w64 (s4 + 1)))
      else
       some (.inr (.inl ()))) 0).bind (Sum.elim (λ(p11:Unit) =>
    some (.inl (w64 (s2 + 1)))) some)
   else
    some (.inr (.inl ()))) 0).bind (Sum.elim (λ(p12:Unit) =>
 some (-1)) some)
def qf0:Entry:=⟨132,[.ty (.sl (.sl gT)),.ty (.sl (.sl gT))],[(I,0)],λx=>qfQ x.1 x.2⟩
def qo3:TH:=qbS [([],132,.block 0,{ lv:=[],ps:=[],abn:=true,D:=⟨274877906912⟩ }),
 ([],132,.loop 0,{ lv:=[⟨none,5,0⟩],ps:=[(I,0)],D:=⟨274877906912⟩ }),
 ([],132,.block 2,{ lv:=[],ps:=[],abn:=true,D:=⟨274877898816⟩ }),
 ([],132,.loop 2,{ lv:=[⟨none,6,0⟩],ps:=[(I,0)],D:=⟨274877898816⟩ })] []
theorem qp9:KT qf0 qo3 [] 40:=λx=>by kernel_rfl
theorem qpZ:OT qf0:=entK qn hJ qp9
def qfb (a0:(List (Int × Int × Unit))) (a1:(List (Int × Int × Unit))):Option Bool :=
 bif !(decide ((a0.length:Int) = (a1.length:Int))) then
  some false
 else
  (qA (λ(s2:Int) =>
    bif decide (s2 < (a0.length:Int)) then
     (idx a0 s2).bind λx3 =>
     (idx a1 s2).bind λx4 =>
     let v5:Bool:=!(bif decide (x3.1 = x4.1) then (bif decide (x3.2.1 = x4.2.1) then true else false) else false)
     bif v5 then
      some (.inr (.inr false))
     else
      some (.inl (w64 (s2 + 1)))
    else
     some (.inr (.inl ()))) 0).bind (Sum.elim (λ(p6:Unit) =>
  some true) some)
def qgU:Entry:=⟨35,[.ty (.sl gT),.ty (.sl gT)],[(.bool,0)],λx=>qfb x.1 x.2⟩
def qqR:TH:=qbS [([],35,.block 0,{ lv:=[],ps:=[],abn:=true,D:=⟨67106848⟩ }),
 ([],35,.loop 0,{ lv:=[⟨none,5,0⟩],ps:=[(I,0)],D:=⟨67106848⟩ })] []
theorem qqH:KT qgU qqR [] 40:=λx=>by kernel_rfl
theorem qqT:OT qgU:=entK qn hJ qqH
def qdC (a0:(List (List (Int × Int × Unit)))) (a1:(List (List (Int × Int × Unit)))):Option Bool :=
 bif !(decide ((a0.length:Int) = (a1.length:Int))) then
  some false
 else
  (qA (λ(s2:Int) =>
    bif decide (s2 < (a0.length:Int)) then
     (idx a0 s2).bind λx3 =>
     (idx a1 s2).bind λx4 =>
     (qfb x3 x4).bind λx5 =>
     bif !x5 then
      some (.inr (.inr false))
     else
      some (.inl (w64 (s2 + 1)))
    else
     some (.inr (.inl ()))) 0).bind (Sum.elim (λ(p6:Unit) =>
  some true) some)
def qd5:Entry:=⟨26,[.ty (.sl (.sl gT)),.ty (.sl (.sl gT))],[(.bool,0)],λx=>qdC x.1 x.2⟩
def qlW:TH:=qbS [([],26,.block 0,{ lv:=[],ps:=[],abn:=true,D:=⟨134215712⟩ }),
 ([],26,.loop 0,{ lv:=[⟨none,5,0⟩],ps:=[(I,0)],D:=⟨134215712⟩ })] []
theorem qlF:KT qd5 qlW [qgU] 40:=λx=>by kernel_rfl
theorem qlb:OT qd5:=entK (qh qqT qn) hJ qlF
def qbL (a0:(Int × (List (List (Int × Int × Unit))) × Unit)) (a1:(Int × (List (List (Int × Int × Unit))) × Unit)):Option Bool :=
 (bif decide (a0.1 = a1.1) then
   (qdC a0.2.1 a1.2.1).bind λx1 =>
   some x1
  else
   some false).bind λ(p2:Bool) =>
 some p2
def qdh:Entry:=⟨57,[.ty (.pair I (.pair (.sl (.sl gT)) .unit)),.ty (.pair I (.pair (.sl (.sl gT)) .unit))],[(.bool,0)],λx=>qbL x.1 x.2⟩
def qjV:TH:=qbS [([],57,.region 1,{ lv:=[⟨none,4,0⟩],ps:=[(.bool,0)],D:=⟨131056⟩,rs:=[⟨0,2⟩,⟨0,3⟩],Dn:=⟨120656⟩ })] []
theorem qjO:KT qdh qjV [qd5] 40:=λx=>by kernel_rfl
theorem qjR:OT qdh:=entK (qh qlb qn) hJ qjO
def qgK (a0:(List (List (Int × Int × Unit)))) (a1:(Int × Int × Unit)):Option (List (List (Int × Int × Unit))) :=
 (qA (λ(s3:((List (List (Int × Int × Unit))) × Int)) =>
   bif decide (s3.2 < (a0.length:Int)) then
    (qA (λ(s6:((List (Int × Int × Unit)) × Int)) =>
      (idx a0 s3.2).bind λx7 =>
      bif decide (s6.2 < (x7.length:Int)) then
       (idx a0 s3.2).bind λx8 =>
       (idx x8 s6.2).bind λx9 =>
       (qf2 x9 a1).bind λx10 =>
       (app s6.1 ([x10])).bind λx11 =>
       some (.inl (x11,w64 (s6.2 + 1)))
      else
       some (.inr s6.1)) ([],0)).bind λ(p12:(List (Int × Int × Unit))) =>
    (app s3.1 ([p12])).bind λx13 =>
    some (.inl (x13,w64 (s3.2 + 1)))
   else
    some (.inr s3.1)) ([],0)).bind λ(p14:(List (List (Int × Int × Unit)))) =>
 some p14
def qgT:Entry:=⟨133,[.ty (.sl (.sl gT)),.ty gT],[((.sl (.sl gT)),2)],λx=>qgK x.1 x.2⟩
def qqO:TH:=qbS [([],133,.block 0,{ lv:=[⟨none,5,0⟩],ps:=[((.sl (.sl gT)),2)],D:=⟨1099511627744⟩ }),
 ([],133,.loop 0,{ lv:=[⟨none,5,0⟩,⟨none,6,0⟩],ps:=[((.sl (.sl gT)),2),(I,0)],D:=⟨1099511627744⟩ }),
 ([],133,.block 2,{ lv:=[⟨none,7,0⟩],ps:=[((.sl gT),1)],D:=⟨68719444352⟩ }),
 ([],133,.loop 2,{ lv:=[⟨none,7,0⟩,⟨none,8,0⟩],ps:=[((.sl gT),1),(I,0)],D:=⟨68719444352⟩ })] []
theorem qqQ:KT qgT qqO [qeH] 40:=λx=>by kernel_rfl
theorem qqE:OT qgT:=entK (qh qhz qn) hJ qqQ
def qcH (a0:((List (List (Int × Int × Unit))) × (List (List (Int × Int × Unit))) × Unit)):Option ((Int × (List (List (Int × Int × Unit))) × Unit) × Int) :=
 (qbP a0).bind λx1 =>
 bif !(decide (x1.2.2 = 0)) then
  some ((0,[],()),x1.2.2)
 else
  (qaP x1.1.1 x1.2.1).bind λx2 =>
  (qaM x1.1.2.1 x2.2.1).bind λx3 =>
  (qdr x3 x2.1).bind λx4 =>
  some (x4,0)
def qeJ:Entry:=⟨52,[.ty (.pair (.sl (.sl gT)) (.pair (.sl (.sl gT)) .unit))],[((.pair I (.pair (.sl (.sl gT)) .unit)),2),(I,0)],λx=>qcH x⟩
def qni:TH:=qbS [] []
theorem qmB:KT qeJ qni [qbu,qbh,qcj,qdD] 40:=λx=>by kernel_rfl
theorem qmX:OT qeJ:=entK (qh qeE (qh qdc (qh qfo (qh qib qn)))) hJ qmB
def qbr (a0:((List (List (Int × Int × Unit))) × (List (List (Int × Int × Unit))) × Unit)) (a1:(Int × (List (List (Int × Int × Unit))) × Unit)):Option (Int × Int) :=
 (qbP a0).bind λx1 =>
 (bif decide (x1.2.2 = 0) then
   (qcS a1 (x1.1.1.length:Int)).bind λx2 =>
   some x2
  else
   some x1.2.2).bind λ(p3:Int) =>
 bif !(decide (p3 = 0)) then
  some (0,p3)
 else
  (qaM a1.2.1 x1.1.1).bind λx4 =>
  (qca x1.1.2.1 a1.1).bind λx5 =>
  (qfJ x4 x5).bind λx6 =>
  bif x6.2 then
   some (x6.1,19)
  else
   some (0,0)
def qcI:Entry:=⟨53,[.ty (.pair (.sl (.sl gT)) (.pair (.sl (.sl gT)) .unit)),.ty (.pair I (.pair (.sl (.sl gT)) .unit))],[(I,0),(I,0)],λx=>qbr x.1 x.2⟩
def qje:TH:=qbS [([],53,.cond 18,{ lv:=[⟨none,8,0⟩],ps:=[(I,0)],D:=⟨16253184⟩,rs:=[⟨0,6⟩],Dn:=⟨15204608⟩ })] []
theorem qjd:KT qcI qje [qge,qcA,qbh,qcj,qdE] 40:=λx=>by kernel_rfl
theorem qiA:OT qcI:=entK (qh qpT (qh qiN (qh qdc (qh qfo (qh qkm qn))))) hJ qjd
def qcb (a0:((List (List (Int × Int × Unit))) × (List (List (Int × Int × Unit))) × Unit)) (a1:(Int × (List (List (Int × Int × Unit))) × Unit)):Option (Int × Int) :=
 (qbp a0).bind λx1 =>
 bif !(decide (x1 = 0)) then
  some (0,x1)
 else
  (idx a0.1 0).bind λx2 =>
  (qcR a1 (x2.length:Int)).bind λx3 =>
  bif !(decide (x3 = 0)) then
   some (0,x3)
  else
   (qbm a0.1 a0.1).bind λx4 =>
   (qfM a1.2.1 x4).bind λx5 =>
   (qbm a0.2.1 a0.1).bind λx6 =>
   (qgK x6 (a1.1,0,())).bind λx7 =>
   (qfQ x5 x7).bind λx8 =>
   bif decide (x8>=0) then
    some (x8,19)
   else
    some (0,0)
def qcD:Entry:=⟨55,[.ty (.pair (.sl (.sl gT)) (.pair (.sl (.sl gT)) .unit)),.ty (.pair I (.pair (.sl (.sl gT)) .unit))],[(I,0),(I,0)],λx=>qcb x.1 x.2⟩
def qiF:TH:=qbS [] []
theorem qiH:KT qcD qiF [qeo,qcd,qgu,qdI,qf0,qgT] 40:=λx=>by kernel_rfl
theorem qjh:OT qcD:=entK (qh qi0 (qh qgo (qh qqp (qh qk0 (qh qpZ (qh qqE qn)))))) hJ qiH
def qed (a0:(Int × Int × Unit)):Option Bool :=
 (qav a0 (10000:Int)).bind λx1 =>
 some (!x1)
def qeP:Entry:=⟨160,[.ty gT],[(.bool,0)],λx=>qed x⟩
def qm9:TH:=qbS [] []
theorem qnb:KT qeP qm9 [qaC] 40:=λx=>by kernel_rfl
theorem qnl:OT qeP:=entK (qh qbH qn) hJ qnb
def qG (a0:(List (Int × Int × Unit))):Option Int :=
 (qA (λ(s2:Int) =>
   bif decide (s2 < (a0.length:Int)) then
    (idx a0 s2).bind λx3 =>
    (qed x3).bind λx4 =>
    bif x4 then
     some (.inr (.inr s2))
    else
     some (.inl (w64 (s2 + 1)))
   else
    some (.inr (.inl ()))) 0).bind (Sum.elim (λ(p5:Unit) =>
 some (-1)) some)
def qE:Entry:=⟨183,[.ty (.sl gT),.fn 160 []],[(I,0)],λx=>qG x.1⟩
def qa9:TH:=qbS [([],183,.block 0,{ lv:=[],ps:=[],abn:=true,D:=⟨524064⟩ }),
 ([],183,.loop 0,{ lv:=[⟨none,8,0⟩],ps:=[(I,0)],D:=⟨524064⟩ })] []
theorem qba:KT qE qa9 [qeP] 40:=λx=>by kernel_rfl
theorem qbb:OT qE:=entK (qh qnl qn) hJ qba
def qq (a0:(List (Int × Int × Unit))):Option Bool :=
 (qG a0).bind λx1 =>
 some (decide (x1>=0))
def qz:Entry:=⟨145,[.ty (.sl gT),.fn 160 []],[(.bool,0)],λx=>qq x.1⟩
def qaW:TH:=qbS [] []
theorem qaY:KT qz qaW [qE] 40:=λx=>by kernel_rfl
theorem qaV:OT qz:=entK (qh qbb qn) hJ qaY
def qfN (a0:(List (Int × Int × Unit))) (a1:Int):Option Int :=
 (qq a0).bind λx1 =>
 (qk (decide ((a0.length:Int) = a1)) (10:Int)).bind λx2 =>
 (qk (!x1) (2:Int)).bind λx3 =>
 (qN ([x2,x3])).bind λx4 =>
 some x4
def qgm:Entry:=⟨109,[.ty (.sl gT),.ty I],[(I,0)],λx=>qfN x.1 x.2⟩
def qqr:TH:=qbS [] []
theorem qqm:KT qgm qqr [qbE,qbO,qz] 40:=λx=>by kernel_rfl
theorem qpq:OT qgm:=entK (qh qcZ (qh qdj (qh qaV qn))) hJ qqm
def qe5 (a0:(List (List (Int × Int × Unit)))) (a1:(List (Int × Int × Unit))):Option (List (Int × Int × Unit)) :=
 (qA (λ(s3:((List (Int × Int × Unit)) × Int)) =>
   bif decide (s3.2 < (a0.length:Int)) then
    (idx a0 s3.2).bind λx4 =>
    (qA (λ(s6:((Int × Int) × Int)) =>
      bif decide (s6.2 < (x4.length:Int)) then
       (idx x4 s6.2).bind λx7 =>
       (flo x7.1).bind λx8 =>
       (flo x7.2.1).bind λx9 =>
       (idx a1 s6.2).bind λx10 =>
       (flo x10.1).bind λx11 =>
       (idx a1 s6.2).bind λx12 =>
       (flo x12.2.1).bind λx13 =>
       (flo (x8 * x11)).bind λx14 =>
       (flo (x9 * x13)).bind λx15 =>
       (flo (x14 - x15)).bind λx16 =>
       (flo (x8 * x13)).bind λx17 =>
       (flo (x9 * x11)).bind λx18 =>
       (flo (x17 + x18)).bind λx19 =>
       (flo (s6.1.1 + x16)).bind λx20 =>
       (flo (s6.1.2 + x19)).bind λx21 =>
       some (.inl ((x20,x21),w64 (s6.2 + 1)))
      else
       some (.inr s6.1)) ((0,0),0)).bind λ(p22:(Int × Int)) =>
    (flo p22.1).bind λx23 =>
    (flo p22.2).bind λx24 =>
    (app s3.1 ([(x23,x24,())])).bind λx25 =>
    some (.inl (x25,w64 (s3.2 + 1)))
   else
    some (.inr s3.1)) ([],0)).bind λ(p26:(List (Int × Int × Unit))) =>
 some p26
def qfq:Entry:=⟨99,[.ty (.sl (.sl gT)),.ty (.sl gT)],[((.sl gT),1)],λx=>qe5 x.1 x.2⟩
def qn6:TH:=qbS [([],99,.block 0,{ lv:=[⟨none,5,0⟩],ps:=[((.sl gT),1)],D:=⟨576460752303417248⟩,wr:=[⟨0,10⟩] }),
 ([],99,.loop 0,{ lv:=[⟨none,5,0⟩,⟨none,13,0⟩],ps:=[((.sl gT),1),(I,0)],D:=⟨576460752303417248⟩,wr:=[⟨0,10⟩] }),
 ([],99,.block 2,{ lv:=[⟨none,8,0⟩],ps:=[(.cx,0)],D:=⟨281474976188288⟩,wr:=[⟨0,10⟩] }),
 ([],99,.loop 2,{ lv:=[⟨none,8,0⟩,⟨none,19,0⟩],ps:=[(.cx,0),(I,0)],D:=⟨281474976188288⟩,wr:=[⟨0,10⟩],rs:=[⟨0,10⟩],Dn:=⟨281474674197376⟩ })] []
theorem qoc:KT qfq qn6 [] 40:=λx=>by kernel_rfl
theorem qn0:OT qfq:=entK qn hJ qoc
def qck (a0:(List (List (Int × Int × Unit)))) (a1:(List (Int × Int × Unit))):Option ((List (Int × Int × Unit)) × Int) :=
 (qea a0).bind λx1 =>
 (qfN a1 (a0.length:Int)).bind λx2 =>
 (qN ([x1,x2])).bind λx3 =>
 bif !(decide (x3 = 0)) then
  some ([],x3)
 else
  (qe5 a0 a1).bind λx4 =>
  some (x4,0)
def qeq:Entry:=⟨28,[.ty (.sl (.sl gT)),.ty (.sl gT)],[((.sl gT),1),(I,0)],λx=>qck x.1 x.2⟩
def qlw:TH:=qbS [] []
theorem qlc:KT qeq qlw [qbE,qgm,qeI,qfq] 40:=λx=>by kernel_rfl
theorem qlV:OT qeq:=entK (qh qcZ (qh qpq (qh qmZ (qh qn0 qn)))) hJ qlc
def qfp (a0:(List (List (Int × Int × Unit)))) (a1:((List (List (Int × Int × Unit))) × (List (List (Int × Int × Unit))) × Unit)) (a2:(Int × (List (List (Int × Int × Unit))) × Unit)):Option Bool :=
 (qkk).bind λx1 =>
 bif !x1 then
  some false
 else
  ((qfK a1).bind λx2 =>
   bif !x2 then
    some true
   else
    (qiy a0).bind λx3 =>
    bif !x3 then
     some true
    else
     (qiy a2.2.1).bind λx4 =>
     bif !x4 then
      some true
     else
      (qbp a1).bind λx5 =>
      some (!(decide (x5 = 0)))).bind λ(p6:Bool) =>
  bif p6 then
   some true
  else
   (qa8 a1).bind λx7 =>
   (qcH x7).bind λx8 =>
   bif !(decide (x8.2 = 0)) then
    some false
   else
    (qa8 a1).bind λx9 =>
    (qbI x8.1).bind λx10 =>
    (qbr x9 x10).bind λx11 =>
    (bif !(decide (x11.2 = 0)) then
      some true
     else
      some (!(decide (x11.1 = 0)))).bind λ(p12:Bool) =>
    bif p12 then
     some false
    else
     (qcb a1 x8.1).bind λx13 =>
     bif !(decide (x13.2 = 0)) then
      some false
     else
      (qa8 a1).bind λx14 =>
      (qbI a2).bind λx15 =>
      (qbr x14 x15).bind λx16 =>
      (qbL a2 x8.1).bind λx17 =>
      bif !(decide (x16.2 = 0) == x17) then
       some false
      else
       ((qd3 a0).bind λx18 =>
        bif !(decide (x18 = 0)) then
         some true
        else
         (idx a1.1 0).bind λx19 =>
         some (!(decide ((a0.length:Int) = (x19.length:Int))))).bind λ(p20:Bool) =>
       bif p20 then
        some true
       else
        (qa8 a1).bind λx21 =>
        (qA (λ(s23:(Int × (List (List (Int × Int × Unit))) × (List (List (Int × Int × Unit))))) =>
          bif decide (s23.1 < (a1.1.length:Int)) then
           (qaU a0).bind λx24 =>
           (idx a1.1 s23.1).bind λx25 =>
           (qby x25).bind λx26 =>
           (qck x24 x26).bind λx27 =>
           (bif !(decide (x27.2 = 0)) then
             some true
            else
             some (!(decide ((x27.1.length:Int) = (a0.length:Int))))).bind λ(p28:Bool) =>
           bif p28 then
            some (.inr (.inr false))
           else
            (idx s23.2.2 s23.1).bind λx29 =>
            (idx s23.2.2 s23.1).bind λx30 =>
            let l31:(List (List (Int × Int × Unit))):=List.set s23.2.2 s23.1.toNat x27.1
            some (.inl (w64 (s23.1 + 1),s23.2.1,l31))
          else
           some (.inr (.inl (s23.2.1,s23.2.2)))) (0,x21.1,x21.2.1)).bind (Sum.elim (λ(p32:((List (List (Int × Int × Unit))) × (List (List (Int × Int × Unit))))) =>
        (qbp (p32.1,p32.2,())).bind λx33 =>
        bif !(decide (x33 = 0)) then
         some true
        else
         (qa8 (p32.1,p32.2,())).bind λx34 =>
         (qcH x34).bind λx35 =>
         (bif !(decide (x35.2 = 0)) then
           some true
          else
           (qbL x35.1 (1,a0,())).bind λx36 =>
           some (!x36)).bind λ(p37:Bool) =>
         bif p37 then
          some false
         else
          (qA (λ(s39:Int) =>
            bif decide (s39 < (a0.length:Int)) then
             (qa8 (p32.1,p32.2,())).bind λx40 =>
             (qc1 x40 s39).bind λx41 =>
             (bif !(decide (x41.2 = 12)) then
               bif !(decide (x41.2 = 0)) then
                some true
               else
                let v42:Bool:=!(bif decide (x41.1.1 = 1) then (bif decide (x41.1.2.1 = 1) then true else false) else false)
                some v42
              else
               some false).bind λ(p43:Bool) =>
             bif p43 then
              some (.inr (.inr false))
             else
              some (.inl (w64 (s39 + 1)))
            else
             some (.inr (.inl ()))) 0).bind (Sum.elim (λ(p44:Unit) =>
          some true) some)) some)
def qcq:Entry:=⟨9,[.ty (.sl (.sl gT)),.ty (.pair (.sl (.sl gT)) (.pair (.sl (.sl gT)) .unit)),.ty (.pair I (.pair (.sl (.sl gT)) .unit))],[(.bool,0)],λx=>qfp x.1 x.2.1 x.2.2⟩
def qlE:TH:=qbS [([],9,.region 3,{ lv:=[⟨none,44,0⟩],ps:=[(.bool,0)],D:=⟨35184304979968⟩,rs:=[⟨0,5⟩],Dn:=⟨35149945241600⟩ }),
 ([],9,.region 9,{ lv:=[⟨none,66,0⟩],ps:=[(.bool,0)],D:=⟨145268109580462718976⟩ }),
 ([],9,.region 17,{ lv:=[⟨none,101,0⟩],ps:=[(.bool,0)],D:=⟨5069983430893274915849363259392⟩,rs:=[⟨0,4⟩],Dn:=⟨5030369349636142747052591284224⟩ }),
 ([],9,.block 0,{ lv:=[⟨some 0,15,0⟩,⟨some 0,15,1⟩],ps:=[((.sl (.sl gT)),2),((.sl (.sl gT)),2)],abn:=true,D:=⟨174224571853379366618843605385602371354624⟩,wr:=[⟨0,7⟩,⟨0,15⟩],rs:=[⟨0,4⟩],Dn:=⟨174224571812814547411540264537707868782592⟩ }),
 ([],9,.loop 0,{ lv:=[⟨none,16,0⟩,⟨some 0,15,0⟩,⟨some 0,15,1⟩],ps:=[(I,0),((.sl (.sl gT)),2),((.sl (.sl gT)),2)],D:=⟨174224571853379366618843605385602371354624⟩,wr:=[⟨0,7⟩,⟨0,15⟩],rs:=[⟨0,4⟩,⟨0,15⟩],Dn:=⟨168780033172892097856815756696814260518912⟩ }),
 ([],9,.region 24,{ lv:=[⟨none,131,0⟩],ps:=[(.bool,0)],D:=⟨5433884046768736088430763262426048626688⟩ }),
 ([],9,.region 30,{ lv:=[⟨none,154,0⟩],ps:=[(.bool,0)],D:=⟨45582723185796593701299008149293250918223970304⟩ }),
 ([],9,.block 2,{ lv:=[],ps:=[],abn:=true,D:=⟨766247724761018262588457319710003569425525196858720256⟩,wr:=[⟨0,22⟩] }),
 ([],9,.loop 2,{ lv:=[⟨none,21,0⟩],ps:=[(I,0)],D:=⟨766247724761018262588457319710003569425525196858720256⟩,wr:=[⟨0,22⟩],rs:=[⟨0,22⟩],Dn:=⟨766247724761018262588457319710003569425525196854525952⟩ }),
 ([],9,.region 36,{ lv:=[⟨none,178,0⟩],ps:=[(.bool,0)],D:=⟨765873626013787718032113370257979223356337642360799232⟩ })] []
theorem qlp:KT qcq qlE [qcu,qcI,qdS,qeJ,qeq,qeg,qk1,qgd,qcD,qbJ,qdg,qfx,qcd,qeQ,qdh] 40:=λx=>by kernel_rfl
theorem qlY:OT qcq:=entK (qh qgC (qh qiA (qh qk7 (qh qmX (qh qlV (qh qsF (qh qu9 (qh qqa (qh qjh (qh qd7 (qh qjP (qh qn8 (qh qgo (qh qnr (qh qjR qn))))))))))))))) hJ qlp
end
end Go.Proofs.YtbcdgfgacigaoaaGreat
end
section
namespace Go.Proofs.YtbcdgfgacigaoaaGreat.Mat
open Go Go.Ab Go.Tx Go.Proofs.YtbcdgfgacigaoaaGreat
theorem wid {n:Int} (h1 : -9223372036854775808<=n) (h2:n<=9223372036854775807):w64 n = n:=qm0 h1 h2
theorem qpn (a b c:Int):qeS a b c = some (decide (b<=a/\a<=c)):=by
 unfold qeS;by_cases h:b<=a <;> simp [h]
theorem qpY (a b c:Int):qdY a b c = some (decide (b<=a/\a<=c)):=by
 unfold qdY;by_cases h:b<=a <;> simp [h]
theorem qmW (a k:Int) (h0:0<=k) (h1:k<=4611686018427387904):qc2 a k = some (decide (-k<=a/\a<=k)):=by
 unfold qc2;rw [qpY,wid (by omega) (by omega)];simp
theorem qgr (b:Bool) (e:Int):qk b e = some (if b then 0 else e):=by cases b <;> rfl
theorem qox (l:List Int) (h:l.length<=1000000000):qN l = some (qvE l):=by
 unfold qN;rw [qzK l h]
instance (B:Int) (z:G):Decidable (Bd B z):=inferInstanceAs (Decidable (_/\_))
theorem qdz (z:G) (k:Int) (h0:0<=k) (h1:k<=4611686018427387904):qav z k = some (decide (Bd k z)):=by
 unfold qav;rw [qmW _ _ h0 h1,qmW _ _ h0 h1];unfold Bd;by_cases c : -k<=z.1/\z.1<=k <;> simp [c]
theorem qfG (z:G) (k:Int) (h0:0<=k) (h1:k<=4611686018427387904):qbj z k = some (decide (Bd k z)):=by
 unfold qbj;rw [wid (by omega) (by omega),qpn,qpn];unfold Bd;have e:(0:Int) - k = -k:=by omega
 rw [e];by_cases c : -k<=z.1/\z.1<=k <;> simp [c]
def qfj (B:Int) (z:G):Bool:=!(decide (Bd B z))
def qAo (n:Nat) (i:Nat) (r:List G):Option (Int × Int):=if r.length = n then (if r.any (qfj 20) then some ((i:Int),2) else none) else some ((i:Int),10)
def qEj (m:Mx):Int × Int:=if m.length = 0 then (0,10) else if 3 < m.length then (0,8) else (qdm (qAo m.length) 0 m).getD (0,0)
def qzX (m:Mx):Int:=(qEj m).2
theorem qvT (r:List G) (h:r.length<=1000000000):qp r = some (r.any (qfj 20)):=by
 unfold qp qD;refine qwc r qb7 (qfj 20) (λx _=>?_) h;unfold qb7;rw [qdz _ _ (by omega) (by omega)]; rfl
theorem qqF {m:Mx} (h:m.length<=1000000000) (hr:∀ r ∈ m,r.length<=1000000000):qcX m = some (qEj m):=by
 unfold qcX qEj;simp only [qgr,qa];rw [qox _ (by simp)];simp only [qa];by_cases h0:m.length = 0
 ·have h0':¬ ((m.length:Int) > 0):=by omega
  simp [h0,qvE]
 ·have h0':(m.length:Int) > 0:=by omega
  by_cases h4:3 < m.length
  ·have h4':¬ ((m.length:Int)<=3):=by omega
   simp [h0,h0',h4,h4',qvE]
  ·have h4':(m.length:Int)<=3:=by omega
   simp only [h0,h0',h4,h4',decide_true,if_true,if_false,qvE,Bool.not_true,cond_false];rw [qe4 m _ (qAo m.length) (λi r hi=>?_),qcl]
   ·cases qdm (qAo m.length) 0 m <;> rfl
   ·have hlt:=qf3 hi;rw [qaA hi];simp only [qa];rw [qvT r (hr r (List.mem_of_getElem? hi))];simp only [qa];rw [qox _ (by simp),wid (by omega) (by omega)];simp only [qa];unfold qAo;by_cases c:r.length = m.length
    ·have c':(r.length:Int) = (m.length:Int):=by omega
     cases hb:r.any (qfj 20)
     ·simp [c,c',hb,qvE,stp]
     ·simp [c,c',hb,qvE,stp]
    ·have c':¬ (r.length:Int) = (m.length:Int):=by omega
     simp [c,c',qvE,stp]
theorem qmD {m:Mx} (h:m.length<=1000000000) (hr:∀ r ∈ m,r.length<=1000000000):qc6 m = some (qEj m):=by
 unfold qc6 qEj;by_cases h0:m.length = 0
 ·simp [h0]
 have h0':¬ ((m.length:Int) = 0):=by omega
 by_cases h4:3 < m.length
 ·have h4':(m.length:Int) > 3:=by omega
  simp [h0,h0',h4,h4']
 have h4':¬ ((m.length:Int) > 3):=by omega
 simp only [h0,h0',h4,h4',decide_false,cond_false,if_false];rw [qe4 m _ (qAo m.length) (λi r hi=>?_),qcl]
 ·cases qdm (qAo m.length) 0 m <;> rfl
 ·have hlt:=qf3 hi;have hrl:=hr r (List.mem_of_getElem? hi);rw [qaA hi];simp only [qa];unfold qAo;by_cases c:r.length = m.length
  case neg =>
   have c':¬ (r.length:Int) = (m.length:Int):=by omega
   simp [c,c',stp]
  have c':decide ((r.length:Int) = (m.length:Int)) = true:=decide_eq_true (by omega);simp only [c',Bool.not_true,cond_false];rw [if_pos c];rw [qe4 r _ (λ_ z=>if qfj 20 z then some (Sum.inr (Sum.inr ((i:Int),(2:Int))):Int ⊕ (Unit ⊕ (Int × Int))) else none) (λk z hk=>?_),qcl]
  ·cases hf:qdm (λ_ z=>if qfj 20 z then some (Sum.inr (Sum.inr ((i:Int),(2:Int))):Int ⊕ (Unit ⊕ (Int × Int))) else none) 0 r with
   | none =>
    rw [qcU] at hf;have hb:r.any (qfj 20) = false:=by
     rw [List.any_eq_false];intro x hx;obtain ⟨k,hk⟩:=List.mem_iff_getElem?.1 hx;have:=hf k x hk;simpa using this
    simp only [hb,qf,if_false,stp];rw [wid (by omega) (by omega)]
   | some q =>
    obtain ⟨k,z,h1,h2,_⟩:=qeX hf;have hp:qfj 20 z = true:=by
     cases hp:qfj 20 z
     ·simp [hp] at h2
     ·rfl
    have hb:r.any (qfj 20) = true:=List.any_eq_true.2 ⟨z,List.mem_of_getElem? h1,hp⟩;simp only [hp,if_true,qb] at h2;simp only [hb,if_true,stp,<- h2]
  ·have hlk:=qf3 hk;simp only [qa,qaA hk];rw [qfG _ _ (by omega) (by omega)];simp only [qa];rw [wid (by omega) (by omega)];unfold qfj;by_cases d:Bd 20 z <;> simp [d,stp]
theorem quQ {m:Mx} (h:m.length<=1000000000) (hr:∀ r ∈ m,r.length<=1000000000):qea m = some (qzX m):=by
 unfold qea; rw [qqF h hr]; rfl
theorem qt1 {m:Mx} (h:m.length<=1000000000) (hr:∀ r ∈ m,r.length<=1000000000):qd3 m = some (qzX m):=by
 unfold qd3; rw [qmD h hr]; rfl
theorem qCX {m:Mx} (h:qzX m = 0):1<=m.length/\m.length<=3/\qEm m.length m.length m/\BdM 20 m:=by
 unfold qzX qEj at h;split at h
 ·cases h
 ·rename_i h1;split at h
  ·cases h
  ·rename_i h2;have hn:qdm (qAo m.length) 0 m = none:=by
    cases hf:qdm (qAo m.length) 0 m with
    | none=>rfl
    | some r =>
     exfalso
     rw [hf] at h;obtain ⟨i,a,_,h3,_⟩:=qeX hf;unfold qAo at h3;split at h3
     ·split at h3
      ·cases h3; cases h
      ·cases h3
     ·cases h3; cases h
   rw [qcU] at hn;have key:∀ r ∈ m,r.length = m.length/\r.any (qfj 20) = false:=λr hr=>by
    obtain ⟨i,hi⟩:=List.mem_iff_getElem?.1 hr;have:=hn i r hi;unfold qAo at this;split at this
    ·rename_i c;split at this
     ·cases this
     ·rename_i d; exact ⟨c,by simpa using d⟩
    ·cases this
   refine ⟨by omega,by omega,⟨rfl,λr hr=>(key r hr).1⟩,λr hr z hz=>?_⟩;have:=List.any_eq_false.1 (key r hr).2 z hz;unfold qfj at this;simpa using this
theorem qze {n c i k:Nat} (f:Nat->Nat->G) (hi:i < n) (hk:k < c):qaL (mx n c f) (i:Int) (k:Int) = some (f i k):=by
 unfold qaL;rw [qaA (qih f hi),qa,qaA (qcn (λk=>f i k) hk)]; rfl
theorem qgf {A B:Int} {a b:G} (h:Bd A a) (h':Bd B b) (hb:2 * (A * B)<=9000000000000000000):qP a b = some (qw a b):=congrArg some (qEM h h' hb)
theorem qsJ {A B:Int} {a b:G} (h:Bd A a) (h':Bd B b) (hb:A + B<=9000000000000000000):qbB a b = some (qcy a b):=congrArg some (qE5 h h' hb)
theorem qsH {A B:Int} {a b:G} (h:Bd A a) (h':Bd B b) (hb:2 * (A * B)<=9000000000000000000):qf2 a b = some (qw a b):=congrArg some (qEM h h' hb)
theorem qv0 {A B:Int} {a b:G} (h:Bd A a) (h':Bd B b) (hb:A + B<=9000000000000000000):qhp a b = some (qcy a b):=congrArg some (qE5 h h' hb)
theorem le_next {i n:Nat} {A:Int} (hA:0<=A) (h:i < n) (hb:(n:Int) * A<=9000000000000000000):(i:Int) * A + A<=9000000000000000000:=by
 have:((i + 1:Nat):Int) * A<=(n:Int) * A:=Int.mul_le_mul_of_nonneg_right (by omega) hA;have e:((i + 1:Nat):Int) * A = (i:Int) * A + A:=by rw [Int.natCast_add,Int.add_mul]; simp
 omega
theorem qAN {a b c i k:Nat} {A B:Int} {f h:Nat->Nat->G} (hA:0<=A) (hB:0<=B) (hf:BdF A a b f) (hh:BdF B b c h) (hb:b<=1000) (hbd:(b:Int) * (2 * (A * B))<=9000000000000000000) (hb1:2 * (A * B)<=9000000000000000000) (hi:i < a) (hk:k < c) :
  qbi (i:Int) (k:Int) (mx b c h) (mx a b f) = some (qR b f h i k):=by
 unfold qbi;rw [qbF];have h0:0<=2 * (A * B):=by have:=Int.mul_nonneg hA hB; omega
 rw [qjD b hb h0 hbd (λj=>qw (f i j) (h j k)) (λj hj=>(hf i j hi hj).mul (hh j k hj hk)) (λj hj x y hxy=>?_) (λx y=>?_)]
 ·rfl
 ·have e0:decide ((j:Int) < (b:Int)) = true:=decide_eq_true (by omega);simp only [e0,cond_true];rw [qze f hi hj,qze h hj hk];simp only [qa];rw [qgf (hf i j hi hj) (hh j k hj hk) hb1];simp only [qa];rw [qsJ hxy ((hf i j hi hj).mul (hh j k hj hk)) (le_next h0 hj hbd)];rfl
 ·have e0:decide ((b:Int) < (b:Int)) = false:=by simp
  simp only [e0,cond_false]
theorem qoE {a b c:Nat} {A B:Int} {f h:Nat->Nat->G} (hA:0<=A) (hB:0<=B) (hf:BdF A a b f) (hh:BdF B b c h) (ha:a<=1000) (hb:b<=1000) (hb1:1<=b) (hc:c<=1000) (hbd:(b:Int) * (2 * (A * B))<=9000000000000000000) :
  qaM (mx a b f) (mx b c h) = some (mx a c (qR b f h)):=by
 unfold qaM qaI;rw [qgR,qih h (by omega),qa,qW,qbF];have h0:0<=2 * (A * B):=by have:=Int.mul_nonneg hA hB; omega
 have h1:2 * (A * B)<=9000000000000000000:=by
  have:=Int.mul_le_mul_of_nonneg_right (show (1:Int)<=b by omega) h0;omega
 have:=qhs a c ha hc (λi k=>qbi i k (mx b c h) (mx a b f)) (qR b f h) (λi k hi hk=>qAN hA hB hf hh hb hbd h1 hi hk);show Option.bind _ _ = _;rw [this]; rfl
theorem qyd {a b c:Nat} {A B:Int} {f h:Nat->Nat->G} (hA:0<=A) (hB:0<=B) (hf:BdF A a b f) (hh:BdF B b c h) (ha:a<=1000) (hb:b<=1000) (hb1:1<=b) (hc:c<=1000) (hbd:(b:Int) * (2 * (A * B))<=9000000000000000000) :
  qfM (mx a b f) (mx b c h) = some (mx a c (qR b f h)):=by
 unfold qfM;rw [qbF,qbF];have h0:0<=2 * (A * B):=by have:=Int.mul_nonneg hA hB; omega
 have h1:2 * (A * B)<=9000000000000000000:=by
  have:=Int.mul_le_mul_of_nonneg_right (show (1:Int)<=b by omega) h0;omega
 rw [qnx a (λi=>mkL c λk=>qR b f h i k) (λi hi=>?_) ?_]
 ·rfl
 ·have e0:decide ((a:Int) < (a:Int)) = false:=by simp
  simp only [e0,cond_false]
 ·have e0:decide ((i:Int) < (a:Int)) = true:=decide_eq_true (by omega);simp only [e0,cond_true];rw [qnx c (λk=>qR b f h i k) (λk hk=>?_) ?_]
  ·simp only [qa];rw [qee (by rw [qW]; omega)];simp only [qa];rw [wid (by omega) (by omega)]
  ·have e1:decide ((c:Int) < (c:Int)) = false:=by simp
   rw [qgR,qih h (by omega)];simp only [qa,qW,e1,cond_false]
  ·have e1:decide ((k:Int) < (c:Int)) = true:=decide_eq_true (by omega);rw [qgR,qih h (by omega)];simp only [qa,qW,e1,cond_true];rw [qjD b hb h0 hbd (λj=>qw (f i j) (h j k)) (λj hj=>(hf i j hi hj).mul (hh j k hj hk)) (λj hj x y hxy=>?_) (λx y=>?_)]
   ·simp only [qa];rw [qee (by rw [qW]; omega)];simp only [qa];rw [wid (by omega) (by omega)];rfl
   ·have e0:decide ((j:Int) < (b:Int)) = true:=decide_eq_true (by omega);simp only [e0,cond_true];rw [qaA (qih f hi),qa,qaA (qcn (λk=>f i k) hj),qa,qaA (qih h hj),qa,qaA (qcn (λk=>h j k) hk),qa];rw [qsH (hf i j hi hj) (hh j k hj hk) h1];simp only [qa];rw [qv0 hxy ((hf i j hi hj).mul (hh j k hj hk)) (le_next h0 hj hbd)];rfl
   ·have e0:decide ((b:Int) < (b:Int)) = false:=by simp
    simp only [e0,cond_false]
theorem qyh {n c:Nat} (hn:n<=1000) (f:Nat->Nat->G) (hc:c < n + 1):qac (mx (n + 1) (n + 1) f) 0 (c:Int) = some (mx n n (minor f 0 c)):=by
 unfold qac;rw [qbF];refine Ok.eq ?_;rw [qfv];refine (qbc (n + 1) (λi (s:Mx × Int)=>s = (mkL (i - 1) (λj=>mkL n λk=>minor f 0 c j k),(i:Int))) (λr=>r = mx n n (minor f 0 c)) rfl ?_).mono (λa ha=>by rw [ha]; exact q9.2 rfl);rintro i s hi rfl;by_cases hlt:i < n + 1
 ·have e0:decide ((i:Int) < ((n + 1:Nat):Int)) = true:=decide_eq_true (by omega);simp only [e0,cond_true];rw [qaA (qih f hlt)];simp only [qa];by_cases hz:i = 0
  ·subst hz;simp only [Int.ofNat_eq_natCast,Int.natCast_zero,decide_true,Bool.not_true,cond_false,qa];rw [wid (by omega) (by omega),qaF];exact ⟨by omega,rfl⟩
  ·have e1:decide ((i:Int) = 0) = false:=decide_eq_false (by omega);simp only [e1,Bool.not_false,cond_true];rw [qxG (by rw [qW]; omega)];simp only [qa,decide_true,cond_true];rw [wid (n:=(c:Int) + 1) (by omega) (by omega),qxG (by rw [qW]; omega)];simp only [qa,qW];have e2:((c:Int) + 1).toNat = c + 1:=by omega
   have e3:((n + 1:Nat):Int).toNat = n + 1:=by omega
   have e4:(0:Int).toNat = 0:=rfl;rw [e2,e3,e4,Int.toNat_natCast,qCR (by simp [qW]; omega)];simp only [qa];rw [qAQ (λk=>f i k) hc,qee (by rw [qW]; omega)];simp only [qa];rw [wid (by omega) (by omega),qaF];refine ⟨hlt,?_⟩;have e5:i + 1 - 1 = (i - 1) + 1:=by omega
   rw [e5,qhN];congr 1
   congr 2
   refine qdt λk hk=>?_;unfold minor;congr 1
   all_goals (unfold skip; rw [if_neg (by omega)]; omega)
 ·have:i = n + 1:=by omega
  subst this;have e0:decide (((n + 1:Nat):Int) < ((n + 1:Nat):Int)) = false:=by simp
  simp only [e0,cond_false];rw [qam];rfl
theorem qsI {n c:Nat} (hn:n<=1000) (f:Nat->Nat->G) (hc:c < n + 1):qeu (mx (n + 1) (n + 1) f) 0 (c:Int) = some (mx n n (minor f 0 c)):=by
 unfold qeu;rw [qbF];refine Ok.eq ?_;rw [qfv];refine (qbc (n + 1) (λi (s:Mx × Int)=>s = (mkL (i - 1) (λj=>mkL n λk=>minor f 0 c j k),(i:Int))) (λr=>r = mx n n (minor f 0 c)) rfl ?_).mono (λa ha=>by rw [ha]; exact q9.2 rfl);rintro i s hi rfl;by_cases hlt:i < n + 1
 ·have e0:decide ((i:Int) < ((n + 1:Nat):Int)) = true:=decide_eq_true (by omega);simp only [e0,cond_true];by_cases hz:i = 0
  ·subst hz;simp only [Int.ofNat_eq_natCast,Int.natCast_zero,decide_true,cond_true,qa];rw [wid (by omega) (by omega),qaF];exact ⟨by omega,rfl⟩
  ·have e1:decide ((i:Int) = 0) = false:=decide_eq_false (by omega);simp only [e1,cond_false];rw [qtk,qfv];refine (qbc (n + 1) (λk (s:List G × Int)=>s = (mkL (if k<=c then k else k - 1) (λk=>f i (skip c k)),(k:Int))) (λr=>r = mkL n λk=>f i (skip c k)) ?_ ?_).mono ?_
   ·simp [qxC]
   ·rintro k s hk rfl;by_cases hlt2:k < n + 1
    ·have e2:decide ((k:Int) < ((n + 1:Nat):Int)) = true:=decide_eq_true (by omega);simp only [e2,cond_true];by_cases hkc:k = c
     ·subst hkc;simp only [decide_true,Bool.not_true,cond_false,qa];rw [wid (by omega) (by omega),qaF];refine ⟨hlt2,?_⟩;rw [if_pos (by omega),if_neg (by omega)];rfl
     ·have e3:decide ((k:Int) = (c:Int)) = false:=decide_eq_false (by omega);simp only [e3,Bool.not_false,cond_true];rw [qaA (qih f hlt)];simp only [qa];rw [qaA (qcn (λk=>f i k) hlt2)];simp only [qa];rw [qee (by rw [qW]; split <;> omega)];simp only [qa];rw [wid (by omega) (by omega),qaF];refine ⟨hlt2,?_⟩;congr 1
      by_cases hkl:k < c
      ·rw [if_pos (by omega),if_pos (by omega),qhN];congr 3
       unfold skip; rw [if_pos hkl]
      ·rw [if_neg (by omega),if_neg (by omega)];have e5:k + 1 - 1 = (k - 1) + 1:=by omega
       rw [e5,qhN];congr 3
       unfold skip; rw [if_neg (by omega)]; omega
    ·have:k = n + 1:=by omega
     subst this;have e2:decide (((n + 1:Nat):Int) < ((n + 1:Nat):Int)) = false:=by simp
     simp only [e2,cond_false];rw [qam,if_neg (by omega)];rfl
   ·rintro r rfl;rw [qee (by rw [qW]; omega)];simp only [qa];rw [q9,wid (by omega) (by omega),qaF];refine ⟨hlt,?_⟩;have e5:i + 1 - 1 = (i - 1) + 1:=by omega
    rw [e5,qhN];congr 1
    congr 2
    refine qdt λk hk=>?_;unfold minor;congr 1
    all_goals (unfold skip; rw [if_neg (by omega)]; omega)
 ·have:i = n + 1:=by omega
  subst this;have e0:decide (((n + 1:Nat):Int) < ((n + 1:Nat):Int)) = false:=by simp
  simp only [e0,cond_false];rw [qam];rfl
theorem qzq {B:Int} (hB:1<=B) (n:Nat):dB B n<=dB B (n + 1):=by
 have e:dB B (n + 1) = ((n + 1:Nat):Int) * (2 * (B * dB B n)):=rfl;rw [e];have h0:=qlJ (show 0<=B by omega) n;have h1:dB B n<=B * dB B n:=by
  have:=Int.mul_le_mul_of_nonneg_right hB h0; omega
 have h2:(1:Int) * (2 * (B * dB B n))<=((n + 1:Nat):Int) * (2 * (B * dB B n)):=Int.mul_le_mul_of_nonneg_right (by omega) (by omega);omega
theorem qDc {B:Int} (hB:1<=B):∀ (k n:Nat) (f:Nat->Nat->G),n<=100->n < k->BdF B n n f->dB B n<=9000000000000000000->qao k (mx n n f) = some (qgz n f)
 | 0,n,f,_,h,_,_=>by omega
 | k + 1,0,f,_,_,_,_=>rfl
 | k + 1,n + 1,f,hn,hk,hf,hb=>by
  have hB0:0<=B:=by omega
  have hD0:=qlJ hB0 n;have h0:0<=2 * (B * dB B n):=by have:=Int.mul_nonneg hB0 hD0; omega
  have hDn:dB B n<=9000000000000000000:=by have:=qzq hB n; omega
  have hb1:2 * (B * dB B n)<=9000000000000000000:=by
   have h9:(1:Int) * (2 * (B * dB B n))<=((n + 1:Nat):Int) * (2 * (B * dB B n)):=Int.mul_le_mul_of_nonneg_right (by omega) h0;simp only [dB] at hb;omega
  have hunf:qao (k + 1) (mx (n + 1) (n + 1) f) = (bif decide (((mx (n + 1) (n + 1) f).length:Int) = 0) then some (1,0,()) else
   (qA (λ(s2:(Int × Int × Int)) =>
    bif decide (s2.1 < ((mx (n + 1) (n + 1) f).length:Int)) then
     (qaL (mx (n + 1) (n + 1) f) (0:Int) s2.1).bind λx3 =>
     (qac (mx (n + 1) (n + 1) f) (0:Int) s2.1).bind λx4 =>
     (qao k x4).bind λx5 =>
     (qP x3 x5).bind λx6 =>
     (bif decide (s2.1.tmod 2 = 1) then
       (qbq (0,0,()) x6).bind λx7 =>
       some (x7.1,x7.2.1)
      else
       some (x6.1,x6.2.1)).bind λ(p8:(Int × Int)) =>
     (qbB (s2.2.1,s2.2.2,()) (p8.1,p8.2,())).bind λx9 =>
     some (.inl (w64 (s2.1 + 1),x9.1,x9.2.1))
    else
     some (.inr (s2.2.1,s2.2.2))) (0,0,0)).bind λ(p10:(Int × Int)) =>
   some (p10.1,p10.2,())):=rfl
  rw [hunf,qbF];have e0:decide (((n + 1:Nat):Int) = 0) = false:=decide_eq_false (by omega);rw [e0,cond_false];have htb:∀ j,j < n + 1->Bd (2 * (B * dB B n)) (qw (f 0 j) (qgz n (minor f 0 j))):=λj hj=>(hf 0 j (by omega) hj).mul (qpc hB0 n _ (qe1 hf));rw [qjD (n + 1) (by omega) h0 hb (λj=>if j % 2 = 1 then qio (qw (f 0 j) (qgz n (minor f 0 j))) else qw (f 0 j) (qgz n (minor f 0 j)))
   (λj hj=>by
           split; · exact (htb j hj).neg
           ·exact htb j hj) (λj hj x y hxy=>?_) (λx y=>?_)]
  ·rfl
  ·have e1:decide ((j:Int) < ((n + 1:Nat):Int)) = true:=decide_eq_true (by omega);simp only [e1,cond_true];have hat:=qze (n:=n + 1) (c:=n + 1) f (i:=0) (k:=j) (by omega) hj;simp only [Int.natCast_zero] at hat;rw [hat];simp only [qa];rw [qyh (by omega) f hj];simp only [qa];rw [qDc hB k n _ (by omega) (by omega) (qe1 hf) hDn];simp only [qa];rw [qgf (hf 0 j (by omega) hj) (qpc hB0 n _ (qe1 (r:=0) (c:=j) hf)) hb1];simp only [qa];have htm:(j:Int).tmod 2 = ((j % 2:Nat):Int):=by rw [Int.tmod_eq_emod_of_nonneg (by omega)]; omega
   rw [htm];by_cases hp:j % 2 = 1
   ·have e2:decide (((j % 2:Nat):Int) = 1) = true:=decide_eq_true (by omega);rw [e2,cond_true,if_pos hp];have hm:qbq (0,0,()) (qw (f 0 j) (qgz n (minor f 0 j))) = some (qio (qw (f 0 j) (qgz n (minor f 0 j)))):=by
     have:=qDD (a:=g0) (qvo (B:=0) (by omega)) (htb j hj) (by omega);rw [quz] at this;exact congrArg some this
    rw [hm];simp only [qa,qFM];rw [qsJ hxy (htb j hj).neg (le_next h0 hj hb)];rfl
   ·have e2:decide (((j % 2:Nat):Int) = 1) = false:=decide_eq_false (by omega);rw [e2,cond_false,if_neg hp];simp only [qa,qFM];rw [qsJ hxy (htb j hj) (le_next h0 hj hb)];rfl
  ·have e1:decide (((n + 1:Nat):Int) < ((n + 1:Nat):Int)) = false:=by simp
   simp only [e1,cond_false]
theorem qEc (n:Nat) (h:n<=1000000000):qlf (n:Int) 2 = some ((n % 2:Nat):Int):=by
 unfold qlf;have e:((n:Int).tmod 2) = ((n % 2:Nat):Int):=by rw [Int.tmod_eq_emod_of_nonneg (by omega)]; omega
 rw [e];have e1:decide ((2:Int) = 0) = false:=by decide
 have e2:decide (((n % 2:Nat):Int) < 0) = false:=decide_eq_false (by omega);simp only [e1,e2,cond_false,qa]
theorem quF {B:Int} (hB:1<=B):∀ (k n:Nat) (f:Nat->Nat->G),n<=100->n < k->BdF B n n f->dB B n<=9000000000000000000->qbt k (mx n n f) = some (qgz n f)
 | 0,n,f,_,h,_,_=>by omega
 | k + 1,0,f,_,_,_,_=>rfl
 | k + 1,n + 1,f,hn,hk,hf,hb=>by
  have hB0:0<=B:=by omega
  have hD0:=qlJ hB0 n;have h0:0<=2 * (B * dB B n):=by have:=Int.mul_nonneg hB0 hD0; omega
  have hDn:dB B n<=9000000000000000000:=by have:=qzq hB n; omega
  have hb1:2 * (B * dB B n)<=9000000000000000000:=by
   have h9:(1:Int) * (2 * (B * dB B n))<=((n + 1:Nat):Int) * (2 * (B * dB B n)):=Int.mul_le_mul_of_nonneg_right (by omega) h0;simp only [dB] at hb;omega
  have hunf:qbt (k + 1) (mx (n + 1) (n + 1) f) = (bif decide (((mx (n + 1) (n + 1) f).length:Int) = 0) then some (1,0,()) else
   (qA (λ(s2:(Int × Int × Int)) =>
    bif decide (s2.1 < ((mx (n + 1) (n + 1) f).length:Int)) then
     (idx (mx (n + 1) (n + 1) f) 0).bind λx3 =>
     (idx x3 s2.1).bind λx4 =>
     (qeu (mx (n + 1) (n + 1) f) (0:Int) s2.1).bind λx5 =>
     (qbt k x5).bind λx6 =>
     (qf2 x4 x6).bind λx7 =>
     (qlf s2.1 (2:Int)).bind λx8 =>
     (bif decide (x8 = 0) then
       (qhp (s2.2.1,s2.2.2,()) x7).bind λx9 =>
       some (x9.1,x9.2.1)
      else
       (qmj (s2.2.1,s2.2.2,()) x7).bind λx10 =>
       some (x10.1,x10.2.1)).bind λ(p11:(Int × Int)) =>
     some (.inl (w64 (s2.1 + 1),p11.1,p11.2))
    else
     some (.inr (s2.2.1,s2.2.2))) (0,0,0)).bind λ(p12:(Int × Int)) =>
   some (p12.1,p12.2,())):=rfl
  rw [hunf,qbF];have e0:decide (((n + 1:Nat):Int) = 0) = false:=decide_eq_false (by omega);rw [e0,cond_false];have htb:∀ j,j < n + 1->Bd (2 * (B * dB B n)) (qw (f 0 j) (qgz n (minor f 0 j))):=λj hj=>(hf 0 j (by omega) hj).mul (qpc hB0 n _ (qe1 hf));rw [qjD (n + 1) (by omega) h0 hb (λj=>if j % 2 = 1 then qio (qw (f 0 j) (qgz n (minor f 0 j))) else qw (f 0 j) (qgz n (minor f 0 j)))
   (λj hj=>by
           split; · exact (htb j hj).neg
           ·exact htb j hj) (λj hj x y hxy=>?_) (λx y=>?_)]
  ·rfl
  ·have e1:decide ((j:Int) < ((n + 1:Nat):Int)) = true:=decide_eq_true (by omega);simp only [e1,cond_true];rw [qgR,qih f (by omega)];simp only [qa];rw [qaA (qcn (λk=>f 0 k) hj)];simp only [qa];rw [qsI (by omega) f hj];simp only [qa];rw [quF hB k n _ (by omega) (by omega) (qe1 hf) hDn];simp only [qa];rw [qsH (hf 0 j (by omega) hj) (qpc hB0 n _ (qe1 (r:=0) (c:=j) hf)) hb1];simp only [qa];rw [qEc j (by omega)];simp only [qa];by_cases hp:j % 2 = 1
   ·have e2:decide (((j % 2:Nat):Int) = 0) = false:=decide_eq_false (by omega);rw [e2,cond_false,if_pos hp];have hm:qmj (x,y,()) (qw (f 0 j) (qgz n (minor f 0 j))) = some (qcy (x,y,()) (qio (qw (f 0 j) (qgz n (minor f 0 j))))):=by
     have:=qDD hxy (htb j hj) (le_next h0 hj hb);rw [qvO] at this;exact congrArg some this
    rw [hm];rfl
   ·have e2:decide (((j % 2:Nat):Int) = 0) = true:=decide_eq_true (by omega);rw [e2,cond_true,if_neg hp];rw [qv0 hxy (htb j hj) (le_next h0 hj hb)];rfl
  ·have e1:decide (((n + 1:Nat):Int) < ((n + 1:Nat):Int)) = false:=by simp
   simp only [e1,cond_false]
end Go.Proofs.YtbcdgfgacigaoaaGreat.Mat
end
section
namespace Go.Proofs.YtbcdgfgacigaoaaGreat.Mat
open Go Go.Ab Go.Tx Go.Proofs.YtbcdgfgacigaoaaGreat
theorem qjY {l:List G} (h:l.length<=1000000000):qby l = some l:=by
 unfold qby; rw [qvB (by omega)]; rfl
theorem qfO {m:Mx} (h:m.length<=1000000000) (hr:∀ r ∈ m,r.length<=1000000000):qaU m = some m:=by
 unfold qaU;rw [qDu m (λr=>r) (λi a out hi ho=>?_) (λout ho=>?_)]
 ·simp
 ·have hlt:=qf3 hi;have e0:decide ((i:Int) < (m.length:Int)) = true:=decide_eq_true (by omega);simp only [e0,cond_true,qaA hi,qa];rw [qjY (hr a (List.mem_of_getElem? hi))];simp only [qa];rw [qee (by omega)];simp only [qa];rw [wid (by omega) (by omega)]
 ·have e0:decide ((m.length:Int) < (m.length:Int)) = false:=by simp
  simp only [e0,cond_false]
theorem qwx (a b:G):(bif decide (a.1 = b.1) then (bif decide (a.2.1 = b.2.1) then true else false) else false) = decide (a = b):=by
 rw [Bool.eq_iff_iff];rw [decide_eq_true_iff,qBz];by_cases h1:a.1 = b.1 <;> by_cases h2:a.2.1 = b.2.1 <;> simp [h1,h2]
theorem qrr {l m:List G} (hl:l.length<=1000000000):qfb l m = some (decide (l = m)):=by
 unfold qfb;by_cases h:l.length = m.length
 case neg =>
  have d:decide ((l.length:Int) = (m.length:Int)) = false:=decide_eq_false (by omega);rw [d];have:decide (l = m) = false:=decide_eq_false (λe=>h (by rw [e]));rw [this]; rfl
 have d:decide ((l.length:Int) = (m.length:Int)) = true:=decide_eq_true (by omega);rw [d];simp only [Bool.not_true,cond_false];refine qt6 g0 h hl (λa b=>decide (a = b)) (λa b _ _=>by simp) (K:=_) (λi hi=>?_);rw [qcw g0 (by omega) (by omega),qcw g0 (l:=m) (by omega) (by omega)];simp only [qa,Int.toNat_natCast];rw [qwx,wid (by omega) (by omega)];by_cases c:l.getD i g0 = m.getD i g0
 ·simp only [c,decide_true,Bool.not_true,cond_false,if_true]
 ·simp only [c,decide_false,Bool.not_false,cond_true,qf,if_false]
theorem qsU {l m:Mx} (hl:l.length<=1000000000) (hr:∀ r ∈ l,r.length<=1000000000):qdC l m = some (decide (l = m)):=by
 unfold qdC;by_cases h:l.length = m.length
 case neg =>
  have d:decide ((l.length:Int) = (m.length:Int)) = false:=decide_eq_false (by omega);rw [d];have:decide (l = m) = false:=decide_eq_false (λe=>h (by rw [e]));rw [this]; rfl
 have d:decide ((l.length:Int) = (m.length:Int)) = true:=decide_eq_true (by omega);rw [d];simp only [Bool.not_true,cond_false];refine qt6 [] h hl (λa b=>decide (a = b)) (λa b _ _=>by simp) (K:=_) (λi hi=>?_);rw [qcw [] (by omega) (by omega),qcw [] (l:=m) (by omega) (by omega)];simp only [qa,Int.toNat_natCast];rw [qrr (hr _ (qbf hi)),wid (by omega) (by omega)];simp only [qa];by_cases c:l.getD i [] = m.getD i []
 ·simp only [c,decide_true,Bool.not_true,cond_false,if_true]
 ·simp only [c,decide_false,Bool.not_false,cond_true,qf,if_false]
def qyY (m:Mx) (rows:Nat):Prop:=m.length<=rows/\∀ r ∈ m,r.length<=5
theorem qsu (m:Mx) (rows:Nat) (h:rows<=1000):Ok (qeR m (rows:Int)) λb=>b = true->qyY m rows:=by
 unfold qeR;by_cases hl:m.length<=rows
 case neg =>
  have d:decide ((m.length:Int) > (rows:Int)) = true:=decide_eq_true (by omega);rw [d,cond_true]; exact q9.2 (by simp)
 have d:decide ((m.length:Int) > (rows:Int)) = false:=decide_eq_false (by omega);rw [d,cond_false,qe4 m _ (λ_ r=>if r.length<=5 then none else some false) (λi a hi=>?_),qcl]
 ·cases hf:qdm (λ_ (r:List G)=>if r.length<=5 then none else some false) 0 m with
  | none =>
   rw [qcU] at hf;refine q9.2 λ_=>⟨hl,λr hr=>?_⟩
   obtain ⟨i,hi⟩:=List.mem_iff_getElem?.1 hr;have:=hf i r hi;simpa using this
  | some r =>
   obtain ⟨i,a,_,h2,_⟩:=qeX hf;refine q9.2 λh3=>?_;subst h3;split at h2 <;> cases h2
 ·have hlt:=qf3 hi;rw [qaA hi,wid (by omega) (by omega)];simp only [qa];by_cases c:a.length<=5
  ·have d:decide ((a.length:Int) > 5) = false:=decide_eq_false (by omega);simp only [d,cond_false,c,if_true,stp]
  ·have d:decide ((a.length:Int) > 5) = true:=decide_eq_true (by omega);simp only [d,cond_true,c,if_false,stp]
theorem qC7 (m:Mx):Ok (qiy m) λb=>b = true->qyY m 5:=by
 unfold qiy;exact Ok.bind (qsu m 5 (by omega)) λb hb=>q9.2 hb
end Go.Proofs.YtbcdgfgacigaoaaGreat.Mat
end
section
set_option maxRecDepth 1000000
namespace Go.Tx
open Go
def dd (a b c d e f g h i:G):G:=qcy (qiq (qw a (qiq (qw e i) (qw f h))) (qw b (qiq (qw d i) (qw f g)))) (qw c (qiq (qw d h) (qw e g)))
theorem qki (f:Nat->Nat->G):qgz 1 f = f 0 0:=by
 simp only [qgz,qdZ];exact qi2 (by simp [qw,g1,g0,qcy]) (by simp [qw,g1,g0,qcy])
theorem qkq (f:Nat->Nat->G):qgz 2 f = qiq (qw (f 0 0) (f 1 1)) (qw (f 0 1) (f 1 0)):=by
 have e0:qgz 1 (minor f 0 0) = f 1 1:=by rw [qki]; rfl
 have e1:qgz 1 (minor f 0 1) = f 1 0:=by rw [qki]; rfl
 have e:qgz 2 f = qcy (qcy g0 (qw (f 0 0) (qgz 1 (minor f 0 0)))) (qio (qw (f 0 1) (qgz 1 (minor f 0 1)))):=rfl;rw [e,e0,e1,qhr,<- qvO]
theorem qwg (f:Nat->Nat->G):qgz 3 f = dd (f 0 0) (f 0 1) (f 0 2) (f 1 0) (f 1 1) (f 1 2) (f 2 0) (f 2 1) (f 2 2):=by
 have e0:qgz 2 (minor f 0 0) = qiq (qw (f 1 1) (f 2 2)) (qw (f 1 2) (f 2 1)):=by rw [qkq]; rfl
 have e1:qgz 2 (minor f 0 1) = qiq (qw (f 1 0) (f 2 2)) (qw (f 1 2) (f 2 0)):=by rw [qkq]; rfl
 have e2:qgz 2 (minor f 0 2) = qiq (qw (f 1 0) (f 2 1)) (qw (f 1 1) (f 2 0)):=by rw [qkq]; rfl
 have e:qgz 3 f = qcy (qcy (qcy g0 (qw (f 0 0) (qgz 2 (minor f 0 0)))) (qio (qw (f 0 1) (qgz 2 (minor f 0 1))))) (qw (f 0 2) (qgz 2 (minor f 0 2))):=rfl;rw [e,e0,e1,e2,qhr,<- qvO];rfl
theorem qEq (f h:Nat->Nat->G) (i k:Nat):qR 1 f h i k = qw (f i 0) (h 0 k):=by simp only [qR,qdZ,qhr]
theorem qE6 (f h:Nat->Nat->G) (i k:Nat):qR 2 f h i k = qcy (qw (f i 0) (h 0 k)) (qw (f i 1) (h 1 k)):=by simp only [qR,qdZ,qhr]
theorem qEU (f h:Nat->Nat->G) (i k:Nat):qR 3 f h i k = qcy (qcy (qw (f i 0) (h 0 k)) (qw (f i 1) (h 1 k))) (qw (f i 2) (h 2 k)):=by simp only [qR,qdZ,qhr]
end Go.Tx
end
section
namespace Go.Proofs.YtbcdgfgacigaoaaGreat.Mat
open Go Go.Ab Go.Tx Go.Proofs.YtbcdgfgacigaoaaGreat
theorem qD2 {n:Int} (h : -9223372036854775807<=n/\n<=9223372036854775807):ql6 n = some (n.natAbs:Int):=by
 unfold ql6;rw [wid (by omega) (by omega)];congr 1; omega
theorem qCS {a b:Int} (ha:a.natAbs<=4611686018427387904) (hb:b.natAbs<=4611686018427387904):qlz a b = some (Int.gcd a b:Int):=by
 unfold qlz;refine Ok.eq ?_;rw [qfv];refine (qBM a b ha hb).mono λr hr=>?_;have:=qC5 ha hb;rw [qD2 (by omega),qa,q9,hr]
theorem qq2 (l:List Int) (hl:l.length<=1000000000) (hb:∀ x ∈ l,x.natAbs<=4611686018427387904):qaK l = some (qu6 l:Int):=by
 unfold qaK; exact quY l hl hb
theorem qu8 {n r c:Nat} (hn:n<=1000) (f:Nat->Nat->G) (hr:r < n + 1) (hc:c < n + 1):qac (mx (n + 1) (n + 1) f) (r:Int) (c:Int) = some (mx n n (minor f r c)):=by
 unfold qac;rw [qbF];refine Ok.eq ?_;rw [qfv];refine (qbc (n + 1) (λi (s:Mx × Int)=>s = (mkL (if i<=r then i else i - 1) (λj=>mkL n λk=>minor f r c j k),(i:Int))) (λq=>q = mx n n (minor f r c)) (by simp [qxC]) ?_).mono (λa ha=>by rw [ha]; exact q9.2 rfl);rintro i s hi rfl;by_cases hlt:i < n + 1
 ·have e0:decide ((i:Int) < ((n + 1:Nat):Int)) = true:=decide_eq_true (by omega);simp only [e0,cond_true];rw [qaA (qih f hlt)];simp only [qa];by_cases hz:i = r
  ·subst hz;simp only [decide_true,Bool.not_true,cond_false,qa];rw [wid (by omega) (by omega),qaF];refine ⟨hlt,?_⟩;rw [if_pos (Nat.le_refl _),if_neg (by omega)]; rfl
  ·have e1:decide ((i:Int) = (r:Int)) = false:=decide_eq_false (by omega);simp only [e1,Bool.not_false,cond_true];rw [qxG (by rw [qW]; omega)];simp only [qa,decide_true,cond_true];rw [wid (n:=(c:Int) + 1) (by omega) (by omega),qxG (by rw [qW]; omega)];simp only [qa,qW];have e2:((c:Int) + 1).toNat = c + 1:=by omega
   have e3:((n + 1:Nat):Int).toNat = n + 1:=by omega
   have e4:(0:Int).toNat = 0:=rfl;rw [e2,e3,e4,Int.toNat_natCast,qCR (by simp [qW]; omega)];simp only [qa];rw [qAQ (λk=>f i k) hc,qee (by rw [qW]; split <;> omega)];simp only [qa];rw [wid (by omega) (by omega),qaF];refine ⟨hlt,?_⟩;congr 1
   by_cases hir:i < r
   ·rw [if_pos (by omega),if_pos (by omega),qhN];congr 2
    refine qdt λk hk=>?_;unfold minor;rw [show skip r i = i by unfold skip; rw [if_pos hir]]
   ·rw [if_neg (by omega),if_neg (by omega)];have e5:i + 1 - 1 = (i - 1) + 1:=by omega
    rw [e5,qhN];congr 2
    refine qdt λk hk=>?_;unfold minor;rw [show skip r (i - 1) = i by unfold skip; rw [if_neg (by omega)]; omega]
 ·have:i = n + 1:=by omega
  subst this;have e0:decide (((n + 1:Nat):Int) < ((n + 1:Nat):Int)) = false:=by simp
  simp only [e0,cond_false];rw [qam,if_neg (by omega)];rfl
def parts (l:List G):List Int:=l.flatMap λz=>[z.1,z.2.1]
def qeC (m:Mx):List Int:=m.flatMap parts
theorem qpL (l:List G) (z:G):parts (l ++ [z]) = parts l ++ [z.1] ++ [z.2.1]:=by simp [parts]
theorem qmS (m:Mx) (r:List G):qeC (m ++ [r]) = qeC m ++ parts r:=by simp [qeC]
theorem qoj:∀ (l m:List Int) (g:Nat),qip g (l ++ m) = qip (qip g l) m
 | [],m,g=>rfl
 | x :: l,m,g=>by simp only [List.cons_append,qip]; exact qoj l m _
def qg (den:Int) (m:Mx):Nat:=qip den.natAbs (qeC m)
def qfs (g:Int) (f:Nat->Nat->G) (i k:Nat):G:=((f i k).1.tdiv g,(f i k).2.1.tdiv g,())
theorem qod {B:Int} {l:List G} (h:∀ z ∈ l,Bd B z) {x:Int} (hx:x ∈ parts l) : -B<=x/\x<=B:=by
 unfold parts at hx;obtain ⟨z,hz,hx⟩:=List.mem_flatMap.1 hx;have:=h z hz;unfold Bd at this;simp only [List.mem_cons,List.not_mem_nil,or_false] at hx;rcases hx with rfl | rfl <;> omega
theorem qzA {B:Int} {m:Mx} (h:BdM B m) {x:Int} (hx:x ∈ qeC m) : -B<=x/\x<=B:=by
 unfold qeC at hx;obtain ⟨r,hr,hx⟩:=List.mem_flatMap.1 hx;exact qod (h r hr) hx
theorem qEa {B:Int} {den:Int} {m:Mx} (h0:0<=den) (hd:den<=B) (h:BdM B m):(qg den m:Int)<=B:=by
 have:qg den m<=B.toNat:=qkE (by omega) λx hx=>by have:=qzA h hx; omega
 omega
theorem qrA {den:Int} {m:Mx} (h:den ≠ 0):0 < qg den m:=by
 rcases Nat.eq_zero_or_pos (qg den m) with h0 | h0
 ·have:=(qt3.1 h0).1; omega
 ·exact h0
theorem qD9 {B:Int} (hB:B<=4611686018427387904) {r:List G} (hl:r.length<=1000000) (h:∀ z ∈ r,Bd B z) {g:Nat} (hg:(g:Int)<=B) {K:Nat × Int->Prop} :
  Ok (qA (λ(s5:(Int × Int)) =>
      bif decide (s5.1 < (r.length:Int)) then
       (idx r s5.1).bind λx6 =>
       (qaK ([s5.2,x6.1,x6.2.1])).bind λx7 =>
       some (.inl (w64 (s5.1 + 1),x7))
      else
       some (.inr s5.2)) (0,(g:Int))) λx=>x = (qip g (parts r):Int):=by
 refine qbc r.length (λi (s:Int × Int)=>s = ((i:Int),(qip g (parts (r.take i)):Int))) _ rfl ?_;rintro i s hi rfl;by_cases hlt:i < r.length
 ·have e0:decide ((i:Int) < (r.length:Int)) = true:=decide_eq_true (by omega);have hz:r[i]? = some (r.getD i g0):=qd1 _ hlt;have hb:=h _ (qbf (d:=g0) hlt);have hgb:qip g (parts (r.take i))<=B.toNat:=qkE (by omega) λx hx=>by
   have:=qod (λz hz=>h z (List.mem_of_mem_take hz)) hx; omega
  unfold Bd at hb;simp only [e0,cond_true];rw [qaA hz];simp only [qa];rw [qq2 _ (by simp) (by
   intro x hx;simp only [List.mem_cons,List.not_mem_nil,or_false] at hx;rcases hx with rfl | rfl | rfl <;> omega)]
  simp only [qa];rw [wid (by omega) (by omega),qaF];refine ⟨hlt,?_⟩;congr 2
  rw [qci g0 hlt,qpL,qff,qff,qrZ];rfl
 ·have:i = r.length:=by omega
  subst this;have e0:decide ((r.length:Int) < (r.length:Int)) = false:=by simp
  simp only [e0,cond_false];rw [qam,List.take_length]
theorem qD3 {B den:Int} (hB:B<=4611686018427387904) {m:Mx} (hl:m.length<=1000000) (hr:∀ r ∈ m,r.length<=1000000) (h:BdM B m) (h0:0<=den) (hd:den<=B) :
  qA (λ(s2:(Int × Int)) =>
   bif decide (s2.1 < (m.length:Int)) then
    (idx m s2.1).bind λx3 =>
    (qA (λ(s5:(Int × Int)) =>
      bif decide (s5.1 < (x3.length:Int)) then
       (idx x3 s5.1).bind λx6 =>
       (qaK ([s5.2,x6.1,x6.2.1])).bind λx7 =>
       some (.inl (w64 (s5.1 + 1),x7))
      else
       some (.inr s5.2)) (0,s2.2)).bind λ(p8:Int) =>
    some (.inl (w64 (s2.1 + 1),p8))
   else
    some (.inr s2.2)) (0,den) = some (qg den m:Int):=by
 refine Ok.eq (qbc m.length (λi (s:Int × Int)=>s = ((i:Int),(qg den (m.take i):Int))) _ (by
  have:((qg den (m.take 0):Nat):Int) = den:=by simp [qg,qeC,qip] <;> omega
  rw [this]; rfl) ?_)
 rintro i s hi rfl;by_cases hlt:i < m.length
 ·have e0:decide ((i:Int) < (m.length:Int)) = true:=decide_eq_true (by omega);have hz:m[i]? = some (m.getD i []):=qd1 _ hlt;have hmem:=qbf (d:=([]:List G)) hlt;simp only [e0,cond_true];rw [qaA hz];simp only [qa];rw [qtk];refine (qD9 hB (hr _ hmem) (h _ hmem) (qEa h0 hd (λr hr=>h r (List.mem_of_mem_take hr))) (K:=λ_=>True)).mono ?_;rintro x rfl;rw [wid (by omega) (by omega),qaF];refine ⟨hlt,?_⟩;congr 2
  rw [qci [] hlt];unfold qg;rw [qmS,qoj]
 ·have:i = m.length:=by omega
  subst this;have e0:decide ((m.length:Int) < (m.length:Int)) = false:=by simp
  simp only [e0,cond_false];rw [qam,List.take_length]
theorem qkJ {x g B:Int} (h : -B<=x/\x<=B) : -B<=x.tdiv g/\x.tdiv g<=B:=by
 have h1:(x.tdiv g).natAbs<=x.natAbs:=by rw [Int.natAbs_tdiv]; exact Nat.div_le_self _ _
 omega
def qij (n c:Nat) (f:Nat->Nat->G) (den:Int):Int × Mx × Unit:=(den.tdiv (qg den (mx n c f)),mx n c (qfs (qg den (mx n c f)) f),())
theorem qEB {n c:Nat} (hn:n<=1000) (hc:c<=1000) (m:Mx) (g:Int) (f:Nat->Nat->G) (h:∀ i k:Nat,i < n->k < c->qch i k m g = some (f i k)):qaq (n:Int) (c:Int) m g = some (mx n c f):=by
 unfold qaq;exact qhs n c hn hc (λi k=>qch i k m g) f h
theorem qpp {n c:Nat} {B den:Int} {f:Nat->Nat->G} (hB:B<=4611686018427387904) (hn:1<=n) (hn2:n<=1000) (hc:c<=1000) (h:BdF B n c f) (h0:0 < den) (hd:den<=B) :
  qdr (mx n c f) den = some (qij n c f den):=by
 unfold qdr;rw [qD3 hB (by rw [qbF]; omega) (λr hr=>by rw [(qqA n c f).2 r hr]; omega) (qCQ.2 h) (by omega) hd];simp only [qa];rw [qgR,qih f (by omega),qa,qW,qbF];have hg:0 < qg den (mx n c f):=qrA (by omega);have hgne:decide ((qg den (mx n c f):Int) = 0) = false:=decide_eq_false (by omega);have hm:=qEB hn2 hc (mx n c f) (qg den (mx n c f)) (qfs (qg den (mx n c f)) f) (λi k hi hk=>by
  unfold qch;rw [qaA (qih f hi)];simp only [qa];rw [qaA (qcn (λk=>f i k) hk)];simp only [qa,hgne,cond_false];have hb:=h i k hi hk;unfold Bd at hb;have t1:=qkJ (g:=(qg den (mx n c f):Int)) hb.1;have t2:=qkJ (g:=(qg den (mx n c f):Int)) hb.2;rw [wid (by omega) (by omega),wid (by omega) (by omega)];rfl)
 rw [hm];simp only [qa,hgne,cond_false];have t3:=qkJ (g:=(qg den (mx n c f):Int)) (B:=B) (x:=den) (by omega);rw [wid (by omega) (by omega)];rfl
theorem qDV (g:Nat) (a b:Int):Int.gcd (g:Int) ((Int.gcd a b:Nat):Int) = Nat.gcd (Nat.gcd g a.natAbs) b.natAbs:=by
 simp only [Int.gcd,Int.natAbs_natCast];exact (Nat.gcd_assoc g a.natAbs b.natAbs).symm
end Go.Proofs.YtbcdgfgacigaoaaGreat.Mat
end
section
namespace Go.Proofs.YtbcdgfgacigaoaaGreat.Mat
open Go Go.Ab Go.Tx Go.Proofs.YtbcdgfgacigaoaaGreat
def dC (B:Int):Nat->Int
 | 0=>1
 | 1=>B
 | n + 2=>((n + 2:Nat):Int) * (2 * (B * dC B (n + 1)))
theorem qwF {B:Int} (hB:0<=B):∀ (n:Nat) (f:Nat->Nat->G),BdF B n n f->Bd (dC B n) (qgz n f)
 | 0,f,_=>qC3 (by simp [dC])
 | 1,f,h=>by rw [qki]; exact h 0 0 (by omega) (by omega)
 | n + 2,f,h=>by
  simp only [qgz,dC];refine Bd.sum λk hk=>?_;have h1:=(h 0 k (by omega) hk).mul (qwF hB (n + 1) _ (qe1 (r:=0) (c:=k) h));split
  ·exact h1.neg
  ·exact h1
def qDX (n:Nat) (f:Nat->Nat->G) (i k:Nat):G:=qgz n (minor f k i)
def qhv (n:Nat) (f:Nat->Nat->G) (i k:Nat):G:=if (i + k) % 2 = 1 then qio (qDX n f i k) else qDX n f i k
def qnE (n:Nat) (f:Nat->Nat->G) (d:G) (i k:Nat):G:=qw (qhv n f i k) (qU d)
def norm (d:G):Int:=d.1 * d.1 + d.2.1 * d.2.1
theorem qCe (d:G):qw d (qU d) = (norm d,0,()):=qi2 (by simp only [qw,qU,norm]; grind) (by simp only [qw,qU]; grind)
theorem qBH {d:G} (h:d ≠ g0):0 < norm d:=by
 unfold norm;have h1:=sq_nonneg d.1;have h2:=sq_nonneg d.2.1;rcases Int.lt_or_le 0 (d.1 * d.1 + d.2.1 * d.2.1) with h3 | h3
 ·exact h3
 ·exfalso
  have e1:=qs4 (show d.1 * d.1 = 0 by omega);have e2:=qs4 (show d.2.1 * d.2.1 = 0 by omega);exact h (qi2 e1 e2)
theorem qoM {B:Int} {d:G} (h:Bd B d) (hB:B<=9000000000000000000):qau d = some (qU d):=by
 unfold qau qU;unfold Bd at h;rw [wid (by omega) (by omega)];have e:(0:Int) - d.2.1 = -d.2.1:=by omega
 rw [e]
theorem qCr {B:Int} {d:G} (h:Bd B d) (hB:B<=9000000000000000000):qjv d = some (qU d):=by
 unfold qjv qU;unfold Bd at h;rw [wid (by omega) (by omega)];have e:(0:Int) - d.2.1 = -d.2.1:=by omega
 rw [e]
theorem neg_mul (a b:G):qw (qio a) b = qio (qw a b):=qi2 (by simp only [qw,qio]; grind) (by simp only [qw,qio]; grind)
theorem qzG {B:Int} {a:G} (h:Bd B a) (hB:B<=9000000000000000000):qbq (0,0,()) a = some (qio a):=by
 have:=qDD (a:=g0) (qvo (B:=0) (by omega)) h (by omega);rw [quz] at this;exact congrArg some this
theorem qFy (j:Nat):(j:Int).tmod 2 = ((j % 2:Nat):Int):=by rw [Int.tmod_eq_emod_of_nonneg (by omega)]; omega
theorem qBP {n c:Nat} (hn:n<=1000) (hc:c<=1000) (m:Mx) (d:G) (f:Nat->Nat->G) (h:∀ i k:Nat,i < n->k < c->qa1 i k m d = some (f i k)):q8 (n:Int) (c:Int) m d = some (mx n c f):=by
 unfold q8;exact qhs n c hn hc (λi k=>qa1 i k m d) f h
structure InvB (n:Nat) (f:Nat->Nat->G) (d:G) (B M D Q:Int):Prop where
 hB:1<=B
 hf:BdF B (n + 1) (n + 1) f
 crude:dB B n<=9000000000000000000
 minor:∀ i k,i < n + 1->k < n + 1->Bd M (qDX n f i k)
 hd:Bd D d
 md:2 * (M * D)<=Q
 dd:2 * (D * D)<=9000000000000000000
 hQ:Q<=4611686018427387904
 M0:M<=9000000000000000000
 D0:D<=9000000000000000000
 nq:norm d<=Q
 nz:d ≠ g0
theorem InvB.adj {n:Nat} {f:Nat->Nat->G} {d:G} {B M D Q:Int} (h:InvB n f d B M D Q) {i k:Nat} (hi:i < n + 1) (hk:k < n + 1):Bd M (qhv n f i k):=by
 unfold qhv;split
 ·exact (h.minor i k hi hk).neg
 ·exact h.minor i k hi hk
theorem InvB.t {n:Nat} {f:Nat->Nat->G} {d:G} {B M D Q:Int} (h:InvB n f d B M D Q):BdF Q (n + 1) (n + 1) (qnE n f d):=λi k hi hk=>((h.adj hi hk).mul h.hd.qAh).mono h.md
theorem qE2 {n:Nat} {f:Nat->Nat->G} {B:Int} (hB:1<=B) (hn:n<=10) (hf:BdF B n n f) (hb:dB B n<=9000000000000000000):qag (mx n n f) = some (qgz n f):=by
 unfold qag; exact qDc hB 12 n f (by omega) (by omega) hf hb
theorem qBs {n:Nat} {f:Nat->Nat->G} {B:Int} (hB:1<=B) (hn:n<=10) (hf:BdF B n n f) (hb:dB B n<=9000000000000000000):qbW (mx n n f) = some (qgz n f):=by
 unfold qbW; exact quF hB 12 n f (by omega) (by omega) hf hb
theorem qrT {n:Nat} {f:Nat->Nat->G} {d:G} {B M D Q:Int} (hn:n<=5) (h:InvB n f d B M D Q) :
  qaP (mx (n + 1) (n + 1) f) d = some (qij (n + 1) (n + 1) (qnE n f d) (norm d)):=by
 unfold qaP;rw [qbF];have h2Q:2 * (M * D)<=9000000000000000000:=by have:=h.md; have:=h.hQ; omega
 rw [qBP (by omega) (by omega) _ d (qnE n f d) (λi k hi hk=>by
  unfold qa1;rw [qu8 (by omega) f hk hi];simp only [qa];rw [qE2 h.hB (by omega) (qe1 h.hf) h.crude];simp only [qa];rw [qoM h.hd h.D0];simp only [qa];have hb:=h.minor i k hi hk;unfold qDX at hb;rw [qgf hb h.hd.qAh h2Q];simp only [qa];rw [wid (by omega) (by omega)];have e0:((i:Int) + (k:Int)) = ((i + k:Nat):Int):=by omega
  rw [e0,qFy];unfold qnE qhv qDX;by_cases hp:(i + k) % 2 = 1
  ·have e2:decide ((((i + k) % 2:Nat):Int) = 1) = true:=decide_eq_true (by omega);rw [e2,cond_true,if_pos hp,qzG (hb.mul h.hd.qAh) h2Q,neg_mul]; rfl
  ·have e2:decide ((((i + k) % 2:Nat):Int) = 1) = false:=decide_eq_false (by omega);rw [e2,cond_false,if_neg hp])]
 simp only [qa];rw [qoM h.hd h.D0];simp only [qa];rw [qgf h.hd h.hd.qAh h.dd,qCe];simp only [qa];rw [qpp h.hQ (by omega) (by omega) (by omega) h.t (qBH h.nz) h.nq];rfl
def qFD (z:G):Int:=(z.1.natAbs:Int) + (z.2.1.natAbs:Int)
def qFQ:Nat->(Nat->Int)->Int
 | 0,_=>0
 | n + 1,f=>qFQ n f + f n
def qFK:Nat->(Nat->Int)->Int
 | 0,_=>0
 | n + 1,f=>max (qFK n f) (f n)
def qFV (n c:Nat) (f:Nat->Nat->G):Int:=qFK n λi=>qFQ c λk=>qFD (f i k)
def qqV (s:Int) (i k:Nat):G:=if i = k then (s,0,()) else g0
theorem qEH {n c:Nat} (hn:n<=1000) (hc:c<=1000) (m:Mx) (s:Int) (f:Nat->Nat->G) (h:∀ i k:Nat,i < n->k < c->qbd i k m s = some (f i k)):qab (n:Int) (c:Int) m s = some (mx n c f):=by
 unfold qab;exact qhs n c hn hc (λi k=>qbd i k m s) f h
theorem qz5 {n c:Nat} {A B s:Int} {f:Nat->Nat->G} (hn1:1<=n) (hn:n<=1000) (hc:c<=1000) (hf:BdF A n c f) (hs : -B<=s/\s<=B) (hb:2 * (A * B)<=9000000000000000000) :
  qca (mx n c f) s = some (mx n c λi k=>qw (f i k) (s,0,())):=by
 unfold qca;rw [qgR,qih f (by omega),qa,qW,qbF];rw [qEH hn hc _ s (λi k=>qw (f i k) (s,0,())) (λi k hi hk=>by
  unfold qbd;rw [qze f hi hk];simp only [qa];rw [qgf (hf i k hi hk) (B:=B) (by unfold Bd; simp only; omega) hb]; rfl)]
 rfl
theorem qzN {n:Nat} {s:Int} (hn:n<=1000):quL (n:Int) s = some (mx n n (qqV s)):=by
 unfold quL;rw [qnx n (λi=>mkL n λk=>qqV s i k) (λi hi=>?_) ?_]
 ·rfl
 ·have e0:decide ((n:Int) < (n:Int)) = false:=by simp
  simp only [e0,cond_false]
 ·have e0:decide ((i:Int) < (n:Int)) = true:=decide_eq_true (by omega);simp only [e0,cond_true];rw [qDk (by omega)];simp only [qa,decide_true,cond_true];have hl:(List.replicate ((n:Int).toNat) ((0,0,()):G)).length = n:=by simp
  rw [qcw g0 (by omega) (by rw [hl]; omega)];simp only [qa,Int.toNat_natCast];have hrow:(List.replicate n ((0,0,()):G)).set i (s,0,()) = mkL n λk=>qqV s i k:=by
   refine qoZ (by simp) λk hk=>?_;rw [List.getElem?_set,List.getElem?_replicate,List.length_replicate];unfold qqV;by_cases h:i = k
   ·rw [if_pos h,if_pos h,if_pos (by omega)]
   ·rw [if_neg h,if_neg h,if_pos hk]; rfl
  rw [hrow,qee (by rw [qW]; omega)];simp only [qa];rw [wid (by omega) (by omega)]
def qyZ (a b:Mx):Option Nat:=qdm (λi r=>if r = b.getD i [] then none else some i) 0 a
theorem qCb {l m:List G} (hl:l.length<=1000000000):qaf l m = some (decide (l = m)):=by
 have h:=qrr (l:=l) (m:=m) hl;unfold qfb at h;unfold qaf;exact h
theorem qyu {a b:Mx} (ha:a.length<=1000000000) (hb:a.length<=b.length) (har:∀ r ∈ a,r.length<=1000000000):qfJ a b = some (match qyZ a b with
  | some i=>((i:Int),true)
  | none=>(0,false)):=by
 unfold qfJ qyZ;rw [qe4 a _ (λi r=>if r = b.getD i [] then none else some ((i:Int),true)) (λi r hi=>?_),qcl]
 ·have key:∀ (l:Mx) (k:Nat),qdm (λi r=>if r = b.getD i [] then none else some ((i:Int),true)) k l = (qdm (λi r=>if r = b.getD i [] then none else some i) k l).map λ(i:Nat)=>((i:Int),true):=by
   intro l;induction l with
   | nil=>intro k; rfl
   | cons r l ih =>
    intro k;simp only [qdm];by_cases c:r = b.getD k []
    ·simp only [c,if_true]; exact ih (k + 1)
    ·simp only [c,if_false] <;> rfl
  rw [key];cases qdm (λi r=>if r = b.getD i [] then none else some i) 0 a <;> rfl
 ·have hlt:=qf3 hi;rw [qaA hi];simp only [qa];rw [qcw [] (by omega) (by omega),qa,qCb (har r (List.mem_of_getElem? hi))];simp only [qa,Int.toNat_natCast];rw [wid (by omega) (by omega)];by_cases c:r = b.getD i []
  ·rw [decide_eq_true c,if_pos c]; rfl
  ·rw [decide_eq_false c,if_neg c]; rfl
theorem qs7 {a b:Mx} (ha:a.length<=1000000000) (hb:a.length<=b.length) (har:∀ r ∈ a,r.length<=1000000000) (hab:∀ i,i < a.length->(a.getD i []).length = (b.getD i []).length):qfQ a b = some (match qyZ a b with
  | some i=>(i:Int)
  | none=>-1):=by
 unfold qfQ qyZ;rw [qe4 a _ (λi r=>if r = b.getD i [] then none else some (i:Int)) (λi r hi=>?_),qcl]
 ·have key:∀ (l:Mx) (k:Nat),qdm (λi r=>if r = b.getD i [] then none else some (i:Int)) k l = (qdm (λi r=>if r = b.getD i [] then none else some i) k l).map λ(i:Nat)=>(i:Int):=by
   intro l;induction l with
   | nil=>intro k; rfl
   | cons r l ih =>
    intro k;simp only [qdm];by_cases c:r = b.getD k []
    ·simp only [c,if_true]; exact ih (k + 1)
    ·simp only [c,if_false] <;> rfl
  rw [key];cases qdm (λi r=>if r = b.getD i [] then none else some i) 0 a <;> rfl
 ·have hlt:=qf3 hi;have hrow:a.getD i [] = r:=qgt hi;have hrl:=har r (List.mem_of_getElem? hi);have hl2:=hab i hlt;rw [hrow] at hl2;rw [qaA hi];simp only [qa];refine Ok.eq (qpA.2 ?_);refine (qbc r.length (λk (s:Int)=>s = (k:Int)/\∀ j,j < k->r.getD j g0 = (b.getD i []).getD j g0)
   (λx=>(x = .inl ()/\r = b.getD i [])\/(x = .inr (.inr (.inr (i:Int)))/\r ≠ b.getD i [])) ⟨rfl,by simp⟩ ?_).mono ?_
  ·rintro k s hk ⟨rfl,hI⟩;by_cases hlt2:k < r.length
   ·have e1:decide ((k:Int) < (r.length:Int)) = true:=decide_eq_true (by omega);simp only [e1,cond_true];rw [qcw g0 (l:=r) (by omega) (by omega)];simp only [qa,Int.toNat_natCast];rw [qcw [] (l:=b) (by omega) (by omega)];simp only [qa,Int.toNat_natCast];rw [qcw g0 (l:=b.getD i []) (by omega) (by omega)];simp only [qa,Int.toNat_natCast];rw [qwx,wid (by omega) (by omega)];by_cases c:r.getD k g0 = (b.getD i []).getD k g0
    ·rw [decide_eq_true c,Bool.not_true,cond_false,qaF];refine ⟨hlt2,rfl,λj hj=>?_⟩;by_cases hjk:j < k
     ·exact hI j hjk
     ·have:j = k:=by omega
      subst this; exact c
    ·rw [decide_eq_false c,Bool.not_false,cond_true,qam];exact .inr ⟨rfl,λe=>c (by rw [<- e])⟩
   ·have:k = r.length:=by omega
    subst this;have e1:decide ((r.length:Int) < (r.length:Int)) = false:=by simp
    simp only [e1,cond_false];rw [qam];exact .inl ⟨rfl,(qxa g0).1 ⟨hl2,hI⟩⟩
  ·rintro x (⟨rfl,h⟩ | ⟨rfl,h⟩)
   ·simp only
    rw [q9,wid (by omega) (by omega),if_pos h]; rfl
   ·simp only
    rw [if_neg h]; rfl
end Go.Proofs.YtbcdgfgacigaoaaGreat.Mat
end
section
namespace Go.Proofs.YtbcdgfgacigaoaaGreat.Mat
open Go Go.Ab Go.Tx Go.Proofs.YtbcdgfgacigaoaaGreat
abbrev Qt:=Int × Mx × Unit
def q5:Int:=100000000000
instance (B:Int) (m:Mx):Decidable (BdM B m):=inferInstanceAs (Decidable (∀ r ∈ m,∀ z ∈ r,Bd B z))
def qtE (x:Qt) (n:Nat):Int :=
 if ¬ (1<=x.1/\x.1<=q5) then 2 else if x.2.1.length ≠ n then 10 else if ¬ (∀ r ∈ x.2.1,r.length = n) then 10
 else if ¬ BdM q5 x.2.1 then 2 else if qg x.1 x.2.1 = 1 then 0 else 3
theorem qq4 (a b:Int):qN [a,b] = some (if a = 0 then b else a):=by
 rw [qox _ (by simp)];by_cases h:a = 0 <;> by_cases h2:b = 0 <;> simp [qvE,h,h2]
theorem qBY {x:Qt} {n:Nat} (hl:x.2.1.length<=1000) (hr:∀ r ∈ x.2.1,r.length<=1000) (hn:n<=1000):qcS x (n:Int) = some (qtE x n):=by
 obtain ⟨den,m,u⟩:=x;simp only at hl hr;unfold qcS;simp only
 rw [qpY];simp only [qgr,qa];rw [qq4];simp only [qa];have hden:(decide (1<=den/\den<=100000000000) = true) ↔ (1<=den/\den<=q5):=by simp [q5]
 -- the shapes
 let e0:Int:=if (if decide (1<=den/\den<=100000000000) = true then (0:Int) else 2) = 0 then (if decide ((m.length:Int) = (n:Int)) = true then 0 else 10) else (if decide (1<=den/\den<=100000000000) = true then 0 else 2)
 have hloop:qA (λ(s6:(Int × Int)) =>
   bif decide (s6.2 < (m.length:Int)) then
    (idx m s6.2).bind λx7 =>
    (qN ([s6.1,if decide ((x7.length:Int) = (n:Int)) = true then (0:Int) else 10])).bind λx9 =>
    some (.inl (x9,w64 (s6.2 + 1)))
   else
    some (.inr s6.1)) (e0,0) = some (if e0 ≠ 0 then e0 else if ∀ r ∈ m,r.length = n then 0 else 10):=by
  refine Ok.eq (qbc m.length (λi (s:Int × Int)=>s = (if e0 ≠ 0 then e0 else if ∀ r ∈ m.take i,r.length = n then 0 else 10,(i:Int))) _ ?_ ?_)
  ·by_cases h:e0 = 0 <;> simp [h]
  ·rintro i s hi rfl;by_cases hlt:i < m.length
   ·have d0:decide ((i:Int) < (m.length:Int)) = true:=decide_eq_true (by omega);have hz:m[i]? = some (m.getD i []):=qd1 _ hlt;simp only [d0,cond_true];rw [qaA hz];simp only [qa];rw [qq4];simp only [qa];rw [wid (by omega) (by omega),qaF];refine ⟨hlt,?_⟩;congr 1
    rw [qci [] hlt];by_cases h:e0 = 0
    ·have hc:¬ e0 ≠ 0:=by simp [h]
     rw [if_neg hc,if_neg hc];by_cases ha:∀ r ∈ m.take i,r.length = n
     ·rw [if_pos ha,if_pos rfl];by_cases hq:(m.getD i []).length = n
      ·rw [decide_eq_true (show ((m.getD i []).length:Int) = (n:Int) by omega),if_pos rfl,if_pos];intro r hr';rcases List.mem_append.1 hr' with h1 | h1
       ·exact ha r h1
       ·rw [List.mem_singleton] at h1; rw [h1]; exact hq
      ·rw [decide_eq_false (show ¬ ((m.getD i []).length:Int) = (n:Int) by omega),if_neg (by simp),if_neg];intro h9;exact hq (h9 _ (by simp))
     ·rw [if_neg ha,if_neg (by omega),if_neg];intro h9;exact ha λr hr'=>h9 r (by simp [hr'])
    ·rw [if_pos h,if_pos h,if_neg h]
   ·have:i = m.length:=by omega
    subst this;have d0:decide ((m.length:Int) < (m.length:Int)) = false:=by simp
    simp only [d0,cond_false];rw [qam,List.take_length]
 have hgoal:(if (if decide (1<=den/\den<=100000000000) = true then (0:Int) else 2) = 0 then (if decide ((m.length:Int) = (n:Int)) = true then (0:Int) else 10) else (if decide (1<=den/\den<=100000000000) = true then 0 else 2)) = e0:=rfl;rw [hgoal,hloop];simp only [qa];by_cases c1:1<=den/\den<=q5
 case neg =>
  have he:e0 = 2:=by
   show (if (if decide (1<=den/\den<=100000000000) = true then (0:Int) else 2) = 0 then _ else _) = _;rw [if_neg (λh=>c1 (hden.1 h)),if_neg (by omega)]
  have hv:qtE (den,m,u) n = 2:=by unfold qtE; rw [if_pos c1]
  rw [he,if_pos (show (2:Int) ≠ 0 by omega),hv];rfl
 by_cases c2:m.length = n
 case neg =>
  have he:e0 = 10:=by
   show (if (if decide (1<=den/\den<=100000000000) = true then (0:Int) else 2) = 0 then _ else _) = _;rw [if_pos (hden.2 c1),if_pos rfl,if_neg (by simp; omega)]
  have hv:qtE (den,m,u) n = 10:=by unfold qtE; rw [if_neg (λh=>h c1),if_pos c2]
  rw [he,if_pos (show (10:Int) ≠ 0 by omega),hv];rfl
 have he:e0 = 0:=by
  show (if (if decide (1<=den/\den<=100000000000) = true then (0:Int) else 2) = 0 then _ else _) = _;rw [if_pos (hden.2 c1),if_pos rfl,if_pos (by simp; omega)]
 rw [he,if_neg (show ¬ (0:Int) ≠ 0 by omega)];by_cases c3:∀ r ∈ m,r.length = n
 case neg =>
  have hv:qtE (den,m,u) n = 10:=by unfold qtE; rw [if_neg (λh=>h c1),if_neg (λh=>h c2),if_pos c3]
  rw [if_neg c3,hv];rfl
 have hv:qtE (den,m,u) n = if ¬ BdM q5 m then 2 else if qg den m = 1 then 0 else 3:=by unfold qtE; rw [if_neg (λh=>h c1),if_neg (λh=>h c2),if_neg (λh=>h c3)]
 rw [if_pos c3,hv];simp only [decide_true,Bool.not_true,cond_false]
 -- the parts
 have hden1:den.natAbs<=q5.toNat:=by unfold q5 at *; omega
 have hqb:∀ i,BdM q5 (m.take i)->(qg den (m.take i):Int)<=q5:=λi h=>qEa (by omega) c1.2 h;refine Ok.eq (qpA.2 ?_);refine (qbc m.length (λi (s:Int × Int)=>s = ((qg den (m.take i):Int),(i:Int))/\BdM q5 (m.take i))
  (λr=>(r = .inl (qg den m:Int)/\BdM q5 m)\/(r = .inr 2 /\ ¬ BdM q5 m)) ⟨by
   have:((qg den (m.take 0):Nat):Int) = den:=by simp [qg,qeC,qip] <;> omega
   rw [this]; rfl,by intro r hr; simp at hr⟩ ?_).mono ?_
 ·rintro i s hi ⟨rfl,hI⟩;by_cases hlt:i < m.length
  ·have d0:decide ((i:Int) < (m.length:Int)) = true:=decide_eq_true (by omega);have hz:m[i]? = some (m.getD i []):=qd1 _ hlt;have hmem:=qbf (d:=([]:List G)) hlt;have hrl:=hr _ hmem;simp only [d0,cond_true];rw [qaA hz];simp only [qa];generalize hrow:m.getD i [] = r at *;rw [qwZ];have hq:=hqb i hI;refine (qbc r.length (λk (s:Int × Int)=>s = ((qip (qg den (m.take i)) (parts (r.take k)):Int),(k:Int))/\∀ z ∈ r.take k,Bd q5 z)
    (λx=>(x = .inl (qip (qg den (m.take i)) (parts r):Int)/\∀ z ∈ r,Bd q5 z)\/(x = .inr (.inr (.inr 2)) /\ ¬ ∀ z ∈ r,Bd q5 z)) ⟨rfl,by simp⟩ ?_).mono ?_
   ·rintro k s hk ⟨rfl,hK⟩;by_cases hlt2:k < r.length
    ·have d1:decide ((k:Int) < (r.length:Int)) = true:=decide_eq_true (by omega);have hz2:r[k]? = some (r.getD k g0):=qd1 _ hlt2;simp only [d1,cond_true];rw [qaA hz2];simp only [qa];rw [qdz _ _ (by omega) (by omega)];simp only [qa];by_cases hb:Bd 100000000000 (r.getD k g0)
     ·rw [decide_eq_true hb,Bool.not_true,cond_false];have hgb:qip (qg den (m.take i)) (parts (r.take k))<=q5.toNat:=qkE (by unfold q5 at *; omega) λx hx=>by
       have:=qod hK hx;unfold q5 at *; omega
      have hb':=hb;unfold Bd at hb;rw [qq2 _ (by simp) (by
       intro x hx;unfold q5 at *;simp only [List.mem_cons,List.not_mem_nil,or_false] at hx;rcases hx with rfl | rfl | rfl <;> omega)]
      simp only [qa];rw [wid (by omega) (by omega),qaF];refine ⟨hlt2,?_,λz hz3=>?_⟩
      ·congr 2
       rw [qci g0 hlt2,qpL,qff,qff,qrZ];rfl
      ·rw [qci g0 hlt2] at hz3;rcases List.mem_append.1 hz3 with h1 | h1
       ·exact hK z h1
       ·rw [List.mem_singleton] at h1; rw [h1]; exact hb'
     ·rw [decide_eq_false hb,Bool.not_false,cond_true,qam];exact .inr ⟨rfl,λh=>hb (h _ (qbf hlt2))⟩
    ·have:k = r.length:=by omega
     subst this;have d1:decide ((r.length:Int) < (r.length:Int)) = false:=by simp
     simp only [d1,cond_false];rw [qam];rw [List.take_length] at hK ⊢;exact .inl ⟨rfl,hK⟩
   ·rintro x (⟨rfl,h⟩ | ⟨rfl,h⟩)
    ·simp only
     rw [wid (by omega) (by omega),qaF];have e:m.take (i + 1) = m.take i ++ [r]:=by rw [qci [] hlt,hrow]
     refine ⟨hlt,?_,?_⟩
     ·rw [e]; unfold qg; rw [qmS,qoj]; rfl
     ·rw [e];intro q hq2;rcases List.mem_append.1 hq2 with h1 | h1
      ·exact hI q h1
      ·rw [List.mem_singleton] at h1; rw [h1]; exact h
    ·simp only
     exact .inr ⟨(by trivial),λhh=>h (hh r hmem)⟩
  ·have:i = m.length:=by omega
   subst this;have d0:decide ((m.length:Int) < (m.length:Int)) = false:=by simp
   simp only [d0,cond_false];rw [qam];rw [List.take_length] at hI ⊢;exact .inl ⟨rfl,hI⟩
 ·rintro x (⟨rfl,h⟩ | ⟨rfl,h⟩)
  ·simp only
   rw [if_neg (show ¬ ¬ BdM q5 m from λhh=>hh h)];by_cases hq:qg den m = 1
   ·rw [if_pos hq,decide_eq_true (show (qg den m:Int) = 1 by omega)]; exact q9.2 rfl
   ·rw [if_neg hq,decide_eq_false (show ¬ (qg den m:Int) = 1 by omega)]; exact q9.2 rfl
  ·simp only
   rw [if_pos h]
theorem qwb {x:Qt} {n:Nat} (hl:x.2.1.length<=1000) (hr:∀ r ∈ x.2.1,r.length<=1000) (hn:n<=1000):qcR x (n:Int) = some (qtE x n):=by
 obtain ⟨den,m,u⟩:=x;simp only at hl hr;unfold qcR qtE;simp only
 rw [qpn];simp only [qa];by_cases c1:1<=den/\den<=q5
 case neg =>
  rw [decide_eq_false (show ¬ (1<=den/\den<=100000000000) from c1),if_pos c1]; rfl
 rw [decide_eq_true (show (1<=den/\den<=100000000000) from c1),if_neg (by simpa using c1)];simp only [Bool.not_true,cond_false];by_cases c2:m.length = n
 case neg =>
  rw [decide_eq_false (show ¬ (m.length:Int) = (n:Int) by omega),if_pos c2]; rfl
 subst c2;rw [if_neg (by simp),decide_eq_true rfl];simp only [Bool.not_true,cond_false];rw [qe4 m _ (λ_ r=>if r.length = m.length then none else some (10:Int)) (λi r hi=>?_),qcl]
 rotate_left
 ·have hlt:=qf3 hi;rw [qaA hi];simp only [qa];rw [wid (by omega) (by omega)];by_cases c:r.length = m.length
  ·rw [decide_eq_true (show (r.length:Int) = (m.length:Int) by omega),if_pos c]; rfl
  ·rw [decide_eq_false (show ¬ (r.length:Int) = (m.length:Int) by omega),if_neg c]; rfl
 cases hf:qdm (λ_ (r:List G)=>if r.length = m.length then none else some (10:Int)) 0 m with
 | some e =>
  obtain ⟨i,r,h1,h2,_⟩:=qeX hf;have hne:¬ ∀ r ∈ m,r.length = m.length:=λh=>by
   rw [if_pos (h r (List.mem_of_getElem? h1))] at h2; cases h2
  have he:e = 10:=by
   split at h2
   ·cases h2
   ·cases h2; rfl
  rw [if_pos hne,he]
 | none =>
  rw [qcU] at hf;have c3:∀ r ∈ m,r.length = m.length:=λr hr'=>by
   obtain ⟨i,hi⟩:=List.mem_iff_getElem?.1 hr';have:=hf i r hi;by_cases c:r.length = m.length
   ·exact c
   ·rw [if_neg c] at this; cases this
  rw [if_neg (by simpa using c3)];simp only
  have hqb:∀ i,BdM q5 (m.take i)->(qg den (m.take i):Int)<=q5:=λi h=>qEa (by omega) c1.2 h;refine Ok.eq (qpA.2 ?_);refine (qbc m.length (λi (s:Int × Int)=>s = ((qg den (m.take i):Int),(i:Int))/\BdM q5 (m.take i))
   (λr=>(r = .inl (qg den m:Int)/\BdM q5 m)\/(r = .inr 2 /\ ¬ BdM q5 m)) ⟨by
    have:((qg den (m.take 0):Nat):Int) = den:=by simp [qg,qeC,qip] <;> omega
    rw [this]; rfl,by intro r hr; simp at hr⟩ ?_).mono ?_
  ·rintro i s hi ⟨rfl,hI⟩;by_cases hlt:i < m.length
   ·have d0:decide ((i:Int) < (m.length:Int)) = true:=decide_eq_true (by omega);have hz:m[i]? = some (m.getD i []):=qd1 _ hlt;have hmem:=qbf (d:=([]:List G)) hlt;have hrl:=c3 _ hmem;simp only [d0,cond_true];generalize hrow:m.getD i [] = r at *;rw [qwZ];have hq:=hqb i hI;refine (qbc m.length (λk (s:Int × Int)=>s = ((qip (qg den (m.take i)) (parts (r.take k)):Int),(k:Int))/\∀ z ∈ r.take k,Bd q5 z)
     (λx=>(x = .inl (qip (qg den (m.take i)) (parts r):Int)/\∀ z ∈ r,Bd q5 z)\/(x = .inr (.inr (.inr 2)) /\ ¬ ∀ z ∈ r,Bd q5 z)) ⟨rfl,by simp⟩ ?_).mono ?_
    ·rintro k s hk ⟨rfl,hK⟩;by_cases hlt2:k < m.length
     ·have d1:decide ((k:Int) < (m.length:Int)) = true:=decide_eq_true (by omega);have hz2:r[k]? = some (r.getD k g0):=qd1 _ (by omega);simp only [d1,cond_true];rw [qaA hz];simp only [qa];rw [qaA hz2];simp only [qa];rw [qfG _ _ (by omega) (by omega)];simp only [qa];by_cases hb:Bd 100000000000 (r.getD k g0)
      ·rw [decide_eq_true hb,Bool.not_true,cond_false];have hgb:qip (qg den (m.take i)) (parts (r.take k))<=q5.toNat:=qkE (by unfold q5 at *; omega) λx hx=>by
        have:=qod hK hx;unfold q5 at *; omega
       have hb':=hb;unfold Bd at hb;unfold q5 at hgb;rw [qCS (by omega) (by omega)];simp only [qa];have hg2:Int.gcd (r.getD k g0).1 (r.getD k g0).2.1<=100000000000:=qC5 (by omega) (by omega);rw [qCS (by omega) (by omega)];simp only [qa];rw [wid (by omega) (by omega),qaF];refine ⟨hlt2,?_,λz hz3=>?_⟩
       ·congr 2
        rw [qci g0 (by omega),qpL,qff,qff,qDV]
       ·rw [qci g0 (by omega)] at hz3;rcases List.mem_append.1 hz3 with h1 | h1
        ·exact hK z h1
        ·rw [List.mem_singleton] at h1; rw [h1]; exact hb'
      ·rw [decide_eq_false hb,Bool.not_false,cond_true,qam];exact .inr ⟨rfl,λh=>hb (h _ (qbf (by omega)))⟩
     ·have:k = m.length:=by omega
      subst this;have d1:decide ((m.length:Int) < (m.length:Int)) = false:=by simp
      simp only [d1,cond_false];rw [qam];rw [show r.take m.length = r from List.take_of_length_le (by omega)] at hK ⊢;exact .inl ⟨rfl,hK⟩
    ·rintro x (⟨rfl,h⟩ | ⟨rfl,h⟩)
     ·simp only
      rw [wid (by omega) (by omega),qaF];have e:m.take (i + 1) = m.take i ++ [r]:=by rw [qci [] hlt,hrow]
      refine ⟨hlt,?_,?_⟩
      ·rw [e]; unfold qg; rw [qmS,qoj]; rfl
      ·rw [e];intro q hq2;rcases List.mem_append.1 hq2 with h1 | h1
       ·exact hI q h1
       ·rw [List.mem_singleton] at h1; rw [h1]; exact h
     ·simp only
      exact .inr ⟨(by trivial),λhh=>h (hh r hmem)⟩
   ·have:i = m.length:=by omega
    subst this;have d0:decide ((m.length:Int) < (m.length:Int)) = false:=by simp
    simp only [d0,cond_false];rw [qam];rw [List.take_length] at hI ⊢;exact .inl ⟨rfl,hI⟩
  ·rintro x (⟨rfl,h⟩ | ⟨rfl,h⟩)
   ·simp only
    rw [if_neg (show ¬ ¬ BdM q5 m from λhh=>hh h)];by_cases hq:qg den m = 1
    ·rw [if_pos hq,decide_eq_true (show (qg den m:Int) = 1 by omega)]; exact q9.2 rfl
    ·rw [if_neg hq,decide_eq_false (show ¬ (qg den m:Int) = 1 by omega)]; exact q9.2 rfl
   ·simp only
    rw [if_pos h]
end Go.Proofs.YtbcdgfgacigaoaaGreat.Mat
end
section
namespace Go.Proofs.YtbcdgfgacigaoaaGreat.Mat
open Go Go.Ab Go.Tx Go.Proofs.YtbcdgfgacigaoaaGreat
def qEn (m:Mx):G:=qgz m.length (ent m)
def qEI (m:Mx):Nat->Nat->G:=qfs (qg (norm (qEn m)) (mx m.length m.length (qnE (m.length - 1) (ent m) (qEn m)))) (qnE (m.length - 1) (ent m) (qEn m))
def qFb (m:Mx):Int:=(norm (qEn m)).tdiv (qg (norm (qEn m)) (mx m.length m.length (qnE (m.length - 1) (ent m) (qEn m))))
theorem qDH {x:Qt} {n:Nat} (h:qtE x n = 0):(1<=x.1/\x.1<=q5)/\qEm n n x.2.1/\BdM q5 x.2.1/\qg x.1 x.2.1 = 1:=by
 unfold qtE at h;by_cases c1:1<=x.1/\x.1<=q5
 ·rw [if_neg (λh=>h c1)] at h;by_cases c2:x.2.1.length = n
  ·rw [if_neg (λh=>h c2)] at h;by_cases c3:∀ r ∈ x.2.1,r.length = n
   ·rw [if_neg (λh=>h c3)] at h;by_cases c4:BdM q5 x.2.1
    ·rw [if_neg (λh=>h c4)] at h;by_cases c5:qg x.1 x.2.1 = 1
     ·exact ⟨c1,⟨c2,c3⟩,c4,c5⟩
     ·rw [if_neg c5] at h; cases h
    ·rw [if_pos c4] at h; cases h
   ·rw [if_pos c3] at h; cases h
  ·rw [if_pos c2] at h; cases h
 ·rw [if_pos c1] at h; cases h
theorem qiO {x y:Qt} (hl:x.2.1.length<=1000000000) (hr:∀ r ∈ x.2.1,r.length<=1000000000):qbL x y = some (decide (x = y)):=by
 unfold qbL;rw [qsU hl hr];obtain ⟨a,m,_⟩:=x;obtain ⟨b,n,_⟩:=y;simp only [qa];by_cases h1:a = b
 ·by_cases h2:m = n
  ·simp [h1,h2]
  ·simp [h1,h2]
 ·simp [h1]
theorem qiB {x:Qt} (hl:x.2.1.length<=1000000000) (hr:∀ r ∈ x.2.1,r.length<=1000000000):qbI x = some x:=by
 unfold qbI;rw [qfO hl hr]; rfl
end Go.Proofs.YtbcdgfgacigaoaaGreat.Mat
namespace Go.Proofs.YtbcdgfgacigaoaaGreat
open Go Go.Ab Go.Tx
end Go.Proofs.YtbcdgfgacigaoaaGreat
end
section
namespace Go.Proofs.YtbcdgfgacigaoaaGreat.Mat
open Go Go.Ab Go.Tx Go.Proofs.YtbcdgfgacigaoaaGreat
theorem qgB {n:Nat} {f:Nat->G} (c:G):qdZ n (λk=>qw (f k) c) = qw (qdZ n f) c:=by
 induction n with
 | zero=>exact (qy2 c).symm
 | succ n ih=>simp only [qdZ,ih,qBE]
theorem qzi (a b c d:G):qcy (qcy a b) (qcy c d) = qcy (qcy a c) (qcy b d):=qi2 (by simp only [qcy]; omega) (by simp only [qcy]; omega)
theorem qCp {n:Nat} (f h:Nat->G):qdZ n (λk=>qcy (f k) (h k)) = qcy (qdZ n f) (qdZ n h):=by
 induction n with
 | zero=>exact (quu g0).symm
 | succ n ih=>simp only [qdZ,ih]; exact qzi _ _ _ _
theorem qpx:∀ n,qdZ n (λ_=>g0) = g0
 | 0=>rfl
 | n + 1=>by simp only [qdZ,qpx n] <;> rfl
theorem qpz {n c:Nat} (f:Nat->Nat->G):qdZ n (λi=>qdZ c (λk=>f i k)) = qdZ c (λk=>qdZ n (λi=>f i k)):=by
 induction n with
 | zero=>exact (qpx c).symm
 | succ n ih=>simp only [qdZ,ih]; exact (qCp _ _).symm
theorem qBT {n:Nat} {f:Nat->G} {i:Nat} (hi:i < n) (h:∀ j,j < n->j ≠ i->f j = g0):qdZ n f = f i:=by
 induction n with
 | zero=>omega
 | succ n ih =>
  simp only [qdZ];by_cases e:i = n
  ·subst e;rw [qbn (h:=λ_=>g0) (λk hk=>h k (by omega) (by omega)),qpx,qhr]
  ·rw [ih (by omega) (λj hj hne=>h j (by omega) hne),h n (by omega) (by omega),quu]
theorem qbQ {n i k:Nat} {f f' h h':Nat->Nat->G} (e1:∀ j,j < n->f i j = f' i j) (e2:∀ j,j < n->h j k = h' j k):qR n f h i k = qR n f' h' i k:=by
 unfold qR;exact qbn λj hj=>by rw [e1 j hj,e2 j hj]
theorem qjC (n:Nat) (f h:Nat->Nat->G) (c:G) (i k:Nat):qR n f (λi k=>qw (h i k) c) i k = qw (qR n f h i k) c:=by
 unfold qR;rw [<- qgB];exact qbn λj hj=>(qeO _ _ _).symm
theorem qho (n:Nat) (f h:Nat->Nat->G) (c:G) (i k:Nat):qR n (λi k=>qw (f i k) c) h i k = qw (qR n f h i k) c:=by
 unfold qR;rw [<- qgB];exact qbn λj hj=>by rw [qeO,qfn c,<- qeO]
theorem qhW (n:Nat) (f g h:Nat->Nat->G) (i k:Nat):qR n f (qR n g h) i k = qR n (qR n f g) h i k:=by
 unfold qR;have e1:qdZ n (λj=>qw (f i j) (qdZ n λl=>qw (g j l) (h l k))) = qdZ n (λj=>qdZ n λl=>qw (qw (f i j) (g j l)) (h l k)):=qbn λj hj=>by
  rw [qfn,<- qgB];exact qbn λl hl=>by rw [qfn,qeO]
 rw [e1,qpz];exact qbn λl hl=>qgB _
theorem qp5 {n:Nat} (s:Int) (h:Nat->Nat->G) {i k:Nat} (hk:k < n):qR n h (qqV s) i k = qw (h i k) (s,0,()):=by
 unfold qR;rw [qBT hk (λj hj hne=>by unfold qqV; rw [if_neg hne]; exact qBf _)];unfold qqV;rw [if_pos rfl]
theorem qFO (f:Nat->Nat->G) (i k:Nat):qhv 1 f i k = if (i + k) % 2 = 1 then qio (f (skip k 0) (skip i 0)) else f (skip k 0) (skip i 0):=by
 unfold qhv qDX;rw [qki]; rfl
def mm (f:Nat->Nat->G) (a b c d:Nat):G:=qiq (qw (f a c) (f b d)) (qw (f a d) (f b c))
theorem qFJ (f:Nat->Nat->G) (i k:Nat):qhv 2 f i k = if (i + k) % 2 = 1 then qio (mm f (skip k 0) (skip k 1) (skip i 0) (skip i 1)) else mm f (skip k 0) (skip k 1) (skip i 0) (skip i 1):=by
 unfold qhv qDX;rw [qkq]; rfl
set_option maxHeartbeats 4000000 in
theorem qy5 {n:Nat} (hn:n + 1<=3) (f:Nat->Nat->G) {i k:Nat} (hi:i < n + 1) (hk:k < n + 1):qR (n + 1) f (qhv n f) i k = if i = k then qgz (n + 1) f else g0:=by
 match n,hn with
 | 0,_ =>
  obtain rfl:i = 0:=by omega
  obtain rfl:k = 0:=by omega
  rw [qEq,qki];exact qBR _
 | 1,_ =>
  rw [qE6,qkq];have hi':i = 0\/i = 1:=by omega
  have hk':k = 0\/k = 1:=by omega
  rcases hi' with rfl | rfl <;> rcases hk' with rfl | rfl <;> simp only [qFO] <;> simp [skip] <;> refine qi2 ?_ ?_ <;> simp only [qcy,qw,qiq,qio,g0] <;> grind
 | 2,_ =>
  rw [qEU,qwg];have hi':i = 0\/i = 1\/i = 2:=by omega
  have hk':k = 0\/k = 1\/k = 2:=by omega
  rcases hi' with rfl | rfl | rfl <;> rcases hk' with rfl | rfl | rfl <;> simp only [qFJ] <;> simp [skip] <;> refine qi2 ?_ ?_ <;> simp only [dd,mm,qcy,qw,qiq,qio,g0] <;> grind
set_option maxHeartbeats 4000000 in
theorem qCf {n:Nat} (hn:n + 1<=3) (f:Nat->Nat->G) {i k:Nat} (hi:i < n + 1) (hk:k < n + 1):qR (n + 1) (qhv n f) f i k = if i = k then qgz (n + 1) f else g0:=by
 match n,hn with
 | 0,_ =>
  obtain rfl:i = 0:=by omega
  obtain rfl:k = 0:=by omega
  rw [qEq,qki];exact qCK _
 | 1,_ =>
  rw [qE6,qkq];have hi':i = 0\/i = 1:=by omega
  have hk':k = 0\/k = 1:=by omega
  rcases hi' with rfl | rfl <;> rcases hk' with rfl | rfl <;> simp only [qFO] <;> simp [skip] <;> refine qi2 ?_ ?_ <;> simp only [qcy,qw,qiq,qio,g0] <;> grind
 | 2,_ =>
  rw [qEU,qwg];have hi':i = 0\/i = 1\/i = 2:=by omega
  have hk':k = 0\/k = 1\/k = 2:=by omega
  rcases hi' with rfl | rfl | rfl <;> rcases hk' with rfl | rfl | rfl <;> simp only [qFJ] <;> simp [skip] <;> refine qi2 ?_ ?_ <;> simp only [dd,mm,qcy,qw,qiq,qio,g0] <;> grind
theorem qd9 {n c:Nat} {f:Nat->Nat->G} {x:Int}:x ∈ qeC (mx n c f) ↔ ∃ i k,i < n/\k < c/\(x = (f i k).1\/x = (f i k).2.1):=by
 unfold qeC;rw [List.mem_flatMap];constructor
 ·rintro ⟨r,hr,hx⟩;obtain ⟨i,hi,rfl⟩:=qmG hr;unfold parts at hx;obtain ⟨z,hz,hx⟩:=List.mem_flatMap.1 hx;obtain ⟨k,hk,rfl⟩:=qmG hz;exact ⟨i,k,hi,hk,by simpa using hx⟩
 ·rintro ⟨i,k,hi,hk,hx⟩;refine ⟨mkL c λk=>f i k,qsq (f:=λi=>mkL c λk=>f i k) hi,?_⟩;unfold parts;exact List.mem_flatMap.2 ⟨f i k,qsq (f:=λk=>f i k) hk,by simpa using hx⟩
theorem qnJ {d c:Nat}:∀ {l:List Int} {g:Nat},d ∣ c * g->(∀ x ∈ l,d ∣ c * x.natAbs)->d ∣ c * qip g l
 | [],g,hg,_=>hg
 | n :: l,g,hg,h=>by
  simp only [qip];refine qnJ (l:=l) ?_ λx hx=>h x (by simp [hx]);rw [<- Nat.gcd_mul_left];exact Nat.dvd_gcd hg (h n (by simp))
theorem qgl (a:G) (s:Int):qw a (s,0,()) = (a.1 * s,a.2.1 * s,()):=qi2 (by simp [qw]) (by simp [qw])
theorem qDI {a b:G} {s:Int} (hs:s ≠ 0) (h:qw a (s,0,()) = qw b (s,0,())):a = b:=by
 rw [qgl,qgl] at h;have h1:=congrArg (λz:G=>z.1) h;have h2:=congrArg (λz:G=>z.2.1) h;exact qi2 (Int.eq_of_mul_eq_mul_right hs h1) (Int.eq_of_mul_eq_mul_right hs h2)
theorem qAJ (a:Mx):qyZ a a = none:=by
 unfold qyZ;rw [qcU];intro i r hr;have:a.getD i [] = r:=by rw [List.getD_eq_getElem?_getD,hr]; rfl
 simp only [Nat.zero_add];rw [if_pos this.symm]
theorem qAY {a b:Mx} (hl:a.length = b.length) (h:qyZ a b = none):a = b:=by
 unfold qyZ at h;rw [qcU] at h;refine List.ext_getElem? λi=>?_;by_cases hi:i < a.length
 ·have h1:=h i (a.getD i []) (qd1 [] hi);rw [qd1 [] hi,qd1 [] (show i < b.length by omega)];by_cases c:a.getD i [] = b.getD i []
  ·rw [c]
  ·rw [if_neg (by simpa using c)] at h1; cases h1
 ·rw [List.getElem?_eq_none (by omega),List.getElem?_eq_none (by omega)]
end Go.Proofs.YtbcdgfgacigaoaaGreat.Mat
end
section
set_option maxRecDepth 1000000
namespace Go.Tx
open Go
def nrm (a:G):Int:=a.1 * a.1 + a.2.1 * a.2.1
theorem qdW (a:G):0<=nrm a:=by
 have:=sq_nonneg a.1;have:=sq_nonneg a.2.1;unfold nrm; omega
def gr (N:Nat) (f h:Nat->G):G:=qdZ N λj=>qw (f j) (qU (h j))
def grn (N:Nat) (f:Nat->G):Int:=match N with
 | 0=>0
 | n + 1=>grn n f + nrm (f n)
theorem qvz:∀ (N:Nat) (f:Nat->G),gr N f f = (grn N f,0,())
 | 0,f=>rfl
 | n + 1,f=>by
  have h:=qvz n f;unfold gr at h ⊢;simp only [qdZ,h,grn];exact qi2 (by simp only [qcy,qw,qU,nrm]; grind) (by simp only [qcy,qw,qU,nrm]; grind)
theorem qAa:∀ (N:Nat) (f h:Nat->G),gr N h f = qU (gr N f h)
 | 0,f,h=>rfl
 | n + 1,f,h=>by
  have e:=qAa n f h;unfold gr at e ⊢;simp only [qdZ,e];exact qi2 (by simp only [qcy,qw,qU]; grind) (by simp only [qcy,qw,qU]; grind)
theorem qmF:∀ (N:Nat) (f:Nat->G),0<=grn N f
 | 0,f=>by simp [grn]
 | n + 1,f=>by
  have h:=qmF n f;have:=qdW (f n);simp only [grn] <;> omega
def qjN (a b c:Int) (x y z p q r:G):Int :=
 a * nrm p + b * nrm q + c * nrm r + 2 * (qw (qU p) (qw x q)).1 + 2 * (qw (qU p) (qw y r)).1 + 2 * (qw (qU q) (qw z r)).1
set_option maxHeartbeats 4000000 in
theorem qx7 (a b c:Int) (x y z p q r u v t:G) :
  qjN (a + nrm u) (b + nrm v) (c + nrm t) (qcy x (qw u (qU v))) (qcy y (qw u (qU t))) (qcy z (qw v (qU t))) p q r =
   qjN a b c x y z p q r + nrm (qcy (qcy (qw (qU p) u) (qw (qU q) v)) (qw (qU r) t)):=by
 obtain ⟨u1,u2,_⟩:=u;obtain ⟨v1,v2,_⟩:=v;obtain ⟨t1,t2,_⟩:=t;obtain ⟨p1,p2,_⟩:=p;obtain ⟨q1,q2,_⟩:=q;obtain ⟨r1,r2,_⟩:=r;obtain ⟨x1,x2,_⟩:=x;obtain ⟨y1,y2,_⟩:=y;obtain ⟨z1,z2,_⟩:=z;simp only [qjN,nrm,qcy,qw,qU];grind
theorem qnQ (p q r:G) (u v t:Nat->G):∀ N,0<=qjN (grn N u) (grn N v) (grn N t) (gr N u v) (gr N u t) (gr N v t) p q r
 | 0=>by simp [qjN,grn,gr,qdZ,g0,qw,qU,nrm]
 | n + 1=>by
  have h:=qnQ p q r u v t n;have e:=qx7 (grn n u) (grn n v) (grn n t) (gr n u v) (gr n u t) (gr n v t) p q r (u n) (v n) (t n);have:=qdW (qcy (qcy (qw (qU p) (u n)) (qw (qU q) (v n))) (qw (qU r) (t n)));have e2:qjN (grn (n + 1) u) (grn (n + 1) v) (grn (n + 1) t) (gr (n + 1) u v) (gr (n + 1) u t) (gr (n + 1) v t) p q r = qjN (grn n u + nrm (u n)) (grn n v + nrm (v n)) (grn n t + nrm (t n)) (qcy (gr n u v) (qw (u n) (qU (v n)))) (qcy (gr n u t) (qw (u n) (qU (t n)))) (qcy (gr n v t) (qw (v n) (qU (t n)))) p q r:=rfl;rw [e2,e]; omega
def qhe (a c:Int) (x p q:G):Int:=a * nrm p + c * nrm q + 2 * (qw (qU p) (qw x q)).1
theorem qoo {a c:Int} {x:G} (h:∀ p q,0<=qhe a c x p q):0<=a/\0<=c/\nrm x<=a * c:=by
 have ha:0<=a:=by
  have:=h (1,0,()) (0,0,());simp [qhe,nrm,qw,qU] at this;exact this
 have hc:0<=c:=by
  have:=h (0,0,()) (1,0,());simp [qhe,nrm,qw,qU] at this;exact this
 refine ⟨ha,hc,?_⟩;by_cases h0:a = 0
 ·subst h0;have h1:=h (-((c + 1) * x.1),-((c + 1) * x.2.1),()) (1,0,());have e:qhe 0 c x (-((c + 1) * x.1),-((c + 1) * x.2.1),()) (1,0,()) = c - 2 * ((c + 1) * nrm x):=by
   simp only [qhe,nrm,qw,qU]; grind
  rw [e] at h1;have hn:=qdW x;rw [Int.zero_mul];false_or_by_contra
  have h2:(c + 1) * 1<=(c + 1) * nrm x:=Int.mul_le_mul_of_nonneg_left (by omega) (by omega);omega
 ·have h1:=h (qio x) (a,0,());have e:qhe a c x (qio x) (a,0,()) = a * (a * c - nrm x):=by
   simp only [qhe,nrm,qw,qU,qio]; grind
  rw [e] at h1;have:0<=a * c - nrm x:=by
   false_or_by_contra
   have h3:a * (a * c - nrm x)<=a * (-1):=Int.mul_le_mul_of_nonneg_left (by omega) ha;omega
  omega
def qA3 (a b c:Int) (x y z:G):Int:=a * b * c + 2 * (qw (qw x z) (qU y)).1 - a * nrm z - b * nrm y - c * nrm x
set_option maxHeartbeats 4000000 in
theorem qvr (a b c:Int) (x y z q r:G) :
  qjN a b c x y z (qio (qcy (qw x q) (qw y r))) (a * q.1,a * q.2.1,()) (a * r.1,a * r.2.1,()) =
   a * qhe (a * b - nrm x) (a * c - nrm y) (qiq (a * z.1,a * z.2.1,()) (qw (qU x) y)) q r:=by
 obtain ⟨q1,q2,_⟩:=q;obtain ⟨r1,r2,_⟩:=r;obtain ⟨x1,x2,_⟩:=x;obtain ⟨y1,y2,_⟩:=y;obtain ⟨z1,z2,_⟩:=z;simp only [qjN,qhe,nrm,qcy,qw,qU,qio,qiq];grind
set_option maxHeartbeats 4000000 in
theorem qzM (a b c:Int) (x y z:G):(a * b - nrm x) * (a * c - nrm y) - nrm (qiq (a * z.1,a * z.2.1,()) (qw (qU x) y)) = a * qA3 a b c x y z:=by
 obtain ⟨x1,x2,_⟩:=x;obtain ⟨y1,y2,_⟩:=y;obtain ⟨z1,z2,_⟩:=z;simp only [qA3,nrm,qcy,qw,qU,qio,qiq];grind
theorem qxy {x:G} (h:nrm x<=0):x = g0:=by
 have h1:=sq_nonneg x.1;have h2:=sq_nonneg x.2.1;unfold nrm at h;exact qi2 (qs4 (by omega)) (qs4 (by omega))
theorem qy9 {a b c:Int} {x y z:G} (h:∀ p q r,0<=qjN a b c x y z p q r):0<=a/\0<=b/\0<=c/\nrm x<=a * b/\nrm y<=a * c/\nrm z<=b * c/\0<=qA3 a b c x y z/\qA3 a b c x y z<=a * b * c:=by
 have hx:∀ p q,0<=qhe a b x p q:=λp q=>by
  have:=h p q g0;have e:qjN a b c x y z p q g0 = qhe a b x p q:=by simp [qjN,qhe,nrm,qw,qU,g0]
  rw [e] at this; exact this
 have hy:∀ p q,0<=qhe a c y p q:=λp q=>by
  have:=h p g0 q;have e:qjN a b c x y z p g0 q = qhe a c y p q:=by simp [qjN,qhe,nrm,qw,qU,g0]
  rw [e] at this; exact this
 have hz:∀ p q,0<=qhe b c z p q:=λp q=>by
  have:=h g0 p q;have e:qjN a b c x y z g0 p q = qhe b c z p q:=by simp [qjN,qhe,nrm,qw,qU,g0]
  rw [e] at this; exact this
 obtain ⟨a0,b0,x1⟩:=qoo hx;obtain ⟨_,c0,y1⟩:=qoo hy;obtain ⟨_,_,z1⟩:=qoo hz;refine ⟨a0,b0,c0,x1,y1,z1,?_⟩;by_cases ha:a = 0
 ·subst ha;rw [Int.zero_mul] at x1 y1;have ex:=qxy x1;have ey:=qxy y1;subst ex ey;have e:qA3 0 b c g0 g0 z = 0:=by simp [qA3,nrm,qw,qU,g0]
  rw [e]; simp
 ·have hk:∀ q r,0<=qhe (a * b - nrm x) (a * c - nrm y) (qiq (a * z.1,a * z.2.1,()) (qw (qU x) y)) q r:=λq r=>by
   have h1:=h (qio (qcy (qw x q) (qw y r))) (a * q.1,a * q.2.1,()) (a * r.1,a * r.2.1,());rw [qvr] at h1;false_or_by_contra
   have h3:a * qhe (a * b - nrm x) (a * c - nrm y) (qiq (a * z.1,a * z.2.1,()) (qw (qU x) y)) q r<=a * (-1):=Int.mul_le_mul_of_nonneg_left (by omega) a0;omega
  obtain ⟨k1,k2,k3⟩:=qoo hk;have hd:=qzM a b c x y z;have hn:=qdW (qiq (a * z.1,a * z.2.1,()) (qw (qU x) y));have m1:=Int.mul_le_mul (show a * b - nrm x<=a * b by have:=qdW x; omega) (show a * c - nrm y<=a * c by have:=qdW y; omega) k2 (Int.mul_nonneg a0 b0);have e1:a * b * (a * c) = a * (a * b * c):=by grind
  constructor
  ·false_or_by_contra
   have h3:a * qA3 a b c x y z<=a * (-1):=Int.mul_le_mul_of_nonneg_left (by omega) a0;omega
  ·false_or_by_contra
   have h3:a * (a * b * c + 1)<=a * qA3 a b c x y z:=Int.mul_le_mul_of_nonneg_left (by omega) a0;rw [Int.mul_add,Int.mul_one] at h3;omega
set_option maxHeartbeats 4000000 in
theorem qDM (a b c:Int) (x y z:G):dd (a,0,()) x y (qU x) (b,0,()) z (qU y) (qU z) (c,0,()) = (qA3 a b c x y z,0,()):=by
 obtain ⟨x1,x2,_⟩:=x;obtain ⟨y1,y2,_⟩:=y;obtain ⟨z1,z2,_⟩:=z;exact qi2 (by simp only [dd,qA3,nrm,qcy,qw,qU,qio,qiq]; grind) (by simp only [dd,qA3,nrm,qcy,qw,qU,qio,qiq]; grind)
def qv6 (N:Nat) (v:Nat->Nat->G) (i k:Nat):G:=gr N (λj=>v j i) (λj=>v j k)
theorem qBB {N n:Nat} (hn:n<=3) {v:Nat->Nat->G} {B:Int} (hB:1<=B) (hd:∀ i,i < n->grn N (λj=>v j i)<=B):∃ w:Int,qgz n (qv6 N v) = (w,0,())/\0<=w/\w<=B * B * B:=by
 have b0:0<=B:=by omega
 have bb:B * 1<=B * B:=Int.mul_le_mul_of_nonneg_left hB b0;have bbb:B * B * 1<=B * B * B:=Int.mul_le_mul_of_nonneg_left hB (by omega);have hg:∀ i k,qv6 N v k i = qU (qv6 N v i k):=λi k=>qAa N _ _;have hs:∀ i,qv6 N v i i = (grn N (λj=>v j i),0,()):=λi=>qvz N _;have hq:=λp q r=>qnQ p q r (λj=>v j 0) (λj=>v j 1) (λj=>v j 2) N;obtain ⟨a0,c0,d0,x1,y1,z1,hd0,hd1⟩:=qy9 hq
 match n,hn,hd with
 | 0,_,_=>exact ⟨1,rfl,by omega,by omega⟩
 | 1,_,hd =>
  have:=hd 0 (by omega);refine ⟨grn N (λj=>v j 0),?_,a0,by omega⟩;rw [qki,hs]
 | 2,_,hd =>
  have h0:=hd 0 (by omega);have h1:=hd 1 (by omega);have m:=Int.mul_le_mul h0 h1 c0 b0;have:=qdW (qv6 N v 0 1);refine ⟨grn N (λj=>v j 0) * grn N (λj=>v j 1) - nrm (qv6 N v 0 1),?_,?_,by omega⟩
  ·rw [qkq,hs 0,hs 1,hg 0 1];exact qi2 (by simp only [qiq,qw,qU,nrm]; grind) (by simp only [qiq,qw,qU,nrm]; grind)
  ·have e:nrm (qv6 N v 0 1)<=grn N (λj=>v j 0) * grn N (λj=>v j 1):=x1;omega
 | 3,_,hd =>
  have h0:=hd 0 (by omega);have h1:=hd 1 (by omega);have h2:=hd 2 (by omega);have m1:=Int.mul_le_mul h0 h1 c0 b0;have m2:=Int.mul_le_mul m1 h2 d0 (by omega);refine ⟨_,?_,hd0,by omega⟩;rw [qwg,hs 0,hs 1,hs 2,hg 0 1,hg 0 2,hg 1 2,qDM];rfl
end Go.Tx
end
section
namespace Go.Proofs.YtbcdgfgacigaoaaGreat.Mat
open Go Go.Ab Go.Tx Go.Proofs.YtbcdgfgacigaoaaGreat
abbrev Rn:=Mx × Mx × Unit
def qC8 (n0:Nat) (d r:List G):Int:=if ¬ d.length = 0/\d.length = n0/\r.length = d.length then (if 3 < d.length then 8 else if (d.any (qfj 9) || r.any (qfj 9)) = true then 2 else 0) else 10
def qn9 (ρ:Rn):Nat->Int
 | 0=>0
 | i + 1=>if qn9 ρ i = 0 then qC8 (ρ.1.getD 0 []).length (ρ.1.getD i []) (ρ.2.1.getD i []) else qn9 ρ i
def qqC (ρ:Rn):Int:=if ρ.1.length = 0 \/ ¬ ρ.2.1.length = ρ.1.length then 10 else if 6 < ρ.1.length then 8 else qn9 ρ ρ.1.length
theorem qmk {ρ:Rn} {i j:Nat} (h:qn9 ρ i ≠ 0) (hij:i<=j):qn9 ρ j = qn9 ρ i:=by
 induction j with
 | zero=>rw [show i = 0 by omega]
 | succ j ih =>
  by_cases c:i = j + 1
  ·rw [c]
  ·have:=ih (by omega);simp only [qn9];rw [this,if_neg h]
theorem qAv {ρ:Rn} {n:Nat} (h:qn9 ρ n = 0) {i:Nat} (hi:i < n):qC8 (ρ.1.getD 0 []).length (ρ.1.getD i []) (ρ.2.1.getD i []) = 0:=by
 have h1:qn9 ρ (i + 1) = 0:=by
  false_or_by_contra
  rename_i h9;have:=qmk h9 (show i + 1<=n by omega);omega
 simp only [qn9] at h1;by_cases c:qn9 ρ i = 0
 ·rw [if_pos c] at h1; exact h1
 ·rw [if_neg c] at h1; exact absurd h1 c
theorem qA6 {n0:Nat} {d r:List G} (h:qC8 n0 d r = 0):d.length = n0/\r.length = n0/\1<=n0/\n0<=3/\(∀ z ∈ d,Bd 9 z)/\∀ z ∈ r,Bd 9 z:=by
 unfold qC8 at h;by_cases c:¬ d.length = 0/\d.length = n0/\r.length = d.length
 case neg=>rw [if_neg c] at h; cases h
 rw [if_pos c] at h;by_cases c2:3 < d.length
 ·rw [if_pos c2] at h; cases h
 rw [if_neg c2] at h;cases hb:(d.any (qfj 9) || r.any (qfj 9)) with
 | true=>rw [hb,if_pos rfl] at h; cases h
 | false =>
  rw [Bool.or_eq_false_iff] at hb;refine ⟨c.2.1,by omega,by omega,by omega,λz hz=>?_,λz hz=>?_⟩
  ·have:=List.any_eq_false.1 hb.1 z hz;unfold qfj at this;simpa using this
  ·have:=List.any_eq_false.1 hb.2 z hz;unfold qfj at this;simpa using this
structure RunB (ρ:Rn) (n:Nat):Prop where
 len:ρ.2.1.length = ρ.1.length
 l1:1<=ρ.1.length
 l6:ρ.1.length<=6
 n1:1<=n
 n3:n<=3
 hn:(ρ.1.getD 0 []).length = n
 dl:∀ j,j < ρ.1.length->(ρ.1.getD j []).length = n
 rl:∀ j,j < ρ.1.length->(ρ.2.1.getD j []).length = n
 dB:∀ j i,j < ρ.1.length->i < n->Bd 9 (ent ρ.1 j i)
 rB:∀ j i,j < ρ.1.length->i < n->Bd 9 (ent ρ.2.1 j i)
theorem qFc {ρ:Rn} (h:qqC ρ = 0):RunB ρ (ρ.1.getD 0 []).length:=by
 unfold qqC at h;by_cases c:ρ.1.length = 0 \/ ¬ ρ.2.1.length = ρ.1.length
 ·rw [if_pos c] at h; cases h
 rw [if_neg c] at h;by_cases c2:6 < ρ.1.length
 ·rw [if_pos c2] at h; cases h
 rw [if_neg c2] at h;have hz:=λj hj=>qA6 (qAv h (i:=j) hj);have h0:=hz 0 (by omega);refine ⟨by omega,by omega,by omega,h0.2.2.1,h0.2.2.2.1,rfl,λj hj=>(hz j hj).1,λj hj=>(hz j hj).2.1,λj i hj hi=>(hz j hj).2.2.2.2.1 _ (qbf (by rw [(hz j hj).1]; exact hi)),λj i hj hi=>(hz j hj).2.2.2.2.2 _ (qbf (by rw [(hz j hj).2.1]; exact hi))⟩
theorem qCl {d r:List G} (hl:r.length = d.length) (hd:d.length<=1000000000) (v:Int) (K2:Unit->Option (Int ⊕ (Unit ⊕ Int))) :
  ((qA (λ(s9:Int) =>
   bif decide (s9 < (d.length:Int)) then
    ((idx d s9).bind λx10 =>
     (qbj x10 (9:Int)).bind λx11 =>
     bif !x11 then
      some true
     else
      (idx r s9).bind λx12 =>
      (qbj x12 (9:Int)).bind λx13 =>
      some (!x13)).bind λ(p14:Bool) =>
    bif p14 then
     some (.inr (.inr (.inr (.inr v))))
    else
     some (.inl (w64 (s9 + 1)))
   else
    some (.inr (.inl ()))) 0):Option (Unit ⊕ (Int ⊕ (Unit ⊕ Int)))).bind (Sum.elim K2 some) = if (d.any (qfj 9) || r.any (qfj 9)) = true then some (.inr (.inr v)) else K2 ():=by
 rw [qe4 d _ (λi z=>if (qfj 9 z || qfj 9 (r.getD i g0)) = true then some (Sum.inr (Sum.inr v):Int ⊕ (Unit ⊕ Int)) else none) (λi z hi=>?_),qcl]
 ·cases hf:qdm (λi z=>if (qfj 9 z || qfj 9 (r.getD i g0)) = true then some (Sum.inr (Sum.inr v):Int ⊕ (Unit ⊕ Int)) else none) 0 d with
  | none =>
   rw [qcU] at hf;have h1:(d.any (qfj 9) || r.any (qfj 9)) = false:=by
    rw [Bool.or_eq_false_iff];refine ⟨List.any_eq_false.2 λx hx=>?_,List.any_eq_false.2 λx hx=>?_⟩
    ·obtain ⟨k,hk⟩:=List.mem_iff_getElem?.1 hx;have:=hf k x hk;intro hb;rw [hb] at this;simp at this
    ·obtain ⟨k,hk⟩:=List.mem_iff_getElem?.1 hx;have hlt:=qf3 hk;have:=hf k (d.getD k g0) (qd1 g0 (by omega));intro hb;rw [Nat.zero_add,qgt hk,hb,Bool.or_true] at this;simp at this
   rw [h1]; simp
  | some q =>
   obtain ⟨k,z,h1,h2,_⟩:=qeX hf;by_cases hp:(qfj 9 z || qfj 9 (r.getD (0 + k) g0)) = true
   case neg=>rw [if_neg hp] at h2; cases h2
   rw [if_pos hp] at h2;cases h2;have hlt:=qf3 h1;have hb:(d.any (qfj 9) || r.any (qfj 9)) = true:=by
    rw [Bool.or_eq_true] at hp ⊢;rcases hp with hp | hp
    ·exact .inl (List.any_eq_true.2 ⟨z,List.mem_of_getElem? h1,hp⟩)
    ·exact .inr (List.any_eq_true.2 ⟨_,qbf (by omega),hp⟩)
   rw [hb]; simp
 ·have hlt:=qf3 hi;rw [qaA hi,qa,qfG _ _ (by omega) (by omega),qa,qcw g0 (l:=r) (by omega) (by omega),qa,qfG _ _ (by omega) (by omega),qa,wid (by omega) (by omega),Int.toNat_natCast];unfold qfj;generalize r.getD i g0 = y;by_cases c1:Bd 9 z <;> by_cases c2:Bd 9 y <;> simp [c1,c2,stp]
theorem qx9 {ρ:Rn} (h1:ρ.1.length<=1000000000) (hr:∀ d ∈ ρ.1,d.length<=1000000000):qet ρ = some (qqC ρ):=by
 unfold qet qqC;have e1:(bif decide ((ρ.1.length:Int) = 0) then some true else some (!(decide ((ρ.2.1.length:Int) = (ρ.1.length:Int))))) = some (decide (ρ.1.length = 0 \/ ¬ ρ.2.1.length = ρ.1.length)):=by
  by_cases c:ρ.1.length = 0
  ·rw [decide_eq_true (show (ρ.1.length:Int) = 0 by omega),cond_true,decide_eq_true (show ρ.1.length = 0 \/ ¬ ρ.2.1.length = ρ.1.length from .inl c)]
  ·rw [decide_eq_false (show ¬ (ρ.1.length:Int) = 0 by omega),cond_false];by_cases c2:ρ.2.1.length = ρ.1.length
   ·rw [decide_eq_true (show (ρ.2.1.length:Int) = (ρ.1.length:Int) by omega),decide_eq_false (show ¬ (ρ.1.length = 0 \/ ¬ ρ.2.1.length = ρ.1.length) by omega)]; rfl
   ·rw [decide_eq_false (show ¬ (ρ.2.1.length:Int) = (ρ.1.length:Int) by omega),decide_eq_true (show ρ.1.length = 0 \/ ¬ ρ.2.1.length = ρ.1.length from .inr c2)]; rfl
 rw [e1,qa];by_cases c:ρ.1.length = 0 \/ ¬ ρ.2.1.length = ρ.1.length
 ·rw [decide_eq_true c,cond_true,if_pos c]
 rw [decide_eq_false c,cond_false,if_neg c];by_cases c2:6 < ρ.1.length
 ·rw [decide_eq_true (show (ρ.1.length:Int) > 6 by omega),cond_true,if_pos c2]
 rw [decide_eq_false (show ¬ (ρ.1.length:Int) > 6 by omega),cond_false,if_neg c2];refine Ok.eq ?_;refine qpA.2 ?_;refine (qbc ρ.1.length (λi (s:Int)=>s = (i:Int)/\qn9 ρ i = 0) (λq:Unit ⊕ Int=>match q with
  | .inl _=>qn9 ρ ρ.1.length = 0
  | .inr e=>e = qn9 ρ ρ.1.length) ⟨rfl,rfl⟩ ?_).mono ?_
 ·rintro i s hi ⟨rfl,hz⟩;by_cases hlt:i < ρ.1.length
  ·have e2:decide ((i:Int) < (ρ.1.length:Int)) = true:=decide_eq_true (by omega);have f1:idx ρ.1 (i:Int) = some (ρ.1.getD i []):=by rw [qcw [] (by omega) (by omega),Int.toNat_natCast]
   have f2:idx ρ.2.1 (i:Int) = some (ρ.2.1.getD i []):=by rw [qcw [] (by omega) (by omega),Int.toNat_natCast]
   have f3:idx ρ.1 0 = some (ρ.1.getD 0 []):=by rw [qcw [] (by omega) (by omega)]; rfl
   have hnext:qn9 ρ (i + 1) = qC8 (ρ.1.getD 0 []).length (ρ.1.getD i []) (ρ.2.1.getD i []):=by simp only [qn9]; rw [if_pos hz]
   have hdl:(ρ.1.getD i []).length<=1000000000:=hr _ (qbf hlt);simp only [e2,cond_true,f1,f2,f3,qa];generalize ρ.1.getD i [] = d at *;generalize ρ.2.1.getD i [] = r at *;generalize (ρ.1.getD 0 []).length = n0 at *;have e3:(bif decide ((d.length:Int) = 0) then some true else bif !(decide ((d.length:Int) = (n0:Int))) then some true else some (!(decide ((r.length:Int) = (d.length:Int))))) = some (!(decide (¬ d.length = 0/\d.length = n0/\r.length = d.length))):=by
    by_cases b1:d.length = 0
    ·rw [decide_eq_true (show (d.length:Int) = 0 by omega),cond_true,decide_eq_false (show ¬ (¬ d.length = 0/\d.length = n0/\r.length = d.length) from λh=>h.1 b1)]; rfl
    rw [decide_eq_false (show ¬ (d.length:Int) = 0 by omega),cond_false];by_cases b2:d.length = n0
    case neg=>rw [decide_eq_false (show ¬ (d.length:Int) = (n0:Int) by omega),Bool.not_false,cond_true,decide_eq_false (show ¬ (¬ d.length = 0/\d.length = n0/\r.length = d.length) from λh=>b2 h.2.1)]; rfl
    rw [decide_eq_true (show (d.length:Int) = (n0:Int) by omega),Bool.not_true,cond_false];by_cases b3:r.length = d.length
    ·rw [decide_eq_true (show (r.length:Int) = (d.length:Int) by omega),decide_eq_true (show ¬ d.length = 0/\d.length = n0/\r.length = d.length from ⟨b1,b2,b3⟩)]
    ·rw [decide_eq_false (show ¬ (r.length:Int) = (d.length:Int) by omega),decide_eq_false (show ¬ (¬ d.length = 0/\d.length = n0/\r.length = d.length) from λh=>b3 h.2.2)]
   rw [e3,qa];unfold qC8 at hnext;by_cases b:¬ d.length = 0/\d.length = n0/\r.length = d.length
   case neg =>
    rw [decide_eq_false b,Bool.not_false,cond_true,qam];rw [if_neg b] at hnext;show (10:Int) = _;rw [qmk (i:=i + 1) (by omega) (by omega),hnext]
   rw [decide_eq_true b,Bool.not_true,cond_false];rw [if_pos b] at hnext;by_cases b4:3 < d.length
   ·rw [decide_eq_true (show (d.length:Int) > 3 by omega),cond_true,qam];rw [if_pos b4] at hnext;show (8:Int) = _;rw [qmk (i:=i + 1) (by omega) (by omega),hnext]
   rw [decide_eq_false (show ¬ (d.length:Int) > 3 by omega),cond_false];rw [if_neg b4] at hnext;rw [qCl b.2.2 hdl 2 (λ_=>some (.inl (w64 ((i:Int) + 1))))];by_cases b5:(d.any (qfj 9) || r.any (qfj 9)) = true
   ·rw [if_pos b5,qam];rw [if_pos b5] at hnext;show (2:Int) = _;rw [qmk (i:=i + 1) (by omega) (by omega),hnext]
   ·rw [if_neg b5,wid (by omega) (by omega),qaF];rw [if_neg b5] at hnext;exact ⟨hlt,by simp,hnext⟩
  ·have:i = ρ.1.length:=by omega
   subst this;have e2:decide ((ρ.1.length:Int) < (ρ.1.length:Int)) = false:=by simp
   simp only [e2,cond_false];rw [qam];exact hz
 ·rintro (_ | e) hq
  ·exact q9.2 hq.symm
  ·exact hq
end Go.Proofs.YtbcdgfgacigaoaaGreat.Mat
end
section
namespace Go.Proofs.YtbcdgfgacigaoaaGreat.Mat
open Go Go.Ab Go.Tx Go.Proofs.YtbcdgfgacigaoaaGreat
abbrev Rg:=Mx × Mx × Int × Int × Int × Unit
theorem qER (a b c d:Int):qN [a,b,c,d] = some (if a = 0 then if b = 0 then if c = 0 then d else c else b else a):=by
 rw [qox _ (by simp)];by_cases h:a = 0 <;> by_cases h2:b = 0 <;> by_cases h3:c = 0 <;> by_cases h4:d = 0 <;> simp [qvE,h,h2,h3,h4]
theorem qvG (l:List Int) (hl:l.length<=1000000000) (hb:qu6 l<=9223372036854775807):qaK l = some (qu6 l:Int):=by
 unfold qaK;refine Ok.eq ?_;rw [qfv];refine (qbc l.length (λi (s:Int × Int)=>s.2 = (i:Int)/\s.1.natAbs = qu6 (l.take i)) (λr:Int=>r.natAbs = qu6 l) ⟨rfl,rfl⟩ ?_).mono ?_
 ·rintro i ⟨g,s⟩ hi ⟨h1,h2⟩;simp only at h1 h2;subst h1;by_cases hlt:i < l.length
  ·have e0:decide ((i:Int) < (l.length:Int)) = true:=decide_eq_true (by omega);simp only [e0,cond_true];rw [qcw 0 (by omega) (by omega)];simp only [qa,Int.toNat_natCast];obtain ⟨r,h3,h4⟩:=qk6 (f:=λ(s5:(Int × Int))=>bif !(decide (s5.2 = 0)) then bif decide (s5.2 = 0) then none else some (.inl (s5.2,s5.1.tmod s5.2)) else some (.inr s5.1)) (λs=>by
    by_cases h:s.2 = 0 <;> simp [h]) (l.getD i 0).natAbs g (l.getD i 0) (Nat.le_refl _)
   rw [h3];simp only [qa];rw [wid (by omega) (by omega),qaF];refine ⟨hlt,by simp,?_⟩;rw [h4,qci 0 hlt];unfold qu6 at h2 ⊢;rw [qff,<- h2];rfl
  ·have:i = l.length:=by omega
   subst this;have e0:decide ((l.length:Int) < (l.length:Int)) = false:=by simp
   simp only [e0,cond_false];rw [qam];simpa using h2
 ·intro r hr;rw [wid (by omega) (by omega),q9];omega
theorem qrh {a b:Int} (h0:0 < b):(Int.gcd a b:Int)<=b/\1<=Int.gcd a b:=by
 have h1:Nat.gcd a.natAbs b.natAbs ∣ b.natAbs:=Nat.gcd_dvd_right _ _;have h2:=Nat.le_of_dvd (by omega) h1;have h3:0 < Nat.gcd a.natAbs b.natAbs:=Nat.pos_of_dvd_of_pos h1 (by omega);have e:Int.gcd a b = Nat.gcd a.natAbs b.natAbs:=rfl;rw [e]; omega
theorem qwC {a b:Int} (h0:0 < b) (h1:b<=9223372036854775807):qaK [a,b] = some (Int.gcd a b:Int):=by
 have h:=(qrh (a:=a) h0).1;rw [qvG _ (by simp) (by rw [qsP]; omega),qsP]
def low (num den:Int):Prop:=0 < den/\Int.gcd num den = 1
instance (num den:Int):Decidable (low num den):=inferInstanceAs (Decidable (_/\_))
def qFL (r:Rg) (i k:Nat):G:=qiq (qqV (r.2.2.2.1 * qFb r.2.1) i k) (qw (qR r.2.1.length (ent r.1) (qEI r.2.1) i k) (r.2.2.1,0,()))
def qFN (r:Rg):Int:=qFV r.2.1.length r.2.1.length (qFL r)
def qFI (r:Rg):Int:=r.2.2.2.1 * qFb r.2.1
structure ConB (r:Rg):Prop where
 pB:BdF 73728000000 r.2.1.length r.2.1.length (qR r.2.1.length (ent r.1) (qEI r.2.1))
 sB:BdF 14745600000000 r.2.1.length r.2.1.length (λi k=>qw (qR r.2.1.length (ent r.1) (qEI r.2.1) i k) (r.2.2.1,0,()))
 qB:1<=qFI r/\qFI r<=7372800000000
 cB:BdF 22118400000000 r.2.1.length r.2.1.length (qFL r)
 rB:0<=qFN r/\qFN r<=132710400000000
 n1:1<=r.2.1.length
 n3:r.2.1.length<=3
def qr1 (c:G):Prop:=(-1000000000<=c.1/\c.1<=1000000000)/\c.2.1<=1000000000
instance (c:G):Decidable (qr1 c):=inferInstanceAs (Decidable (_/\_))
end Go.Proofs.YtbcdgfgacigaoaaGreat.Mat
namespace Go.Proofs.YtbcdgfgacigaoaaGreat
open Go Go.Ab Go.Tx
end Go.Proofs.YtbcdgfgacigaoaaGreat
end
section
namespace Go.Proofs.YtbcdgfgacigaoaaGreat.Mat
open Go Go.Ab Go.Tx Go.Proofs.YtbcdgfgacigaoaaGreat
theorem qFS {l:List G} (hl:l.length<=1000000000) :
  ((qA (λ(s2:Int) =>
   bif decide (s2 < (l.length:Int)) then
    (idx l s2).bind λx3 =>
    (qZ x3).bind λx4 =>
    bif x4 then
     some (.inr (.inr s2))
    else
     some (.inl (w64 (s2 + 1)))
   else
    some (.inr (.inl ()))) 0).bind (Sum.elim (λ(p5:Unit) =>
  some (-1)) some)).bind (λx1:Int=>some (decide (x1>=0))) = some (l.any (qfj 9)) :=
 qwc l qZ (qfj 9) (λx _=>by
  unfold qZ;rw [qdz _ _ (by omega) (by omega)]; rfl) hl
theorem qFT:((qA (λ(s15:Int) =>
   bif decide (s15 < 0) then
    none
   else
    some (.inr (.inl ()))) 0:Option (Unit ⊕ Int)).bind (Sum.elim (λ(p16:Unit) =>
  some (-1)) some)).bind (λp17:Int=>some (decide (p17>=0))) = some false:=by
 rw [qgj (r:=.inl ()) (by rfl)];rfl
set_option maxHeartbeats 4000000 in
theorem qEW {d r:List G} (hd:d.length<=1000000) (hr:r.length<=1000000) :
  (bif decide (w64 (0 + (d.length:Int)) < 0) then
    none
   else
    bif decide (w64 ((w64 (0 + (d.length:Int))) + (r.length:Int)) < 0) then
     none
    else
     bif decide (w64 ((w64 (0 + (d.length:Int))) + (r.length:Int)) < 0) then
      none
     else
      let v13:Bool:=decide (w64 ((w64 ((w64 (0 + (d.length:Int))) + (r.length:Int))) - 0) > 0)
      bif v13 then
       bif (decide (0 < w64 ((w64 ((w64 (0 + (d.length:Int))) + (r.length:Int))) - 0)) && decide (w64 ((w64 ((w64 (0 + (d.length:Int))) + (r.length:Int))) - 0)<=4294967296)) then
        bif List.isEmpty d then
         bif List.isEmpty r then
          ((qA (λ(s15:Int) =>
             bif decide (s15 < 0) then
              none
             else
              some (.inr (.inl ()))) 0).bind (Sum.elim (λ(p16:Unit) =>
           some (-1)) some)).bind λ(p17:Int) =>
          some (decide (p17>=0))
         else
          (app [] r).bind λx18 =>
          ((qA (λ(s20:Int) =>
             bif decide (s20 < (x18.length:Int)) then
              (idx x18 s20).bind λx21 =>
              (qZ x21).bind λx22 =>
              bif x22 then
               some (.inr (.inr s20))
              else
               some (.inl (w64 (s20 + 1)))
             else
              some (.inr (.inl ()))) 0).bind (Sum.elim (λ(p23:Unit) =>
           some (-1)) some)).bind λ(p24:Int) =>
          some (decide (p24>=0))
        else
         (app [] d).bind λx25 =>
         (app x25 r).bind λx26 =>
         ((qA (λ(s28:Int) =>
            bif decide (s28 < (x26.length:Int)) then
             (idx x26 s28).bind λx29 =>
             (qZ x29).bind λx30 =>
             bif x30 then
              some (.inr (.inr s28))
             else
              some (.inl (w64 (s28 + 1)))
            else
             some (.inr (.inl ()))) 0).bind (Sum.elim (λ(p31:Unit) =>
          some (-1)) some)).bind λ(p32:Int) =>
         some (decide (p32>=0))
       else
        none
      else
       bif List.isEmpty d then
        bif List.isEmpty r then
         ((qA (λ(s34:Int) =>
            bif decide (s34 < 0) then
             none
            else
             some (.inr (.inl ()))) 0).bind (Sum.elim (λ(p35:Unit) =>
          some (-1)) some)).bind λ(p36:Int) =>
         some (decide (p36>=0))
        else
         (app [] r).bind λx37 =>
         ((qA (λ(s39:Int) =>
            bif decide (s39 < (x37.length:Int)) then
             (idx x37 s39).bind λx40 =>
             (qZ x40).bind λx41 =>
             bif x41 then
              some (.inr (.inr s39))
             else
              some (.inl (w64 (s39 + 1)))
            else
             some (.inr (.inl ()))) 0).bind (Sum.elim (λ(p42:Unit) =>
          some (-1)) some)).bind λ(p43:Int) =>
         some (decide (p43>=0))
       else
        (app [] d).bind λx44 =>
        (app x44 r).bind λx45 =>
        ((qA (λ(s47:Int) =>
           bif decide (s47 < (x45.length:Int)) then
            (idx x45 s47).bind λx48 =>
            (qZ x48).bind λx49 =>
            bif x49 then
             some (.inr (.inr s47))
            else
             some (.inl (w64 (s47 + 1)))
           else
            some (.inr (.inl ()))) 0).bind (Sum.elim (λ(p50:Unit) =>
         some (-1)) some)).bind λ(p51:Int) =>
        some (decide (p51>=0))) = some (d.any (qfj 9) || r.any (qfj 9)):=by
 have w1:w64 (0 + (d.length:Int)) = (d.length:Int):=by rw [Int.zero_add,wid (by omega) (by omega)]
 have w2:w64 ((d.length:Int) + (r.length:Int)) = (d.length:Int) + (r.length:Int):=wid (by omega) (by omega);have w3:w64 ((d.length:Int) + (r.length:Int) - 0) = (d.length:Int) + (r.length:Int):=by rw [Int.sub_zero]; exact w2
 simp only [w1,w2,w3];rw [decide_eq_false (show ¬ (d.length:Int) < 0 by omega),cond_false,decide_eq_false (show ¬ (d.length:Int) + (r.length:Int) < 0 by omega),cond_false,cond_false];have hA:∀ l:List G,l.length<=1000000000->_:=λl hl=>qFS (l:=l) hl;cases d with
 | nil =>
  cases r with
  | nil =>
   simp only [List.length_nil,List.isEmpty_nil];rw [decide_eq_false (show ¬ (((0:Nat):Int) + ((0:Nat):Int) > 0) by omega)];simp only [cond_false,cond_true];rw [qFT]; rfl
  | cons z r =>
   have hp:decide ((([]:List G).length:Int) + ((z :: r).length:Int) > 0) = true:=decide_eq_true (by simp only [List.length_nil,List.length_cons]; omega);have hp1:decide (0 < (([]:List G).length:Int) + ((z :: r).length:Int)) = true:=decide_eq_true (by simp only [List.length_nil,List.length_cons]; omega);have hp2:decide ((([]:List G).length:Int) + ((z :: r).length:Int)<=4294967296) = true:=decide_eq_true (by simp only [List.length_nil]; omega);simp only [hp,hp1,hp2,Bool.and_true,cond_true,List.isEmpty_nil,List.isEmpty_cons,cond_false];rw [qvB (by omega),qa,hA _ (by omega)];rfl
 | cons y d =>
  have hp:decide (((y :: d).length:Int) + (r.length:Int) > 0) = true:=decide_eq_true (by simp only [List.length_cons]; omega);have hp1:decide (0 < ((y :: d).length:Int) + (r.length:Int)) = true:=decide_eq_true (by simp only [List.length_cons]; omega);have hp2:decide (((y :: d).length:Int) + (r.length:Int)<=4294967296) = true:=decide_eq_true (by omega);simp only [hp,hp1,hp2,Bool.and_true,cond_true,List.isEmpty_cons,cond_false];rw [qvB (by omega),qa,qwG (by omega),qa,hA _ (by rw [List.length_append]; omega),List.any_append]
structure MatB (a:Mx) (N n:Nat):Prop where
 len:a.length = N
 rows:∀ j,j < N->(a.getD j []).length = n
 bd:∀ j i,j < N->i < n->Bd 9 (ent a j i)
theorem RunB.d {ρ:Rn} {n:Nat} (h:RunB ρ n):MatB ρ.1 ρ.1.length n:=⟨rfl,h.dl,h.dB⟩
theorem RunB.r {ρ:Rn} {n:Nat} (h:RunB ρ n):MatB ρ.2.1 ρ.1.length n:=⟨h.len,h.rl,h.rB⟩
def qfB (a b:Mx) (N:Nat) (i k:Nat):G:=qdZ N λj=>qw (ent a j i) (qU (ent b j k))
theorem MatB.at {a:Mx} {N n j i:Nat} (h:MatB a N n) (hj:j < N) (hi:i < n):∃ row,idx a (j:Int) = some row/\idx row (i:Int) = some (ent a j i):=by
 have hl:=h.len;have hr:=h.rows j hj;exact ⟨a.getD j [],by rw [qcw [] (by omega) (by omega),Int.toNat_natCast],by rw [qcw g0 (by omega) (by omega),Int.toNat_natCast]; rfl⟩
theorem qoy {a b:Mx} {N n i k:Nat} (ha:MatB a N n) (hb:MatB b N n) (hN:N<=6) (hi:i < n) (hk:k < n):Bd 972 (qfB a b N i k):=by
 have h:=Bd.sum (n:=N) (f:=λj=>qw (ent a j i) (qU (ent b j k))) (B:=2 * (9 * 9)) λj hj=>(ha.bd j i hj hi).mul (hb.bd j k hj hk).qAh;exact h.mono (by omega)
theorem qxw {a:Mx} {ρ:Rn} {n i k:Nat} (ha:MatB a ρ.1.length n) (hb:MatB ρ.1 ρ.1.length n) (hN:ρ.1.length<=6) (hi:i < n) (hk:k < n):qbA (i:Int) (k:Int) ρ a = some (qfB a ρ.1 ρ.1.length i k):=by
 unfold qbA;have hf:∀ j,j < ρ.1.length->Bd 162 (qw (ent a j i) (qU (ent ρ.1 j k))):=λj hj=>((ha.bd j i hj hi).mul (hb.bd j k hj hk).qAh).mono (by omega);rw [qjD ρ.1.length (by omega) (A:=162) (by omega) (by omega) (λj=>qw (ent a j i) (qU (ent ρ.1 j k))) hf (λj hj x y hxy=>?_) (λx y=>?_)]
 ·rfl
 ·have e0:decide ((j:Int) < (ρ.1.length:Int)) = true:=decide_eq_true (by omega);obtain ⟨r1,h1,h2⟩:=ha.at hj hi;obtain ⟨r2,h3,h4⟩:=hb.at hj hk;simp only [e0,cond_true,h1,h2,h3,h4,qa];rw [qoM (hb.bd j k hj hk) (by omega),qa,qgf (ha.bd j i hj hi) (hb.bd j k hj hk).qAh (by omega),qa,qsJ hxy (hf j hj) (le_next (by omega) hj (by omega))];rfl
 ·have e0:decide ((ρ.1.length:Int) < (ρ.1.length:Int)) = false:=by simp
  simp only [e0,cond_false]
theorem qAD {n c:Nat} (hn:n<=1000) (hc:c<=1000) (ρ:Rn) (a:Mx) (f:Nat->Nat->G) (h:∀ i k:Nat,i < n->k < c->qbA i k ρ a = some (f i k)):qar (n:Int) (c:Int) ρ a = some (mx n c f):=by
 unfold qar;exact qhs n c hn hc (λi k=>qbA i k ρ a) f h
theorem qAS {ρ:Rn} {n:Nat} (h:RunB ρ n):qfk ρ (n:Int) = some (mx n n (qfB ρ.1 ρ.1 ρ.1.length),mx n n (qfB ρ.2.1 ρ.1 ρ.1.length),()):=by
 have h3:=h.n3;have h6:=h.l6;unfold qfk qeY;have e1:=qAD (n:=n) (c:=n) (by omega) (by omega) (ρ.1,ρ.2.1,()) ρ.1 (qfB ρ.1 ρ.1 ρ.1.length) λi k hi hk=>qxw (ρ:=(ρ.1,ρ.2.1,())) h.d h.d h6 hi hk;have e2:=qAD (n:=n) (c:=n) (by omega) (by omega) (ρ.1,ρ.2.1,()) ρ.2.1 (qfB ρ.2.1 ρ.1 ρ.1.length) λi k hi hk=>qxw (ρ:=(ρ.1,ρ.2.1,())) h.r h.d h6 hi hk;rw [e1,qa,qa,e2];rfl
theorem qm5 {a b:Mx} {N n:Nat} (ha:MatB a N n) (hb:MatB b N n) (hN1:1<=N) (hN:N<=6) (hn:n<=3):qbm a b = some (mx n n (qfB a b N)):=by
 unfold qbm;have hla:=ha.len;have hlb:=hb.len;have ra:=ha.rows 0 (by omega);have rb:=hb.rows 0 (by omega);have z1:idx a 0 = some (a.getD 0 []):=by rw [qcw [] (by omega) (by omega)]; rfl
 have z2:idx b 0 = some (b.getD 0 []):=by rw [qcw [] (by omega) (by omega)]; rfl
 rw [qnx n (λi=>mkL n λk=>qfB a b N i k) (λi hi=>?_) ?_]
 ·rfl
 ·have e0:decide ((n:Int) < (n:Int)) = false:=by simp
  simp only [z1,qa,ra,e0,cond_false]
 ·have e0:decide ((i:Int) < (n:Int)) = true:=decide_eq_true (by omega);simp only [z1,qa,ra,e0,cond_true];rw [qnx n (λk=>qfB a b N i k) (λk hk=>?_) ?_]
  ·simp only [qa];rw [qee (by rw [qW]; omega)];simp only [qa];rw [wid (by omega) (by omega)]
  ·have e1:decide ((n:Int) < (n:Int)) = false:=by simp
   simp only [z2,qa,rb,e1,cond_false]
  ·have e1:decide ((k:Int) < (n:Int)) = true:=decide_eq_true (by omega);simp only [z2,qa,rb,e1,cond_true,hla];have hf:∀ j,j < N->Bd 162 (qw (ent a j i) (qU (ent b j k))):=λj hj=>((ha.bd j i hj hi).mul (hb.bd j k hj hk).qAh).mono (by omega);rw [qjD N (by omega) (A:=162) (by omega) (by omega) (λj=>qw (ent a j i) (qU (ent b j k))) hf (λj hj x y hxy=>?_) (λx y=>?_)]
   ·simp only [qa];rw [qee (by rw [qW]; omega)];simp only [qa];rw [wid (by omega) (by omega)];rfl
   ·have e2:decide ((j:Int) < (N:Int)) = true:=decide_eq_true (by omega);obtain ⟨r1,h1,h2⟩:=ha.at hj hi;obtain ⟨r2,h3,h4⟩:=hb.at hj hk;simp only [e2,cond_true,h1,h2,h3,h4,qa];rw [qCr (hb.bd j k hj hk) (by omega),qa,qsH (ha.bd j i hj hi) (hb.bd j k hj hk).qAh (by omega),qa,qv0 hxy (hf j hj) (le_next (by omega) hj (by omega))];rfl
   ·have e2:decide ((N:Int) < (N:Int)) = false:=by simp
    simp only [e2,cond_false]
def sF (ρ:Rn):Nat->Nat->G:=qfB ρ.1 ρ.1 ρ.1.length
def tF (ρ:Rn):Nat->Nat->G:=qfB ρ.2.1 ρ.1 ρ.1.length
def rnN (ρ:Rn):Nat:=(ρ.1.getD 0 []).length
def sD (ρ:Rn):G:=qgz (rnN ρ) (sF ρ)
theorem qDo:∀ n,n<=3->dB 972 n<=9000000000000000000:=λn hn=>by
 match n,hn with
 | 0,_=>decide
 | 1,_=>decide
 | 2,_=>decide
 | 3,_=>decide
theorem qBd {f:Nat->G}:∀ {N:Nat},(∀ j,j < N->Bd 9 (f j))->grn N f<=N * 162
 | 0,_=>by simp [grn]
 | N + 1,h=>by
  have h1:=qBd (N:=N) λj hj=>h j (by omega);have h2:=h N (by omega);have p1:=(qaQ h2.1 h2.1).2;have p2:=(qaQ h2.2 h2.2).2;simp only [grn,nrm];omega
theorem qDp {ρ:Rn} (h:qqC ρ = 0):∃ w:Int,sD ρ = (w,0,())/\0<=w/\w<=918330048:=by
 have hB:=qFc h;have h6:=hB.l6;obtain ⟨w,e,h0,h1⟩:=qBB (N:=ρ.1.length) (n:=rnN ρ) hB.n3 (v:=ent ρ.1) (B:=972) (by omega) λi hi=>by
  have:=qBd (N:=ρ.1.length) (f:=λj=>ent ρ.1 j i) λj hj=>hB.dB j i hj hi;omega
 exact ⟨w,e,h0,by omega⟩
def qjX (ρ:Rn):Int:=if qqC ρ ≠ 0 then qqC ρ else if sD ρ = g0 then 11 else 0
end Go.Proofs.YtbcdgfgacigaoaaGreat.Mat
end
section
namespace Go.Proofs.YtbcdgfgacigaoaaGreat.Mat
open Go Go.Ab Go.Tx Go.Proofs.YtbcdgfgacigaoaaGreat
theorem qrW (a:G):(bif decide (a.1 = 0) then (bif decide (a.2.1 = 0) then true else false) else false) = decide (a = g0):=qwx a g0
theorem qDs (s:Int) (n0:Nat) (d r:List G) :
  (bif decide ((d.length:Int) > 0) then
   bif decide ((d.length:Int) = (n0:Int)) then
    (qk (decide ((r.length:Int) = (n0:Int))) (10:Int)).bind λx53 =>
    (qk (decide ((d.length:Int)<=3)) (8:Int)).bind λx54 =>
    (qk (!(d.any (qfj 9) || r.any (qfj 9))) (2:Int)).bind λx55 =>
    (qN ([s,x53,x54,x55])).bind λx56 =>
    some x56
   else
    (qk false (10:Int)).bind λx57 =>
    (qk (decide ((d.length:Int)<=3)) (8:Int)).bind λx58 =>
    (qk (!(d.any (qfj 9) || r.any (qfj 9))) (2:Int)).bind λx59 =>
    (qN ([s,x57,x58,x59])).bind λx60 =>
    some x60
  else
   (qk false (10:Int)).bind λx61 =>
   (qk (decide ((d.length:Int)<=3)) (8:Int)).bind λx62 =>
   (qk (!(d.any (qfj 9) || r.any (qfj 9))) (2:Int)).bind λx63 =>
   (qN ([s,x61,x62,x63])).bind λx64 =>
   some x64) = some (if s = 0 then qC8 n0 d r else s):=by
 simp only [qgr,qa,qER];unfold qC8;generalize (d.any (qfj 9) || r.any (qfj 9)) = far;by_cases b1:d.length = 0
 ·rw [decide_eq_false (show ¬ (d.length:Int) > 0 by omega),cond_false,if_neg (show ¬ (¬ d.length = 0/\d.length = n0/\r.length = d.length) from λh=>h.1 b1)];simp
 rw [decide_eq_true (show (d.length:Int) > 0 by omega),cond_true];by_cases b2:d.length = n0
 case neg =>
  rw [decide_eq_false (show ¬ (d.length:Int) = (n0:Int) by omega),cond_false,if_neg (show ¬ (¬ d.length = 0/\d.length = n0/\r.length = d.length) from λh=>b2 h.2.1)];simp
 rw [decide_eq_true (show (d.length:Int) = (n0:Int) by omega),cond_true];by_cases b3:r.length = d.length
 case neg =>
  rw [decide_eq_false (show ¬ (r.length:Int) = (n0:Int) by omega),if_neg (show ¬ (¬ d.length = 0/\d.length = n0/\r.length = d.length) from λh=>b3 h.2.2)];simp
 rw [decide_eq_true (show (r.length:Int) = (n0:Int) by omega),if_pos (show ¬ d.length = 0/\d.length = n0/\r.length = d.length from ⟨b1,b2,b3⟩),if_pos rfl,if_pos rfl];by_cases b4:3 < d.length
 ·rw [decide_eq_false (show ¬ (d.length:Int)<=3 by omega),if_pos b4];simp
 ·rw [decide_eq_true (show (d.length:Int)<=3 by omega),if_neg b4];cases far <;> simp
theorem qj9 {ρ:Rn} (h1:ρ.1.length<=1000000) (hr:∀ d ∈ ρ.1,d.length<=1000000) (hr2:∀ r ∈ ρ.2.1,r.length<=1000000) :
  ∃ y:Rn × G,qbP ρ = some (y.1,y.2,qjX ρ)/\(qjX ρ = 0->y = ((mx (rnN ρ) (rnN ρ) (sF ρ),mx (rnN ρ) (rnN ρ) (tF ρ),()),sD ρ)):=by
 unfold qbP;have e1:(bif decide ((ρ.1.length:Int) > 0) then
   (qk (decide ((ρ.2.1.length:Int) = (ρ.1.length:Int))) (10:Int)).bind λx1 =>
   (qk (decide ((ρ.1.length:Int)<=6)) (8:Int)).bind λx2 =>
   (qN ([x1,x2])).bind λx3 =>
   some x3
  else
   (qk false (10:Int)).bind λx4 =>
   (qk (decide ((ρ.1.length:Int)<=6)) (8:Int)).bind λx5 =>
   (qN ([x4,x5])).bind λx6 =>
   some x6) = some (if ρ.1.length = 0 \/ ¬ ρ.2.1.length = ρ.1.length then 10 else if 6 < ρ.1.length then 8 else 0):=by
  simp only [qgr,qa,qq4];by_cases c1:ρ.1.length = 0
  ·rw [decide_eq_false (show ¬ (ρ.1.length:Int) > 0 by omega),cond_false,if_pos (.inl c1:ρ.1.length = 0 \/ ¬ ρ.2.1.length = ρ.1.length)];simp
  rw [decide_eq_true (show (ρ.1.length:Int) > 0 by omega),cond_true];by_cases c2:ρ.2.1.length = ρ.1.length
  case neg =>
   rw [decide_eq_false (show ¬ (ρ.2.1.length:Int) = (ρ.1.length:Int) by omega),if_pos (.inr c2:ρ.1.length = 0 \/ ¬ ρ.2.1.length = ρ.1.length)];simp
  rw [decide_eq_true (show (ρ.2.1.length:Int) = (ρ.1.length:Int) by omega),if_neg (show ¬ (ρ.1.length = 0 \/ ¬ ρ.2.1.length = ρ.1.length) by omega)];by_cases c3:6 < ρ.1.length
  ·rw [decide_eq_false (show ¬ (ρ.1.length:Int)<=6 by omega),if_pos c3]; simp
  ·rw [decide_eq_true (show (ρ.1.length:Int)<=6 by omega),if_neg c3]; simp
 rw [e1,qa];by_cases c:ρ.1.length = 0 \/ ¬ ρ.2.1.length = ρ.1.length
 ·have hE:qqC ρ = 10:=by unfold qqC; rw [if_pos c]
  have hE2:qjX ρ = 10:=by unfold qjX; rw [hE]; rfl
  rw [if_pos c,decide_eq_false (show ¬ (10:Int) = 0 by omega),Bool.not_false,cond_true,hE2];exact ⟨(([],[],()),(0,0,())),rfl,λh=>by cases h⟩
 rw [if_neg c];by_cases c2:6 < ρ.1.length
 ·have hE:qqC ρ = 8:=by unfold qqC; rw [if_neg c,if_pos c2]
  have hE2:qjX ρ = 8:=by unfold qjX; rw [hE]; rfl
  rw [if_pos c2,decide_eq_false (show ¬ (8:Int) = 0 by omega),Bool.not_false,cond_true,hE2];exact ⟨(([],[],()),(0,0,())),rfl,λh=>by cases h⟩
 rw [if_neg c2,decide_eq_true (show (0:Int) = 0 from rfl),Bool.not_true,cond_false];have hE:qqC ρ = qn9 ρ ρ.1.length:=by unfold qqC; rw [if_neg c,if_neg c2]
 have f3:idx ρ.1 0 = some (ρ.1.getD 0 []):=by rw [qcw [] (by omega) (by omega)]; rfl
 rw [f3,qa];have hloop:∀ K:Int × Int->Option ((Int × Int) ⊕ Int),(∀ i:Nat,i < ρ.1.length->K (qn9 ρ i,(i:Int)) = some (.inl (qn9 ρ (i + 1),w64 ((i:Int) + 1))))->K (qn9 ρ ρ.1.length,(ρ.1.length:Int)) = some (.inr (qn9 ρ ρ.1.length))->qA K (0,0) = some (qn9 ρ ρ.1.length):=λK hK hKe=>by
  refine Ok.eq (qbc ρ.1.length (λi (s:Int × Int)=>s = (qn9 ρ i,(i:Int))) (λq=>q = qn9 ρ ρ.1.length) rfl ?_);rintro i s hi rfl;by_cases hlt:i < ρ.1.length
  ·rw [hK i hlt,wid (by omega) (by omega),qaF];exact ⟨hlt,rfl⟩
  ·have:i = ρ.1.length:=by omega
   subst this;rw [hKe,qam]
 rw [hloop _ (λi hi=>?_) ?_]
 ·rw [qa,<- hE];by_cases cE:qqC ρ = 0
  case neg =>
   have hE2:qjX ρ = qqC ρ:=by unfold qjX; rw [if_pos cE]
   rw [decide_eq_false cE,Bool.not_false,cond_true,hE2];exact ⟨(([],[],()),(0,0,())),rfl,λh=>absurd h cE⟩
  rw [decide_eq_true cE,Bool.not_true,cond_false];have hB:=qFc cE;have es:qfk (ρ.1,ρ.2.1,()) ((ρ.1.getD 0 []).length:Int) = some (mx (rnN ρ) (rnN ρ) (sF ρ),mx (rnN ρ) (rnN ρ) (tF ρ),()):=qAS hB;have hS:BdF 972 (rnN ρ) (rnN ρ) (sF ρ):=λi k hi hk=>qoy hB.d hB.d hB.l6 hi hk;have ed:qag (mx (rnN ρ) (rnN ρ) (sF ρ)) = some (sD ρ):=qE2 (B:=972) (by omega) (by have:=hB.n3; unfold rnN; omega) hS (qDo _ hB.n3);rw [es,qa];dsimp only;rw [ed,qa];try dsimp only
  rw [qrW,qgr,qa];have hE2:qjX ρ = if (!(decide (sD ρ = g0))) = true then 0 else 11:=by
   unfold qjX;rw [if_neg (show ¬ (qqC ρ ≠ 0) from λhh=>hh cE)];by_cases cz:sD ρ = g0
   ·rw [if_pos cz,decide_eq_true cz]; rfl
   ·rw [if_neg cz,decide_eq_false cz]; rfl
  rw [<- hE2];exact ⟨((mx (rnN ρ) (rnN ρ) (sF ρ),mx (rnN ρ) (rnN ρ) (tF ρ),()),sD ρ),rfl,λ_=>rfl⟩
 ·have e2:decide ((ρ.1.length:Int) < (ρ.1.length:Int)) = false:=by simp
  simp only [e2,cond_false]
 ·have e2:decide ((i:Int) < (ρ.1.length:Int)) = true:=decide_eq_true (by omega);have f1:idx ρ.1 (i:Int) = some (ρ.1.getD i []):=by rw [qcw [] (by omega) (by omega),Int.toNat_natCast]
  have f2:idx ρ.2.1 (i:Int) = some (ρ.2.1.getD i []):=by rw [qcw [] (by omega) (by omega),Int.toNat_natCast]
  have g1:=hr (ρ.1.getD i []) (qbf hi);have g2:=hr2 (ρ.2.1.getD i []) (qbf (by omega));show (bif decide ((i:Int) < (ρ.1.length:Int)) then (idx ρ.1 (i:Int)).bind _ else _) = _;rw [e2,cond_true,f1,qa,f2,qa,qEW g1 g2,qa,qDs,qa];simp only [qn9]
theorem qgY {ρ:Rn} (h1:ρ.1.length<=1000000) (hr:∀ d ∈ ρ.1,d.length<=1000000):qbp ρ = some (qjX ρ):=by
 unfold qbp;have e1:qet (ρ.1,ρ.2.1,()) = some (qqC ρ):=qx9 (ρ:=ρ) (by omega) (λd hd=>by have:=hr d hd; omega);rw [e1,qa];unfold qjX;by_cases cE:qqC ρ = 0
 case neg=>rw [decide_eq_false cE,Bool.not_false,cond_true,if_pos cE]
 rw [decide_eq_true cE,Bool.not_true,cond_false,if_neg (show ¬ (qqC ρ ≠ 0) from λhh=>hh cE)];have hB:=qFc cE;have hS:BdF 972 (rnN ρ) (rnN ρ) (sF ρ):=λi k hi hk=>qoy hB.d hB.d hB.l6 hi hk;have es:qbm ρ.1 ρ.1 = some (mx (rnN ρ) (rnN ρ) (sF ρ)):=qm5 hB.d hB.d hB.l1 hB.l6 hB.n3;have ed:qbW (mx (rnN ρ) (rnN ρ) (sF ρ)) = some (sD ρ):=qBs (B:=972) (by omega) (by have:=hB.n3; unfold rnN; omega) hS (qDo _ hB.n3);rw [es,qa,ed,qa];dsimp only;rw [qrW];by_cases cz:sD ρ = g0
 ·rw [if_pos cz,decide_eq_true cz]; rfl
 ·rw [if_neg cz,decide_eq_false cz]; rfl
end Go.Proofs.YtbcdgfgacigaoaaGreat.Mat
end
section
namespace Go.Proofs.YtbcdgfgacigaoaaGreat.Mat
open Go Go.Ab Go.Tx Go.Proofs.YtbcdgfgacigaoaaGreat
theorem quh {n c:Nat} {A B:Int} {f:Nat->Nat->G} {z:G} (hn:n<=1000) (hc:c<=1000) (hf:BdF A n c f) (hz:Bd B z) (hb:2 * (A * B)<=9000000000000000000) :
  qgK (mx n c f) z = some (mx n c λi k=>qw (f i k) z):=by
 unfold qgK;rw [qbF];rw [qnx n (λi=>mkL c λk=>qw (f i k) z) (λi hi=>?_) ?_]
 ·rfl
 ·have e0:decide ((n:Int) < (n:Int)) = false:=by simp
  simp only [e0,cond_false]
 ·have e0:decide ((i:Int) < (n:Int)) = true:=decide_eq_true (by omega);simp only [e0,cond_true];rw [qnx c (λk=>qw (f i k) z) (λk hk=>?_) ?_]
  ·simp only [qa];rw [qee (by rw [qW]; omega)];simp only [qa];rw [wid (by omega) (by omega)]
  ·have e1:decide ((c:Int) < (c:Int)) = false:=by simp
   rw [qaA (qih _ hi)];simp only [qa,qW,e1,cond_false]
  ·have e1:decide ((k:Int) < (c:Int)) = true:=decide_eq_true (by omega);rw [qaA (qih _ hi)];simp only [qa,qW,e1,cond_true];rw [qaA (qcn (λk=>f i k) hk)];simp only [qa];rw [qsH (hf i k hi hk) hz hb];simp only [qa];rw [qee (by rw [qW]; omega)];simp only [qa];rw [wid (by omega) (by omega)]
theorem qgX {a s:Int} (hs:0 < s):(a * s).natAbs = s.natAbs * a.natAbs:=by rw [Int.natAbs_mul,Nat.mul_comm]
theorem qxm {n c:Nat} {f:Nat->Nat->G} {a s:Int} (hs:0 < s):qg (a * s) (mx n c λi k=>qw (f i k) (s,0,())) = s.natAbs * qg a (mx n c f):=by
 have hd1:∀ x ∈ qeC (mx n c f),(x * s) ∈ qeC (mx n c λi k=>qw (f i k) (s,0,())):=λx hx=>by
  obtain ⟨i,k,hi,hk,h⟩:=qd9.1 hx;refine qd9.2 ⟨i,k,hi,hk,?_⟩;rw [qgl];rcases h with h | h
  ·exact .inl (by rw [h])
  ·exact .inr (by rw [h])
 refine Nat.dvd_antisymm ?_ ?_
 ·unfold qg;refine qnJ ?_ λx hx=>?_
  ·have:=qcm (qeC (mx n c λi k=>qw (f i k) (s,0,()))) (a * s).natAbs
   rwa [qgX hs] at this ⊢
  ·have:=Int.natAbs_dvd_natAbs.2 (qjn (g:=(a * s).natAbs) (hd1 x hx));rw [Int.natAbs_natCast,qgX hs (a:=x)] at this;exact this
 ·unfold qg;refine qoi ?_ λy hy=>?_
  ·rw [qgX hs];exact Nat.mul_dvd_mul_left _ (qcm _ _)
  ·obtain ⟨i,k,hi,hk,h⟩:=qd9.1 hy;have e:((s.natAbs * qip a.natAbs (qeC (mx n c f)):Nat):Int) = s * ((qip a.natAbs (qeC (mx n c f)):Nat):Int):=by
    rw [Int.natCast_mul]; congr 1; omega
   rw [e];rw [qgl] at h;simp only at h;rcases h with h | h
   ·rw [h,Int.mul_comm _ s];exact Int.mul_dvd_mul_left _ (qjn (qd9.2 ⟨i,k,hi,hk,.inl rfl⟩))
   ·rw [h,Int.mul_comm _ s];exact Int.mul_dvd_mul_left _ (qjn (qd9.2 ⟨i,k,hi,hk,.inr rfl⟩))
theorem qkO {n c:Nat} {f:Nat->Nat->G} {a s:Int} (hs:0 < s):qij n c (λi k=>qw (f i k) (s,0,())) (a * s) = qij n c f a:=by
 have e:((qg (a * s) (mx n c λi k=>qw (f i k) (s,0,())):Nat):Int) = s * (qg a (mx n c f):Int):=by
  rw [qxm hs,Int.natCast_mul]; congr 1; omega
 have ht:∀ x:Int,(x * s).tdiv (s * (qg a (mx n c f):Int)) = x.tdiv (qg a (mx n c f):Int):=λx=>by
  rw [Int.mul_comm x s];exact Int.mul_tdiv_mul_of_pos _ _ hs
 unfold qij;rw [e,ht];have e2:mx n c (qfs (s * (qg a (mx n c f):Int)) λi k=>qw (f i k) (s,0,())) = mx n c (qfs (qg a (mx n c f)) f):=qjM λi k _ _=>by
  unfold qfs;simp only [qgl,ht]
 rw [e2]
theorem qoN {n c:Nat} {f h:Nat->Nat->G} {a:Int} (e:∀ i k,i < n->k < c->f i k = h i k):qij n c f a = qij n c h a:=by
 have e1:mx n c f = mx n c h:=qjM e;unfold qij;rw [e1];have e2:mx n c (qfs (qg a (mx n c h)) f) = mx n c (qfs (qg a (mx n c h)) h):=qjM λi k hi hk=>by
  unfold qfs; rw [e i k hi hk]
 rw [e2]
theorem qrt {n c:Nat} {f h:Nat->Nat->G} {a e s t:Int} (hs:0 < s) (ht:0 < t) (hfh:∀ i k,i < n->k < c->qw (f i k) (s,0,()) = qw (h i k) (t,0,())) (hae:a * s = e * t):qij n c f a = qij n c h e:=by
 rw [<- qkO (f:=f) (a:=a) hs,<- qkO (f:=h) (a:=e) ht,hae];exact qoN hfh
theorem qon {n c:Nat} {f:Nat->Nat->G} {a:Int} {i k:Nat} (hi:i < n) (hk:k < c):qw (qfs (qg a (mx n c f)) f i k) ((qg a (mx n c f):Int),0,()) = f i k:=by
 rw [qgl];exact qi2 (Int.tdiv_mul_cancel (qjn (qd9.2 ⟨i,k,hi,hk,.inl rfl⟩))) (Int.tdiv_mul_cancel (qjn (qd9.2 ⟨i,k,hi,hk,.inr rfl⟩)))
theorem qlX {n c:Nat} {f:Nat->Nat->G} {a:Int}:a.tdiv (qg a (mx n c f):Int) * (qg a (mx n c f):Int) = a :=
 Int.tdiv_mul_cancel (Int.ofNat_dvd_left.2 (qcm (qeC (mx n c f)) a.natAbs))
structure EstB (ρ:Rn) (m:Nat) (w:Int):Prop where
 run:RunB ρ (m + 1)
 len:rnN ρ = m + 1
 det:qgz (m + 1) (sF ρ) = (w,0,())
 w0:0 < w
 w1:w<=918330048
 sB:BdF 972 (m + 1) (m + 1) (sF ρ)
 tB:BdF 972 (m + 1) (m + 1) (tF ρ)
 inv:InvB m (sF ρ) (w,0,()) 972 3779136 918330048 1000000000000000000
theorem qEp {ρ:Rn} (h:qjX ρ = 0):∃ m w,EstB ρ m w/\qqC ρ = 0:=by
 unfold qjX at h;by_cases cE:qqC ρ = 0
 case neg=>rw [if_pos cE] at h; exact absurd h cE
 rw [if_neg (show ¬ (qqC ρ ≠ 0) from λhh=>hh cE)] at h;by_cases cz:sD ρ = g0
 ·rw [if_pos cz] at h; cases h
 have hB:=qFc cE;obtain ⟨w,ew,w0,w1⟩:=qDp cE;have hn1:=hB.n1;have hn3:=hB.n3;obtain ⟨m,hm⟩:∃ m,rnN ρ = m + 1:=⟨rnN ρ - 1,by unfold rnN; omega⟩
 have hB':RunB ρ (m + 1):=by rw [<- hm]; exact hB
 have hm2:m<=2:=by unfold rnN at hm; omega
 have hw:0 < w:=by
  false_or_by_contra
  refine cz ?_;rw [ew,show w = 0 by omega]; rfl
 have sB:BdF 972 (m + 1) (m + 1) (sF ρ):=λi k hi hk=>qoy hB'.d hB'.d hB'.l6 hi hk;have tB:BdF 972 (m + 1) (m + 1) (tF ρ):=λi k hi hk=>qoy hB'.r hB'.d hB'.l6 hi hk;have ed:qgz (m + 1) (sF ρ) = (w,0,()):=by rw [<- hm]; exact ew
 have hdC:dC 972 m<=3779136:=by
  match m,hm2 with
  | 0,_=>decide
  | 1,_=>decide
  | 2,_=>decide
 have ww:w * w<=918330048 * 918330048:=Int.mul_le_mul w1 w1 (by omega) (by omega);refine ⟨m,w,⟨hB',hm,ed,hw,w1,sB,tB,⟨by omega,sB,qDo m (by omega),λi k hi hk=>(qwF (by omega) m _ (qe1 sB)).mono hdC,by unfold Bd; simp only; omega,by omega,by omega,by omega,by omega,by omega,?_,λhz=>?_⟩⟩,cE⟩
 ·unfold norm; simp only <;> omega
 ·have:=congrArg (λz:G=>z.1) hz;simp only [g0] at this;omega
def qld (ρ:Rn) (m:Nat) (w:Int):Qt:=qij (m + 1) (m + 1) (qR (m + 1) (tF ρ) (qhv m (sF ρ))) w
theorem qu7 {ρ:Rn} {m:Nat} {w:Int} (h:EstB ρ m w) (hm:m<=2):BdF 30000000000 (m + 1) (m + 1) (qR (m + 1) (tF ρ) (qhv m (sF ρ))):=λi k hi hk=>by
 have h1:=Bd.sum (n:=m + 1) (f:=λj=>qw (tF ρ i j) (qhv m (sF ρ) j k)) (B:=2 * (972 * 3779136)) λj hj=>(h.tB i j hi hj).mul (h.inv.adj hj hk);refine h1.mono ?_;have:((m + 1:Nat):Int) * (2 * (972 * 3779136))<=3 * (2 * (972 * 3779136)):=Int.mul_le_mul_of_nonneg_right (by omega) (by omega);omega
theorem qnM {ρ:Rn} (h1:ρ.1.length<=1000000) (hr:∀ d ∈ ρ.1,d.length<=1000000) (hr2:∀ r ∈ ρ.2.1,r.length<=1000000) :
  ∃ q:Qt,qcH ρ = some (q,qjX ρ)/\(qjX ρ ≠ 0->q = (0,[],()))/\∀ m w,EstB ρ m w->qjX ρ = 0->q = qld ρ m w:=by
 obtain ⟨y,e1,e2⟩:=qj9 h1 hr hr2;unfold qcH;rw [e1,qa];try dsimp only
 by_cases c:qjX ρ = 0
 case neg =>
  rw [decide_eq_false c,Bool.not_false,cond_true];exact ⟨_,rfl,λ_=>rfl,λm w _ hh=>absurd hh c⟩
 rw [decide_eq_true c,Bool.not_true,cond_false,e2 c];obtain ⟨m,w,hE,hrun⟩:=qEp c;have hm2:m<=2:=by have:=hE.run.n3; omega
 have ed:sD ρ = (w,0,()):=by unfold sD; rw [hE.len]; exact hE.det
 rw [hE.len,ed];dsimp only;rw [qrT (by omega) hE.inv,qa]
 -- the inverse in lowest terms
 generalize hg:qg (norm ((w,0,()):G)) (mx (m + 1) (m + 1) (qnE m (sF ρ) (w,0,()))) = g;have w0:=hE.w0;have hnorm:norm ((w,0,()):G) = w * w:=by unfold norm; simp
 have hwpos:0 < w * w:=Int.mul_pos w0 w0;have hconj:qU ((w,0,()):G) = (w,0,()):=rfl;have hinv:∀ i k,qnE m (sF ρ) (w,0,()) i k = qw (qhv m (sF ρ) i k) (w,0,()):=λi k=>by unfold qnE; rw [hconj]
 have hgpos:0 < g:=by rw [<- hg]; exact qrA (by rw [hnorm]; omega)
 have hwg:w<=(g:Int):=by
  have hd:w.natAbs ∣ g:=by
   rw [<- hg];unfold qg;refine qoi ?_ λx hx=>?_
   ·rw [hnorm,Int.natAbs_mul]; exact Nat.dvd_mul_left _ _
   ·obtain ⟨i,k,hi,hk,h⟩:=qd9.1 hx;rw [hinv,qgl] at h;have e:((w.natAbs:Nat):Int) = w:=by omega
    rw [e];rcases h with h | h <;> rw [h] <;> exact Int.dvd_mul_left _ _
  have:=Nat.le_of_dvd hgpos hd;omega
 have hX:∀ i k,i < m + 1->k < m + 1->qw (qfs (g:Int) (qnE m (sF ρ) (w,0,())) i k) ((g:Int),0,()) = qw (qhv m (sF ρ) i k) (w,0,()):=λi k hi hk=>by
  have:=qon (f:=qnE m (sF ρ) (w,0,())) (a:=norm ((w,0,()):G)) hi hk;rw [hg] at this;rw [this,hinv]
 have hden:(norm ((w,0,()):G)).tdiv (g:Int) * (g:Int) = w * w:=by
  have:=qlX (n:=m + 1) (c:=m + 1) (f:=qnE m (sF ρ) (w,0,())) (a:=norm ((w,0,()):G));rw [hg] at this;rw [this,hnorm]
 have hsmall:∀ {x a:Int},x * (g:Int) = a * w -> -3779136<=a/\a<=3779136 -> -3779136<=x/\x<=3779136:=λ{x a} hxa ha=>by
  have u1:a * w<=3779136 * w:=Int.mul_le_mul_of_nonneg_right ha.2 (by omega);have u2 : -3779136 * w<=a * w:=Int.mul_le_mul_of_nonneg_right ha.1 (by omega);constructor
  ·false_or_by_contra
   have u3:x * (g:Int) <= -3779137 * (g:Int):=Int.mul_le_mul_of_nonneg_right (by omega) (by omega);omega
  ·false_or_by_contra
   have u3:3779137 * (g:Int)<=x * (g:Int):=Int.mul_le_mul_of_nonneg_right (by omega) (by omega);omega
 have hXB:BdF 3779136 (m + 1) (m + 1) (qfs (g:Int) (qnE m (sF ρ) (w,0,()))):=λi k hi hk=>by
  have h1:=hX i k hi hk;rw [qgl,qgl] at h1;have ha:=hE.inv.adj hi hk;exact ⟨hsmall (congrArg (λz:G=>z.1) h1) ha.1,hsmall (congrArg (λz:G=>z.2.1) h1) ha.2⟩
 have hdpos:0 < (norm ((w,0,()):G)).tdiv (g:Int):=by
  false_or_by_contra
  have u:(norm ((w,0,()):G)).tdiv (g:Int) * (g:Int)<=0 * (g:Int):=Int.mul_le_mul_of_nonneg_right (by omega) (by omega);omega
 have hdle:(norm ((w,0,()):G)).tdiv (g:Int)<=918330048:=by
  false_or_by_contra
  have u:918330049 * (g:Int)<=(norm ((w,0,()):G)).tdiv (g:Int) * (g:Int):=Int.mul_le_mul_of_nonneg_right (by omega) (by omega);have u2:w * w<=918330048 * w:=Int.mul_le_mul_of_nonneg_right hE.w1 (by omega);omega
 have eq:qij (m + 1) (m + 1) (qnE m (sF ρ) (w,0,())) (norm ((w,0,()):G)) = ((norm ((w,0,()):G)).tdiv (g:Int),mx (m + 1) (m + 1) (qfs (g:Int) (qnE m (sF ρ) (w,0,()))),()):=by unfold qij; rw [hg]
 rw [eq];dsimp only;rw [qoE (A:=972) (B:=3779136) (by omega) (by omega) hE.tB hXB (by omega) (by omega) (by omega) (by omega) (by omega),qa];have hpB:BdF 30000000000 (m + 1) (m + 1) (qR (m + 1) (tF ρ) (qfs (g:Int) (qnE m (sF ρ) (w,0,())))):=λi k hi hk=>by
  have h1:=Bd.sum (n:=m + 1) (f:=λj=>qw (tF ρ i j) (qfs (g:Int) (qnE m (sF ρ) (w,0,())) j k)) (B:=2 * (972 * 3779136)) λj hj=>(hE.tB i j hi hj).mul (hXB j k hj hk);refine h1.mono ?_;have:((m + 1:Nat):Int) * (2 * (972 * 3779136))<=3 * (2 * (972 * 3779136)):=Int.mul_le_mul_of_nonneg_right (by omega) (by omega);omega
 rw [qpp (B:=30000000000) (by omega) (by omega) (by omega) (by omega) hpB hdpos (by omega),qa,c];refine ⟨_,rfl,λhh=>absurd rfl hh,λm' w' hE' _=>?_⟩;have em:m' = m:=by have:=hE'.len; have:=hE.len; omega
 subst em;have ew:w' = w:=by
  have:=hE'.det;rw [hE.det] at this;exact (congrArg (λz:G=>z.1) this).symm
 subst ew;unfold qld;refine qrt (s:=(g:Int)) (t:=w') (by omega) w0 (λi k hi hk=>?_) hden;rw [<- qjC,<- qjC];exact qbQ (λj hj=>rfl) (λj hj=>hX j k hj hk)
end Go.Proofs.YtbcdgfgacigaoaaGreat.Mat
end
section
namespace Go.Proofs.YtbcdgfgacigaoaaGreat.Mat
open Go Go.Ab Go.Tx Go.Proofs.YtbcdgfgacigaoaaGreat
def qk9 (ρ:Rn) (x:Qt):Int × Int:=if qjX ρ ≠ 0 then (0,qjX ρ) else if qtE x (rnN ρ) ≠ 0 then (0,qtE x (rnN ρ)) else
 match qyZ (mx (rnN ρ) (rnN ρ) (qR (rnN ρ) (ent x.2.1) (sF ρ))) (mx (rnN ρ) (rnN ρ) λi k=>qw (tF ρ i k) (x.1,0,())) with
 | some i=>((i:Int),19)
 | none=>(0,0)
theorem qh8 {ρ:Rn} {x:Qt} (h1:ρ.1.length<=1000000) (hr:∀ d ∈ ρ.1,d.length<=1000000) (hr2:∀ r ∈ ρ.2.1,r.length<=1000000) (hl:x.2.1.length<=1000) (hxr:∀ r ∈ x.2.1,r.length<=1000):qbr ρ x = some (qk9 ρ x):=by
 obtain ⟨y,e1,e2⟩:=qj9 h1 hr hr2;unfold qbr qk9;rw [e1,qa];try dsimp only
 by_cases c:qjX ρ = 0
 case neg=>rw [decide_eq_false c,cond_false,qa,decide_eq_false c,Bool.not_false,cond_true,if_pos c]
 rw [decide_eq_true c,cond_true,if_neg (show ¬ (qjX ρ ≠ 0) from λhh=>hh c),e2 c];obtain ⟨m,w,hE,hrun⟩:=qEp c;have hm2:m<=2:=by have:=hE.run.n3; omega
 rw [hE.len];dsimp only;rw [qbF,qBY hl hxr (by omega),qa,qa];by_cases hq:qtE x (m + 1) = 0
 case neg=>rw [decide_eq_false hq,Bool.not_false,cond_true,if_pos hq]
 rw [decide_eq_true hq,Bool.not_true,cond_false,if_neg (show ¬ qtE x (m + 1) ≠ 0 from λhh=>hh hq)];obtain ⟨hd,hR,hxB,_⟩:=qDH hq;have hx:=qpa hR;have hxb:=qvQ hxB hR;have htimes:=qoE (A:=q5) (B:=972) (by unfold q5; omega) (by omega) hxb hE.sB (by omega) (by omega) (by omega) (by omega) (by unfold q5; omega);rw [<- hx] at htimes;rw [htimes,qa,qz5 (A:=972) (B:=q5) (by omega) (by omega) (by omega) hE.tB (by unfold q5 at hd ⊢; omega) (by unfold q5; omega),qa];rw [qyu (by rw [qbF]; omega) (by rw [qbF,qbF]; omega) (λr hr=>by rw [(qqA _ _ _).2 r hr]; omega),qa];cases qyZ (mx (m + 1) (m + 1) (qR (m + 1) (ent x.2.1) (sF ρ))) (mx (m + 1) (m + 1) λi k=>qw (tF ρ i k) (x.1,0,())) <;> rfl
theorem qkW {ρ:Rn} {x:Qt} (h1:ρ.1.length<=1000000) (hr:∀ d ∈ ρ.1,d.length<=1000000) (hl:x.2.1.length<=1000) (hxr:∀ r ∈ x.2.1,r.length<=1000):qcb ρ x = some (qk9 ρ x):=by
 unfold qcb qk9;rw [qgY h1 hr,qa];by_cases c:qjX ρ = 0
 case neg=>rw [decide_eq_false c,Bool.not_false,cond_true,if_pos c]
 rw [decide_eq_true c,Bool.not_true,cond_false,if_neg (show ¬ (qjX ρ ≠ 0) from λhh=>hh c)];obtain ⟨m,w,hE,hrun⟩:=qEp c;have hm2:m<=2:=by have:=hE.run.n3; omega
 have hN:=hE.run.l1;have f3:idx ρ.1 0 = some (ρ.1.getD 0 []):=by rw [qcw [] (by omega) (by omega)]; rfl
 have hlen:((ρ.1.getD 0 []).length:Int) = ((m + 1:Nat):Int):=by have:=hE.len; unfold rnN at this; rw [this]
 rw [f3,qa,hlen,hE.len,qwb hl hxr (by omega),qa];by_cases hq:qtE x (m + 1) = 0
 case neg=>rw [decide_eq_false hq,Bool.not_false,cond_true,if_pos hq]
 rw [decide_eq_true hq,Bool.not_true,cond_false,if_neg (show ¬ qtE x (m + 1) ≠ 0 from λhh=>hh hq)];obtain ⟨hd,hR,hxB,_⟩:=qDH hq;have hx:=qpa hR;have hxb:=qvQ hxB hR;have es:qbm ρ.1 ρ.1 = some (mx (m + 1) (m + 1) (sF ρ)):=qm5 hE.run.d hE.run.d hE.run.l1 hE.run.l6 hE.run.n3;have et:qbm ρ.2.1 ρ.1 = some (mx (m + 1) (m + 1) (tF ρ)):=qm5 hE.run.r hE.run.d hE.run.l1 hE.run.l6 hE.run.n3;have htimes:=qyd (A:=q5) (B:=972) (by unfold q5; omega) (by omega) hxb hE.sB (by omega) (by omega) (by omega) (by omega) (by unfold q5; omega);rw [<- hx] at htimes;have hz:Bd q5 ((x.1,0,()):G):=by unfold Bd q5 at *; simp only <;> omega
 rw [es,qa,htimes,qa,et,qa,quh (A:=972) (B:=q5) (by omega) (by omega) hE.tB hz (by unfold q5; omega),qa];rw [qs7 (by rw [qbF]; omega) (by rw [qbF,qbF]; omega) (λr hr=>by rw [(qqA _ _ _).2 r hr]; omega) (λi hi=>by rw [qbF] at hi; rw [qBe _ hi,qBe _ hi,qW,qW]),qa];cases qyZ (mx (m + 1) (m + 1) (qR (m + 1) (ent x.2.1) (sF ρ))) (mx (m + 1) (m + 1) λi k=>qw (tF ρ i k) (x.1,0,())) with
 | none=>rfl
 | some i =>
  simp only
  rw [decide_eq_true (show (i:Int)>=0 by omega)]; rfl
theorem qyj (ρ:Rn):Ok (qfK ρ) λb=>b = true->qyY ρ.1 8/\qyY ρ.2.1 8:=by
 unfold qfK;refine Ok.bind (P:=λb:Bool=>b = true->qyY ρ.1 8/\qyY ρ.2.1 8) ?_ λb hb=>q9.2 hb;refine Ok.bind (qsu ρ.1 8 (by omega)) λx hx=>?_;cases x with
 | false=>exact q9.2 (by simp)
 | true =>
  rw [cond_true];exact Ok.bind (qsu ρ.2.1 8 (by omega)) λy hy=>q9.2 λh=>⟨hx rfl,hy h⟩
theorem qqj {ρ:Rn} (h1:ρ.1.length<=1000000000) (hr:∀ x ∈ ρ.1,x.length<=1000000000) (h2:ρ.2.1.length<=1000000000) (hr2:∀ x ∈ ρ.2.1,x.length<=1000000000):qa8 ρ = some ρ:=by
 unfold qa8;rw [qfO h1 hr,qa,qfO h2 hr2,qa]
end Go.Proofs.YtbcdgfgacigaoaaGreat.Mat
namespace Go.Proofs.YtbcdgfgacigaoaaGreat
open Go Go.Ab Go.Tx
end Go.Proofs.YtbcdgfgacigaoaaGreat
end
section
namespace Go.Proofs.YtbcdgfgacigaoaaGreat.Mat
open Go Go.Ab Go.Tx Go.Proofs.YtbcdgfgacigaoaaGreat
theorem qA4 (a b:G):qU (qw a b) = qw (qU a) (qU b):=qi2 (by simp only [qU,qw]; grind) (by simp only [qU,qw]; grind)
theorem qyT (a:G):qU (qU a) = a:=qi2 rfl (by simp only [qU]; omega)
theorem qzR {n:Nat} (f:Nat->G):qU (qdZ n f) = qdZ n λk=>qU (f k):=by
 induction n with
 | zero=>rfl
 | succ n ih=>simp only [qdZ,<- ih]; exact qi2 (by simp only [qU,qcy]) (by simp only [qU,qcy]; omega)
def lw (a b:Int):G:=(a.tdiv (Int.gcd a b),b.tdiv (Int.gcd a b),())
theorem qwW {a b s:Int} (hs:0 < s):lw (a * s) (b * s) = lw a b:=by
 have e:((Int.gcd (a * s) (b * s):Nat):Int) = s * (Int.gcd a b:Int):=by
  rw [Int.gcd_mul_right,Int.natCast_mul,Int.mul_comm]; congr 1; omega
 have ht:∀ x:Int,(x * s).tdiv (s * (Int.gcd a b:Int)) = x.tdiv (Int.gcd a b:Int):=λx=>by
  rw [Int.mul_comm x s];exact Int.mul_tdiv_mul_of_pos _ _ hs
 unfold lw;rw [e,ht,ht]
theorem qz4 {a b:Int} (hb:0 < b) (hb2:b<=4000000000000000000) (ha : -4000000000000000000<=a/\a<=4000000000000000000):qh3 a b = some (if qr1 (lw a b) then (lw a b,0) else ((0,0,()),8)):=by
 have hg:=qrh (a:=a) hb;unfold qh3;rw [qwC hb (by omega),qa];have t1:=qkJ (x:=a) (g:=(Int.gcd a b:Int)) (B:=4000000000000000000) (by omega);have t2:=qkJ (x:=b) (g:=(Int.gcd a b:Int)) (B:=4000000000000000000) (by omega);have e1:a.tdiv (Int.gcd a b:Int) = (lw a b).1:=rfl;have e2:b.tdiv (Int.gcd a b:Int) = (lw a b).2.1:=rfl;rw [decide_eq_false (show ¬ (Int.gcd a b:Int) = 0 by omega),cond_false,cond_false,wid (by omega) (by omega),wid (by omega) (by omega),qmW _ _ (by omega) (by omega),qa,e1,e2];by_cases c1 : -1000000000<=(lw a b).1/\(lw a b).1<=1000000000
 ·by_cases c2:(lw a b).2.1<=1000000000
  ·rw [decide_eq_true c1,decide_eq_false (show ¬ (lw a b).2.1 > 1000000000 by omega),if_pos (show qr1 (lw a b) from ⟨c1,c2⟩)]; rfl
  ·rw [decide_eq_true c1,decide_eq_true (show (lw a b).2.1 > 1000000000 by omega),if_neg (show ¬ qr1 (lw a b) from λhh=>c2 hh.2)]; rfl
 ·rw [decide_eq_false c1,if_neg (show ¬ qr1 (lw a b) from λhh=>c1 hh.1)]; rfl
def pwN (ρ:Rn) (o:Nat):Int:=grn ρ.1.length λj=>ent ρ.2.1 j o
theorem qEP {z:G} (h:Bd 9 z):0<=nrm z/\nrm z<=162:=by
 have p1:=(qaQ h.1 h.1).2;have p2:=(qaQ h.2 h.2).2;have:=qdW z;unfold nrm at *;omega
theorem qE8 {ρ:Rn} {n o:Nat} (h:RunB ρ n) (ho:o < n):∀ j,j<=ρ.1.length->0<=grn j (λj=>ent ρ.2.1 j o)/\grn j (λj=>ent ρ.2.1 j o)<=972:=λj hj=>by
 have h1:=qBd (N:=j) (f:=λj=>ent ρ.2.1 j o) λi hi=>h.rB i o (by omega) ho;have h6:=h.l6;exact ⟨qmF _ _,by omega⟩
theorem qD5 {z:G} (h:Bd 9 z):qP z (qU z) = some (nrm z,0,()):=by
 rw [qgf h h.qAh (by omega)];congr 1
 exact qi2 (by simp only [qw,qU,nrm]; grind) (by simp only [qw,qU]; grind)
theorem qx8 {ρ:Rn} {n o:Nat} (h:RunB ρ n) (ho:o < n) :
  qA (λ(s6:(Int × Int)) =>
    bif decide (s6.2 < (ρ.2.1.length:Int)) then
     (idx ρ.2.1 s6.2).bind λx7 =>
     (idx x7 (o:Int)).bind λx8 =>
     (idx x7 (o:Int)).bind λx9 =>
     (qau x9).bind λx10 =>
     (qP x8 x10).bind λx11 =>
     some (.inl (w64 (s6.1 + x11.1),w64 (s6.2 + 1)))
    else
     some (.inr s6.1)) (0,0) = some (pwN ρ o):=by
 have hl:=h.len;have h6:=h.l6;refine Ok.eq ?_;refine (qbc ρ.1.length (λi (s:Int × Int)=>s = (grn i (λj=>ent ρ.2.1 j o),(i:Int))) (λq=>q = pwN ρ o) rfl ?_);rintro i s hi rfl;rw [hl];by_cases hlt:i < ρ.1.length
 ·have e1:decide ((i:Int) < (ρ.1.length:Int)) = true:=decide_eq_true (by omega);obtain ⟨row,f1,f2⟩:=h.r.at hlt ho;simp only [e1,cond_true,f1,f2,qa];have hb:=h.rB i o hlt ho;have u1:=qE8 h ho i hi;have u2:=qEP hb;rw [qoM hb (by omega),qa,qD5 hb,qa,wid (by omega) (by omega),wid (by omega) (by omega),qaF];exact ⟨hlt,rfl⟩
 ·have:i = ρ.1.length:=by omega
  subst this;have e1:decide ((ρ.1.length:Int) < (ρ.1.length:Int)) = false:=by simp
  simp only [e1,cond_false];rw [qam]; rfl
end Go.Proofs.YtbcdgfgacigaoaaGreat.Mat
end
section
namespace Go.Proofs.YtbcdgfgacigaoaaGreat.Mat
open Go Go.Ab Go.Tx Go.Proofs.YtbcdgfgacigaoaaGreat
theorem qzf {ρ:Rn} {m:Nat} {w:Int} (hE:EstB ρ m w):∃ (g den:Int) (X:Nat->Nat->G),qaP (mx (m + 1) (m + 1) (sF ρ)) (w,0,()) = some (den,mx (m + 1) (m + 1) X,())/\0 < g/\0 < den/\den<=918330048/\den * g = w * w/\BdF 3779136 (m + 1) (m + 1) X /\
  ∀ i k,i < m + 1->k < m + 1->qw (X i k) (g,0,()) = qw (qhv m (sF ρ) i k) (w,0,()):=by
 have hm2:m<=2:=by have:=hE.run.n3; omega
 rw [qrT (by omega) hE.inv];generalize hg:qg (norm ((w,0,()):G)) (mx (m + 1) (m + 1) (qnE m (sF ρ) (w,0,()))) = g;have w0:=hE.w0;have hnorm:norm ((w,0,()):G) = w * w:=by unfold norm; simp
 have hwpos:0 < w * w:=Int.mul_pos w0 w0;have hconj:qU ((w,0,()):G) = (w,0,()):=rfl;have hinv:∀ i k,qnE m (sF ρ) (w,0,()) i k = qw (qhv m (sF ρ) i k) (w,0,()):=λi k=>by unfold qnE; rw [hconj]
 have hgpos:0 < g:=by rw [<- hg]; exact qrA (by rw [hnorm]; omega)
 have hwg:w<=(g:Int):=by
  have hd:w.natAbs ∣ g:=by
   rw [<- hg];unfold qg;refine qoi ?_ λx hx=>?_
   ·rw [hnorm,Int.natAbs_mul]; exact Nat.dvd_mul_left _ _
   ·obtain ⟨i,k,hi,hk,h⟩:=qd9.1 hx;rw [hinv,qgl] at h;have e:((w.natAbs:Nat):Int) = w:=by omega
    rw [e];rcases h with h | h <;> rw [h] <;> exact Int.dvd_mul_left _ _
  have:=Nat.le_of_dvd hgpos hd;omega
 have hX:∀ i k,i < m + 1->k < m + 1->qw (qfs (g:Int) (qnE m (sF ρ) (w,0,())) i k) ((g:Int),0,()) = qw (qhv m (sF ρ) i k) (w,0,()):=λi k hi hk=>by
  have:=qon (f:=qnE m (sF ρ) (w,0,())) (a:=norm ((w,0,()):G)) hi hk;rw [hg] at this;rw [this,hinv]
 have hden:(norm ((w,0,()):G)).tdiv (g:Int) * (g:Int) = w * w:=by
  have:=qlX (n:=m + 1) (c:=m + 1) (f:=qnE m (sF ρ) (w,0,())) (a:=norm ((w,0,()):G));rw [hg] at this;rw [this,hnorm]
 have hsmall:∀ {x a:Int},x * (g:Int) = a * w -> -3779136<=a/\a<=3779136 -> -3779136<=x/\x<=3779136:=λ{x a} hxa ha=>by
  have u1:a * w<=3779136 * w:=Int.mul_le_mul_of_nonneg_right ha.2 (by omega);have u2 : -3779136 * w<=a * w:=Int.mul_le_mul_of_nonneg_right ha.1 (by omega);constructor
  ·false_or_by_contra
   have u3:x * (g:Int) <= -3779137 * (g:Int):=Int.mul_le_mul_of_nonneg_right (by omega) (by omega);omega
  ·false_or_by_contra
   have u3:3779137 * (g:Int)<=x * (g:Int):=Int.mul_le_mul_of_nonneg_right (by omega) (by omega);omega
 have hXB:BdF 3779136 (m + 1) (m + 1) (qfs (g:Int) (qnE m (sF ρ) (w,0,()))):=λi k hi hk=>by
  have h1:=hX i k hi hk;rw [qgl,qgl] at h1;have ha:=hE.inv.adj hi hk;exact ⟨hsmall (congrArg (λz:G=>z.1) h1) ha.1,hsmall (congrArg (λz:G=>z.2.1) h1) ha.2⟩
 have hdpos:0 < (norm ((w,0,()):G)).tdiv (g:Int):=by
  false_or_by_contra
  have u:(norm ((w,0,()):G)).tdiv (g:Int) * (g:Int)<=0 * (g:Int):=Int.mul_le_mul_of_nonneg_right (by omega) (by omega);omega
 have hdle:(norm ((w,0,()):G)).tdiv (g:Int)<=918330048:=by
  false_or_by_contra
  have u:918330049 * (g:Int)<=(norm ((w,0,()):G)).tdiv (g:Int) * (g:Int):=Int.mul_le_mul_of_nonneg_right (by omega) (by omega);have u2:w * w<=918330048 * w:=Int.mul_le_mul_of_nonneg_right hE.w1 (by omega);omega
 refine ⟨(g:Int),(norm ((w,0,()):G)).tdiv (g:Int),qfs (g:Int) (qnE m (sF ρ) (w,0,())),?_,by omega,hdpos,hdle,hden,hXB,hX⟩;unfold qij;rw [hg]
def qve (ρ:Rn) (o:Nat):Nat->Nat->G:=λ_ k=>tF ρ o k
def qur (ρ:Rn) (o:Nat):Nat->Nat->G:=λj _=>qU (tF ρ o j)
def qE1 (ρ:Rn) (m o:Nat):Int:=(qR (m + 1) (qR (m + 1) (qve ρ o) (qhv m (sF ρ))) (qur ρ o) 0 0).1
def coh (ρ:Rn) (m:Nat) (w:Int) (o:Nat):G:=lw (qE1 ρ m o) (w * pwN ρ o)
theorem qDh {ρ:Rn} {m:Nat} {w:Int} (h:EstB ρ m w) {o:Nat} (ho:o < m + 1) {Y:Nat->Nat->G} (hY:BdF 3779136 (m + 1) (m + 1) Y):BdF 30000000000 1 (m + 1) (qR (m + 1) (qve ρ o) Y):=λi k hi hk=>by
 have h1:=Bd.sum (n:=m + 1) (f:=λj=>qw (qve ρ o i j) (Y j k)) (B:=2 * (972 * 3779136)) λj hj=>(h.tB o j ho hj).mul (hY j k hj hk);refine h1.mono ?_;have hn3:=h.run.n3;have:((m + 1:Nat):Int) * (2 * (972 * 3779136))<=3 * (2 * (972 * 3779136)):=Int.mul_le_mul_of_nonneg_right (by omega) (by omega);omega
theorem qDf {ρ:Rn} {m:Nat} {w:Int} (h:EstB ρ m w) {o:Nat} (ho:o < m + 1):BdF 972 (m + 1) 1 (qur ρ o):=λj k hj hk=>(h.tB o j ho hj).qAh
theorem qEr {ρ:Rn} {m:Nat} {w:Int} (h:EstB ρ m w) {o:Nat} (ho:o < m + 1) {Y:Nat->Nat->G} (hY:BdF 3779136 (m + 1) (m + 1) Y):∀ n,n<=m + 1->Bd 200000000000000 (qdZ n λk=>qw (qR (m + 1) (qve ρ o) Y 0 k) (qur ρ o k 0)):=λn hn=>by
 have h1:=Bd.sum (n:=n) (f:=λk=>qw (qR (m + 1) (qve ρ o) Y 0 k) (qur ρ o k 0)) (B:=2 * (30000000000 * 972)) λj hj=>(qDh h ho hY 0 j (by omega) (by omega)).mul (qDf h ho j 0 (by omega) (by omega));refine h1.mono ?_;have hn3:=h.run.n3;have:(n:Int) * (2 * (30000000000 * 972))<=3 * (2 * (30000000000 * 972)):=Int.mul_le_mul_of_nonneg_right (by omega) (by omega);omega
theorem qDZ {n c:Nat} (hn:n<=1000) (hc:c<=1000) (T:Rn) (o:Int) (f:Nat->Nat->G) (h:∀ i k:Nat,i < n->k < c->qbs i k T o = some (f i k)):qT (n:Int) (c:Int) T o = some (mx n c f):=by
 unfold qT;exact qhs n c hn hc (λi k=>qbs i k T o) f h
theorem qqL {ρ:Rn} {m:Nat} {w:Int} (h:EstB ρ m w) (hE0:qjX ρ = 0) (h1:ρ.1.length<=1000000) (hr:∀ d ∈ ρ.1,d.length<=1000000) (hr2:∀ r ∈ ρ.2.1,r.length<=1000000) {o:Nat} (ho:o < m + 1) :
  qc1 ρ (o:Int) = some (if pwN ρ o = 0 then ((0,0,()),12) else if qr1 (coh ρ m w o) then (coh ρ m w o,0) else ((0,0,()),8)):=by
 have hm2:m<=2:=by have:=h.run.n3; omega
 obtain ⟨y,e1,e2⟩:=qj9 h1 hr hr2;have e1':qbP (ρ.1,ρ.2.1,()) = some (y.1,y.2,qjX ρ):=e1;unfold qc1;rw [e1',qa,e2 hE0];try dsimp only
 have ed:sD ρ = (w,0,()):=by unfold sD; rw [h.len]; exact h.det
 rw [h.len,ed,qbF,qpY,qa,wid (by omega) (by omega),decide_eq_true (show (0:Int)<=(o:Int)/\(o:Int)<=((m + 1:Nat):Int) - 1 by omega),qgr,qa,qq4,qa,if_pos hE0,if_pos rfl,decide_eq_true (show (0:Int) = 0 from rfl),Bool.not_true,cond_false,qx8 h.run ho,qa];have hpb:=qE8 h.run ho ρ.1.length (Nat.le_refl _);have hpb':0<=pwN ρ o/\pwN ρ o<=972:=hpb;by_cases hp:pwN ρ o = 0
 ·rw [decide_eq_true hp,cond_true,if_pos hp]
 rw [decide_eq_false hp,cond_false,if_neg hp];obtain ⟨g,den,X,i1,g0',d0,d1,dg,hXB,hX⟩:=qzf h;have hrow:BdF 972 1 (m + 1) (qve ρ o):=λi k hi hk=>h.tB o k ho hk;have erow:([mkL (m + 1) λk=>tF ρ o k]:Mx) = mx 1 (m + 1) (qve ρ o):=rfl;have ecol:qT ((m + 1:Nat):Int) (1:Int) ((mx (m + 1) (m + 1) (sF ρ),mx (m + 1) (m + 1) (tF ρ),()):Rn) (o:Int) = some (mx (m + 1) 1 (qur ρ o)):=qDZ (n:=m + 1) (c:=1) (by omega) (by omega) _ _ (qur ρ o) λi k hi hk=>by
  unfold qbs;rw [qze (tF ρ) ho hi,qa,qoM (h.tB o i ho hi) (by omega)];rfl
 rw [i1,qa,qaA (qih (tF ρ) ho),qa,ecol,qa];try dsimp only
 rw [erow,qoE (A:=972) (B:=3779136) (by omega) (by omega) hrow hXB (by omega) (by omega) (by omega) (by omega) (by omega),qa,qoE (A:=30000000000) (B:=972) (by omega) (by omega) (qDh h ho hXB) (qDf h ho) (by omega) (by omega) (by omega) (by omega) (by omega),qa,qgR,qih _ (by omega),qa,qgR,qcn _ (by omega),qa];have hN:=qEr h ho hXB (m + 1) (Nat.le_refl _);have hN' : -200000000000000<=(qR (m + 1) (qR (m + 1) (qve ρ o) X) (qur ρ o) 0 0).1/\(qR (m + 1) (qR (m + 1) (qve ρ o) X) (qur ρ o) 0 0).1<=200000000000000:=hN.1;have hdp:den * pwN ρ o<=918330048 * 972:=Int.mul_le_mul d1 hpb'.2 hpb'.1 (by omega);have hdp0:=Int.mul_pos d0 (show 0 < pwN ρ o by omega);rw [wid (by omega) (by omega),qz4 hdp0 (by omega) (by omega),qa];have hnum:(qR (m + 1) (qR (m + 1) (qve ρ o) X) (qur ρ o) 0 0).1 * g = qE1 ρ m o * w:=by
  have k1:qw (qR (m + 1) (qR (m + 1) (qve ρ o) X) (qur ρ o) 0 0) (g,0,()) = qw (qR (m + 1) (qR (m + 1) (qve ρ o) (qhv m (sF ρ))) (qur ρ o) 0 0) (w,0,()):=by
   rw [<- qho,<- qho];refine qbQ (λj hj=>?_) (λj hj=>rfl);rw [<- qjC,<- qjC];exact qbQ (λl hl=>rfl) (λl hl=>hX l j hl hj)
  have k2:=congrArg (λz:G=>z.1) k1;simp only [qgl] at k2;exact k2
 have elw:lw (qR (m + 1) (qR (m + 1) (qve ρ o) X) (qur ρ o) 0 0).1 (den * pwN ρ o) = coh ρ m w o:=by
  unfold coh;rw [<- qwW (a:=(qR (m + 1) (qR (m + 1) (qve ρ o) X) (qur ρ o) 0 0).1) (b:=den * pwN ρ o) g0',<- qwW (a:=qE1 ρ m o) (b:=w * pwN ρ o) h.w0,hnum];have e8:den * pwN ρ o * g = den * g * pwN ρ o:=by grind
  have e9:den * pwN ρ o * g = w * pwN ρ o * w:=by rw [e8,dg]; grind
  rw [e9]
 rw [elw]
end Go.Proofs.YtbcdgfgacigaoaaGreat.Mat
namespace Go.Proofs.YtbcdgfgacigaoaaGreat
open Go Go.Ab Go.Tx
end Go.Proofs.YtbcdgfgacigaoaaGreat
end
section
namespace Go.Proofs.YtbcdgfgacigaoaaGreat.Mat
open Go Go.Ab Go.Tx Go.Proofs.YtbcdgfgacigaoaaGreat
theorem qgD {n:Int} (h1 : -9007199254740991<=n) (h2:n<=9007199254740991):flo n = some n:=by
 unfold flo; rw [if_pos (by omega)]
def qDY (l:List G) (n:Nat):Int:=if l.length = n then (if l.any (qfj 10000) = true then 2 else 0) else 10
theorem qyB (r:List G) (h:r.length<=1000000000):qq r = some (r.any (qfj 10000)):=by
 unfold qq qG;refine qwc r qed (qfj 10000) (λx _=>?_) h;unfold qed;rw [qdz _ _ (by omega) (by omega)]; rfl
theorem qyL {l:List G} {n:Nat} (h:l.length<=1000000000):qfN l (n:Int) = some (qDY l n):=by
 unfold qfN qDY;rw [qyB l h];simp only [qa,qgr];rw [qq4];by_cases c:l.length = n
 ·have c':decide ((l.length:Int) = (n:Int)) = true:=decide_eq_true (by omega);rw [c',if_pos c];cases hb:l.any (qfj 10000) <;> simp
 ·have c':decide ((l.length:Int) = (n:Int)) = false:=decide_eq_false (by omega);rw [c',if_neg c];simp
theorem qEY {l:List G} {n:Nat} (h:qDY l n = 0):l.length = n/\∀ z ∈ l,Bd 10000 z:=by
 unfold qDY at h;by_cases c:l.length = n
 case neg=>rw [if_neg c] at h; cases h
 rw [if_pos c] at h;refine ⟨c,λz hz=>?_⟩;cases hb:l.any (qfj 10000) with
 | true=>rw [hb,if_pos rfl] at h; cases h
 | false =>
  have:=List.any_eq_false.1 hb z hz;unfold qfj at this;simpa using this
def qvi (n:Nat) (f:Nat->Nat->G) (d:Nat->G) (i:Nat):G:=qdZ n λk=>qw (f i k) (d k)
theorem qvb {n:Nat} {f:Nat->Nat->G} {d:Nat->G} (hf:BdF 20 n n f) (hd:∀ k,k < n->Bd 10000 (d k)) (hn:n<=3) :
  qe5 (mx n n f) (mkL n d) = some (mkL n (qvi n f d)):=by
 unfold qe5;rw [qbF];rw [qnx n (qvi n f d) (λi hi=>?_) ?_]
 ·rfl
 ·have e0:decide ((n:Int) < (n:Int)) = false:=by simp
  simp only [e0,cond_false]
 ·have e0:decide ((i:Int) < (n:Int)) = true:=decide_eq_true (by omega);simp only [e0,cond_true];rw [qaA (qih f hi),qa,qW];have hF:∀ k,k < n->Bd 400000 (qw (f i k) (d k)):=λk hk=>((hf i k hi hk).mul (hd k hk)).mono (by omega);have hS:∀ k,k<=n->Bd 1200000 (qdZ k λk=>qw (f i k) (d k)):=λk hk=>by
   have h1:=Bd.sum (n:=k) λj hj=>hF j (by omega);exact h1.mono (by omega)
  refine Ok.eq ?_;rw [qfv];refine (qbc n (λk (s:(Int × Int) × Int)=>s = (((qdZ k λk=>qw (f i k) (d k)).1,(qdZ k λk=>qw (f i k) (d k)).2.1),(k:Int))) (λr=>r = ((qdZ n λk=>qw (f i k) (d k)).1,(qdZ n λk=>qw (f i k) (d k)).2.1)) rfl ?_).mono ?_
  ·rintro k s hk rfl;by_cases hlt:k < n
   ·have e1:decide ((k:Int) < (n:Int)) = true:=decide_eq_true (by omega);have hx:idx (mkL n λb=>f i b) (k:Int) = some (f i k):=qaA (qcn _ hlt);have hy:idx (mkL n d) (k:Int) = some (d k):=qaA (qcn _ hlt);simp only [e1,cond_true,hx,hy,qa];have hs:=hS k hk;have hs':=hS (k + 1) hlt;have hfk:=hf i k hi hlt;have hdk:=hd k hlt;have p1:=qaQ hfk.1 hdk.1;have p2:=qaQ hfk.2 hdk.2;have p3:=qaQ hfk.1 hdk.2;have p4:=qaQ hfk.2 hdk.1;have es:qdZ (k + 1) (λk=>qw (f i k) (d k)) = qcy (qdZ k λk=>qw (f i k) (d k)) (qw (f i k) (d k)):=rfl;rw [es] at hs' ⊢;generalize qdZ k (λk=>qw (f i k) (d k)) = S at *;unfold Bd qcy qw at *;simp only at hs' ⊢;rw [qgD (by omega) (by omega),qa,qgD (by omega) (by omega),qa,qgD (by omega) (by omega),qa,qgD (by omega) (by omega),qa];rw [qgD (by omega) (by omega),qa,qgD (by omega) (by omega),qa,qgD (by omega) (by omega),qa];rw [qgD (by omega) (by omega),qa,qgD (by omega) (by omega),qa,qgD (by omega) (by omega),qa];rw [qgD (by omega) (by omega),qa,qgD (by omega) (by omega),qa];rw [wid (by omega) (by omega),qaF];exact ⟨hlt,rfl⟩
   ·have:k = n:=by omega
    subst this;have e1:decide ((k:Int) < (k:Int)) = false:=by simp
    simp only [e1,cond_false];rw [qam]
  ·rintro r rfl;have hs:=hS n (Nat.le_refl n);unfold Bd at hs;simp only
   rw [qgD (by omega) (by omega),qa,qgD (by omega) (by omega),qa,qee (by rw [qW]; omega),qa,wid (by omega) (by omega)];exact q9.2 rfl
def qFi (n:Nat) (f:Nat->Nat->G) (t d:Nat->G) (i:Nat):G:=qiq (t i) (qvi n f d i)
def qFR (r:Rg) (t d:Nat->G) (i:Nat):G:=qvi r.2.1.length (qEI r.2.1) (qFi r.2.1.length (ent r.1) t d) i
structure CorB (r:Rg) (t d:Nat->G):Prop where
 n1:1<=r.2.1.length
 n3:r.2.1.length<=3
 pm:r.1 = mx r.2.1.length r.2.1.length (ent r.1)
 pB:BdF 20 r.2.1.length r.2.1.length (ent r.1)
 xB:BdF 614400000 r.2.1.length r.2.1.length (qEI r.2.1)
 tB:∀ k,k < r.2.1.length->Bd 10000 (t k)
 dB:∀ k,k < r.2.1.length->Bd 10000 (d k)
 rB:∀ i,i < r.2.1.length->Bd 4460544000000000 (qFR r t d i)
 num:0<=r.2.2.1/\r.2.2.1<=100
 den:1<=qFb r.2.1 * r.2.2.2.1/\qFb r.2.1 * r.2.2.2.1<=7372800000000
 step:0<=r.2.2.2.2.1/\r.2.2.2.2.1<=1000
def qC4 (m:Mx) (d:List G):Int:=if qzX m = 0 then qDY d m.length else qzX m
def qE9 (m:Mx) (d:List G):List G:=mkL m.length (qvi m.length (ent m) λk=>d.getD k g0)
theorem qsj {m:Mx} {d:List G} (h:m.length<=1000000000) (hr:∀ x ∈ m,x.length<=1000000000) (hd:d.length<=1000000000):qck m d = some (if qC4 m d = 0 then (qE9 m d,0) else ([],qC4 m d)):=by
 unfold qck;rw [quQ h hr,qa,qyL hd,qa,qq4,qa];have e:(if qzX m = 0 then qDY d m.length else qzX m) = qC4 m d:=rfl;rw [e];by_cases c:qC4 m d = 0
 case neg=>rw [decide_eq_false c,Bool.not_false,cond_true,if_neg c]
 rw [decide_eq_true c,Bool.not_true,cond_false,if_pos c];unfold qC4 at c;by_cases c1:qzX m = 0
 case neg=>rw [if_neg c1] at c; exact absurd c c1
 rw [if_pos c1] at c;obtain ⟨m1,m3,mR,mB⟩:=qCX c1;obtain ⟨dl,dB⟩:=qEY c;have e1:=qvb (d:=λk=>d.getD k g0) (qvQ mB mR) (λk hk=>dB _ (qbf (by omega))) m3;rw [<- qpa mR] at e1;have e2:=qti d g0;rw [dl] at e2;rw [<- e2] at e1;rw [e1]; rfl
end Go.Proofs.YtbcdgfgacigaoaaGreat.Mat
namespace Go.Proofs.YtbcdgfgacigaoaaGreat
open Go Go.Ab Go.Tx
end Go.Proofs.YtbcdgfgacigaoaaGreat
end
section
namespace Go.Proofs.YtbcdgfgacigaoaaGreat.Mat
open Go Go.Ab Go.Tx Go.Proofs.YtbcdgfgacigaoaaGreat
theorem qv9 {n c:Nat} {f:Nat->Nat->G} {a:Int} (ha:a ≠ 0):qg (a.tdiv (qg a (mx n c f):Int)) (mx n c (qfs (qg a (mx n c f):Int) f)) = 1:=by
 have hg:=qrA (m:=mx n c f) ha;have h:=qxm (n:=n) (c:=c) (f:=qfs (qg a (mx n c f):Int) f) (a:=a.tdiv (qg a (mx n c f):Int)) (s:=(qg a (mx n c f):Int)) (by omega);have e1:a.tdiv (qg a (mx n c f):Int) * (qg a (mx n c f):Int) = a:=qlX;have e2:mx n c (λi k=>qw (qfs (qg a (mx n c f):Int) f i k) ((qg a (mx n c f):Int),0,())) = mx n c f:=qjM λi k hi hk=>qon hi hk;rw [e1,e2,Int.natAbs_natCast] at h;exact Nat.eq_of_mul_eq_mul_left hg (by rw [<- h,Nat.mul_one])
theorem qza {n c:Nat} {f:Nat->Nat->G} {a:Int} (h:qg a (mx n c f) = 1):qij n c f a = (a,mx n c f,()):=by
 unfold qij;rw [h];have e:mx n c (qfs ((1:Nat):Int) f) = mx n c f:=qjM λi k _ _=>qi2 (Int.tdiv_one _) (Int.tdiv_one _);rw [e];show (a.tdiv 1,_,()) = _;rw [Int.tdiv_one]
theorem qoq {n:Nat} (hn:n + 1<=3) (f:Nat->Nat->G) {S:Nat->Nat->G} {w:Int} (hd:qgz (n + 1) S = (w,0,())) {i k:Nat} (hk:k < n + 1) :
  qR (n + 1) f (qR (n + 1) (qhv n S) S) i k = qw (f i k) (w,0,())/\qR (n + 1) f (qR (n + 1) S (qhv n S)) i k = qw (f i k) (w,0,()):=by
 refine ⟨?_,?_⟩
 ·rw [qbQ (f':=f) (h':=qqV w) (λj hj=>rfl) (λj hj=>by rw [qCf hn S hj hk,hd]; rfl),qp5 _ _ hk]
 ·rw [qbQ (f':=f) (h':=qqV w) (λj hj=>rfl) (λj hj=>by rw [qy5 hn S hj hk,hd]; rfl),qp5 _ _ hk]
section
variable {ρ:Rn} {m:Nat} {w:Int}
theorem qEh {i k:Nat} (hi:i < m + 1) (hk:k < m + 1):ent (qld ρ m w).2.1 i k = qfs (qg w (mx (m + 1) (m + 1) (qR (m + 1) (tF ρ) (qhv m (sF ρ)))):Int) (qR (m + 1) (tF ρ) (qhv m (sF ρ))) i k:=qzr _ hi hk
theorem qDq (h:EstB ρ m w) {i k:Nat} (hi:i < m + 1) (hk:k < m + 1):qR (m + 1) (ent (qld ρ m w).2.1) (sF ρ) i k = qw (tF ρ i k) ((qld ρ m w).1,0,()):=by
 have hm2:m + 1<=3:=h.run.n3;have w0:=h.w0;have hg:=qrA (m:=mx (m + 1) (m + 1) (qR (m + 1) (tF ρ) (qhv m (sF ρ)))) (show w ≠ 0 by omega);refine qDI (s:=(qg w (mx (m + 1) (m + 1) (qR (m + 1) (tF ρ) (qhv m (sF ρ)))):Int)) (by omega) ?_;rw [<- qho,qbQ (f':=qR (m + 1) (tF ρ) (qhv m (sF ρ))) (h':=sF ρ) (λj hj=>by rw [qEh hi hj]; exact qon hi hj) (λj hj=>rfl),<- qhW,(qoq hm2 (tF ρ) h.det hk).1,qeO];congr 1
 rw [qgl];refine qi2 ?_ (by simp);exact (qlX (n:=m + 1) (c:=m + 1) (f:=qR (m + 1) (tF ρ) (qhv m (sF ρ))) (a:=w)).symm
theorem qD1 (h:EstB ρ m w):1<=(qld ρ m w).1/\(qld ρ m w).1<=918330048:=by
 have w0:=h.w0;have w1:=h.w1;have hg:=qrA (m:=mx (m + 1) (m + 1) (qR (m + 1) (tF ρ) (qhv m (sF ρ)))) (show w ≠ 0 by omega);have e:(qld ρ m w).1 * (qg w (mx (m + 1) (m + 1) (qR (m + 1) (tF ρ) (qhv m (sF ρ)))):Int) = w:=qlX;generalize qg w (mx (m + 1) (m + 1) (qR (m + 1) (tF ρ) (qhv m (sF ρ)))) = g at e hg;have h1:1<=(qld ρ m w).1:=by
  false_or_by_contra
  have:(qld ρ m w).1 * (g:Int)<=0 * (g:Int):=Int.mul_le_mul_of_nonneg_right (by omega) (by omega);omega
 refine ⟨h1,?_⟩;have:(qld ρ m w).1 * 1<=(qld ρ m w).1 * (g:Int):=Int.mul_le_mul_of_nonneg_left (by omega) (by omega);omega
theorem qDT (h:EstB ρ m w):qtE (qld ρ m w) (m + 1) = 0:=by
 obtain ⟨h1,h2⟩:=qD1 h;have w0:=h.w0;have hm2:m<=2:=by have:=h.run.n3; omega
 have hl:qg (qld ρ m w).1 (qld ρ m w).2.1 = 1:=qv9 (by omega);have hb:BdM q5 (qld ρ m w).2.1:=qCQ.2 λi k hi hk=>by
  have:=qu7 h hm2 i k hi hk;have h30:Bd 30000000000 (qfs (qg w (mx (m + 1) (m + 1) (qR (m + 1) (tF ρ) (qhv m (sF ρ)))):Int) (qR (m + 1) (tF ρ) (qhv m (sF ρ))) i k):=⟨qkJ this.1,qkJ this.2⟩
  exact h30.mono (by unfold q5; omega)
 unfold qtE;rw [if_neg (λhh=>hh ⟨h1,by unfold q5; omega⟩),if_neg (λhh=>hh (qbF _ _ _)),if_neg (λhh=>hh (qqA _ _ _).2),if_neg (λhh=>hh hb),if_pos hl]
theorem qpw (h:EstB ρ m w) (c:qjX ρ = 0):qk9 ρ (qld ρ m w) = (0,0):=by
 unfold qk9;rw [if_neg (show ¬ (qjX ρ ≠ 0) from λhh=>hh c),h.len,if_neg (λhh=>hh (qDT h))];rw [show mx (m + 1) (m + 1) (qR (m + 1) (ent (qld ρ m w).2.1) (sF ρ)) = mx (m + 1) (m + 1) (λi k=>qw (tF ρ i k) ((qld ρ m w).1,0,())) from qjM λi k hi hk=>qDq h hi hk,qAJ]
theorem qsb (h:EstB ρ m w) (c:qjX ρ = 0) {x:Qt} (hx:(qk9 ρ x).2 = 0):x = qld ρ m w:=by
 have hm2:m + 1<=3:=h.run.n3;have w0:=h.w0;unfold qk9 at hx;rw [if_neg (show ¬ (qjX ρ ≠ 0) from λhh=>hh c),h.len] at hx;by_cases hq:qtE x (m + 1) = 0
 case neg=>rw [if_pos hq] at hx; exact absurd hx hq
 rw [if_neg (λhh=>hh hq)] at hx;cases hd:qyZ (mx (m + 1) (m + 1) (qR (m + 1) (ent x.2.1) (sF ρ))) (mx (m + 1) (m + 1) λi k=>qw (tF ρ i k) (x.1,0,())) with
 | some i=>rw [hd] at hx; cases hx
 | none =>
 have he:=qEE (qAY (by rw [qbF,qbF]) hd);obtain ⟨⟨a1,_⟩,hR,_,hlow⟩:=qDH hq;have hxm:=qpa hR;have hT:∀ i k,i < m + 1->k < m + 1->qw (ent x.2.1 i k) (w,0,()) = qw (qR (m + 1) (tF ρ) (qhv m (sF ρ)) i k) (x.1,0,()):=λi k hi hk=>by
  rw [<- (qoq hm2 (ent x.2.1) h.det (i:=i) hk).2,qhW,<- qho];exact qbQ (λj hj=>he i j hi hj) (λj hj=>rfl)
 have e1:qij (m + 1) (m + 1) (ent x.2.1) x.1 = x:=by
  rw [qza (by rw [<- hxm]; exact hlow),<- hxm]
 rw [<- e1];exact qrt (s:=w) (t:=x.1) w0 (by omega) hT (Int.mul_comm _ _)
end
def exO (a:Mx) (D:Mx):Mx:=mkL D.length λj=>qE9 a (D.getD j [])
theorem qz8 {a D:Mx} {j i:Nat} (hj:j < D.length) (hi:i < a.length):ent (exO a D) j i = qvi a.length (ent a) (ent D j) i:=by
 unfold ent exO;rw [qlM _ _ hj];unfold qE9;rw [qlM _ _ hi];rfl
theorem qC9 {a:Mx} {D:Mx} {i k:Nat} (hi:i < a.length):tF (D,exO a D,()) i k = qR a.length (ent a) (sF (D,exO a D,())) i k:=by
 show qfB (exO a D) D D.length i k = qR a.length (ent a) (qfB D D D.length) i k;unfold qfB qR;rw [qbn (h:=λj=>qdZ a.length λl=>qw (qw (ent a i l) (ent D j l)) (qU (ent D j k))) (λj hj=>by
  rw [qz8 hj hi];unfold qvi;exact (qgB _).symm),qpz]
 refine qbn λl hl=>?_;rw [qbn (h:=λj=>qw (qw (ent D j l) (qU (ent D j k))) (ent a i l)) (λj hj=>by rw [qeO,qfn]),qgB,qfn]
theorem qDw {a D:Mx} {m:Nat} {w:Int} (h:EstB (D,exO a D,()) m w) (hl:a.length = m + 1) (hR:qEm a.length a.length a):qld (D,exO a D,()) m w = (1,a,()):=by
 have hm2:m + 1<=3:=h.run.n3;have w0:=h.w0;unfold qld;rw [qoN (h:=λi k=>qw (ent a i k) (w,0,())) (λi k hi hk=>by
  rw [qbQ (f':=qR (m + 1) (ent a) (sF (D,exO a D,()))) (h':=qhv m (sF (D,exO a D,()))) (λj hj=>by rw [qC9 (by omega),hl]) (λj hj=>rfl),<- qhW];exact (qoq hm2 (ent a) h.det hk).2)]
 have e:=qkO (n:=m + 1) (c:=m + 1) (f:=ent a) (a:=1) w0;rw [Int.one_mul] at e;rw [e,qza]
 ·rw [<- hl,<- qpa hR]
 ·exact Nat.eq_one_of_dvd_one (qcm (qeC (mx (m + 1) (m + 1) (ent a))) 1)
theorem qEf {a D:Mx} {m:Nat} {w:Int} (h:EstB (D,exO a D,()) m w) (hl:a.length = m + 1) {o:Nat} (ho:o < m + 1):qE1 (D,exO a D,()) m o = pwN (D,exO a D,()) o * w:=by
 have hm2:m + 1<=3:=h.run.n3;have key:qR (m + 1) (qR (m + 1) (qve (D,exO a D,()) o) (qhv m (sF (D,exO a D,())))) (qur (D,exO a D,()) o) 0 0 = qw ((pwN (D,exO a D,()) o,0,()):G) (w,0,()):=by
  rw [qbQ (f':=λi k=>qw (ent a o k) (w,0,())) (h':=qur (D,exO a D,()) o) (λj hj=>by
   rw [qbQ (f':=λ_ k=>qR (m + 1) (ent a) (sF (D,exO a D,())) o k) (h':=qhv m (sF (D,exO a D,()))) (λl hl'=>by
    show tF (D,exO a D,()) o l = _;rw [qC9 (by omega),hl]) (λl hl=>rfl)]
   show qR (m + 1) (qR (m + 1) (ent a) (sF (D,exO a D,()))) (qhv m (sF (D,exO a D,()))) o j = _;rw [<- qhW];exact (qoq hm2 (ent a) h.det hj).2) (λj hj=>rfl)]
  rw [qho (m + 1) (λ_ k=>ent a o k) (qur (D,exO a D,()) o) (w,0,()) 0 0];congr 1
  unfold pwN;rw [<- qvz];unfold gr qR qur;show (qdZ (m + 1) λk=>qw (ent a o k) (qU (qfB (exO a D) D D.length o k))) = qdZ D.length λj=>qw (ent (exO a D) j o) (qU (ent (exO a D) j o));unfold qfB;rw [qbn (h:=λk=>qdZ D.length λj=>qw (qw (ent a o k) (ent D j k)) (qU (ent (exO a D) j o))) (λk hk=>by
   rw [qzR,qfn,<- qgB];refine qbn λj hj=>?_;rw [qA4,qyT,qfn,qfn (qU (ent (exO a D) j o)),qeO]),qpz]
  refine qbn λj hj=>?_;rw [qgB];congr 1
  rw [qz8 hj (by omega),hl];rfl
 unfold qE1;rw [key,qgl]
theorem qDC {a:Int} (ha:0 < a):lw a a = (1,1,()):=by
 have e:((Int.gcd a a:Nat):Int) = a:=by rw [Int.gcd_self]; omega
 unfold lw;rw [e,Int.tdiv_self (by omega)]
theorem qEg {a D:Mx} {m:Nat} {w:Int} (h:EstB (D,exO a D,()) m w) (hl:a.length = m + 1) {o:Nat} (ho:o < m + 1) (hp:0 < pwN (D,exO a D,()) o):coh (D,exO a D,()) m w o = (1,1,()):=by
 unfold coh;rw [qEf h hl ho,Int.mul_comm w];exact qDC (Int.mul_pos hp h.w0)
theorem qBn {ρ:Type} (n:Nat) (K:Int->Option (Int ⊕ (Unit ⊕ ρ))) (q:Nat->Prop) [∀ i,Decidable (q i)] (r:ρ) (c:Prop) [Decidable c] (hc:c ↔ ∃ j,j < n/\q j)
  (h:∀ i,i < n->K (i:Int) = some (if q i then .inr (.inr r) else .inl ((i:Int) + 1))) :
  qA (λs=>bif decide (s < (n:Int)) then K s else some (.inr (.inl ()))) 0 = some (if c then .inr r else .inl ()):=by
 refine Ok.eq (qbc n (λi (s:Int)=>s = (i:Int)/\∀ j,j < i -> ¬ q j) _ ⟨rfl,by omega⟩ ?_);rintro i s hi ⟨rfl,hI⟩;by_cases hlt:i < n
 ·have h0:decide ((i:Int) < (n:Int)) = true:=by simp <;> omega
  simp only [h0,cond_true];rw [h i hlt];by_cases hq:q i
  ·rw [if_pos hq,qam,if_pos (hc.2 ⟨i,hlt,hq⟩)]
  ·rw [if_neg hq,qaF];refine ⟨hlt,by simp,λj hj=>?_⟩;by_cases e:j = i
   ·subst e; exact hq
   ·exact hI j (by omega)
 ·have h0:decide ((i:Int) < (n:Int)) = false:=by simp <;> omega
  simp only [h0,cond_false];rw [qam,if_neg (λh=>by
   obtain ⟨j,h1,h2⟩:=hc.1 h;exact hI j (by omega) h2)]
theorem qBw {a:Mx} (ha:qzX a = 0) {d:List G} (hl:d.length = a.length) (hd:∀ z ∈ d,Bd 9 z):qC4 a d = 0:=by
 unfold qC4 qDY;rw [if_pos ha,if_pos hl,if_neg];intro h;obtain ⟨z,hz,hb⟩:=List.any_eq_true.1 h;have h2:Bd 10000 z:=(hd z hz).mono (by omega);unfold qfj at hb;rw [decide_eq_true h2] at hb;cases hb
theorem qr8 (a:Mx) (ρ:Rn) (x:Qt):qfp a ρ x = some true:=by
 unfold qfp;rw [show qkk = some true from rfl,qa,Bool.not_true,cond_false];refine Ok.eq ?_;rw [qfv];refine (Ok.bind (P:=λb:Bool=>b = true->qyY ρ.1 8/\qyY ρ.2.1 8) (Q:=λb:Bool=>b = false->(qyY ρ.1 8/\qyY ρ.2.1 8)/\qyY a 5/\qyY x.2.1 5/\qjX ρ = 0) (qyj ρ) λb hb=>?_).mono λb hb=>?_
 ·cases b with
  | false=>exact q9.2 (by simp)
  | true =>
   rw [Bool.not_true,cond_false];refine Ok.bind (qC7 a) λy hy=>?_;cases y with
   | false=>exact q9.2 (by simp)
   | true =>
    rw [Bool.not_true,cond_false];refine Ok.bind (qC7 x.2.1) λz hz=>?_;cases z with
    | false=>exact q9.2 (by simp)
    | true =>
     rw [Bool.not_true,cond_false];obtain ⟨⟨ha,har⟩,_⟩:=hb rfl;rw [qgY (by omega) (λd h=>by have:=har d h; omega),qa];exact q9.2 λh=>⟨hb rfl,hy rfl,hz rfl,by simpa using h⟩
 cases b with
 | true=>exact q9.2 rfl
 | false =>
 rw [cond_false];obtain ⟨⟨⟨ha,har⟩,⟨hb8,hbr⟩⟩,⟨ha5,har5⟩,⟨hx5,hxr5⟩,c⟩:=hb rfl;have h1:ρ.1.length<=1000000:=by omega
 have hr:∀ d ∈ ρ.1,d.length<=1000000:=λd h=>by have:=har d h; omega
 have hr2:∀ d ∈ ρ.2.1,d.length<=1000000:=λd h=>by have:=hbr d h; omega
 have hl:x.2.1.length<=1000:=by omega
 have hxr:∀ r ∈ x.2.1,r.length<=1000:=λd h=>by have:=hxr5 d h; omega
 have ec:=qqj (ρ:=ρ) (by omega) (λd h=>by have:=har d h; omega) (by omega) (λd h=>by have:=hbr d h; omega);obtain ⟨m,w,hE,hrun⟩:=qEp c;have hm2:m<=2:=by have:=hE.run.n3; omega
 obtain ⟨q,q1,q2,q3⟩:=qnM h1 hr hr2;rw [ec,qa,q1,q3 m w hE c,qa];have hs1:(qld ρ m w).2.1.length = m + 1:=by unfold qld qij; rw [qbF]
 have hs2:∀ r ∈ (qld ρ m w).2.1,r.length = m + 1:=λr hr=>(qqA (m + 1) (m + 1) (qfs (qg w (mx (m + 1) (m + 1) (qR (m + 1) (tF ρ) (qhv m (sF ρ))))) (qR (m + 1) (tF ρ) (qhv m (sF ρ))))).2 r hr;simp only [c,decide_true,Bool.not_true,cond_false,qa];rw [qiB (x:=qld ρ m w) (by omega) (λr h=>by have:=hs2 r h; omega),qa,qh8 h1 hr hr2 (by omega) (λr h=>by have:=hs2 r h; omega),qa,qkW h1 hr (by omega) (λr h=>by have:=hs2 r h; omega),qpw hE c];simp only [decide_true,Bool.not_true,cond_false,qa];rw [qiB (x:=x) (by omega) (λr h=>by have:=hxr r h; omega),qa,qh8 h1 hr hr2 hl hxr,qa,qiO (by omega) (λr h=>by have:=hxr r h; omega),qa];have e2:decide ((qk9 ρ x).2 = 0) = decide (x = qld ρ m w):=by
  rw [Bool.eq_iff_iff,decide_eq_true_iff,decide_eq_true_iff];exact ⟨λh=>qsb hE c h,λh=>by rw [h,qpw hE c]⟩
 rw [e2];have e3:(!(decide (x = qld ρ m w) == decide (x = qld ρ m w))) = false:=by simp
 rw [e3,cond_false,qt1 (by omega) (λr h=>by have:=har5 r h; omega),qa];by_cases c1:qzX a = 0
 case neg =>
  rw [decide_eq_false c1];exact q9.2 rfl
 obtain ⟨m1,m3,mR,mB⟩:=qCX c1;have hN:=hE.run.l1;have hN6:=hE.run.l6;have f3:idx ρ.1 0 = some (ρ.1.getD 0 []):=by rw [qcw [] (by omega) (by omega)]; rfl
 have hlen:(ρ.1.getD 0 []).length = m + 1:=hE.len;simp only [c1,decide_true,Bool.not_true,cond_false,f3,qa,hlen];by_cases c2:a.length = m + 1
 case neg =>
  have c2':¬ ((a.length:Int) = ((m + 1:Nat):Int)):=by omega
  rw [decide_eq_false c2'];exact q9.2 rfl
 have c2':((a.length:Int) = ((m + 1:Nat):Int)):=by omega
 rw [decide_eq_true c2'];simp only [Bool.not_true,cond_false]
 -- the exact outputs
 have key:Ok (qA (λ(s23:(Int × Mx × Mx)) =>
          bif decide (s23.1 < (ρ.1.length:Int)) then
           (qaU a).bind λx24 =>
           (idx ρ.1 s23.1).bind λx25 =>
           (qby x25).bind λx26 =>
           (qck x24 x26).bind λx27 =>
           (bif !(decide (x27.2 = 0)) then
             some true
            else
             some (!(decide ((x27.1.length:Int) = (a.length:Int))))).bind λ(p28:Bool) =>
           bif p28 then
            some (.inr (.inr false))
           else
            (idx s23.2.2 s23.1).bind λx29 =>
            (idx s23.2.2 s23.1).bind λx30 =>
            let l31:Mx:=List.set s23.2.2 s23.1.toNat x27.1
            some (.inl (w64 (s23.1 + 1),s23.2.1,l31))
          else
           some (.inr (.inl (s23.2.1,s23.2.2)))) (0,ρ.1,ρ.2.1)) (λr:(Mx × Mx) ⊕ Bool=>r = .inl (ρ.1,exO a ρ.1)):=by
  refine qbc ρ.1.length (λi (s:Int × Mx × Mx)=>s.1 = (i:Int)/\s.2.1 = ρ.1/\s.2.2.length = ρ.1.length/\∀ j,j < i->s.2.2[j]? = some (qE9 a (ρ.1.getD j []))) _ ⟨rfl,rfl,hE.run.len,by omega⟩ ?_;rintro i ⟨i0,D,O⟩ hi ⟨e1,e2,e3,e4⟩;simp only at e1 e2 e3 e4;subst e1 e2;by_cases hlt:i < ρ.1.length
  ·have h0:decide ((i:Int) < (ρ.1.length:Int)) = true:=by simp <;> omega
   have hd:=qd1 (l:=ρ.1) [] hlt;have hdl:=hE.run.dl i hlt;have hrsp:qC4 a (ρ.1.getD i []) = 0:=qBw c1 (by rw [hdl,c2]) λz hz=>by
    obtain ⟨k,hk⟩:=List.mem_iff_getElem?.1 hz;have hkl:=qf3 hk;have:=hE.run.dB i k hlt (by omega);unfold ent at this;rw [qgt hk] at this;exact this
   simp only [h0,cond_true];rw [qfO (by omega) (λr h=>by have:=har5 r h; omega),qa,qaA hd,qa,qjY (by omega),qa,qsj (by omega) (λr h=>by have:=har5 r h; omega) (by omega),qa,if_pos hrsp];have hrl:(qE9 a (ρ.1.getD i [])).length = a.length:=qW _ _;simp only [hrl,decide_true,Bool.not_true,cond_false,qa];obtain ⟨y,hy⟩:∃ y,O[i]? = some y:=⟨_,List.getElem?_eq_getElem (by omega)⟩
   rw [qaA hy];simp only [qa,Int.toNat_natCast];rw [wid (by omega) (by omega),qaF];refine ⟨hlt,by simp,rfl,by simp [e3],λj hj=>?_⟩;simp only
   by_cases e:j = i
   ·subst e; rw [List.getElem?_set_self (by omega)]
   ·rw [List.getElem?_set_ne (by omega)]; exact e4 j (by omega)
  ·have:i = ρ.1.length:=by omega
   subst this;have h0:decide ((ρ.1.length:Int) < (ρ.1.length:Int)) = false:=by simp
   simp only [h0,cond_false];rw [qam];congr 2
   exact qoZ e3 e4
 rw [key.eq];simp only [qa,Sum.elim_inl];have hO:(exO a ρ.1).length = ρ.1.length:=qW _ _;have hOr:∀ r ∈ exO a ρ.1,r.length = m + 1:=λr h=>by
  obtain ⟨j,_,rfl⟩:=qmG h;rw [<- c2]; exact qW _ _
 have h1':(ρ.1,exO a ρ.1,()).1.length<=1000000:=h1;have hr':∀ d ∈ ((ρ.1,exO a ρ.1,()):Rn).1,d.length<=1000000:=hr;have hr2':∀ d ∈ ((ρ.1,exO a ρ.1,()):Rn).2.1,d.length<=1000000:=λd h=>by have:=hOr d h; omega
 rw [qgY h1' hr',qa];by_cases c3:qjX (ρ.1,exO a ρ.1,()) = 0
 case neg=>rw [decide_eq_false c3]; exact q9.2 rfl
 rw [decide_eq_true c3,Bool.not_true,cond_false];obtain ⟨m',w',hE',_⟩:=qEp c3;have em:m' = m:=by
  have h1:=hE'.len;have h2:=hE.len;have h3:rnN (ρ.1,exO a ρ.1,()) = rnN ρ:=rfl;omega
 subst em;obtain ⟨p,p1,p2,p3⟩:=qnM h1' hr' hr2';have ec':=qqj (ρ:=(ρ.1,exO a ρ.1,())) (by omega) (λd h=>by have:=hr' d h; omega) (by show (exO a ρ.1).length<=_; omega) (λd h=>by have:=hr2' d h; omega);rw [ec',qa,p1,p3 _ _ hE' c3,qa,qDw hE' c2 mR];simp only [c3,decide_true,Bool.not_true,cond_false];rw [qiO (x:=(1,a,())) (by simp only; omega) (λr h=>by have:=har5 r h; omega),qa];simp only [decide_true,Bool.not_true,qa,cond_false];rw [qBn a.length _ (λ_=>False) (false) False (by simp) (λo ho=>by
  rw [qqL hE' c3 h1' hr' hr2' (o:=o) (by omega),qa];by_cases c4:pwN (ρ.1,exO a ρ.1,()) o = 0
  ·rw [if_pos c4];simp only [decide_true,Bool.not_true,cond_false,qa,if_false];rw [wid (by omega) (by omega)]
  ·have hp:0 < pwN (ρ.1,exO a ρ.1,()) o:=by
    have h0:0<=pwN (ρ.1,exO a ρ.1,()) o:=qmF _ _;omega
   rw [if_neg c4,qEg hE' c2 (o:=o) (by omega) hp,if_pos (by decide)];simp only [show ¬ ((0:Int) = 12) by omega,decide_false,Bool.not_false,cond_true,decide_true,Bool.not_true,cond_false,qa,if_false];rw [wid (by omega) (by omega)])]
 exact q9.2 rfl
end Go.Proofs.YtbcdgfgacigaoaaGreat.Mat
namespace Go.Proofs.YtbcdgfgacigaoaaGreat
open Go Go.Ab Go.Tx
theorem qi8:∀ x:denP ([Ty.sl (.sl (.pair I (.pair I .unit))),.pair (.sl (.sl (.pair I (.pair I .unit)))) (.pair (.sl (.sl (.pair I (.pair I .unit)))) .unit),.pair I (.pair (.sl (.sl (.pair I (.pair I .unit)))) .unit)].map .ty),qEA maxLen [Ty.sl (.sl (.pair I (.pair I .unit))),.pair (.sl (.sl (.pair I (.pair I .unit)))) (.pair (.sl (.sl (.pair I (.pair I .unit)))) .unit),.pair I (.pair (.sl (.sl (.pair I (.pair I .unit)))) .unit)] x->qcq.F x = some true:=by
 rintro ⟨a0,a1,a2⟩ _;exact Mat.qr8 a0 a1 a2
end Go.Proofs.YtbcdgfgacigaoaaGreat
end
section
namespace Go.Proofs.YtbcdgfgacigaoaaGreat.driveExact
open Go Go.Ab Go.Tx Go.ChangeShapes Go.WideShapes Go.ChangeAt Go.RowKit
theorem hlib:∀ g h args r,Lb g = some h->h args = some r->qdk Tryz.prog g args [] r []:=λg h args r hg hr=>by
 unfold Lb at hg;split at hg
 ·rename_i e;subst e;cases hg;cases args with
  | nil=>cases hr; exact qCD
  | cons a l=>cases hr
 ·cases hg
set_option maxRecDepth 100000 in
theorem contract (H:Type) (enc:TypeId × Value->H) (W:World) (base:Nat) (args:Array Value) (ds gs:List (DataW H)) (before:List MemPlace)
  (hval:∀ (j:Nat) t v,Tryz.f9.params[j]? = some t->args[j]? = some v->Value.okWide Tryz.prog W .any base t v)
  (hW:DataW.Whole enc Tryz.prog Tryz.f9.params.toList Rows.driveExactSpec.vars false W args.toList ds gs before) :
  Calls Tryz.prog 9 args W λe W'=>∃ v,e = .returned v/\Rows.driveExactSpec.post enc Tryz.prog Tryz.f9 false true false false W args v W' :=
 quE (τs:=[(.sl (.sl (.pair I (.pair I .unit)))),(.pair (.sl (.sl (.pair I (.pair I .unit)))) (.pair (.sl (.sl (.pair I (.pair I .unit)))) .unit)),(.pair I (.pair (.sl (.sl (.pair I (.pair I .unit)))) .unit))]) (ts:=[22,24,87]) (tb:=4) (F:=qcq.F) follows qdL hlib qCm Tryz.func9 (by kernel_rfl) (by kernel_rfl) (by kernel_rfl) (by kernel_rfl) (by kernel_rfl) (by kernel_rfl) Tryz.underlying4 qlY qi8 rfl
  (λH ds h=>by
   match ds,h with
   | [d1,d2,d3],_=>rfl) H enc W base args ds gs before hval hW
set_option maxRecDepth 100000 in
theorem lifted (os:Os) (started:os.Started) (H:Type) (enc:TypeId × Value->H) :
  ReturnsInHanded {} Tryz.checked os 9 .any (Rows.driveExactSpec.pre6 enc Tryz.prog Tryz.f9 Rows.driveExactRow.domain false) (Rows.driveExactSpec.post enc Tryz.prog Tryz.f9 false true false false):=by
 refine returnsInHanded_of_change (C:=Tryz.checked) own started (by kernel_rfl) Tryz.func9
  (ChangeSpec.witness6 (enc:=enc) (C:=Tryz.checked) false ⟨#[],#[.slice none 0 0,.agg #[.slice none 0 0,.slice none 0 0],.agg #[.int .i64 0,.slice none 0 0]],[]⟩ 8 (by kernel_rfl) (by kernel_rfl) (by kernel_rfl) (by kernel_rfl)) ?_
 intro W base args ds gs before hval hW _ _;exact contract H enc W base args ds gs before hval hW
theorem proved:Rows.DriveExactSaid :=
 OpenClaim.holds_of_wide 9 Tryz.f9 rfl rfl rfl rfl rfl rfl rfl ⟨rfl,rfl,rfl,rfl,rfl⟩ rfl rfl rfl rfl rfl (by kernel_rfl) Tryz.func9 (by kernel_rfl)
  (of_decide_eq_true (by kernel_rfl)) (by unfold Func.isWrapper; first | (rw [if_pos (by decide +kernel)]; kernel_rfl) | (rw [if_neg (by decide +kernel)]; exact ⟨rfl,rfl⟩))
  (λos started H enc _=>lifted os started H enc)
end Go.Proofs.YtbcdgfgacigaoaaGreat.driveExact
end
