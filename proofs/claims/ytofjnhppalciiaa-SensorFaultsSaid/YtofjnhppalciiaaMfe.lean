/-
  ONE LAW OF A CHAPTER: its program side is run by an interpreter that is proved sound; what it computes is shown to be what the law says. No conditions. Part 5 of 8.
-/
import Derived.Test.YtofjnhppalciiaaMfd
import Derived.Deep.Slices
import Derived.Carry
import Derived.ChangeBears2
import Derived.ChangeSame
import Derived.JoinedCond
import Derived.OpenShut
import Derived.ProofKit
set_option linter.unusedSimpArgs false
set_option linter.unusedVariables false
set_option linter.unnecessarySimpa false
section
namespace Go.Tx
open Go Go.Ab
section
variable {P:Program} {H:Hints} {f:FuncId}
theorem qpA{t:TypeId}{τ:Ty}(h:qiN P t τ=true):qmB τ=true:=by
 unfold qiN at h;split at h<;>first|rfl|cases h
theorem qpz:∀(fs:List Field) (i:Nat) (τ:Ty),qje P fs i τ=true->qpy τ=true
 |[],i,.unit,_=>rfl
 |fd::fs,i,.pair a b,h=>by
  simp only [qje,qe]at h;simp only [qpy,qe];exact ⟨qpA h.1.2,qpz fs (i+1) b h.2⟩
 |[],i,.int _,h|[],i,.bool,h|[],i,.str,h|[],i,.flt,h|[],i,.cx,h|[],i,.err,h|[],i,.mset _,h|[],i,.nsl _,h|[],i,.sl _,h|[],i,.pair _ _,h=>by simp [qje]at h
 |_::_,i,.int _,h|_::_,i,.bool,h|_::_,i,.str,h|_::_,i,.flt,h|_::_,i,.cx,h|_::_,i,.err,h|_::_,i,.mset _,h|_::_,i,.nsl _,h|_::_,i,.sl _,h|_::_,i,.unit,h=>by simp [qje]at h
theorem qu7{τ:Ty}(h:qmB τ=true):qgZ τ=true:=by cases τ<;>first|rfl|(simp [qmB]at h)
theorem qb4{τ:Ty}(h:qmB τ=true)(x:τ.den):qcn τ x=qoS τ x:=by cases τ<;>first|rfl|(simp [qmB]at h)
theorem qpi{τ:Ty}(h:qmB τ=true)(x y:τ.den):eqK τ x y=eqS τ x y:=by cases τ<;>first|rfl|(simp [qmB]at h)
theorem qlN{τ:Ty}(h:qmB τ=true){o:Nat}{x:τ.den}{v:V}(hr:RTy τ o x v):v=.val (qoS τ x):=by
 cases τ<;>first|(simp only [RTy]at hr;exact hr)|(simp [qmB]at h)
theorem qui:∀{τ:Ty} (h:qpy τ=true) {o:Nat} {x:τ.den} {l:List V},RTy τ o x (.agg l)->l=(qvU τ x).map .val
 |.unit,h,o,x,l,hr=>by simp only [RTy,V.agg.injEq]at hr;subst hr;rfl
 |.pair a b,h,o,x,l,hr=>by
  simp only [qpy,qe]at h;simp only [RTy]at hr;obtain ⟨v1,l',e,h1,h2⟩:=hr;cases e;rw [qlN h.1 h1,qui h.2 h2];rfl
 |.int _,h,_,_,_,_|.bool,h,_,_,_,_|.str,h,_,_,_,_|.flt,h,_,_,_,_|.cx,h,_,_,_,_|.err,h,_,_,_,_|.mset _,h,_,_,_,_|.nsl _,h,_,_,_,_|.sl _,h,_,_,_,_=>by simp [qpy]at h
theorem qx1{τ:Ty}(h:qgZ τ=true){o:Nat}{x:τ.den}{v:V}(hr:RTy τ o x v):v.toVal=some (qcn τ x):=by
 by_cases hs:qmB τ=true
 ·rw [qlN hs hr,qb4 hs];rfl
 ·cases τ with
  |pair a b =>
   simp only [qgZ,qe]at h;simp only [RTy]at hr;obtain ⟨v1,l',rfl,h1,h2⟩:=hr;rw [qlN h.1 h1,qui h.2 h2];simp only [V.toVal,toValL,qiU,qi,qcn]
  |_=>simp [qgZ,qmB]at h hs
theorem qAs{τ:Ty}{x y:τ.den}(h:eqS τ x y=true):x=y:=by
 cases τ<;>simp only [eqS]at h<;>first|exact of_decide_eq_true h|exact eq_of_beq h|cases h
theorem qAr:∀{τ:Ty} {x y:τ.den},qpy τ=true->eqR τ x y=true->x=y
 |.unit,_,_,_,_=>rfl
 |.pair a b,x,y,hk,h=>by
  simp only [qpy,qe]at hk;simp only [eqR]at h;cases h1:eqS a x.1 y.1 with
  |false=>rw [h1]at h;cases h
  |true=>rw [h1]at h;exact Prod.ext (qAs h1) (qAr hk.2 h)
 |.int _,_,_,h,_|.bool,_,_,h,_|.str,_,_,h,_|.flt,_,_,h,_|.cx,_,_,h,_|.err,_,_,h,_|.mset _,_,_,h,_|.nsl _,_,_,h,_|.sl _,_,_,h,_=>by simp [qpy]at h
theorem qCf{τ:Ty}(hk:qgZ τ=true){x y:τ.den}(h:eqK τ x y=true):x=y:=by
 by_cases hs:qmB τ=true
 ·rw [qpi hs]at h;exact qAs h
 ·cases τ with
  |pair a b =>
   simp only [qgZ,qe]at hk;exact qAr (τ:=.pair a b) (by simp [qpy,hk.1,hk.2]) h
  |_=>simp [qgZ,qmB]at hk hs
def tvR:(τ:Ty)->τ.den->List TV
 |.pair a b,x=>.t a 0 x.1::tvR b x.2
 |_,_=>[]
theorem qx7{a:Ty}(h:qmB a=true)(x:a.den):qvA (.t a 0 x)=true/\RV (.t a 0 x) (.val (qoS a x)):=by
 cases a<;>first|exact ⟨rfl,by simp [RV,RTy,qoS]⟩|(simp [qmB]at h)
theorem quw:∀{τ:Ty} (h:qpy τ=true) (x:τ.den),(tvR τ x).all qvA=true/\RVL (tvR τ x) ((qvU τ x).map .val)
 |.unit,_,_=>⟨rfl,qaa⟩
 |.pair a b,h,x=>by
  simp only [qpy,qe]at h;obtain ⟨h1,h2⟩:=qx7 h.1 x.1;obtain ⟨h3,h4⟩:=quw h.2 x.2;exact ⟨by simp [tvR,h1,h3],qv.2 ⟨h2,h4⟩⟩
 |.int _,h,_|.bool,h,_|.str,h,_|.flt,h,_|.cx,h,_|.err,h,_|.mset _,h,_|.nsl _,h,_|.sl _,h,_=>by simp [qpy]at h
theorem qrO{t:TypeId}{τ:Ty}(h:qiN P t τ=true):∃d,P.underlying t=some d/\qK P t=false:=by
 unfold qiN at h;unfold qK;split at h
 ·rename_i h1;rw [h1];exact ⟨_,rfl,rfl⟩
 ·rename_i h1;rw [h1];exact ⟨_,rfl,rfl⟩
 ·rename_i h1;rw [h1];exact ⟨_,rfl,rfl⟩
 ·cases h
theorem quv{t:TypeId}{τ:Ty}(h:qiN P t τ=true)(d:Nat)(x y:τ.den):teq P (d+1) t (.t τ 0 x) (.t τ 0 y)=some (eqS τ x y):=by
 unfold qiN at h;split at h
 ·rename_i k k' h1;simp only [decide_eq_true_eq]at h;subst h;simp [teq,h1,eqS]
 ·rename_i h1;simp [teq,h1,eqS]
 ·rename_i h1;simp [teq,h1,eqS]
 ·cases h
theorem qlZ{t:TypeId}{τ:Ty}(h:qiN P t τ=true)(v:TV)(l:List TV):qa3 P t (v::l)=some v:=by
 obtain ⟨d,h1,h2⟩:=qrO h;unfold qa3;rw [h1,h2];rfl
theorem qwN:∀(fs:List Field) (i:Nat) (τ:Ty) (x y:τ.den) (px py:List TV),qje P fs i τ=true->px.length=i->py.length=i ->
  fs.foldr (fun fd acc => if fd.name = "_" then none else
    match qa3 P fd.type ((px++tvR τ x).drop fd.offset),qa3 P fd.type ((py++tvR τ y).drop fd.offset),acc with
    |some u,some v,some b=>(teq P 8 fd.type u v).map λa=>bif a then b else false
    |_,_,_=>none) (some true)=some (eqR τ x y)
 |[],i,.unit,_,_,_,_,_,_,_=>rfl
 |fd::fs,i,.pair a b,x,y,px,py,h,hx,hy=>by
  simp only [qje,qe,decide_eq_true_eq]at h;obtain ⟨⟨⟨hn,ho⟩,hs⟩,hf⟩:=h;have ih:=qwN fs (i+1) b x.2 y.2 (px++[.t a 0 x.1]) (py++[.t a 0 y.1]) hf (by simp [hx]) (by simp [hy]);simp only [List.append_assoc,List.singleton_append]at ih;simp only [List.foldr_cons,tvR];rw [ih,if_neg hn,ho];rw [List.drop_left' hx,List.drop_left' hy,qlZ hs,qlZ hs];simp only [quv hs,qi,eqR]
 |[],i,.int _,_,_,_,_,h,_,_|[],i,.bool,_,_,_,_,h,_,_|[],i,.str,_,_,_,_,h,_,_|[],i,.flt,_,_,_,_,h,_,_|[],i,.cx,_,_,_,_,h,_,_|[],i,.err,_,_,_,_,h,_,_|[],i,.mset _,_,_,_,_,h,_,_|[],i,.nsl _,_,_,_,_,h,_,_|[],i,.sl _,_,_,_,_,h,_,_|[],i,.pair _ _,_,_,_,_,h,_,_=>by simp [qje]at h
 |_::_,i,.int _,_,_,_,_,h,_,_|_::_,i,.bool,_,_,_,_,h,_,_|_::_,i,.str,_,_,_,_,h,_,_|_::_,i,.flt,_,_,_,_,h,_,_|_::_,i,.cx,_,_,_,_,h,_,_|_::_,i,.err,_,_,_,_,h,_,_|_::_,i,.mset _,_,_,_,_,h,_,_|_::_,i,.nsl _,_,_,_,_,h,_,_|_::_,i,.sl _,_,_,_,_,h,_,_|_::_,i,.unit,_,_,_,_,h,_,_=>by simp [qje]at h
theorem qd8{t:TypeId}{τ:Ty}(h:qew P t τ=true):(qmB τ=true/\qiN P t τ=true)\/(∃fields a b,P.underlying t=some (.struct fields)/\τ=.pair a b/\P.stoodInHeld t=false/\qje P fields.toList 0 (.pair a b)=true):=by
 unfold qew at h;simp only [Bool.or_eq_true]at h;rcases h with h|h
 ·exact .inl ⟨qpA h,h⟩
 ·split at h
  ·rename_i fields a b hu;simp only [qe,Bool.not_eq_true']at h;exact .inr ⟨fields,a,b,hu,rfl,h.1,h.2⟩
  ·cases h
theorem qoj{t:TypeId}{τ:Ty}(h:qew P t τ=true):qgZ τ=true:=by
 rcases qd8 h with ⟨h1,_⟩|⟨fields,a,b,_,rfl,_,h2⟩
 ·exact qu7 h1
 ·have:=qpz _ _ _ h2;simpa [qgZ,qpy]using this
theorem qwE{t:TypeId}{τ:Ty}(h:qew P t τ=true)(x y:τ.den):Ab.valOf P (Op.equal t (qcn τ x) (qcn τ y))=some (eqK τ x y):=by
 unfold Op.equal;rcases qd8 h with ⟨h1,h2⟩|⟨fields,a,b,hu,rfl,hst,hf⟩
 ·rw [qb4 h1,qb4 h1,qpi h1];obtain ⟨s1,r1⟩:=qx7 h1 x;obtain ⟨s2,r2⟩:=qx7 h1 y;exact quu 1 t _ _ _ (quv h2 0 x y) Op.maxDepth (by have:=qdn;omega) _ _ (.inl ⟨s1,r1⟩) (.inl ⟨s2,r2⟩)
 ·have hk:=qpz _ _ _ hf;obtain ⟨s1,r1⟩:=quw hk x;obtain ⟨s2,r2⟩:=quw hk y;have ht:teq P 9 t (.agg (tvR (.pair a b) x)) (.agg (tvR (.pair a b) y))=some (eqK (.pair a b) x y):=by
   unfold teq;rw [hu];simp only [hst,qf,if_false];exact qwN fields.toList 0 (.pair a b) x y [] [] hf rfl rfl
  exact quu 9 t _ _ _ ht Op.maxDepth qdn _ _ (.inr ⟨_,_,rfl,rfl,s1,r1⟩) (.inr ⟨_,_,rfl,rfl,s2,r2⟩)
theorem qnY{t:TypeId}{τ:Ty}(h:qiN P t τ=true)(e:Bool)(n:Nat)(x:τ.den):Ab.valOf P (Instr.checkKey e (n+1) t (qoS τ x))=some ():=by
 unfold Instr.checkKey;unfold qiN at h;split at h
 ·rename_i h1;rw [qn,qt h1];rfl
 ·rename_i h1;rw [qn,qt h1];rfl
 ·rename_i h1;rw [qn,qt h1];rfl
 ·cases h
theorem qqG{t:TypeId}{τ:Ty}(h:qew P t τ=true)(e:Bool)(x:τ.den):Ab.valOf P (Instr.checkKey e 10000 t (qcn τ x))=some ():=by
 rcases qd8 h with ⟨h1,h2⟩|⟨fields,a,b,hu,rfl,hst,hf⟩
 ·rw [qb4 h1];exact qnY h2 e 9999 x
 ·have hk:=qpz _ _ _ hf;obtain ⟨s1,r1⟩:=quw hk x;unfold Instr.checkKey;rw [qn,qt hu];simp only [qa,qcn];rw [<- Array.forIn_toList];have key:∀(fs:List Field) (i:Nat) (τ':Ty) (y:τ'.den) (px:List TV),qje P fs i τ'=true->px.length=i->tvR (.pair a b) x=px++tvR τ' y ->
    Ab.valOf P (forIn fs PUnit.unit λf _=>(
     if f.name ≠ "_" then do
      let __do_lift <- part f.type (qoS a x.1::qvU b x.2).toArray f.offset
      Instr.checkKey e 9999 f.type __do_lift
      pure (ForInStep.yield PUnit.unit)
     else pure (ForInStep.yield PUnit.unit):Sem (ForInStep PUnit)))=some PUnit.unit:=by
   intro fs;induction fs with
   |nil=>intro i τ' y px _ _ _;rfl
   |cons fd fs ih =>
    intro i τ' y px hf hl heq;cases τ' with
    |pair a' b' =>
     simp only [qje,qe,decide_eq_true_eq]at hf;obtain ⟨⟨⟨hn,ho⟩,hs⟩,hf'⟩:=hf;have hc:qa3 P fd.type ((tvR (.pair a b) x).drop fd.offset)=some (.t a' 0 y.1):=by
      rw [heq,ho,List.drop_left' hl];exact qlZ hs _ _
     obtain ⟨w,hw,hrel⟩:=qsV s1 r1 hc;have hwv:w=qoS a' y.1:=by
      rcases hrel with ⟨_,hr⟩|⟨l,vs,h9,_⟩
      ·have:=qlN (qpA hs) (show RTy a' 0 y.1 (.val w)from by simpa only [RV]using hr);simpa using this
      ·cases h9
     have hw':Ab.valOf P (part fd.type (qoS a x.1::qvU b x.2).toArray fd.offset)=some w:=hw;rw [List.forIn_cons,qn,if_pos hn,qn,hw',qa,qn,hwv,qnY hs e 9998];simp only [qa,qR];exact ih (i+1) b' y.2 (px++[.t a' 0 y.1]) hf' (by simp [hl]) (by rw [heq];simp [tvR])
    |_=>simp [qje]at hf
  first
  |exact key fields.toList 0 (.pair a b) x [] hf rfl rfl
  |(rw [qn,key fields.toList 0 (.pair a b) x [] hf rfl rfl];rfl)
def kvs(τ:Ty)(l:List τ.den):List (Value×Value):=l.map λx=>(qcn τ x,.bool true)
def qwX(τ:Ty)(k:τ.den):List τ.den->Nat->Nat
 |[],i=>i
 |x::l,i=>if eqK τ k x=true then i else qwX τ k l (i+1)
theorem qwY{τ:Ty}{k:τ.den}:∀{l:List τ.den} {i:Nat},qk0 τ l k=true->∃j,qwX τ k l i=i+j/\∃x,l[j]?=some x/\eqK τ k x=true
 |[],i,h=>by simp [qk0]at h
 |x::l,i,h=>by
  simp only [qwX];by_cases hx:eqK τ k x=true
  ·rw [if_pos hx];exact ⟨0,by omega,x,rfl,hx⟩
  ·rw [if_neg hx];have hm:qk0 τ l k=true:=by
    unfold qk0 at h ⊢;simp only [List.any_cons,Bool.or_eq_true]at h;rcases h with h|h
    ·exact absurd h hx
    ·exact h
   obtain ⟨j,hj,y,hy,he⟩:=qwY (i:=i+1) hm;exact ⟨j+1,by omega,y,by simpa using hy,he⟩
theorem qAp{t:TypeId}{τ:Ty}(h:qew P t τ=true)(k:τ.den):∀(l:List τ.den) (i:Nat),Ab.valOf P (Instr.findAsking t (qcn τ k) (qeW (kvs τ l)) i)=some (if qk0 τ l k then some (qwX τ k l i,.bool true)else none)
 |[],i=>rfl
 |x::l,i=>by
  show Ab.valOf P (Instr.findAsking t (qcn τ k) (⟨qcn τ x,.bool true,0⟩::qeW (kvs τ l)) i)=_;simp only [Instr.findAsking];rw [qn,qwE h];simp only [qa];cases hx:eqK τ k x with
  |true =>
   have hm:qk0 τ (x::l) k=true:=by simp [qk0,hx]
   rw [hm];simp only [if_true,qwX,hx];rfl
  |false =>
   have hm:qk0 τ (x::l) k=qk0 τ l k:=by simp [qk0,hx]
   rw [hm];simp only [qf,if_false,qwX,hx];exact qAp h k l (i+1)
theorem qx6{t:TypeId}{τ:Ty}{d:TypeDesc}(h:qiN P t τ=true)(hd:P.underlying t=some d)(x y:τ.den):Instr.sameNow d (qoS τ x) (qoS τ y)=some (eqS τ x y):=by
 unfold qiN at h;split at h
 ·rename_i h1;rw [h1]at hd;cases hd;simp only [qoS,Instr.sameNow,if_true,eqS,qb];rw [Bool.eq_iff_iff];simp
 ·rename_i h1;rw [h1]at hd;cases hd;rfl
 ·rename_i h1;rw [h1]at hd;cases hd;simp only [qoS,Instr.sameNow,eqS,qb];rw [Bool.eq_iff_iff];first
  |(show (x.toArray==y.toArray)=true↔decide (x=y)=true;simp)
  |(show decide ((⟨x.toArray⟩:ByteArray)=⟨y.toArray⟩)=true↔decide (x=y)=true;simp)
 ·cases h
theorem qAB{t:TypeId}{τ:Ty}{d:TypeDesc}(h:qiN P t τ=true)(hd:P.underlying t=some d)(k:τ.den):∀(l:List τ.den) (i:Nat),Instr.findNow d (qcn τ k) (qeW (kvs τ l)) i=some (if qk0 τ l k then some (qwX τ k l i,.bool true)else none)
 |[],i=>rfl
 |x::l,i=>by
  have hs:=qpA h;show Instr.findNow d (qcn τ k) (⟨qcn τ x,.bool true,0⟩::qeW (kvs τ l)) i=_;simp only [Instr.findNow];rw [qb4 hs k,qb4 hs x,qx6 h hd,<- qpi hs];cases hx:eqK τ k x with
  |true =>
   have hm:qk0 τ (x::l) k=true:=by simp [qk0,hx]
   simp only [hm,if_true,qwX,hx]
  |false =>
   have hm:qk0 τ (x::l) k=qk0 τ l k:=by simp [qk0,hx]
   simp only [hm,qf,if_false,qwX,hx];rw [<- qb4 hs k];exact qAB h hd k l (i+1)
theorem qwK{t:TypeId}{τ:Ty}(h:qew P t τ=true)(k:τ.den)(l:List τ.den):Ab.valOf P (Instr.findKey t (qcn τ k) (qeW (kvs τ l)))=some (if qk0 τ l k then some (qwX τ k l 0,.bool true)else none):=by
 unfold Instr.findKey;rcases qd8 h with ⟨h1,h2⟩|⟨fields,a,b,hu,rfl,hst,hf⟩
 ·obtain ⟨d,hd,_⟩:=qrO h2;rw [qn,qt hd];simp only [qa,qAB h2 hd k l 0];rfl
 ·rw [qn,qt hu];simp only [qa];cases l with
  |nil=>rfl
  |cons x l =>
   have:Instr.findNow (.struct fields) (qcn (.pair a b) k) (qeW (kvs (.pair a b) (x::l))) 0=none:=rfl;rw [this];exact qAp h k (x::l) 0
theorem qrN{τ:Ty}(hk:qgZ τ=true)(x:τ.den):Instr.sameBits 10000 (qcn τ x) (qcn τ x)=true:=by
 have hsc:∀(n:Nat) {a:Ty} (h:qmB a=true) (x:a.den),Instr.sameBits n (qoS a x) (qoS a x)=true:=λn a h x=>by
  cases a<;>first|(simp [qoS,Instr.sameBits];done)|skip
  case str =>
   have e:∀s:ByteArray,Instr.sameBits n (.string s) (.string s)=(s==s):=λs=>by cases n<;>rfl
   show Instr.sameBits n (.string ⟨x.toArray⟩) (.string ⟨x.toArray⟩)=true;rw [e];first
   |exact beq_self_eq_true _
   |(show (x.toArray==x.toArray)=true;simp)
   |(show decide ((⟨x.toArray⟩:ByteArray)=⟨x.toArray⟩)=true;simp)
  all_goals simp [qmB]at h
 by_cases hs:qmB τ=true
 ·rw [qb4 hs];exact hsc _ hs x
 ·cases τ with
  |pair a b =>
   simp only [qgZ,qe]at hk;simp only [qcn];have hall:∀{τ:Ty} (h:qpy τ=true) (x:τ.den),((qvU τ x).zip (qvU τ x)).all (λp=>Instr.sameBits 9999 p.1 p.2)=true:=λ{τ}=>by
    induction τ with
    |unit=>intro _ _;rfl
    |pair a b _ ih =>
     intro h x;simp only [qpy,qe]at h;simp only [qvU,List.zip_cons_cons,List.all_cons,qe];exact ⟨hsc _ h.1 x.1,ih h.2 x.2⟩
    |_=>intro h;simp [qpy]at h
   have:=hall (τ:=.pair a b) (by simp [qpy,hk.1,hk.2]) x;simp only [qvU]at this;show ((qoS a x.1::qvU b x.2).toArray.size==(qoS a x.1::qvU b x.2).toArray.size&&_)=true;simp only [beq_self_eq_true,Bool.true_and];exact this
  |_=>simp [qgZ,qmB]at hk hs
theorem qxi{t kt vt:TypeId}{τ:Ty}{l:List τ.den}{x:TV}{v:V}{y:τ.den}{ok:Bool}{o:Nat}(hu:P.underlying t=some (.map kt vt))(hf:qew P kt τ=true)(hz:qr9 P H f vt=some (.t .bool o false))(hy:qd5 τ 0 x=some y)(hx:RV x v) :
  ∃u,qkQ P H f t (kvs τ l) v ok=some u/\RV (if ok then .tuple [.t .bool 0 (qk0 τ l y),.t .bool 0 (qk0 τ l y)]else .t .bool 0 (qk0 τ l y)) u:=by
 have hk:=qoj hf;have hv:=qx1 hk (qcT _ _ _ _ _ hy hx);obtain ⟨z',hz',hzr,_⟩:=qhS hz;simp only [RV,RTy]at hzr;subst hzr;unfold qkQ;rw [hu,hv];simp only [qqG hf,qwK hf,hz'];cases hm:qk0 τ l y with
 |true =>
  simp only [if_true];refine ⟨_,rfl,?_⟩;cases ok with
  |true=>simp [RV,RVL,RTy,qb1]
  |false=>simp [RV,RTy,qb1]
 |false =>
  simp only [qf,if_false];refine ⟨_,rfl,?_⟩;cases ok with
  |true=>simp [RV,RVL,RTy]
  |false=>simp [RV,RTy]
theorem qr4{t kt vt:TypeId}{τ:Ty}{l:List τ.den}{x:TV}{v w:V}{y:τ.den}(hu:P.underlying t=some (.map kt vt))(hf:qew P kt τ=true)(hy:qd5 τ 0 x=some y)(hx:RV x v)(hw:w=.val (.bool true)) :
  qiX P t (kvs τ l) v w=some (kvs τ (qBd τ l y)):=by
 have hk:=qoj hf;have hv:=qx1 hk (qcT _ _ _ _ _ hy hx);subst hw;unfold qiX;rw [hu,hv];simp only [V.toVal,qqG hf,qwK hf];unfold qBd;cases hm:qk0 τ l y with
 |true =>
  obtain ⟨j,hj,x',hx',he⟩:=qwY (i:=0) hm;have hxy:x'=y:=(qCf hk he).symm;subst hxy;simp only [if_true,cond_true];have hj':qwX τ x' l 0=j:=by omega
  have hkj:(kvs τ l)[j]?=some (qcn τ x',.bool true):=by simp [kvs,hx']
  rw [hj',hkj];simp only [qrN hk,if_true,qb];apply List.ext_getElem?;intro i;rw [List.getElem?_set];split
  ·rename_i hij;subst hij;have hlt:=(qm.1 hkj).1;rw [if_pos hlt,hkj]
  ·rfl
 |false =>
  simp only [qf,if_false,cond_false];simp [kvs]
mutual
theorem adopt_id(q:Root):∀v:V,v.qp=[]->v.adopt q=v
 |.mref r,h=>by simp [V.qp]at h
 |.fn g a b,h=>by
  simp only [V.qp,List.append_eq_nil_iff]at h;simp only [V.adopt,adoptL_id q a h.1,adoptL_id q b h.2]
 |.agg l,h=>by simp only [V.qp]at h;simp only [V.adopt,adoptL_id q l h]
 |.cptr _ l,h=>by simp only [V.qp]at h;simp only [V.adopt,adoptL_id q l h]
 |.tuple l,h=>by simp only [V.qp]at h;simp only [V.adopt,adoptL_id q l h]
 |.undef,_|.val _,_|.ptr ..,_|.sl ..,_|.room ..,_|.yld _,_|.bsl ..,_|.iface ..,_|.mp _,_|.lp ..,_=>by simp [V.adopt]
theorem adoptL_id(q:Root):∀l:List V,ptrsL l=[]->Ab.adoptL q l=l
 |[],_=>by simp [Ab.adoptL]
 |v::l,h=>by
  simp only [ptrsL,List.append_eq_nil_iff]at h;simp only [Ab.adoptL,adopt_id q v h.1,adoptL_id q l h.2]
end
theorem qe9:∀(τ:Ty) (o:Nat) (x:τ.den) (v:V),RTy τ o x v->v.onlyMaps=true
 |.int _,_,_,v,h=>by simp only [RTy]at h;subst h;rfl
 |.bool,_,_,v,h=>by simp only [RTy]at h;subst h;rfl
 |.str,_,_,v,h=>by simp only [RTy]at h;subst h;rfl
 |.flt,_,_,v,h=>by simp only [RTy]at h;obtain ⟨_,rfl,_⟩:=h;rfl
 |.cx,_,_,v,h=>by simp only [RTy]at h;obtain ⟨_,_,rfl,_⟩:=h;rfl
 |.err,_,_,v,h=>by simp only [RTy]at h;rcases h with ⟨_,rfl⟩|⟨_,t9,rfl⟩<;>rfl
 |.mset _,_,_,v,h=>by simp only [RTy]at h;obtain ⟨_,rfl⟩:=h;rfl
 |.sl _,_,_,v,h=>by simp only [RTy]at h;obtain ⟨_,_,_,rfl,_⟩:=h;rfl
 |.nsl _,_,_,v,h=>by simp only [RTy]at h;rcases h with ⟨_,rfl⟩|⟨_,_,_,_,rfl,_⟩<;>rfl
 |.unit,_,_,v,h=>by simp only [RTy]at h;subst h;rfl
 |.pair a b,o,x,v,h=>by
  simp only [RTy]at h;obtain ⟨v1,l,rfl,h1,h2⟩:=h;have h3:=qe9 a o x.1 v1 h1;have h4:=qe9 b o x.2 (.agg l) h2;simp only [V.onlyMaps]at h4 ⊢;simp only [Ab.onlyMapsL,h3,h4]<;>rfl
mutual
theorem rv_adopt(q:Root):∀(x:TV) (v:V),x.onlyMaps=true->RV x v->RV (x.adopt q) (v.adopt q)/\v.onlyMaps=true
 |.any _,v,ho,_|.ptr ..,v,ho,_|.bsl ..,v,ho,_|.iface ..,v,ho,_|.yld _,v,ho,_|.lp ..,v,ho,_=>by simp [TV.onlyMaps]at ho
 |.mref r,v,_,h=>by simp only [RV]at h;subst h;simp [TV.adopt,V.adopt,RV,V.onlyMaps]
 |.t τ o x,v,_,h=>by
  simp only [TV.adopt];have h':=h;simp only [RV]at h;rw [adopt_id q v (qbM τ o x v h)];exact ⟨h',qe9 τ o x v h⟩
 |.clp τ x,v,_,h=>by
  simp only [TV.adopt];have h':=h;simp only [RV]at h;obtain ⟨f,l',rfl,_⟩:=h;exact ⟨by simpa only [V.adopt]using h',rfl⟩
 |.room a s,v,_,h=>by
  simp only [TV.adopt];have h':=h;simp only [RV]at h;obtain ⟨_,n,rfl,_⟩|⟨_,rfl|⟨f,hf0,rfl⟩⟩:=h
  ·exact ⟨by simpa only [V.adopt]using h',rfl⟩
  ·exact ⟨by simpa only [V.adopt]using h',rfl⟩
  ·exact ⟨by simpa only [V.adopt]using h',rfl⟩
 |.empty o,v,_,h=>by
  simp only [TV.adopt];have h':=h;simp only [RV]at h;obtain ⟨f,c,rfl,_⟩:=h;exact ⟨by simpa only [V.adopt]using h',rfl⟩
 |.val u,v,_,h=>by
  simp only [TV.adopt];have h':=h;simp only [RV]at h;subst h;exact ⟨by simpa only [V.adopt]using h',rfl⟩
 |.agg l,v,ho,h=>by
  simp only [TV.onlyMaps]at ho;simp only [RV]at h;obtain ⟨l',rfl,h⟩:=h;obtain ⟨h1,h2⟩:=rvl_adopt q l l' ho h;exact ⟨by simp only [TV.adopt,V.adopt,RV];exact ⟨_,rfl,h1⟩,by simpa only [V.onlyMaps]using h2⟩
 |.cptr s l,v,ho,h=>by
  simp only [TV.onlyMaps]at ho;simp only [RV]at h;obtain ⟨f,l',rfl,hno,hsh,h⟩:=h;obtain ⟨h1,h2⟩:=rvl_adopt q l l' ho h;exact ⟨by simp only [TV.adopt,V.adopt,RV];exact ⟨_,_,rfl,hno,hsh,h1⟩,by simpa only [V.onlyMaps]using h2⟩
 |.tuple l,v,ho,h=>by
  simp only [TV.onlyMaps]at ho;simp only [RV]at h;obtain ⟨l',rfl,h⟩:=h;obtain ⟨h1,h2⟩:=rvl_adopt q l l' ho h;exact ⟨by simp only [TV.adopt,V.adopt,RV];exact ⟨_,rfl,h1⟩,by simpa only [V.onlyMaps]using h2⟩
 |.fn g a b,v,ho,h=>by
  simp only [TV.onlyMaps,qe]at ho;simp only [RV]at h;obtain ⟨a',b',rfl,ha,hb⟩:=h;obtain ⟨h1,h2⟩:=rvl_adopt q a a' ho.1 ha;obtain ⟨h3,h4⟩:=rvl_adopt q b b' ho.2 hb;exact ⟨by simp only [TV.adopt,V.adopt,RV];exact ⟨_,_,rfl,h1,h3⟩,by simp only [V.onlyMaps,h2,h4];rfl⟩
theorem rvl_adopt(q:Root):∀(l:List TV) (l':List V),onlyMapsTL l=true->RVL l l'->RVL (adoptTL q l) (Ab.adoptL q l')/\Ab.onlyMapsL l'=true
 |[],l',_,h=>by simp only [RVL]at h;subst h;exact ⟨by simp [adoptTL,Ab.adoptL,RVL],rfl⟩
 |x::l,l',ho,h=>by
  simp only [onlyMapsTL,qe]at ho;simp only [RVL]at h;obtain ⟨v,m,rfl,h1,h2⟩:=h;obtain ⟨h3,h4⟩:=rv_adopt q x v ho.1 h1;obtain ⟨h5,h6⟩:=rvl_adopt q l m ho.2 h2;exact ⟨by simp only [adoptTL,Ab.adoptL];exact qv.2 ⟨h3,h5⟩,by simp only [Ab.onlyMapsL,h4,h6];rfl⟩
end
mutual
theorem RV.onlyMaps_eq:∀(x:TV) (v:V),x.known=true->RV x v->v.onlyMaps=x.onlyMaps
 |.any _,v,hk,_=>by simp [TV.known]at hk
 |.t τ o x,v,_,h=>by simp only [RV]at h;rw [qe9 τ o x v h]<;>rfl
 |.clp τ x,v,_,h=>by simp only [RV]at h;obtain ⟨f,l',rfl,_⟩:=h;rfl
 |.room a s,v,_,h=>by simp only [RV]at h;obtain ⟨_,n,rfl,_⟩|⟨_,rfl|⟨f,hf0,rfl⟩⟩:=h<;>rfl
 |.empty o,v,_,h=>by simp only [RV]at h;obtain ⟨f,c,rfl,_⟩:=h;rfl
 |.val u,v,_,h=>by simp only [RV]at h;subst h;rfl
 |.agg l,v,hk,h=>by simp only [RV]at h;obtain ⟨l',rfl,h⟩:=h;simp only [TV.known]at hk;simp only [V.onlyMaps,TV.onlyMaps];exact RVL.onlyMaps_eq l l' hk h
 |.tuple l,v,hk,h=>by simp only [RV]at h;obtain ⟨l',rfl,h⟩:=h;simp only [TV.known]at hk;simp only [V.onlyMaps,TV.onlyMaps];exact RVL.onlyMaps_eq l l' hk h
 |.fn g a b,v,hk,h=>by
  simp only [RV]at h;obtain ⟨a',b',rfl,h1,h2⟩:=h;simp only [TV.known,qe]at hk;simp only [V.onlyMaps,TV.onlyMaps,RVL.onlyMaps_eq a a' hk.1 h1,RVL.onlyMaps_eq b b' hk.2 h2]
 |.ptr r o,v,_,h=>by simp only [RV]at h;subst h;rfl
 |.bsl r o n,v,_,h=>by simp only [RV]at h;subst h;rfl
 |.yld r,v,_,h=>by simp only [RV]at h;subst h;rfl
 |.lp ..,v,_,h=>by simp only [RV]at h
 |.mref r,v,_,h=>by simp only [RV]at h;subst h;rfl
 |.cptr s l,v,hk,h=>by simp only [RV]at h;obtain ⟨f,l',rfl,_,_,h⟩:=h;simp only [TV.known]at hk;simp only [V.onlyMaps,TV.onlyMaps];exact RVL.onlyMaps_eq l l' hk h
 |.iface t x,v,hk,h=>by simp [TV.known]at hk
theorem RVL.onlyMaps_eq:∀(l:List TV) (l':List V),knownL l=true->RVL l l'->Ab.onlyMapsL l'=onlyMapsTL l
 |[],l',_,h=>by simp only [RVL]at h;subst h;rfl
 |x::l,l',hk,h=>by
  simp only [RVL]at h;obtain ⟨v,m,rfl,h1,h2⟩:=h;simp only [knownL,qe]at hk;simp only [Ab.onlyMapsL,onlyMapsTL,RV.onlyMaps_eq x v hk.1 h1,RVL.onlyMaps_eq l m hk.2 h2]
end
theorem qoo{g:FuncId}{first cap args:List TV}{first' cap' args':List V}(hk:knownL (first++args++cap)=true)(h:RVL (first++args++cap) (first'++args'++cap')) :
  qg2 (.fn g first' cap') args'=qjB (.fn g first cap) args:=by
 unfold qg2 qjB;simp only [hk,if_true,RVL.ptrs_eq _ _ hk h,RVL.onlyMaps_eq _ _ hk h];cases ptrsTL (first++args++cap)<;>rfl
end
theorem qiS(e:Env):e.toL.length=e.n:=by simp [Env.toL]
theorem toL_get?(e:Env)(i:Nat):e.toL[i]?=if i<e.n then some (e.t.get (.any []) i)else none:=by
 unfold Env.toL;rw [List.getElem?_map];by_cases h:i<e.n
 ·rw [if_pos h];simp [h]
 ·rw [if_neg h,List.getElem?_eq_none (by simp;omega)];rfl
theorem qlC(e:Env)(i:Nat):e.get i=e.toL.getD i (.any []):=by
 rw [List.getD_eq_getElem?_getD,toL_get?];show Bool.rec (motive:=λ_=>TV) (.any []) (e.t.get (.any []) i) (Nat.ble (i+1) e.n)=_;rw [qwp];by_cases h:i<e.n
 ·rw [if_pos h,if_pos (by rw [Nat.ble_eq];omega)];rfl
 ·rw [if_neg h,if_neg (by rw [Nat.ble_eq];omega)];rfl
theorem get_some{e:Env}{i:Nat}{x:TV}(h:e.toL[i]?=some x):e.get i=x:=by
 rw [qlC,List.getD_eq_getElem?_getD,h];rfl
theorem some_get{e:Env}{i:Nat}{x:TV}(h:e.get i=x)(hx:∀rs,x≠.any rs):e.toL[i]?=some x:=by
 rw [qlC,List.getD_eq_getElem?_getD]at h;cases hh:e.toL[i]? with
 |none=>rw [hh]at h;exact absurd h.symm (hx [])
 |some y=>rw [hh]at h;simpa using h
theorem qdr(e:Env)(i:Nat)(v:TV):(e.set i v).toL=e.toL.set i v:=by
 apply List.ext_getElem?;intro j;rw [List.getElem?_set,toL_get?,toL_get?,qiS];show (if j<e.n then some ((e.t.set (.any []) i v).get (.any []) j)else none)=_;rw [Tr.qpo];by_cases h:j<e.n
 ·rw [if_pos h,if_pos h];by_cases e1:i=j
  ·rw [if_pos e1,if_pos e1,if_pos (by omega)]
  ·rw [if_neg e1,if_neg e1]
 ·rw [if_neg h,if_neg h];by_cases e1:i=j
  ·rw [if_pos e1,if_neg (by omega)]
  ·rw [if_neg e1]
theorem qqg(f:Nat->TV->TV)(e:Env)(i:Nat):(e.qsK f).toL[i]?=(e.toL[i]?).map (f i):=by
 rw [toL_get?,toL_get?];show (if i<e.n then some ((e.t.qsK (.any []) e.n f 1 0).get (.any []) i)else none)=_;by_cases h:i<e.n
 ·rw [if_pos h,if_pos h,Tr.qpn _ _ _ _ _ _ _ (Nat.le_refl _) (by omega)];simp
 ·rw [if_neg h,if_neg h];rfl
theorem qzl(f:Nat->TV->TV)(e:Env):(e.qsK f).toL.length=e.toL.length:=by rw [qiS,qiS];rfl
theorem qv9{p:Nat->TV->Bool}{e:Env}(h:e.all p=true)(hp:∀i,p i (.any [])=true){i:Nat}{x:TV}(hx:e.toL[i]?=some x):p i x=true:=by
 rw [toL_get?]at hx;split at hx
 ·cases hx;have:=Tr.qo4 (.any []) hp e.t 1 0 i h;simpa using this
 ·cases hx
theorem qzm{p:TV->Bool}{e:Env}(hp:p (.any [])=false){i:Nat}{x:TV}(hx:e.toL[i]?=some x)(h:p x=true):i∈e.mask p:=by
 rw [toL_get?]at hx;split at hx
 ·cases hx;have:=Tr.qmE (.any []) hp e.t 1 0 i h;rw [Mask.mem_iff];simpa [Mask.has,Env.mask]using this
 ·cases hx
theorem qn7:∀(l:List TV) (i:Nat) (t:Tr TV) (j:Nat),(qqS l i t).get (.any []) j=if i<=j/\j<i+l.length then l.getD (j-i) (.any [])else t.get (.any []) j
 |[],i,t,j=>by
  rw [if_neg (by simp)];rfl
 |v::l,i,t,j=>by
  show (qqS l (i+1) (t.set (.any []) i v)).get (.any []) j=_;rw [qn7 l,Tr.qpo];by_cases h1:i+1<=j/\j<i+1+l.length
  ·rw [if_pos h1,if_pos (by simp;omega)];have:j-i=(j-(i+1))+1:=by omega
   rw [this];simp
  ·rw [if_neg h1];by_cases h2:i=j
   ·rw [if_pos h2,if_pos (by simp;omega)];simp [h2]
   ·rw [if_neg h2,if_neg (by simp;omega)]
theorem qkL(args:List TV)(n:Nat):(Env.qgB args n).toL=args++List.replicate (n-args.length) (.any []):=by
 apply List.ext_getElem?;intro j;rw [toL_get?];show (if j<args.length+(n-args.length)then some ((qqS args 0 .nil).get (.any []) j)else none)=_;rw [qn7,List.getElem?_append];by_cases h1:j<args.length
 ·rw [if_pos (by omega),if_pos (by omega),if_pos h1];simp [h1]
 ·rw [if_neg h1];by_cases h2:j<args.length+(n-args.length)
  ·rw [if_pos h2,if_neg (by omega),Tr.get_nil,List.getElem?_replicate,if_pos (by omega)]
  ·rw [if_neg h2,List.getElem?_replicate,if_neg (by omega)]
theorem qir(D:Mask)(rs:Nat->List Root)(e:Env)(i:Nat):(qdj D rs e).toL[i]?=if i∈D then (e.toL[i]?).map (λ_=>.any (rs i))else e.toL[i]?:=by
 unfold qdj;rw [qqg];by_cases h:i∈D
 ·rw [if_pos h];rw [Mask.mem_iff]at h;rw [h]
 ·rw [if_neg h];rw [Mask.mem_iff]at h;have:D.has i=false:=by simpa using h
  rw [this];show (e.toL[i]?).map (λv=>v)=_;simp
theorem qme(D:Mask)(rs:Nat->List Root)(e:Env):(qdj D rs e).toL.length=e.toL.length:=qzl _ _
theorem qoR(E:Env)(t:Nat):(E.set t (E.get t).qab).toL=E.toL.modify t TV.qab:=by
 apply List.ext_getElem?;intro j;rw [qdr,List.getElem?_set,List.getElem?_modify];by_cases h:t=j
 ·rw [if_pos h];subst h;cases hh:E.toL[t]? with
  |none=>rw [if_neg (by have:=List.getElem?_eq_none_iff.1 hh;omega)];rfl
  |some x=>rw [if_pos (qm.1 hh).1,get_some hh];simp
 ·rw [if_neg h];cases E.toL[j]?<;>simp [h]
theorem qcM{x:Nat}:∀{l:List Nat},x∈qdX l↔x∈l
 |[]=>by simp [qdX]
 |a::l=>by
  simp only [qdX];split
  ·rename_i h;rw [qcM];simp at h;constructor
   ·intro hx;simp [hx]
   ·intro hx;rcases qk.1 hx with rfl|hx
    ·exact h
    ·exact hx
  ·simp [qcM (l:=l)]
def qAS(acc:List Mask)(acc':List (List Nat)):Prop:=acc.length=acc'.length/\∀i j,j∈acc.getD i .empty↔j∈acc'.getD i []
theorem qn9(acc:List Mask)(acc':List (List Nat))(h:qAS acc acc'):∀(l:List Nat) (m:Mask) (x:Nat),x∈l.foldl (λm j=>Mask.ins j (m++acc.getD j .empty)) m↔x∈m\/x∈l.flatMap λj=>j::acc'.getD j []
 |[],m,x=>by simp
 |j::l,m,x=>by
  simp only [List.foldl_cons];rw [qn9 acc acc' h l];simp only [Mask.mem_ins,Mask.mem_append,List.flatMap_cons,qj,qk];rw [h.2 j x];constructor
  ·rintro ((h1|(h1|h1))|h1)
   ·exact .inr (.inl (.inl h1))
   ·exact .inl h1
   ·exact .inr (.inl (.inr h1))
   ·exact .inr (.inr h1)
  ·rintro (h1|((h1|h1)|h1))
   ·exact .inl (.inr (.inl h1))
   ·exact .inl (.inl h1)
   ·exact .inl (.inr (.inr h1))
   ·exact .inr h1
theorem qoL:∀(ops:List Oper) (acc:List Mask) (acc':List (List Nat)),qAS acc acc' ->
  qAS (ops.foldl (λacc o=>acc++[(qaM o).foldl (λm j=>Mask.ins j (m++acc.getD j .empty)) .empty]) acc) (ops.foldl (λacc o=>acc++[qdX ((qaM o).flatMap λj=>j::acc.getD j [])]) acc')
 |[],acc,acc',h=>h
 |o::ops,acc,acc',h=>by
  simp only [List.foldl_cons];refine qoL ops _ _ ⟨by simp [h.1],λi j=>?_⟩;simp only [List.getD_eq_getElem?_getD,List.getElem?_append];by_cases hi:i<acc.length
  ·rw [if_pos hi,if_pos (by rw [<- h.1];exact hi)];have:=h.2 i j;simpa only [List.getD_eq_getElem?_getD]using this
  ·rw [if_neg hi,if_neg (by rw [<- h.1];exact hi),h.1];by_cases h0:i-acc'.length=0
   ·rw [h0];simp only [List.getElem?_cons_zero,Option.getD_some];have:=qn9 acc acc' h (qaM o) .empty j;simp only [List.getD_eq_getElem?_getD]at this;rw [this,qcM];simp
   ·obtain ⟨k,hk⟩:∃k,i-acc'.length=k+1:=⟨i-acc'.length-1,by omega⟩
    rw [hk];simp
theorem qqs(ops:List Oper)(i j:Nat):((qwa ops).getD i .empty).has j=((qdQ ops).getD i []).contains j:=by
 have h:=(qoL ops [] [] ⟨rfl,λi j=>by simp⟩).2 i j;have e:∀a b:Bool,(a=true↔b=true)->a=b:=λa b=>by cases a<;>cases b<;>simp
 apply e;rw [List.contains_iff_mem];exact h
theorem qrE(H:Hints)(f:FuncId)(U:List (Nat×Nat))(ops:Array Oper):qjH H f U ops=qeb H f U ops:=by
 unfold qjH qeb;simp only [qqs];rfl
theorem qwi(draw:Bool)(ops:List Oper)(i c:Nat):qkR draw (qwa ops) i c=qip draw (qdQ ops) i c:=by
 unfold qkR qip;rw [qqs]
theorem qu9(H:Hints)(f:FuncId)(draw:Bool)(ops:Array Oper):qsI H f draw ops=qjy H f draw ops:=by
 have h:∀lone c oc,qpC H f draw (qwa ops.toList) ops lone c oc=qmD H f draw (qdQ ops.toList) ops lone c oc:=λlone c oc=>by
  unfold qpC qmD;simp only [qwi];rfl
 unfold qsI qjy;simp only [h];rfl
section
variable {P:Program} {H:Hints} {f:FuncId}
def qam(M:List qC)(l s:Nat):Option (Option (List TV)):=match M[l]? with
 |some b=>qV b s
 |none=>none
def qat(M:List Level)(l s:Nat):Option (List V):=match M[l]? with
 |some b=>qu b s
 |none=>none
def RC:List TV->List V->Prop
 |[.lp s pe f env ps a b],c'=>∃env',c'=[.lp s pe f env' ps a b]/\RVL env env'
 |c,c'=>RVL c c'
theorem qoK{c:List TV}{c':List V}(h:RVL c c'):isRec c=false:=by
 cases c with
 |nil=>rfl
 |cons x l =>
  simp only [RVL]at h;obtain ⟨v,m,_,h1,_⟩:=h;cases x<;>first|rfl|(simp only [RV]at h1)
theorem RVL.rc{c:List TV}{c':List V}(h:RVL c c'):RC c c':=by
 have h0:=qoK h;unfold RC;split
 ·simp [isRec]at h0
 ·exact h
theorem RC.rvl{c:List TV}{c':List V}(h:RC c c')(hn:isRec c=false):RVL c c':=by
 unfold RC at h;split at h
 ·simp [isRec]at hn
 ·exact h
theorem RC.qp{c:List TV}{c':List V}(h:RC c c')(r:Root)(hr:r∈ptrsL c'):r∈ptrsTL c:=by
 unfold RC at h;split at h
 ·obtain ⟨env',rfl,h⟩:=h;simp only [ptrsL,V.qp,List.append_nil]at hr;simp only [ptrsTL,TV.qp,List.append_nil];exact RVL.qp _ _ h r hr
 ·exact RVL.qp _ _ h r hr
def RB:Option (Option (List TV))->Option (List V)->Prop
 |none,b=>b=none
 |some none,b=>∀c,b=some c->q6 c=false
 |some (some c),b=>∃c',b=some c'/\RC c c'
structure LR (M:List qC) (M':List Level):Prop where
 len:M'.length=M.length
 rel:∀l s,RB (qam M l s) (qat M' l s)
 nd:∀b∈M',(b.map (·.1)).Nodup
 mp:∀l s c,qat M' l s=some c->s<16384->qf0 c=false
def TSt.all(st:TSt):List qC:=st.L++[st.B]
def qcH(s:St):List Level:=s.L++[s.B]
structure Rst (st:TSt) (s:St):Prop where
 E:RVL st.E.toL s.E
 M:LR st.all (qcH s)
theorem Rst.len{st:TSt}{s:St}(h:Rst st s):s.L.length=st.L.length:=by
 have:=h.M.len;simp [TSt.all,qcH]at this;exact this
theorem qF{s:St}(r:Root):s.box r=qat (qcH s) r.lvl r.slot:=by
 obtain ⟨l,sl⟩:=r;unfold St.box qat qcH;by_cases h:l=s.L.length
 ·subst h;simp
 ·rw [if_neg h];by_cases hlt:l<s.L.length
  ·simp only [qg hlt]<;>rfl
  ·have h1:s.L[l]?=none:=by simp<;>omega
   have h2:(s.L++[s.B])[l]?=none:=by simp<;>omega
   simp only [h1,h2]
theorem qaT{st:TSt}(r:Root):st.cont r=match qam st.all r.lvl r.slot with
  |some (some c)=>some c
  |_=>none:=by
 obtain ⟨l,sl⟩:=r;unfold TSt.cont qam TSt.all;by_cases h:l=st.L.length
 ·subst h;simp<;>rfl
 ·rw [if_neg h];by_cases hlt:l<st.L.length
  ·simp only [qg hlt]<;>rfl
  ·have h1:st.L[l]?=none:=by simp<;>omega
   have h2:(st.L++[st.B])[l]?=none:=by simp<;>omega
   simp only [h1,h2]
theorem qdF{st:TSt}{r:Root}{c:List TV}(h:st.cont r=some c):qam st.all r.lvl r.slot=some (some c):=by
 rw [qaT]at h;split at h
 ·rename_i c' hc;cases h;exact hc
 ·cases h
theorem qpb{st:TSt}{r:Root}{c:List TV}(h:st.box r=some c):st.cont r=some c/\isRec c=false:=by
 unfold TSt.box at h;split at h
 ·rename_i c' hc;split at h
  ·cases h
  ·rename_i hr;cases h;exact ⟨hc,by simpa using hr⟩
 ·cases h
theorem qpc{st:TSt}{r:Root}{c:List TV}(h:st.box r=some c):qam st.all r.lvl r.slot=some (some c):=qdF (qpb h).1
theorem qtG{st:TSt}{r:Root}{c:List TV}(h:st.cont r=some c)(hn:isRec c=false):st.box r=some c:=by
 unfold TSt.box;rw [h];simp [hn]
theorem Rst.box{st:TSt}{s:St}(h:Rst st s){r:Root}{c:List TV}(hc:st.box r=some c):∃c',s.box r=some c'/\RVL c c':=by
 have:=h.M.rel r.lvl r.slot;rw [qpc hc]at this;rw [qF];obtain ⟨c',h1,h2⟩:=this;exact ⟨c',h1,h2.rvl (qpb hc).2⟩
theorem Rst.bx{st:TSt}{s:St}(h:Rst st s)(r:Root):BxR (st.box r) (s.box r):=by
 cases hc:st.box r with
 |none=>trivial
 |some c=>exact h.box hc
theorem qfx(b:qC)(s s':Nat)(c:Option (List TV)):qV (qtc b s c) s'=if s'=s then (qV b s).map (λ_=>c)else qV b s':=by
 induction b with
 |nil=>simp [qtc,qV]
 |cons p b ih =>
  obtain ⟨k,d⟩:=p;by_cases h:k=s
  ·subst h;by_cases h2:k=s'
   ·subst h2;simp [qtc,qV]
   ·simp [qtc,qV,h2,Ne.symm h2]
  ·by_cases h2:k=s'
   ·subst h2;simp [qtc,qV,h]
   ·simp [qtc,qV,h,h2,ih]
theorem qdl(b:Level)(s s':Nat)(c:List V):qu (qdP b s c) s'=if s'=s then (qu b s).map (λ_=>c)else qu b s':=by
 induction b with
 |nil=>simp [qdP,qu]
 |cons p b ih =>
  obtain ⟨k,d⟩:=p;by_cases h:k=s
  ·subst h;by_cases h2:k=s'
   ·subst h2;simp [qdP,qu]
   ·simp [qdP,qu,h2,Ne.symm h2]
  ·by_cases h2:k=s'
   ·subst h2;simp [qdP,qu,h]
   ·simp [qdP,qu,h,h2,ih]
theorem qw9(b:Level)(s:Nat)(c:List V):(qdP b s c).map (·.1)=b.map (·.1):=by
 induction b with
 |nil=>rfl
 |cons p b ih =>
  obtain ⟨k,d⟩:=p;by_cases h:k=s<;>simp [qdP,h,ih]
theorem qe0(M:List qC)(l:Nat)(g:qC->qC)(l' s:Nat):qam (M.modify l g) l' s=if l'=l then (match M[l]? with|some b=>qV (g b) s|none=>none)else qam M l' s:=by
 unfold qam;rw [List.getElem?_modify];by_cases h:l'=l
 ·subst h;rw [if_pos rfl];cases M[l']? with
  |none=>rfl
  |some b=>simp
 ·rw [if_neg h];cases M[l']? with
  |none=>rfl
  |some b=>simp [Ne.symm h]
theorem qg1(M:List Level)(l:Nat)(g:Level->Level)(l' s:Nat):qat (M.modify l g) l' s=if l'=l then (match M[l]? with|some b=>qu (g b) s|none=>none)else qat M l' s:=by
 unfold qat;rw [List.getElem?_modify];by_cases h:l'=l
 ·subst h;rw [if_pos rfl];cases M[l']? with
  |none=>rfl
  |some b=>simp
 ·rw [if_neg h];cases M[l']? with
  |none=>rfl
  |some b=>simp [Ne.symm h]
theorem qgd{α:Type}(g:α->α)(b:α):∀L:List α,(L++[b]).modify L.length g=L++[g b]
 |[]=>rfl
 |x::L=>by simp [qgd g b L]
theorem qge{α:Type}(g:α->α)(b:α):∀(L:List α) {l:Nat},l≠L.length->(L++[b]).modify l g=L.modify l g++[b]
 |[],l,h=>by
  cases l with
  |zero=>simp at h
  |succ n=>simp
 |x::L,l,h=>by
  cases l with
  |zero=>simp
  |succ n =>
   have:=qge g b L (l:=n) (by simpa using h);simp [this]
theorem qoM(s:St)(r:Root)(c:List V):qcH (s.qo r c)=(qcH s).modify r.lvl (λb=>qdP b r.slot c):=by
 unfold St.qo qcH;by_cases h:r.lvl=s.L.length
 ·rw [if_pos h,h,qgd]
 ·rw [if_neg h,qge _ _ _ h]
theorem qiV(st:TSt)(r:Root)(c:List TV):(st.qo r c).all=st.all.modify r.lvl (λb=>qtc b r.slot (some c)):=by
 unfold TSt.qo TSt.all;by_cases h:r.lvl=st.L.length
 ·rw [if_pos h,h,qgd]
 ·rw [if_neg h,qge _ _ _ h]
theorem qoa(st:TSt)(rs:List Root)(r:Root):(st.forget rs r).all=st.all.modify r.lvl (λb=>qB1 rs b r.slot):=by
 unfold TSt.forget TSt.all;by_cases h:r.lvl=st.L.length
 ·rw [if_pos h,h,qgd]
 ·rw [if_neg h,qge _ _ _ h]
theorem mem_modify{α:Type}{g:α->α}{b:α}:∀{M:List α} {l:Nat},b∈M.modify l g->b∈M\/∃b'∈M,b=g b'
 |[],l,h=>by cases l<;>simp at h
 |x::M,0,h=>by
  simp only [List.modify_zero_cons,qk]at h;rcases h with rfl|h
  ·exact .inr ⟨x,by simp,rfl⟩
  ·exact .inl (by simp [h])
 |x::M,l+1,h=>by
  simp only [List.modify_succ_cons,qk]at h;rcases h with rfl|h
  ·exact .inl (by simp)
  ·rcases mem_modify h with h|⟨b',h1,h2⟩
   ·exact .inl (by simp [h])
   ·exact .inr ⟨b',by simp [h1],h2⟩
theorem LR.qo{M:List qC}{M':List Level}(h:LR M M')(l s:Nat){c:List TV}{c':List V}(hd:qam M l s≠some none)(hc:RC c c')(hmp:s<16384->qf0 c'=false) :
  LR (M.modify l λb=>qtc b s (some c)) (M'.modify l λb=>qdP b s c') where
 len:=by simp [h.len]
 rel:=λl2 s2=>by
  rw [qe0,qg1];by_cases e:l2=l
  ·subst e;rw [if_pos rfl,if_pos rfl];have key:=h.rel l2 s2;have key2:=h.rel l2 s;unfold qam qat at key key2;cases h1:M[l2]? with
   |none =>
    have h2:M'[l2]?=none:=by rw [List.getElem?_eq_none_iff]at h1 ⊢;rw [h.len];exact h1
    rw [h2];rfl
   |some b =>
    have h2:∃b',M'[l2]?=some b':=by
     have:=(qm.1 h1).1;exact ⟨_,List.getElem?_eq_getElem (by rw [h.len];exact this)⟩
    obtain ⟨b',h2⟩:=h2;rw [h1,h2]at key key2;rw [h2];simp only at key key2 ⊢;rw [qfx,qdl];by_cases e2:s2=s
    ·subst e2;rw [if_pos rfl,if_pos rfl];cases hl:qV b s2 with
     |none=>rw [hl]at key;simp only [RB]at key;rw [key]<;>rfl
     |some o =>
      rw [hl]at key;cases o with
      |none =>
       exact absurd (by unfold qam;rw [h1];exact hl) hd
      |some d =>
       obtain ⟨d',hd',_⟩:=key;rw [hd'];exact ⟨c',rfl,hc⟩
    ·rw [if_neg e2,if_neg e2];exact key
  ·rw [if_neg e,if_neg e];exact h.rel l2 s2
 nd:=λb hb=>by
  rcases mem_modify hb with hb|⟨b',hb',rfl⟩
  ·exact h.nd b hb
  ·rw [qw9];exact h.nd b' hb'
 mp:=λl2 s2 c2 h2 hlt=>by
  rw [qg1]at h2;by_cases e:l2=l
  ·subst e;rw [if_pos rfl]at h2;have h0:=h.mp l2 s2;unfold qat at h0;cases h1:M'[l2]? with
   |none=>rw [h1]at h2;cases h2
   |some b =>
    rw [h1]at h2 h0;simp only at h2 h0;rw [qdl]at h2;by_cases e2:s2=s
    ·subst e2;rw [if_pos rfl]at h2;obtain ⟨_,_,rfl⟩:=qc.1 h2;exact hmp hlt
    ·rw [if_neg e2]at h2;exact h0 c2 h2 hlt
  ·rw [if_neg e]at h2;exact h.mp l2 s2 c2 h2 hlt
structure Fr2 (st st':TSt) (s s':St):Prop where
 wt:∀t∈st.Wt,t∈st'.Wt
 wb:∀r∈st.Wb,r∈st'.Wb
 e:∀t,t∉st'.Wt->s'.E[t]?=s.E[t]?\/((∃rs,st.E.toL[t]?=some (.any rs))/\s'.E[t]?=some .undef)
 an:∀t,t∉st'.Wt->∀rs,st'.E.toL[t]?=some (.any rs)->∃rs',st.E.toL[t]?=some (.any rs')
 b:∀r,r∉st'.Wb->s'.box r=s.box r\/(s.L.length=0/\st.cont r=none/\(s'.box r).isSome=(s.box r).isSome/\∀c,s'.box r=some c->q6 c=false)
 bn:∀r,r∉st'.Wb->(st.cont r).isSome=true->(st'.cont r).isSome=true
 len:s'.L.length=s.L.length
 elen:s'.E.length=s.E.length
theorem Fr2.refl(st:TSt)(s:St):Fr2 st st s s:=⟨λ_ h=>h,λ_ h=>h,λ_ _=>.inl rfl,λ_ _ rs h=>⟨rs,h⟩,λ_ _=>.inl rfl,λ_ _ h=>h,rfl,rfl⟩
theorem Fr2.trans{a b c:TSt}{s t u:St}(h:Fr2 a b s t)(h':Fr2 b c t u):Fr2 a c s u where
 wt:=λx hx=>h'.wt x (h.wt x hx)
 wb:=λx hx=>h'.wb x (h.wb x hx)
 e:=λx hx=>by
  have hx1:x∉b.Wt:=λhh=>hx (h'.wt x hh);rcases h'.e x hx with h1|⟨⟨rs,h1⟩,h2⟩
  ·rw [h1];exact h.e x hx1
  ·exact .inr ⟨h.an x hx1 rs h1,h2⟩
 an:=λx hx rs hr=>by
  obtain ⟨rs',h1⟩:=h'.an x hx rs hr;exact h.an x (λhh=>hx (h'.wt x hh)) rs' h1
 b:=λx hx=>by
  have hx1:x∉b.Wb:=λhh=>hx (h'.wb x hh);rcases h'.b x hx with h1|⟨h0,h1,h2,h3⟩
  ·rw [h1];exact h.b x hx1
  ·right
   have hn:a.cont x=none:=by
    cases hb:a.cont x with
    |none=>rfl
    |some c=>have:=h.bn x hx1 (by rw [hb];rfl);rw [h1]at this;cases this
   refine ⟨by rw [<- h.len];exact h0,hn,?_,h3⟩;rcases h.b x hx1 with h4|⟨_,_,h4,_⟩
   ·rw [h2,h4]
   ·rw [h2,h4]
 bn:=λx hx hs=>h'.bn x hx (h.bn x (λhh=>hx (h'.wb x hh)) hs)
 len:=by rw [h'.len,h.len]
 elen:=by rw [h'.elen,h.elen]
theorem qel:∀{l:List TV} {l':List V},l'.length=l.length->(∀(i:Nat) x v,l[i]?=some x->l'[i]?=some v->RV x v)->RVL l l'
 |[],l',hl,_=>by simp at hl;simp [hl,RVL]
 |x::l,[],hl,_=>by simp at hl
 |x::l,v::m,hl,h=>qv.2 ⟨h 0 x v rfl rfl,qel (by simpa using hl) λi y u h1 h2=>h (i+1) y u (by simpa using h1) (by simpa using h2)⟩
theorem qBx{α:Type}(E:List α)(t i:Nat)(a:α):(E.set t a)[i]?=if t=i then (E[i]?).map (λ_=>a)else E[i]?:=by
 rw [List.getElem?_set];by_cases e:t=i
 ·subst e;rw [if_pos rfl,if_pos rfl];by_cases hlt:t<E.length
  ·simp [hlt]
  ·simp [hlt]
 ·rw [if_neg e,if_neg e]
theorem qjf{α:Type}(a:α):∀(D:List Tmp) (E:List α) (i:Nat),(D.foldl (λE t=>E.set t a) E)[i]?=if i∈D then (E[i]?).map (λ_=>a)else E[i]?
 |[],E,i=>by simp
 |t::D,E,i=>by
  simp only [List.foldl_cons];rw [qjf a D,qBx];by_cases h:i∈D
  ·rw [if_pos h,if_pos (List.mem_cons_of_mem _ h)];split
   ·cases E[i]?<;>rfl
   ·rfl
  ·rw [if_neg h];by_cases e:t=i
   ·subst e;rw [if_pos rfl,if_pos List.mem_cons_self]
   ·rw [if_neg e,if_neg (by simp [h,Ne.symm e])]
theorem qdT{α:Type}(a:α):∀(D:List Tmp) (E:List α),(D.foldl (λE t=>E.set t a) E).length=E.length
 |[],E=>rfl
 |t::D,E=>by simp only [List.foldl_cons];rw [qdT a D];simp
def gone(rs:List Root):Option (Option (List TV))->Option (Option (List TV))
 |some (some cs)=>some (some (cs.map λ_=>.any rs))
 |_=>some none
theorem qwR(rs:List Root)(o:Option (Option (List TV))):gone rs (gone rs o)=gone rs o:=by
 cases o with
 |none=>rfl
 |some o=>cases o with
  |none=>rfl
  |some cs=>simp [gone]
theorem qvb(rs:List Root)(b:qC)(s s':Nat):qV (qB1 rs b s) s'=if s'=s then gone rs (qV b s)else qV b s':=by
 unfold qB1;split
 ·rename_i h;by_cases e:s'=s
  ·subst e;simp [qV,h,gone]
  ·simp [qV,e,Ne.symm e]
 ·rename_i h;by_cases e:s'=s
  ·subst e;simp [h,gone]
  ·simp [e]
 ·rename_i cs h;rw [qfx];by_cases e:s'=s
  ·subst e;simp [h,gone]
  ·simp [e]
theorem qrf(st:TSt)(rs:List Root)(r:Root)(l s:Nat):qam (st.forget rs r).all l s=if l=r.lvl/\s=r.slot/\l<st.all.length then gone rs (qam st.all l s)else qam st.all l s:=by
 rw [qoa,qe0];by_cases e:l=r.lvl
 ·subst e;rw [if_pos rfl];unfold qam;cases h:st.all[r.lvl]? with
  |none =>
   have:¬ r.lvl<st.all.length:=by rw [List.getElem?_eq_none_iff]at h;omega
   rw [if_neg (λhh=>this hh.2.2)]
  |some b =>
   have hlt:=(qm.1 h).1;simp only
   rw [qvb];by_cases e2:s=r.slot
   ·subst e2;simp [hlt]
   ·simp [e2]
 ·rw [if_neg e,if_neg (by simp [e])]
theorem qob(st:TSt)(rs:List Root)(r:Root):(st.forget rs r).all.length=st.all.length:=by rw [qoa];simp
theorem qy5(st:TSt)(rs:List Root)(r:Root):(st.forget rs r).E=st.E:=by unfold TSt.forget;split<;>rfl
theorem qga(rs:List Root)(l s:Nat):∀(wr:List Root) (st:TSt),qam (wr.foldl (λst r=>st.forget rs r) st).all l s=if (⟨l,s⟩:Root)∈wr/\l<st.all.length then gone rs (qam st.all l s)else qam st.all l s
 |[],st=>by simp
 |r::wr,st=>by
  simp only [List.foldl_cons];rw [qga rs l s wr,qob,qrf];by_cases h1:l=r.lvl/\s=r.slot/\l<st.all.length
  ·rw [if_pos h1];have hr:(⟨l,s⟩:Root)=r:=by obtain ⟨e1,e2,_⟩:=h1;cases r;simp_all
   rw [qwR,if_pos (⟨by simp [hr],h1.2.2⟩:(⟨l,s⟩:Root)∈r::wr/\l<st.all.length)];split<;>rfl
  ·rw [if_neg h1];by_cases h2:(⟨l,s⟩:Root)∈wr/\l<st.all.length
   ·rw [if_pos h2,if_pos ⟨by simp [h2.1],h2.2⟩]
   ·rw [if_neg h2,if_neg];rintro ⟨h3,h4⟩;rcases qk.1 h3 with h3|h3
    ·exact h1 ⟨by rw [<- h3],by rw [<- h3],h4⟩
    ·exact h2 ⟨h3,h4⟩
theorem qmf(rs:List Root):∀(wr:List Root) (st:TSt),(wr.foldl (λst r=>st.forget rs r) st).E=st.E
 |[],st=>rfl
 |r::wr,st=>by simp only [List.foldl_cons];rw [qmf rs wr,qy5]
theorem qmg(rs:List Root):∀(wr:List Root) (st:TSt),(wr.foldl (λst r=>st.forget rs r) st).all.length=st.all.length
 |[],st=>rfl
 |r::wr,st=>by simp only [List.foldl_cons];rw [qmg rs wr,qob]
def qAi(s:St)(p:Place):Option V:=match p.lvl with
 |none=>s.E[p.slot]?
 |some l=>(s.box ⟨l,p.slot⟩).bind (·[p.cell]?)
theorem qhg{l:List TV}{l':List V}(h:RVL l l')(i:Nat){x:TV}(hx:∀u,l'[i]?=some u->RV x u):RVL (l.set i x) l':=by
 refine qel (by simp [h.length]) λk y v hy hv=>?_;rw [List.getElem?_set]at hy;split at hy
 ·rename_i e;subst e;split at hy
  ·cases hy;exact hx v hv
  ·cases hy
 ·obtain ⟨u,hu,hr⟩:=h.get hy;rw [hv]at hu;cases hu;exact hr
theorem Rst.qbP{st:TSt}{s:St}(h:Rst st s){p:Place}{v:TV}(hv:∀u,qAi s p=some u->RV v u):Rst (st.qbP p v) s:=by
 unfold TSt.qbP;cases hl:p.lvl with
 |none=>exact ⟨by rw [qdr];exact qhg h.E _ λu hu=>hv u (by unfold qAi;rw [hl];exact hu),h.M⟩
 |some l =>
  simp only
  cases hb:st.box ⟨l,p.slot⟩with
  |none=>exact h
  |some cs =>
   simp only
   obtain ⟨c',hc',hr⟩:=h.box hb;have hset:RVL (cs.set p.cell v) c':=qhg hr _ λu hu=>hv u (by unfold qAi;rw [hl];simp only;rw [hc'];exact hu);refine ⟨?_,?_⟩
   ·have:({st.qo ⟨l,p.slot⟩ (cs.set p.cell v)with Wb:=st.Wb}:TSt).E=st.E:=by simp only [TSt.qo];split<;>rfl
    rw [this];exact h.E
   ·have e1:({st.qo ⟨l,p.slot⟩ (cs.set p.cell v)with Wb:=st.Wb}:TSt).all=(st.qo ⟨l,p.slot⟩ (cs.set p.cell v)).all:=rfl;rw [e1,qiV];refine ⟨by rw [h.M.len];simp,λl2 s2=>?_,h.M.nd,h.M.mp⟩;rw [qe0];have hlook:=qpc hb;simp only at hlook ⊢;by_cases e:l2=l
    ·subst e;rw [if_pos rfl];have key:=h.M.rel l2 s2;unfold qam at key hlook;cases h1:st.all[l2]? with
     |none=>rw [h1]at hlook;cases hlook
     |some b =>
      rw [h1]at key hlook;simp only at key hlook ⊢;rw [qfx];by_cases e2:s2=p.slot
      ·subst e2;rw [if_pos rfl,hlook];rw [qF]at hc';exact ⟨c',hc',hset.rc⟩
      ·rw [if_neg e2];exact key
    ·rw [if_neg e];exact h.M.rel l2 s2
theorem qk7{s:St}:∀(ps:List Place) (vs:List TV) (st:TSt),Rst st s->(∀p v,(p,v)∈ps.zip vs->∀u,qAi s p=some u->RV v u)->Rst (qcy st ps vs) s
 |[],vs,st,h,_=>by cases vs<;>exact h
 |p::ps,[],st,h,_=>h
 |p::ps,v::vs,st,h,hv=>qk7 ps vs _ (h.qbP (hv p v (by simp))) λq w hq=>hv q w (by simp [hq])
theorem qtC:∀(τ:Ty) (o:Nat) (rs:List Root),qd5 τ o (.any rs)=none
 |.int _,_,_|.bool,_,_|.str,_,_|.flt,_,_|.cx,_,_|.err,_,_|.mset _,_,_|.nsl _,_,_|.sl _,_,_|.unit,_,_|.pair ..,_,_=>rfl
theorem Rst.get{st:TSt}{s:St}(h:Rst st s){p:Place}(hp:∀rs,st.get p≠.any rs){u:V}(hu:qAi s p=some u):RV (st.get p) u:=by
 unfold TSt.get at hp ⊢;unfold qAi at hu;cases hl:p.lvl with
 |none =>
  rw [hl]at hu hp;simp only at hu hp ⊢;have:=h.E.getD p.slot;rw [<- qlC,List.getD_eq_getElem?_getD,hu]at this;exact this
 |some l =>
  rw [hl]at hu hp;simp only at hu hp ⊢;cases hb:st.box ⟨l,p.slot⟩with
  |none=>rw [hb]at hp;exact absurd rfl (hp [])
  |some cs =>
   obtain ⟨c',hc',hr⟩:=h.box hb;rw [hc']at hu;simp only [qa]at hu;have:=hr.getD p.cell;rw [List.getD_eq_getElem?_getD,List.getD_eq_getElem?_getD,hu]at this;simp only
   rw [List.getD_eq_getElem?_getD];exact this
theorem qn0{st:TSt}{s:St}(h:Rst st s):∀(ps:List (Ty×Nat)) (lv:List Place) (x:denL (ps.map (·.1))),asL ps (lv.map st.get)=some x ->
  ∀p v,(p,v)∈lv.zip (ofL ps x)->∀u,qAi s p=some u->RV v u/\u.qp=[]/\q6 [u]=false
 |[],lv,x,hx,p,v,hm,u,hu=>by simp [ofL]at hm
 |[(τ,o)],lv,x,hx,p,v,hm,u,hu=>by
  match lv,hx,hm with
  |[q],hx,hm =>
   simp only [qh,List.map_nil,asL]at hx;simp only [ofL,List.zip_cons_cons,List.zip_nil_right,List.mem_singleton,Prod.mk.injEq]at hm;obtain ⟨rfl,rfl⟩:=hm;have hg:=h.get (p:=p) (λrs e=>by rw [e,qtC]at hx;cases hx) hu;have hr:=qcT _ _ _ _ _ hx hg;have hrv:=rv_ofTy _ _ _ _ hr;exact ⟨hrv,qbM _ _ _ _ hr,qaF (qv.2 ⟨hrv,qaa⟩)⟩
  |[],hx,hm=>simp [asL]at hx
  |_::_::_,hx,hm=>simp [asL]at hx
 |(τ,o)::q'::ps,lv,x,hx,p,v,hm,u,hu=>by
  match lv,hx,hm with
  |[],hx,hm=>simp [asL]at hx
  |q::lv,hx,hm =>
   simp only [qh,asL]at hx;obtain ⟨y,hy,hx⟩:=qd.1 hx;obtain ⟨z,hz,hx⟩:=qd.1 hx;simp only [qb]at hx;subst hx;simp only [ofL,List.zip_cons_cons,qk,Prod.mk.injEq]at hm;rcases hm with ⟨rfl,rfl⟩|hm
   ·have hg:=h.get (p:=p) (λrs e=>by rw [e,qtC]at hy;cases hy) hu;have hr:=qcT _ _ _ _ _ hy hg;have hrv:=rv_ofTy _ _ _ _ hr;exact ⟨hrv,qbM _ _ _ _ hr,qaF (qv.2 ⟨hrv,qaa⟩)⟩
   ·exact qn0 h (q'::ps) lv z (by simpa using hz) p v hm u hu
theorem qhn:∀(ps:List (Ty×Nat)) (l:List TV) (x:denL (ps.map (·.1))),asL ps l=some x->(ofL ps x).length=l.length
 |[],l,x,h=>by cases l with
  |nil=>rfl
  |cons=>simp [asL]at h
 |[(τ,o)],l,x,h=>by
  match l,h with
  |[v],h=>rfl
  |[],h=>simp [asL]at h
  |_::_::_,h=>simp [asL]at h
 |(τ,o)::q::ps,l,x,h=>by
  match l,h with
  |[],h=>simp [asL]at h
  |v::l,h =>
   simp only [asL]at h;obtain ⟨y,hy,h⟩:=qd.1 h;obtain ⟨z,hz,h⟩:=qd.1 h;simp only [qb]at h;subst h;simp [ofL,qhn (q::ps) l z hz]
theorem qtT{lv:List Place}{l:Option Nat}{s c:Nat}(h:Place.qCi lv l s c=true):(⟨l,s,c⟩:Place)∈lv:=by
 unfold Place.qCi at h;rw [List.any_eq_true]at h;obtain ⟨p,hp,h⟩:=h;simp only [qe,decide_eq_true_eq]at h;obtain ⟨⟨rfl,rfl⟩,rfl⟩:=h;exact hp
theorem qq3{lv:List Place}{vs:List TV}(hl:vs.length=lv.length){p:Place}(h:p∈lv):∃v,(p,v)∈lv.zip vs:=by
 obtain ⟨i,hi⟩:=List.mem_iff_getElem?.1 h;have hlt:=(qm.1 hi).1;refine ⟨vs[i]'(by omega),List.mem_iff_getElem?.2 ⟨i,?_⟩⟩;rw [List.getElem?_zip_eq_some];exact ⟨hi,List.getElem?_eq_getElem _⟩
theorem qoP{l m:List Root}(h:Go.Tx.subset l m=true):∀r∈l,r∈m:=λr hr=>by
 unfold Go.Tx.subset at h;rw [List.all_eq_true]at h;simpa using h r hr
theorem qw7:∀{v:TV} {r:Root} {o:Nat},qw6 v r o=true->v=.ptr r o
 |.ptr r o,r',o',h=>by
  simp only [qw6,qe,decide_eq_true_eq]at h;rw [h.1,h.2]
theorem quc{s:St}:∀(l:List (Tmp×Root×Nat)) {st:TSt},Rst st s->(∀p∈l,s.E[p.1]?=some (.ptr p.2.1 p.2.2))->Rst (qrB st l) s
 |[],_,h,_=>h
 |p::l,st,h,hl=>by
  refine quc l ⟨?_,h.M⟩ λq hq=>hl q (List.mem_cons_of_mem _ hq);show RVL (st.E.set p.1 (.ptr p.2.1 p.2.2)).toL s.E;rw [qdr];have h1:=hl p List.mem_cons_self;have h2:=RVL.set p.1 h.E (x:=.ptr p.2.1 p.2.2) (v:=.ptr p.2.1 p.2.2) (by simp only [RV]);have h3:s.E.set p.1 (.ptr p.2.1 p.2.2)=s.E:=by
   apply List.ext_getElem?;intro i;rw [List.getElem?_set];by_cases e:p.1=i
   ·rw [if_pos e,<- e,if_pos (qm.1 h1).1,h1]
   ·rw [if_neg e]
  rwa [h3]at h2
theorem qoy:∀(l:List (Tmp×Root×Nat)) (st:TSt),(qrB st l).Wt=st.Wt/\(qrB st l).Wb=st.Wb/\(qrB st l).L=st.L/\(qrB st l).B=st.B
 |[],_=>⟨rfl,rfl,rfl,rfl⟩
 |p::l,st=>qoy l {st with E:=st.E.set p.1 (.ptr p.2.1 p.2.2)}
theorem qxK:∀(l:List (Tmp×Root×Nat)) (st:TSt) (t:Nat) (rs:List Root),(qrB st l).E.toL[t]?=some (.any rs)->st.E.toL[t]?=some (.any rs)
 |[],_,_,_,h=>h
 |p::l,st,t,rs,h=>by
  have:=qxK l _ t rs h;simp only at this;rw [qdr,List.getElem?_set]at this;split at this
  ·split at this
   ·cases this
   ·cases this
  ·exact this
theorem qzd{st:TSt}{s:St}(h:Rst st s){j:Join}(hk:st.keeps j=true):∀p∈j.kp,s.E[p.1]?=some (.ptr p.2.1 p.2.2):=by
 intro p hp;unfold TSt.keeps at hk;rw [List.all_eq_true]at hk;have h1:=qw7 (hk p hp);obtain ⟨v,hv,hr⟩:=h.E.get (some_get h1 (by simp));simp only [RV]at hr;rw [hv,hr]
theorem qs3{st st2:TSt}{s s':St}{j:Join}{x:denL (j.ps.map (·.1))}(h:Rst st s)(h2:Rst st2 s')(hf:Fr2 st.fresh st2 s s')(ho:st2.outs st j=some x):Rst (st.qdv j (ofL j.ps x)) s':=by
 unfold TSt.outs at ho;split at ho
 ·rename_i hc;simp only [qe]at hc;obtain ⟨⟨hfor,hwr⟩,hlike⟩:=hc;have hcol:=qn0 h2 j.ps j.lv x ho;have hlen:(ofL j.ps x).length=j.lv.length:=by rw [qhn _ _ _ ho];simp
  unfold TSt.qkd at hfor;simp only [qe,List.all_eq_true]at hfor;obtain ⟨⟨hD0,hW⟩,_⟩:=hfor;have hD:∀t∈j.D,∀x,st2.E.toL[t]?=some x->(Place.qCi j.lv none t 0||Go.Tx.subset x.qp (j.qx0 t))=true:=λt ht x hx=>by
   have:=qv9 hD0 (λi=>by cases j.D.has i<;>simp [TV.qp,Go.Tx.subset]) hx;rw [Mask.mem_iff]at ht;rw [ht]at this;exact this
  unfold TSt.wrote at hwr;simp only [qe,List.all_eq_true]at hwr;obtain ⟨hwt0,hwb⟩:=hwr;have hwt:∀t∈st2.Wt,t∈j.D:=λt ht=>Mask.qyg hwt0 ht;unfold TSt.qCR at hlike;rw [List.all_eq_true]at hlike;unfold TSt.qdv;refine qk7 _ _ _ ⟨?_,?_⟩ λp v hm u hu=>(hcol p v hm u hu).1
  ·-- temporaries
   show RVL (j.wr.foldl (λ(st:TSt) r=>st.forget j.rb r) {st with E:=qdj j.D j.qx0 st.E}).E.toL s'.E;rw [qmf];refine qel ?_ λi y v hy hv=>?_
   ·simp only;rw [qme,hf.elen,h.E.length]
   ·simp only at hy;rw [qir]at hy;split at hy
    ·rename_i hi;obtain ⟨z,hz,rfl⟩:=qc.1 hy;obtain ⟨x2,hx2⟩:∃x2,st2.E.toL[i]?=some x2:=by
      have hlt:=(qm.1 hv).1;have:=h2.E.length;exact ⟨_,List.getElem?_eq_getElem (by omega)⟩
     have hi':=hD i hi x2 hx2;simp only [Bool.or_eq_true]at hi';simp only [RV];rcases hi' with hi'|hi'
     ·obtain ⟨w,hw⟩:=qq3 hlen (qtT hi');obtain ⟨_,hp,hlp⟩:=hcol _ w hw v (by unfold qAi;exact hv);exact ⟨by rw [hp];simp,hlp⟩
     ·obtain ⟨v2,hv2,hg⟩:=h2.E.get hx2;rw [hv]at hv2;cases hv2;refine ⟨λr hr=>qoP hi' r (RV.qp _ _ hg r hr),qaF (qv.2 ⟨hg,qaa⟩)⟩
    ·rename_i hi;have:i∉st2.Wt:=λhh=>hi (hwt i hh);obtain ⟨u,hu,hr⟩:=h.E.get hy;rcases hf.e i this with he|⟨⟨rs,he1⟩,he2⟩
     ·rw [hv]at he;rw [<- he]at hu;cases hu;exact hr
     ·rw [he2]at hv;cases hv;have he1:st.E.toL[i]?=some (.any rs):=he1;rw [hy]at he1;cases he1;exact qcj rs
  ·-- boxes
   show LR (j.wr.foldl (λ(st:TSt) r=>st.forget j.rb r) {st with E:=qdj j.D j.qx0 st.E}).all (qcH s');refine ⟨?_,λl sl=>?_,h2.M.nd,h2.M.mp⟩
   ·rw [qmg];have:=hf.len;have:=h.M.len;simp [TSt.all,qcH]at this ⊢;omega
   ·rw [qga];have hall:({st with E:=qdj j.D j.qx0 st.E}:TSt).all=st.all:=rfl;rw [hall];split
    ·rename_i hm;have hbx:=qF (s:=s') ⟨l,sl⟩;simp only at hbx;have key2:=h2.M.rel l sl;have hnl:∀c,qat (qcH s') l sl=some c->q6 c=false:=λc hc=>by
      cases hk:qam st2.all l sl with
      |none=>rw [hk]at key2;simp only [RB]at key2;rw [key2]at hc;cases hc
      |some o =>
       rw [hk]at key2;cases o with
       |none=>exact key2 c hc
       |some d =>
        obtain ⟨d',hd',hr⟩:=key2;rw [hd']at hc;cases hc;have hw:=hW _ hm.1;rw [qaT]at hw;simp only [hk,qe,Bool.not_eq_true']at hw;exact qaF (hr.rvl hw.1)
     cases hk:qam st.all l sl with
     |none=>exact hnl
     |some o =>
      cases o with
      |none=>exact hnl
      |some cs =>
       have hb:st.cont ⟨l,sl⟩=some cs:=by rw [qaT];simp only;rw [hk]
       have hli:=hlike _ hm.1;rw [hb]at hli;simp only at hli;split at hli
       ·rename_i cs2 hb2;simp only [decide_eq_true_eq]at hli;have hw:=hW _ hm.1;rw [hb2]at hw;simp only [qe,Bool.not_eq_true',List.all_eq_true]at hw;obtain ⟨c',hc',hr⟩:=h2.box (qtG hb2 hw.1);rw [hbx]at hc';refine ⟨c',hc',RVL.rc ?_⟩;refine qel (by simp [hr.length,hli]) λi y v hy hv=>?_;rw [List.getElem?_map]at hy;obtain ⟨z,hz,rfl⟩:=qc.1 hy;have hi:i<cs2.length:=by have:=(qm.1 hz).1;omega
        have hw':=hw.2 i (by simpa using hi);simp only [Bool.or_eq_true]at hw';simp only [RV];rcases hw' with hw'|hw'
        ·obtain ⟨w,hww⟩:=qq3 hlen (qtT hw');obtain ⟨_,hp,hlp⟩:=hcol _ w hww v (by unfold qAi;simp only;rw [hbx,hc'];exact hv);exact ⟨by rw [hp];simp,hlp⟩
        ·have hg:=hr.getD i;rw [List.getD_eq_getElem?_getD (l:=c'),hv]at hg;exact ⟨λr hrr=>qoP hw' r (RV.qp _ _ hg r hrr),qaF (qv.2 ⟨hg,qaa⟩)⟩
       ·cases hli
    ·rename_i hm;have key:=h.M.rel l sl;by_cases hlt:l<st.all.length
     ·have hnr:(⟨l,sl⟩:Root)∉st2.Wb:=λhh=>by
       have:=hwb _ hh;simp only [Bool.or_eq_true,decide_eq_true_eq]at this;rcases this with h3|h3
       ·exact hm ⟨by simpa using h3,hlt⟩
       ·have h4:=h2.len;have h5:=hf.len;have h6:=h.len;simp [TSt.all]at hlt;omega
      rcases hf.b _ hnr with hb|⟨_,hb0,hb1,hb2⟩
      ·rw [qF,qF]at hb;simp only at hb;rw [hb];exact key
      ·rw [qF,qF]at hb1;rw [qF]at hb2;simp only at hb1 hb2;have hb0:st.cont ⟨l,sl⟩=none:=hb0;rw [qaT]at hb0;simp only at hb0;cases hk:qam st.all l sl with
       |none =>
        rw [hk]at key;simp only [RB]at key ⊢;rw [key]at hb1;simpa using hb1
       |some o =>
        cases o with
        |none=>exact hb2
        |some c=>rw [hk]at hb0;cases hb0
     ·have h1:qam st.all l sl=none:=by
       unfold qam;rw [List.getElem?_eq_none (by omega)]
      have h3:qat (qcH s') l sl=none:=by
       unfold qat;have hl:=hf.len;have hl2:=h.len;rw [List.getElem?_eq_none];simp [TSt.all,qcH]at hlt ⊢;omega
      rw [h1,h3];rfl
 ·cases ho
theorem qhK{st st2:TSt}{s s':St}{j:Join}{x:denL (j.ps.map (·.1))}(h:Rst st s)(h2:Rst st2 s')(hf:Fr2 st.fresh st2 s s')(ho:st2.outs st j=some x):Rst (st.qbJ j (ofL j.ps x)) s':=by
 refine quc _ (qs3 h h2 hf ho) (qzd h2 ?_);unfold TSt.outs at ho;split at ho
 ·rename_i hc;simp only [qe]at hc;have:=hc.1.1;unfold TSt.qkd at this;simp only [qe]at this;exact this.2
 ·cases ho
theorem qey(D:List Tmp)(b:qC)(s:Nat):qV (qaG D b) s=if D.contains s then none else qV b s:=by
 induction b with
 |nil=>simp [qaG,qV]
 |cons p b ih =>
  obtain ⟨k,c⟩:=p;simp only [qaG];by_cases h:D.contains k=true
  ·rw [if_pos h,ih];by_cases e:k=s
   ·subst e;rw [if_pos h,if_pos h]
   ·simp only [qV,if_neg e]
  ·rw [if_neg h];by_cases e:k=s
   ·subst e;simp only [qV,if_true];rw [if_neg h]
   ·simp only [qV,if_neg e,ih]
theorem qaJ(D:List Tmp)(b:Level)(s:Nat):qu (qU D b) s=if D.contains s then none else qu b s:=by
 induction b with
 |nil=>simp [qU,qu]
 |cons p b ih =>
  obtain ⟨k,c⟩:=p;simp only [qU];by_cases h:D.contains k=true
  ·rw [if_pos h,ih];by_cases e:k=s
   ·subst e;rw [if_pos h,if_pos h]
   ·simp only [qu,if_neg e]
  ·rw [if_neg h];by_cases e:k=s
   ·subst e;simp only [qu,if_true];rw [if_neg h]
   ·simp only [qu,if_neg e,ih]
theorem qfu{b:Level}(hn:(b.map (·.1)).Nodup){k:Nat}{c:List V}(h:(k,c)∈b):qu b k=some c:=by
 induction b with
 |nil=>cases h
 |cons p b ih =>
  obtain ⟨k',c'⟩:=p;simp only [qh,List.nodup_cons]at hn;rcases qk.1 h with h|h
  ·cases h;simp [qu]
  ·have:k'≠k:=λe=>hn.1 (List.mem_map.2 ⟨_,h,e.symm⟩);simp only [qu,if_neg this];exact ih hn.2 h
theorem qcZ{b:qC}{k:Nat}{c:Option (List TV)}(h:qV b k=some c):(k,c)∈b:=by
 induction b with
 |nil=>cases h
 |cons p b ih =>
  obtain ⟨k',c'⟩:=p;simp only [qV]at h;split at h
  ·rename_i e;cases h;subst e;simp
  ·exact qk.2 (.inr (ih h))
theorem qrz{b:Level}{r:Root}(h:r∈qlq b):∃k c,(k,c)∈b/\r∈ptrsL c:=by
 induction b with
 |nil=>simp [qlq]at h
 |cons p b ih =>
  obtain ⟨k,c⟩:=p;simp only [qlq,qj]at h;rcases h with h|h
  ·exact ⟨k,c,by simp,h⟩
  ·obtain ⟨k',c',h1,h2⟩:=ih h;exact ⟨k',c',by simp [h1],h2⟩
theorem qos{b:qC}{k:Nat}{c:List TV}(h:(k,some c)∈b){r:Root}(hr:r∈ptrsTL c):r∈qjG b:=by
 induction b with
 |nil=>cases h
 |cons p b ih =>
  obtain ⟨k',c'⟩:=p;rcases qk.1 h with h|h'
  ·cases h;simp [qjG,hr]
  ·cases c' with
   |none=>simp only [qjG];exact ih h'
   |some d=>simp only [qjG,qj];exact .inr (ih h')
theorem qtM{b:qC}(hf:quU b=true){k:Nat}{c:Option (List TV)}(h:(k,c)∈b):∃d,c=some d:=by
 induction b with
 |nil=>cases h
 |cons p b ih =>
  obtain ⟨k',c'⟩:=p;simp only [quU,qe]at hf;rcases qk.1 h with h|h
  ·cases h;exact Option.isSome_iff_exists.1 hf.1
  ·exact ih hf.2 h
theorem qsn{D:List Tmp}{b:qC}(h:(qaG D b).length=b.length):∀k c,(k,c)∈b->D.contains k=false:=by
 induction b with
 |nil=>simp
 |cons p b ih =>
  obtain ⟨k',c'⟩:=p;have hle:∀b:qC,(qaG D b).length<=b.length:=λb=>by
   induction b with
   |nil=>simp [qaG]
   |cons p b ih=>obtain ⟨k,c⟩:=p;simp only [qaG];split<;>simp<;>omega
  simp only [qaG]at h;intro k c hk;split at h
  ·have:=hle b;simp at h;omega
  ·rename_i hn;rcases qk.1 hk with hk|hk
   ·cases hk;simpa using hn
   ·exact ih (by simpa using h) k c hk
theorem qfU{D:List Tmp}{b:Level}(h:∀k c,(k,c)∈b->D.contains k=false):qU D b=b:=by
 induction b with
 |nil=>rfl
 |cons p b ih =>
  obtain ⟨k,c⟩:=p;simp only [qU];rw [if_neg (by rw [h k c (by simp)];simp),ih λk c hk=>h k c (by simp [hk])]
theorem qho(D:List Tmp)(E:List V)(i:Nat):(qc9 D E)[i]?=if i∈D then (E[i]?).map (λ_=>.undef)else E[i]?:=qjf _ D E i
theorem ql1(D:List Tmp)(E:Env)(i:Nat):(qes D E).toL[i]?=if i∈D then (E.toL[i]?).map (λ_=>.any [])else E.toL[i]?:=by
 unfold qes;rw [qir];by_cases h:i∈D
 ·rw [if_pos h,if_pos (Mask.mem_ofList.2 h)]
 ·rw [if_neg h,if_neg (λhh=>h (Mask.mem_ofList.1 hh))]
theorem quM(D:List Tmp){E:Env}{E':List V}(h:RVL E.toL E'):RVL (qes D E).toL (qc9 D E'):=by
 refine qel ?_ λi x v hx hv=>?_
 ·unfold qes qc9;rw [qme,qdT,h.length]
 ·rw [ql1]at hx;rw [qho]at hv;by_cases hm:i∈D
  ·rw [if_pos hm]at hx hv;obtain ⟨_,_,rfl⟩:=qc.1 hx;obtain ⟨_,_,rfl⟩:=qc.1 hv;exact qcj []
  ·rw [if_neg hm]at hx hv;obtain ⟨u,hu,hr⟩:=h.get hx;rw [hv]at hu;cases hu;exact hr
theorem qua:∀{l:List V} {r:Root},r∈ptrsL l->∃(i:Nat) (v:V),l[i]?=some v/\r∈v.qp
 |[],r,h=>by simp [ptrsL]at h
 |v::l,r,h=>by
  simp only [ptrsL,qj]at h;rcases h with h|h
  ·exact ⟨0,v,rfl,h⟩
  ·obtain ⟨i,u,hu,hr⟩:=qua h;exact ⟨i+1,u,by simpa using hu,hr⟩
theorem qtP{D:List Tmp}{n:Nat}{b:qC}{k:Nat}{c:Option (List TV)}(h:(k,c)∈b)(hk:D.contains k=true):(⟨n,k⟩:Root)∈qnK D n b:=by
 induction b with
 |nil=>cases h
 |cons p b ih =>
  obtain ⟨k',c'⟩:=p;simp only [qnK];rcases qk.1 h with h|h
  ·cases h;rw [if_pos hk];simp
  ·split
   ·exact qk.2 (.inr (ih h))
   ·exact ih h
theorem qj7(D:List Tmp)(b:Level):(qU D b).Sublist b:=by
 induction b with
 |nil=>exact .slnil
 |cons p b ih =>
  obtain ⟨k,c⟩:=p;simp only [qU];split
  ·exact ih.cons _
  ·exact ih.cons_cons _
theorem qhp{D:List Tmp}{st st1:TSt}{s:St}(h:Rst st s)(hc:st.clear D=some st1):∃s1,s.clear D=some s1/\Rst st1 s1/\Fr2 st st1 s s1:=by
 have hlen:=h.len;have hEl:s.E.length=st.E.n:=by rw [h.E.length,qiS]
 have hin:∀t,t∈inE st D↔t∈D/\t<st.E.n:=λt=>by simp [inE]
 have hEq:qc9 (inE st D) s.E=qc9 D s.E:=by
  apply List.ext_getElem?;intro i;rw [qho,qho];by_cases h1:i∈D
  ·rw [if_pos h1];by_cases h2:i<st.E.n
   ·rw [if_pos ((hin i).2 ⟨h1,h2⟩)]
   ·rw [if_neg (λh3=>h2 ((hin i).1 h3).2),List.getElem?_eq_none (by omega)];rfl
  ·rw [if_neg h1,if_neg (λh3=>h1 ((hin i).1 h3).1)]
 have hE:=quM (inE st D) h.E;rw [hEq]at hE;have hlastM:st.all[st.L.length]?=some st.B:=by simp [TSt.all]
 have hlastV:(qcH s)[st.L.length]?=some s.B:=by rw [<- hlen];simp [qcH]
 have hB:∀k,RB (qV st.B k) (qu s.B k):=λk=>by
  have:=h.M.rel st.L.length k;unfold qam qat at this;rw [hlastM,hlastV]at this;exact this
 have hnd:(s.B.map (·.1)).Nodup:=h.M.nd s.B (by simp [qcH]);unfold TSt.clear at hc;simp only at hc;split at hc
 ·rename_i hcond;cases hc;have hv:s.clear D=some {s with E:=qc9 D s.E,B:=qU D s.B}:=by
   unfold St.clear;simp only
   rw [if_pos];simp only [Bool.or_eq_true,decide_eq_true_eq,qe]at hcond;rcases hcond with hl|⟨⟨h1,h2⟩,h3⟩
   ·left
    rw [qfU];intro k c hk;have hlk:=qfu hnd hk;have hb:=hB k;cases ht:qV st.B k with
    |none=>rw [ht]at hb;simp only [RB]at hb;rw [hb]at hlk;cases hlk
    |some o=>exact qsn hl k o (qcZ ht)
   ·right
    unfold qcO at h2 ⊢;rw [List.all_eq_true]at h2;simp only [qe,List.all_eq_true];refine ⟨λr hr=>?_,λr hr=>?_⟩
    ·rw [hlen];obtain ⟨i,v,hv,hrv⟩:=qua hr;obtain ⟨x,hx⟩:∃x,(qes (inE st D) st.E).toL[i]?=some x:=by
      have hlt:=(qm.1 hv).1;have:=hE.length;exact ⟨_,List.getElem?_eq_getElem (by omega)⟩
     obtain ⟨v2,hv2,hrx⟩:=hE.get hx;rw [hv]at hv2;cases hv2;have h3:=qv9 h1 (λi=>by simp [TV.qp,qcO]) hx;unfold qcO at h3;rw [List.all_eq_true]at h3;exact h3 r (RV.qp _ _ hrx r hrv)
    ·rw [hlen];obtain ⟨k,c,hk,hrc⟩:=qrz hr;have hlk:=qfu (by exact List.Sublist.nodup ((qj7 D s.B).map _) hnd) hk;rw [qaJ]at hlk;split at hlk
     ·cases hlk
     ·rename_i hkD;have hb:=hB k;cases ht:qV st.B k with
      |none=>rw [ht]at hb;simp only [RB]at hb;rw [hb]at hlk;cases hlk
      |some o =>
       have ht2:qV (qaG D st.B) k=some o:=by rw [qey,if_neg hkD];exact ht
       obtain ⟨d,rfl⟩:=qtM h3 (qcZ ht2);rw [ht]at hb;obtain ⟨d',hd',hr'⟩:=hb;rw [hd']at hlk;cases hlk;exact h2 r (qos (qcZ ht2) (hr'.qp r hrc))
  refine ⟨_,hv,⟨hE,?_⟩,?_⟩
  ·refine ⟨by have:=h.M.len;simpa [TSt.all,qcH]using this,λl k=>?_,λb hb=>?_,λl k c hc hlt=>?_⟩
   rotate_right
   ·have key:=h.M.mp l k;unfold qat at key hc;by_cases e:l=st.L.length
    ·subst e;have e2:(qcH {s with E:=qc9 D s.E,B:=qU D s.B})[st.L.length]?=some (qU D s.B):=by rw [<- hlen];simp [qcH]
     rw [e2]at hc;rw [hlastV]at key;simp only at hc key;rw [qaJ]at hc;split at hc
     ·cases hc
     ·exact key c hc hlt
    ·have e2:(qcH {s with E:=qc9 D s.E,B:=qU D s.B})[l]?=(qcH s)[l]?:=by
      simp only [qcH];by_cases hlt:l<s.L.length
      ·rw [qg hlt,qg hlt]
      ·rw [List.getElem?_eq_none (by simp;omega),List.getElem?_eq_none (by simp;omega)]
     rw [e2]at hc;exact key c hc hlt
   ·have key:=h.M.rel l k;unfold qam qat at key ⊢;by_cases e:l=st.L.length
    ·subst e;have e1:({st with E:=qes (inE st D) st.E,B:=qaG D st.B,Wt:=Mask.ofList (inE st D)++st.Wt,Wb:=qnK D st.L.length st.B++st.Wb}:TSt).all[st.L.length]?=some (qaG D st.B):=by simp [TSt.all]
     have e2:(qcH {s with E:=qc9 D s.E,B:=qU D s.B})[st.L.length]?=some (qU D s.B):=by rw [<- hlen];simp [qcH]
     rw [e1,e2];simp only
     rw [qey,qaJ];split
     ·rfl
     ·exact hB k
    ·have e1:({st with E:=qes (inE st D) st.E,B:=qaG D st.B,Wt:=Mask.ofList (inE st D)++st.Wt,Wb:=qnK D st.L.length st.B++st.Wb}:TSt).all[l]?=st.all[l]?:=by
      simp only [TSt.all];by_cases hlt:l<st.L.length
      ·rw [qg hlt,qg hlt]
      ·rw [List.getElem?_eq_none (by simp;omega),List.getElem?_eq_none (by simp;omega)]
     have e2:(qcH {s with E:=qc9 D s.E,B:=qU D s.B})[l]?=(qcH s)[l]?:=by
      simp only [qcH];by_cases hlt:l<s.L.length
      ·rw [qg hlt,qg hlt]
      ·rw [List.getElem?_eq_none (by simp;omega),List.getElem?_eq_none (by simp;omega)]
     rw [e1,e2];exact key
   ·simp only [qcH,qj,List.mem_singleton]at hb;rcases hb with hb|rfl
    ·exact h.M.nd b (by simp [qcH,hb])
    ·exact List.Sublist.nodup ((qj7 D s.B).map _) hnd
  ·refine ⟨λt ht=>by simp [ht],λr hr=>by simp [hr],λt ht=>.inl ?_,λt ht rs hE=>⟨rs,?_⟩,λr hr=>.inl ?_,λr hr hsm=>?_,rfl,?_⟩
   ·simp only [Mask.mem_append,Mask.mem_ofList,not_or]at ht;simp only
    rw [qho];by_cases hD:t∈D
    ·have hge:¬ t<st.E.n:=λhlt=>ht.1 ((hin t).2 ⟨hD,hlt⟩);rw [if_pos hD,List.getElem?_eq_none (by omega)];rfl
    ·rw [if_neg hD]
   ·simp only [Mask.mem_append,Mask.mem_ofList,not_or]at ht;rw [ql1,if_neg ht.1]at hE;exact hE
   ·simp only [qj,not_or]at hr;obtain ⟨l,k⟩:=r;rw [qF,qF];simp only
    unfold qat;by_cases e:l=st.L.length
    ·subst e;have e2:(qcH {s with E:=qc9 D s.E,B:=qU D s.B})[st.L.length]?=some (qU D s.B):=by rw [<- hlen];simp [qcH]
     rw [e2,hlastV];simp only
     rw [qaJ];split
     ·rename_i hk;have hb:=hB k;cases ht:qV st.B k with
      |none=>rw [ht]at hb;simp only [RB]at hb;exact hb.symm
      |some o=>exact absurd (qtP (qcZ ht) hk) hr.1
     ·rfl
    ·have e2:(qcH {s with E:=qc9 D s.E,B:=qU D s.B})[l]?=(qcH s)[l]?:=by
      simp only [qcH];by_cases hlt:l<s.L.length
      ·rw [qg hlt,qg hlt]
      ·rw [List.getElem?_eq_none (by simp;omega),List.getElem?_eq_none (by simp;omega)]
     rw [e2]
   ·simp only [qj,not_or]at hr;obtain ⟨l,k⟩:=r;obtain ⟨c,hc⟩:=Option.isSome_iff_exists.1 hsm;have hlk:=qdF hc;simp only at hlk;have:qam ({st with E:=qes (inE st D) st.E,B:=qaG D st.B,Wt:=Mask.ofList (inE st D)++st.Wt,Wb:=qnK D st.L.length st.B++st.Wb}:TSt).all l k=some (some c):=by
     unfold qam at hlk ⊢;by_cases e:l=st.L.length
     ·subst e;rw [hlastM]at hlk;simp only at hlk;have e1:({st with E:=qes (inE st D) st.E,B:=qaG D st.B,Wt:=Mask.ofList (inE st D)++st.Wt,Wb:=qnK D st.L.length st.B++st.Wb}:TSt).all[st.L.length]?=some (qaG D st.B):=by simp [TSt.all]
      rw [e1];simp only
      rw [qey];split
      ·rename_i hk;exact absurd (qtP (qcZ hlk) hk) hr.1
      ·exact hlk
     ·have e1:({st with E:=qes (inE st D) st.E,B:=qaG D st.B,Wt:=Mask.ofList (inE st D)++st.Wt,Wb:=qnK D st.L.length st.B++st.Wb}:TSt).all[l]?=st.all[l]?:=by
       simp only [TSt.all];by_cases hlt:l<st.L.length
       ·rw [qg hlt,qg hlt]
       ·rw [List.getElem?_eq_none (by simp;omega),List.getElem?_eq_none (by simp;omega)]
      rw [e1];exact hlk
    rw [qaT];simp only
    rw [this];rfl
   ·exact qdT _ D s.E
 ·cases hc
end
section
variable {P:Program} {H:Hints} {J:TH} {T:qoZ} {O:TOrc} {lib:FuncId->Option (List V->Option V)} {f:FuncId} {ctx:List Tmp}
def Ev(p:Orc->Prop)(P:Program)(H:Hints)(lib:FuncId->Option (List V->Option V)):Prop:=∃n,∀m,n<=m->p (qnS P H lib m)
theorem Ev.and{p q:Orc->Prop}(h:Ev p P H lib)(h':Ev q P H lib):Ev (λC=>p C/\q C) P H lib:=by
 obtain ⟨n,h⟩:=h;obtain ⟨n',h'⟩:=h';exact ⟨max n n',λm hm=>⟨h m (by omega),h' m (by omega)⟩⟩
theorem Ev.imp{p q:Orc->Prop}(h:Ev p P H lib)(hi:∀C,p C->q C):Ev q P H lib:=by
 obtain ⟨n,h⟩:=h;exact ⟨n,λm hm=>hi _ (h m hm)⟩
theorem Ev.qih:Ev (λC=>C.qih=H.qih) P H lib:=⟨1,λm hm=>by
 cases m with
 |zero=>omega
 |succ m=>rfl⟩
theorem Ev.of{p:Orc->Prop}(h:∀C,p C):Ev p P H lib:=⟨0,λm _=>h _⟩
def qyH(P:Program)(H:Hints)(lib:FuncId->Option (List V->Option V))(f:FuncId)(bid:Nat)(c:Code)(s:St)(e:Ex)(s':St):Prop:=Ev (λC=>ex P H C f bid c s=some (e,s')) P H lib
def qqn(P:Program)(H:Hints)(lib:FuncId->Option (List V->Option V))(g:FuncId)(args:List V)(M:List Level)(r:V)(M':List Level):Prop:=Ev (λC=>C.call g args M=some (r,M')) P H lib
def Snd(run:TSt->(R:Type)->(Ex->TSt->Option R)->Option R)(rel:St->Ex->St->Prop):Prop :=
 ∀(st:TSt) (R:Type) (k:Ex->TSt->Option R) (r:R) (s:St),run st R k=some r->Rst st s->∃e st' s',rel s e s'/\Rst st' s'/\Fr2 st st' s s'/\k e st'=some r
theorem qp2(st:TSt)(p:Place)(v:TV):(st.qbP p v).Wt=st.Wt/\(st.qbP p v).Wb=st.Wb:=by
 unfold TSt.qbP;cases p.lvl with
 |none=>exact ⟨rfl,rfl⟩
 |some l =>
  simp only
  cases st.box ⟨l,p.slot⟩with
  |none=>exact ⟨rfl,rfl⟩
  |some cs=>exact ⟨by simp only [TSt.qo];split<;>rfl,rfl⟩
theorem qik:∀(ps:List Place) (vs:List TV) (st:TSt),(qcy st ps vs).Wt=st.Wt/\(qcy st ps vs).Wb=st.Wb
 |[],vs,st=>by cases vs<;>exact ⟨rfl,rfl⟩
 |p::ps,[],st=>⟨rfl,rfl⟩
 |p::ps,v::vs,st=>by
  have h1:=qik ps vs (st.qbP p v);have h2:=qp2 st p v;exact ⟨h1.1.trans h2.1,h1.2.trans h2.2⟩
theorem qhm(st:TSt)(r:Root)(c:List TV)(q:Root)(h:(st.cont q).isSome=true):((st.qo r c).cont q).isSome=true:=by
 obtain ⟨l,s⟩:=r;obtain ⟨l',s'⟩:=q;have key:∀b:qC,(match qV b s' with|some (some c)=>some c|_=>none:Option (List TV)).isSome=true->(match qV (qtc b s (some c)) s' with|some (some c)=>some c|_=>none:Option (List TV)).isSome=true:=λb hb=>by
  rw [qfx];by_cases e:s'=s
  ·rw [if_pos e];subst e;cases hl:qV b s' with
   |none=>rw [hl]at hb;cases hb
   |some o=>rfl
  ·rw [if_neg e];exact hb
 unfold TSt.qo TSt.cont at *;simp only at h ⊢;by_cases h1:l=st.L.length
 ·rw [if_pos h1];simp only
  by_cases h2:l'=st.L.length
  ·rw [if_pos h2]at h ⊢;exact key _ h
  ·rw [if_neg h2]at h ⊢;exact h
 ·rw [if_neg h1];simp only [List.length_modify];by_cases h2:l'=st.L.length
  ·rw [if_pos h2]at h ⊢;exact h
  ·rw [if_neg h2]at h ⊢;rw [List.getElem?_modify];cases hb:st.L[l']? with
   |none=>rw [hb]at h;cases h
   |some b =>
    rw [hb]at h;simp only [Option.map_eq_map,qi];by_cases e:l=l'
    ·rw [if_pos e];exact key _ h
    ·rw [if_neg e];exact h
theorem qnq:∀(ps:List Place) (vs:List TV) (st:TSt) (t:Nat),(qcy st ps vs).E.toL[t]?=st.E.toL[t]?\/∃v∈vs,(qcy st ps vs).E.toL[t]?=some v
 |[],vs,st,t=>by cases vs<;>exact .inl rfl
 |p::ps,[],st,t=>.inl rfl
 |p::ps,v::vs,st,t=>by
  rcases qnq ps vs (st.qbP p v) t with h|⟨u,hu,h⟩
  ·show (qcy (st.qbP p v) ps vs).E.toL[t]?=_\/∃u∈v::vs,(qcy (st.qbP p v) ps vs).E.toL[t]?=some u;rw [h];unfold TSt.qbP;cases p.lvl with
   |none =>
    simp only [qdr,List.getElem?_set];split
    ·split
     ·exact .inr ⟨v,by simp,rfl⟩
     ·rename_i h1 h2;left;rw [List.getElem?_eq_none (by omega)]
    ·exact .inl rfl
   |some l =>
    simp only
    cases st.box ⟨l,p.slot⟩with
    |none=>exact .inl rfl
    |some cs=>left;simp only [TSt.qo];split<;>rfl
  ·exact .inr ⟨u,by simp [hu],h⟩
theorem qrQ(st:TSt)(p:Place)(v:TV)(r:Root)(h:(st.cont r).isSome=true):((st.qbP p v).cont r).isSome=true:=by
 unfold TSt.qbP;cases p.lvl with
 |none=>exact h
 |some l =>
  simp only
  cases hb:st.box ⟨l,p.slot⟩with
  |none=>exact h
  |some cs =>
   simp only
   have hbx:({st.qo ⟨l,p.slot⟩ (cs.set p.cell v)with Wb:=st.Wb}:TSt).cont r=(st.qo ⟨l,p.slot⟩ (cs.set p.cell v)).cont r:=rfl;rw [hbx];exact qhm st ⟨l,p.slot⟩ _ r h
theorem qjO:∀(ps:List Place) (vs:List TV) (st:TSt) (r:Root),(st.cont r).isSome=true->((qcy st ps vs).cont r).isSome=true
 |[],vs,st,r,h=>by cases vs<;>exact h
 |p::ps,[],st,r,h=>h
 |p::ps,v::vs,st,r,h=>qjO ps vs _ r (qrQ st p v r h)
theorem qt5(τ:Ty)(o:Nat)(x:τ.den):∀rs,ofTy τ o x≠.any rs:=λrs=>by cases τ<;>simp [ofTy]
theorem qxy:∀(ps:List (Ty×Nat)) (x:denL (ps.map (·.1))),∀v∈ofL ps x,∀rs,v≠.any rs
 |[],x,v,hv=>by simp [ofL]at hv
 |[(τ,o)],x,v,hv=>by simp only [ofL,List.mem_singleton]at hv;subst hv;exact qt5 τ o x
 |(τ,o)::q::ps,x,v,hv=>by
  simp only [ofL,qk]at hv;rcases hv with rfl|hv
  ·exact qt5 τ o x.1
  ·exact qxy (q::ps) x.2 v hv
theorem qs2{st st2:TSt}{s s':St}{j:Join}{x:denL (j.ps.map (·.1))}(h2:Rst st2 s')(hf:Fr2 st.fresh st2 s s')(ho:st2.outs st j=some x):Fr2 st (st.qdv j (ofL j.ps x)) s s':=by
 generalize hvs:ofL j.ps x=vs;have hany:∀v∈vs,∀rs,v≠.any rs:=by rw [<- hvs];exact qxy j.ps x
 unfold TSt.outs at ho;split at ho
 ·rename_i hc;simp only [qe]at hc;obtain ⟨⟨_,hwr⟩,_⟩:=hc;unfold TSt.wrote at hwr;simp only [qe,List.all_eq_true]at hwr;obtain ⟨hwt0,hwb⟩:=hwr;have hwt:∀t∈st2.Wt,t∈j.D:=λt ht=>Mask.qyg hwt0 ht;have hl:=qik j.lv vs {j.wr.foldl (λ(st:TSt) r=>st.forget j.rb r) {st with E:=qdj j.D j.qx0 st.E}with Wt:=j.D++st.Wt,Wb:=j.wr++st.Wb};have e1:(st.qdv j vs).Wt=j.D++st.Wt:=hl.1;have e2:(st.qdv j vs).Wb=j.wr++st.Wb:=hl.2;refine ⟨λt ht=>by rw [e1];simp [ht],λr hr=>by rw [e2];simp [hr],λt ht=>?_,λt ht rs hE=>?_,λr hr=>?_,λr hr hsm=>?_,hf.len,hf.elen⟩
  ·rw [e1]at ht;exact hf.e t λhh=>ht (by simp [hwt t hh])
  ·rw [e1]at ht;simp only [Mask.mem_append,not_or]at ht;unfold TSt.qdv at hE;rcases qnq j.lv vs _ t with h3|⟨v,hv,h3⟩
   ·rw [h3]at hE;have h4:(j.wr.foldl (λ(st:TSt) r=>st.forget j.rb r) {st with E:=qdj j.D j.qx0 st.E}).E.toL[t]?=some (.any rs):=hE;rw [qmf]at h4;simp only at h4;rw [qir,if_neg ht.1]at h4;exact ⟨rs,h4⟩
   ·rw [h3]at hE;exact absurd (Option.some.inj hE) (hany v hv rs)
  ·rw [e2]at hr;by_cases hm:r∈st2.Wb
   ·have:=hwb r hm;simp only [Bool.or_eq_true,decide_eq_true_eq]at this;rcases this with h3|h3
    ·exact absurd (by simp at h3;simp [h3]) hr
    ·rw [qF,qF];unfold qat;have h4:=h2.len;have h5:=hf.len;rw [List.getElem?_eq_none (by simp [qcH];omega),List.getElem?_eq_none (by simp [qcH];omega)];exact .inl rfl
   ·exact hf.b r hm
  ·rw [e2]at hr;simp only [qj,not_or]at hr;unfold TSt.qdv;refine qjO j.lv vs _ r ?_;obtain ⟨c,hc⟩:=Option.isSome_iff_exists.1 hsm;have hlk:=qdF hc;have h3:qam (j.wr.foldl (λ(st:TSt) r=>st.forget j.rb r) {st with E:=qdj j.D j.qx0 st.E}).all r.lvl r.slot=some (some c):=by
    rw [qga,if_neg (λhh=>hr.1 hh.1)];exact hlk
   have h4:({j.wr.foldl (λ(st:TSt) r=>st.forget j.rb r) {st with E:=qdj j.D j.qx0 st.E}with Wt:=j.D++st.Wt,Wb:=j.wr++st.Wb}:TSt).cont r=some c:=by
    rw [qaT];show (match qam (j.wr.foldl (λ(st:TSt) r=>st.forget j.rb r) {st with E:=qdj j.D j.qx0 st.E}).all r.lvl r.slot with
     |some (some c)=>some c
     |_=>none)=some c
    rw [h3]
   rw [h4];rfl
 ·cases ho
theorem qhJ{st st2:TSt}{s s':St}{j:Join}{x:denL (j.ps.map (·.1))}(h2:Rst st2 s')(hf:Fr2 st.fresh st2 s s')(ho:st2.outs st j=some x):Fr2 st (st.qbJ j (ofL j.ps x)) s s':=by
 have h:=qs2 h2 hf ho;have hl:=qoy j.kp (st.qdv j (ofL j.ps x));have hc:∀r,(st.qbJ j (ofL j.ps x)).cont r=(st.qdv j (ofL j.ps x)).cont r:=λr=>by
  unfold TSt.cont TSt.qbJ;rw [hl.2.2.1,hl.2.2.2]
 refine ⟨λt ht=>?_,λr hr=>?_,λt ht=>?_,λt ht rs hE=>?_,λr hr=>?_,λr hr hs=>?_,h.len,h.elen⟩
 ·unfold TSt.qbJ;rw [hl.1];exact h.wt t ht
 ·unfold TSt.qbJ;rw [hl.2.1];exact h.wb r hr
 ·unfold TSt.qbJ at ht;rw [hl.1]at ht;exact h.e t ht
 ·unfold TSt.qbJ at ht hE;rw [hl.1]at ht;exact h.an t ht rs (qxK _ _ _ _ hE)
 ·unfold TSt.qbJ at hr;rw [hl.2.1]at hr;exact h.b r hr
 ·rw [hc];unfold TSt.qbJ at hr;rw [hl.2.1]at hr;exact h.bn r hr hs
theorem qt2{st st2:TSt}{s s':St}(hf:Fr2 st.fresh st2 s s'):Fr2 st (st2.merge st) s s' :=
 ⟨λt ht=>by simp [TSt.merge,ht],λr hr=>by simp [TSt.merge,hr],λt ht=>hf.e t λhh=>ht (by simp [TSt.merge,hh]),λt ht rs hE=>hf.an t (λhh=>ht (by simp [TSt.merge,hh])) rs hE,λr hr=>hf.b r λhh=>hr (by simp [TSt.merge,hh]),λr hr hsm=>hf.bn r (λhh=>hr (by simp [TSt.merge,hh])) hsm,hf.len,hf.elen⟩
theorem Rst.fresh{st:TSt}{s:St}(h:Rst st s):Rst st.fresh s:=⟨h.E,h.M⟩
theorem Rst.merge{st st0:TSt}{s:St}(h:Rst st s):Rst (st.merge st0) s:=⟨h.E,h.M⟩
theorem qlE{run:TSt->(R:Type)->(Ex->TSt->Option R)->Option R}{rel:St->Ex->St->Prop}(h:Snd run rel)(j:Option Join):Snd (λst R k=>qu4 j st run R k) rel:=by
 intro st R k r s hr hs;simp only [qu4]at hr;cases j with
 |none=>exact h st R k r s hr hs
 |some j =>
  simp only at hr;split at hr
  ·obtain ⟨x,hx,hk⟩:=qd.1 hr;obtain ⟨e,st2,s',hrel,hR,hF,hkk⟩:=h _ _ _ _ s hx hs.fresh;have habn:∀e,(k e (st2.merge st)).map Sum.inr=some x->rel s e s'->∃e st' s',rel s e s'/\Rst st' s'/\Fr2 st st' s s'/\k e st'=some r:=λe hkk hrel=>by
    obtain ⟨y,hy,rfl⟩:=qc.1 hkk;simp only [Sum.elim_inr,qb]at hk;subst hk;exact ⟨e,_,s',hrel,hR.merge,qt2 hF,hy⟩
   cases e with
   |normal =>
    obtain ⟨y,hy,rfl⟩:=qc.1 hkk;simp only [Sum.elim_inl]at hk;exact ⟨.normal,_,s',hrel,qhK hs hR hF hy,qhJ hR hF hy,hk⟩
   |exit id=>exact habn _ hkk hrel
   |ret=>exact habn _ hkk hrel
  ·obtain ⟨x,hx,hk⟩:=qd.1 hr;obtain ⟨e,st2,s',hrel,hR,hF,hkk⟩:=h _ _ _ _ s hx hs.fresh;cases e with
   |normal=>exact ⟨.normal,_,s',hrel,qhK hs hR hF hkk,qhJ hR hF hkk,hk⟩
   |exit id=>cases hkk
   |ret=>cases hkk
def TOk(P:Program)(H:Hints)(lib:FuncId->Option (List V->Option V))(T:qoZ):Prop :=
 ∀g args (R:Type) (k:TV->Option R) r vs,T g args R k=some r->RVL args vs->∃x v,k x=some r/\RV x v/\qqn P H lib g vs [] v []
structure OOk (P:Program) (H:Hints) (lib:FuncId->Option (List V->Option V)) (O:TOrc):Prop where
 call:∀ctx g args M (R:Type) (k:TV->List qC->List Root->Option R) r vs M',O.call ctx g args M R k=some r->RVL args vs->LR M M' ->
  ∃x N wb v N',k x N wb=some r/\RV x v/\LR N N'/\N.length=M.length/\(∀l sl,(⟨l,sl⟩:Root)∉wb->qat N' l sl=qat M' l sl/\∀c,qam M l sl=some (some c)->∃c',qam N l sl=some (some c'))/\qqn P H lib g vs M' v N'
 code:∀ctx f bid c,Snd (λst R k=>O.code ctx f bid c st R k) λs e s'=>Ev (λC=>C.code f bid c s=some (e,s')) P H lib
 born:∀ctx g args (R:Type) (k:TV->TV->Option R) r vs,O.born ctx g args R k=some r->RVL args vs ->
  ∃x τ o l v sl,k x (.t (.mset τ) o l)=some r/\qgZ τ=true/\RV x v/\x.onlyMaps=true/\Ev (λC=>C.born g vs=some (v,sl,kvs τ l)) P H lib
theorem qkb(f:Fl):qgy f≠.own:=by cases f<;>simp [qgy]
theorem qqT(f:Fl):qht f=.own↔f=.own:=by cases f<;>simp [qht]
theorem qqU(f:Fl):qhu f=.own↔f=.own:=by cases f<;>simp [qhu]
theorem qf5:∀{M:List qC} {L:List qC} {B:qC},qeh M=some (L,B)->M=L++[B]
 |[],_,_,h=>by cases h
 |[b],_,_,h=>by simp only [qeh,qb,Prod.mk.injEq]at h;simp [<- h.1,<- h.2]
 |b::c::l,L,B,h=>by
  simp only [qeh]at h;obtain ⟨⟨x,y⟩,hxy,h2⟩:=qc.1 h;simp only [Prod.mk.injEq]at h2;obtain ⟨rfl,rfl⟩:=h2;simp [qf5 hxy]
theorem qf6:∀(L:List Level) (B:Level),qcX (L++[B])=some (L,B)
 |[],B=>rfl
 |[a],B=>rfl
 |a::b::L,B=>by
  have:=qf6 (b::L) B;simp only [List.cons_append]at this ⊢;simp only [qcX,this,qi]
theorem qkF{α:Type}:∀{M:List α} {n:Nat},M.length=n+1->∃L B,M=L++[B]
 |[],n,h=>by simp at h
 |[b],n,h=>⟨[],b,rfl⟩
 |b::c::l,n,h=>by
  obtain ⟨L,B,e⟩:=qkF (M:=c::l) (n:=l.length) (by simp);exact ⟨b::L,B,by rw [e];rfl⟩
theorem LR.init{M:List qC}{M':List Level}(h:LR M M'):LR (M++[[]]) (M'++[[]]) where
 len:=by simp [h.len]
 rel:=λl s=>by
  have key:=h.rel l s;unfold qam qat at key ⊢;have hl:=h.len;by_cases e:l<M.length
  ·rw [qg e,qg (by omega)];exact key
  ·rw [List.getElem?_append_right (by omega),List.getElem?_append_right (by omega),hl];cases l-M.length with
   |zero=>simp [qV,qu,RB]
   |succ n=>simp [RB]
 nd:=λb hb=>by
  simp only [qj,List.mem_singleton]at hb;rcases hb with hb|rfl
  ·exact h.nd b hb
  ·simp
 mp:=λl s c hc hlt=>by
  have key:=h.mp l s c;unfold qat at key hc;by_cases e:l<M'.length
  ·rw [qg e]at hc;exact key hc hlt
  ·rw [List.getElem?_append_right (by omega)]at hc;cases hm:l-M'.length with
   |zero=>rw [hm]at hc;simp [qu]at hc
   |succ n=>rw [hm]at hc;simp at hc
theorem LR.front{M:List qC}{M':List Level}{b:qC}{b':Level}(h:LR (M++[b]) (M'++[b'])):LR M M' where
 len:=by have:=h.len;simp at this;exact this
 rel:=λl s=>by
  have hl:M'.length=M.length:=by have:=h.len;simp at this;exact this
  have key:=h.rel l s;unfold qam qat at key ⊢;by_cases e:l<M.length
  ·rw [qg e,qg (by omega)]at key;exact key
  ·rw [List.getElem?_eq_none (by omega),List.getElem?_eq_none (by omega)];rfl
 nd:=λc hc=>h.nd c (by simp [hc])
 mp:=λl s c hc hlt=>by
  have key:=h.mp l s c;unfold qat at key hc;by_cases e:l<M'.length
  ·rw [qg e]at key;exact key hc hlt
  ·rw [List.getElem?_eq_none (by omega)]at hc;cases hc
theorem qvB(st:TSt)(r:Root)(v:TV):(st.qoN r v).all=st.all.modify r.lvl (λb=>qtc b r.slot (some [v])):=qiV st r [v]
theorem qrR{st:TSt}{s:St}(hs:Rst st s){r:Root}{c0:List TV}(hb:st.cont r=some c0){x:LoopState}{pe:Option Code}{g:FuncId}{env:List TV}{env':List V}{ps:List Tmp}{a b:Code}(he:RVL env env') :
  Rst (st.qoN r (.lp x pe g env ps a b)) (s.qo r [.lp x pe g env' ps a b]):=by
 have e1:(st.qoN r (.lp x pe g env ps a b)).E=st.E:=(show (st.qo r [_]).E=st.E by unfold TSt.qo;split<;>rfl)
 have e2:(s.qo r [.lp x pe g env' ps a b]).E=s.E:=by unfold St.qo;split<;>rfl
 refine ⟨by rw [e1,e2];exact hs.E,?_⟩;rw [qvB,qoM];exact LR.qo hs.M _ _ (by rw [qdF hb];simp) ⟨env',rfl,he⟩ (λ_=>rfl)
theorem qnr(st:TSt)(r:Root)(v:TV)(q:Root)(h:(st.cont q).isSome=true):((st.qoN r v).cont q).isSome=true:=qhm st r [v] q h
theorem qpT{st:TSt}{s:St}(hs:Rst st s){r:Root}{x:LoopState}{pe:Option Code}{g:FuncId}{env:List TV}{ps:List Tmp}{a b:Code}(h:st.cont r=some [.lp x pe g env ps a b]) :
  ∃env',s.box r=some [.lp x pe g env' ps a b]/\RVL env env':=by
 have:=hs.M.rel r.lvl r.slot;rw [qdF h]at this;obtain ⟨c',h1,env',rfl,h2⟩:=this;exact ⟨env',by rw [qF];exact h1,h2⟩
theorem qoY:∀{E:Env} {E':List V} {ps:List Tmp} {asz:List TV} {vs:List V},RVL E.toL E'->RVL asz vs->RVL (qiZ E ps asz).toL (qd4 E' ps vs)
 |E,E',[],asz,vs,hE,ha=>by
  cases asz with
  |nil=>simp only [RVL]at ha;subst ha;exact hE
  |cons a asz=>simp only [RVL]at ha;obtain ⟨v,m,rfl,_⟩:=ha;exact hE
 |E,E',t::ps,[],vs,hE,ha=>by simp only [RVL]at ha;subst ha;exact hE
 |E,E',t::ps,a::asz,vs,hE,ha=>by
  simp only [RVL]at ha;obtain ⟨v,m,rfl,h1,h2⟩:=ha;simp only [qiZ,qd4];exact qoY (by rw [qdr];exact RVL.set _ hE h1) h2
theorem qAZ{E:List V}{L:List Level}{B:Level}{q:Root}(h:q.lvl<L.length):({E,L,B}:St).box q=qat L q.lvl q.slot:=by
 rw [qF];unfold qat qcH;simp only
 rw [qg h]
theorem qxZ(hO:OOk P H lib O){d:Tmp}{r:Root}{args:List TV}{args':List V}{st:TSt}{s:St}{R:Type}{k:TV->TSt->Option R}{res:R}
  (ha:RVL args args') (hs:Rst st s) (h:qxY O ctx d r args st R k=some res) :
  ∃v st' u s',k v st'=some res/\Ev (λC=>qjY C r args' s=some (u,s')) P H lib/\RV v u/\Rst st' s'/\Fr2 st st' s s'/\st'.E=st.E/\s'.E=s.E:=by
 unfold qxY at h;split at h
 ·rename_i g env ps asz bo hc1;obtain ⟨env',hb1,hre⟩:=qpT hs hc1;split at h
  ·cases h
  ·rename_i hlen;have hlen':¬ args'.length≠ps.length:=by rw [ha.length];exact hlen
   have hE0:RVL (qiZ (Env.qgB env env.length) ps (dullL args)).toL (qd4 env' ps (args'.map V.hand)):=by
    refine qoY ?_ (ha.qpF qkb rfl);rw [qkL];simpa using hre
   have h0:Rst {E:=qiZ (Env.qgB env env.length) ps (dullL args),L:=st.L++[st.B],B:=[],Wt:=.empty,Wb:=[]} {E:=qd4 env' ps (args'.map V.hand),L:=s.L++[s.B],B:=[]}:=⟨hE0,hs.M.init⟩
   obtain ⟨e1,t2,s2,hev1,hR2,hF2,h⟩:=hO.code _ _ _ _ _ _ _ _ _ h h0;cases e1 with
   |exit id=>cases h
   |ret=>cases h
   |normal =>
    simp only at h;split at h
    ·rename_i g2 env2 ps2 as2 bo2 hc2;obtain ⟨env2',hb2,hre2⟩:=qpT hR2 hc2;have hset:=qrR hR2 hc2 (x:=.busy) (pe:=none) (g:=g2) (ps:=ps2) (a:=as2) (b:=bo2) hre2;obtain ⟨e3,t3,s3,hev2,hR3,hF3,h⟩:=hO.code _ _ _ _ _ _ _ _ _ h hset;split at h
     ·rename_i x9 pe9 g3 env3 ps3 as3 bo3 hc3;obtain ⟨env3',hb3,hre3⟩:=qpT hR3 hc3;have hset3:=qrR hR3 hc3 (x:=if e3.code.isNone then .ready else .done) (pe:=e3.code) (g:=g3) (ps:=ps3) (a:=as3) (b:=bo3) hre3;split at h
      ·rename_i L B hsp;have hL3:=qf5 hsp;split at h
       ·rename_i hL;have hlen0:=hs.len;have hlA:(s3.qo r [.lp (if e3.code.isNone then .ready else .done) e3.code g3 env3' ps3 as3 bo3]).L.length=L.length+1:=by
         have:=hset3.len;rw [hL3]at this;rw [this];simp
        obtain ⟨L',B',hL3'⟩:=qkF hlA;have hL':L'.length=s.L.length:=by rw [hL3']at hlA;simp at hlA;omega
        have hs3L:s3.L.length=s.L.length+1:=by
         have:=hF3.len;have:=hF2.len;have e9:(s2.qo r [.lp .busy none g2 env2' ps2 as2 bo2]).L.length=s2.L.length:=by unfold St.qo;split<;>simp
         simp only [List.length_append,List.length_singleton]at *;omega
        have ht2:∀q,q∉t3.Wb->q∉t2.Wb:=λq hq hh=>hq (hF3.wb q hh);have hbig:s2.L.length=s.L.length+1:=by have:=hF2.len;simpa using this
        have same2:∀q,q∉t3.Wb->s2.box q=({E:=qd4 env' ps (args'.map V.hand),L:=s.L++[s.B],B:=[]}:St).box q:=λq hq=>by
         rcases hF2.b q (ht2 q hq)with h9|⟨h9,_⟩
         ·exact h9
         ·simp at h9
        have same3:∀q,q∉t3.Wb->s3.box q=(s2.qo r [.lp .busy none g2 env2' ps2 as2 bo2]).box q:=λq hq=>by
         rcases hF3.b q hq with h9|⟨h9,_⟩
         ·exact h9
         ·have e9:(s2.qo r [.lp .busy none g2 env2' ps2 as2 bo2]).L.length=s2.L.length:=by unfold St.qo;split<;>simp
          omega
        have low:∀q:Root,q.lvl<=s.L.length->({E:=qd4 env' ps (args'.map V.hand),L:=s.L++[s.B],B:=[]}:St).box q=s.box q:=λq hq=>by
         rw [qAZ (by simp;omega),qF];rfl
        have hfin:∀q:Root,q.lvl<=s.L.length->({s with L:=L',B:=B'}:St).box q=(s3.qo r [.lp (if e3.code.isNone then .ready else .done) e3.code g3 env3' ps3 as3 bo3]).box q:=λq hq=>by
         rw [qF,qF];unfold qat qcH;simp only
         rw [hL3',qg (l₁:=L'++[B']) (by simp;omega)]
        refine ⟨_,_,.val (.bool e3.code.isNone),{s with L:=L',B:=B'},h,((hev1.and hev2)).imp λC ⟨hC1,hC2⟩=>?_,by simp [RV,RTy],⟨hs.E,?_⟩,⟨λt ht=>ht,λq hq=>by simp [hq],λt ht=>.inl rfl,λt ht rs hE=>⟨rs,hE⟩,λq hq=>.inl ?_,λq hq hsm=>?_,hL',rfl⟩,rfl,rfl⟩
        ·unfold qjY;rw [hb1];simp only
         rw [if_neg hlen',hC1];simp only
         rw [hb2];simp only
         rw [hC2];simp only
         rw [hb3];simp only
         rw [hL3',qf6];simp only [hL',if_true]
        ·have h9:=LR.front hset3.M;rw [hL3,hL3']at h9;exact h9
        ·simp only [qj,not_or]at hq;obtain ⟨hq0,hq3,_⟩:=hq;by_cases hlv:q.lvl<=s.L.length
         ·rw [hfin q hlv,qW];by_cases e:q=r
          ·subst e;rw [if_pos rfl,hb3];have hx:e3.code.isNone=true:=by
            cases hx:e3.code.isNone with
            |true=>rfl
            |false=>rw [hx]at hq0;simp at hq0
           have k2:=same2 q hq3;rw [low q hlv,hb1,hb2]at k2;have k3:=same3 q hq3;rw [qW,if_pos rfl,hb2,hb3]at k3;simp only [qi,qb,List.cons.injEq,V.lp.injEq,and_true,true_and]at k2 k3;obtain ⟨a1,a2,a3,a4,a5⟩:=k2;obtain ⟨_,_,b1,b2,b3,b4,b5⟩:=k3;subst a1 a2 a3 a4 a5 b1 b2 b3 b4 b5;rw [hx,hb1];simp only [qi,if_true,Option.isNone_iff_eq_none.1 hx]
          ·rw [if_neg e,same3 q hq3,qW,if_neg e,same2 q hq3,low q hlv]
         ·rw [qF,qF];unfold qat qcH;simp only
          rw [List.getElem?_eq_none (by simp;omega),List.getElem?_eq_none (by simp;omega)]
        ·simp only [qj,not_or]at hq;obtain ⟨hq0,hq3,_⟩:=hq;have hlv:q.lvl<(st.L++[st.B]).length:=by
          obtain ⟨c,hc⟩:=Option.isSome_iff_exists.1 hsm;have:=qdF hc;unfold qam TSt.all at this;cases hM0:(st.L++[st.B])[q.lvl]? with
          |none=>rw [hM0]at this;cases this
          |some b=>exact (qm.1 hM0).1
         have i0:(({E:=qiZ (Env.qgB env env.length) ps (dullL args),L:=st.L++[st.B],B:=[],Wt:=.empty,Wb:=[]}:TSt).cont q).isSome=true:=by
          rw [qaT]at hsm ⊢;unfold qam TSt.all at hsm ⊢;simp only at hsm ⊢;rw [qg hlv];exact hsm
         have i1:=hF2.bn q (ht2 q hq3) i0;have i2:=qnr t2 r (.lp .busy none g2 env2 ps2 as2 bo2) q i1;have i3:=hF3.bn q hq3 i2;have i4:=qnr t3 r (.lp (if e3.code.isNone then .ready else .done) e3.code g3 env3 ps3 as3 bo3) q i3;rw [qaT]at i4 ⊢;unfold qam TSt.all at i4 ⊢;rw [hL3,qg (l₁:=L++[B]) (by simp at hlv ⊢;omega)]at i4;exact i4
       ·cases h
      ·cases h
     ·cases h
    ·cases h
 ·cases h
theorem qqB(hT:TOk P H lib T)(hO:OOk P H lib O){d:Tmp}{fv:TV}{fv':V}{args:List TV}{args':List V}{st:TSt}{s:St}{R:Type}{k:TV->TSt->Option R}{r:R}
  (hf:RV fv fv') (ha:RVL args args') (hs:Rst st s) (h:qnX H J T O ctx f d fv args st R k=some r) :
  ∃v st' u s',k v st'=some r/\Ev (λC=>qgE C fv' args' s=some (u,s')/\qb6 C fv'=qdm H fv) P H lib/\RV v u/\Rst st' s'/\Fr2 st st' s s'/\st'.E=st.E/\s'.E=s.E/\qc1 fv' args'=qfE fv args:=by
 unfold qnX at h;split at h
 ·rename_i g first cap;simp only [RV]at hf;obtain ⟨first',cap',rfl,hf1,hc1⟩:=hf;have hall:RVL (first++args++cap) (first'++args'++cap'):=(hf1.append ha).append hc1;split at h
  ·rename_i hk;have hpt:=RVL.ptrs_eq _ _ hk hall;have hpure:qc1 (.fn g first' cap') args'=qfE (.fn g first cap) args:=by
    simp only [qc1,qfE,hpt]
   split at h
   ·rename_i hp;have hp':(ptrsL (first'++args'++cap')).isEmpty=true:=by rw [hpt];exact hp
    have hshare:RVL (shareL (first++args++cap)) ((first'++args'++cap').map V.share):=by
     have:=RVL.share _ _ hall;rw [qaf]at this;exact this
    have fin:∀{x:TV} {v:V},k (if tightL (first++args++cap)then x else x.qbd) st=some r->RV x v->qqn P H lib g ((first'++args'++cap').map V.share) [] v [] ->
      ∃v st' u s',k v st'=some r/\Ev (λC=>qgE C (.fn g first' cap') args' s=some (u,s')/\qb6 C (.fn g first' cap')=qdm H (.fn g first cap)) P H lib/\RV v u/\Rst st' s'/\Fr2 st st' s s'/\st'.E=st.E/\s'.E=s.E/\qc1 (.fn g first' cap') args'=qfE (.fn g first cap) args:=by
     intro x v hkx hr hev;refine ⟨if tightL (first++args++cap)then x else x.qbd,st,if looseL (first'++args'++cap')=true then v.qbd else v,s,hkx,(hev.and Ev.qih).imp λC ⟨hC,hCp⟩=>?_,?_,hs,Fr2.refl _ _,rfl,rfl,hpure⟩
     ·refine ⟨?_,by simp only [qb6,qdm,hCp]⟩;show qeO C g (first'++args'++cap') s=_;unfold qeO;rw [if_pos hp',hC]
     ·cases htg:tightL (first++args++cap)with
      |true =>
       rw [RVL.tight _ _ htg hall];simpa using hr
      |false =>
       simp only [qf,if_false];split
       ·exact RV.lo qqT _ _ hr
       ·exact hr.lo0
    split at h
    ·obtain ⟨x,N,wb,v,N',hkx,hr,hN,hlen,_,hev⟩:=hO.call _ _ _ _ _ _ _ _ [] h hshare ⟨rfl,λl s=>by simp [qam,qat,RB],by simp,λl s c h=>by simp [qat]at h⟩;have hN0:N=[]:=List.eq_nil_of_length_eq_zero (by rw [hlen];rfl);subst hN0;have hN0':N'=[]:=List.eq_nil_of_length_eq_zero (by rw [hN.len];rfl);subst hN0';exact fin hkx hr hev
    ·obtain ⟨x,v,hkx,hr,hev⟩:=hT _ _ _ _ _ _ h hshare;exact fin hkx hr hev
   ·rename_i hp;have hp':¬ (ptrsL (first'++args'++cap')).isEmpty=true:=by rw [hpt];exact hp
    split at h
    ·rename_i hpk;split at h
     ·rename_i xs hxs;split at h
      ·rename_i hxp;obtain ⟨us,hus,hru⟩:=peekTL_ok (bt:=st.box) (bx:=s.box) (λr c hc=>by
        obtain ⟨c',h1,h2⟩:=hs.box hc;exact ⟨c',h1,h2,λhlt=>hs.M.mp r.lvl r.slot c' (by rw [<- qF];exact h1) hlt⟩) _ _ _ hxs hall
       obtain ⟨x,v,hkx,hr,hev⟩:=hT _ _ _ _ _ _ h hru;split at hkx
       ·rename_i hmine;refine ⟨x,st,v,s,hkx,(hev.and Ev.qih).imp λC ⟨hC,hCp⟩=>⟨?_,by simp only [qb6,qdm,hCp]⟩,hr,hs,Fr2.refl _ _,rfl,rfl,hpure⟩;show qeO C g (first'++args'++cap') s=_;have hup:(ptrsL us).isEmpty=true:=by
         rw [List.isEmpty_iff,List.eq_nil_iff_forall_not_mem];intro q hq;have:=RVL.qp _ _ hru q hq;rw [List.isEmpty_iff]at hxp;rw [hxp]at this;cases this
        unfold qeO;rw [if_neg hp',hCp,if_pos hpk,hus];simp only [hup,if_true,hC,RV.qcq x v hmine hr]
       ·cases hkx
      ·cases h
     ·cases h
    rename_i hpk;have hdull:RVL (dullL (first++args++cap)) ((first'++args'++cap').map V.hand):=hall.qpF qkb rfl;obtain ⟨x,N,wb,v,N',hkx,hr,hN,hlen,hfr,hev⟩:=hO.call _ _ _ _ _ _ _ _ (s.L++[s.B]) h hdull hs.M;split at hkx
    ·rename_i L B hsp;have hNe:=qf5 hsp;subst hNe;split at hkx
     ·rename_i hL;obtain ⟨L',B',rfl⟩:=qkF (M:=N') (n:=L.length) (by rw [hN.len];simp);have hL':L'.length=s.L.length:=by have:=hN.len;have:=hs.len;simp at *;omega
      refine ⟨x,_,v,{s with L:=L',B:=B'},hkx,(hev.and Ev.qih).imp λC ⟨hC,hCp⟩=>?_,hr,⟨hs.E,hN⟩,⟨λt ht=>ht,λq hq=>by simp [hq],λt ht=>.inl rfl,λt ht rs hE=>⟨rs,hE⟩,λq hq=>.inl ?_,λq hq hsm=>?_,hL',rfl⟩,rfl,rfl,hpure⟩
      ·refine ⟨?_,by simp only [qb6,qdm,hCp]⟩;show qeO C g (first'++args'++cap') s=_;unfold qeO;rw [if_neg hp',hCp,if_neg hpk,hC];simp only [qf6,hL',if_true]
      ·rw [qF,qF];simp only [qj,not_or]at hq;exact (hfr q.lvl q.slot hq.1).1
      ·simp only [qj,not_or]at hq;obtain ⟨c,hc⟩:=Option.isSome_iff_exists.1 hsm;obtain ⟨c',hc'⟩:=(hfr q.lvl q.slot hq.1).2 c (qdF hc);rw [qaT];show (match qam (L++[B]) q.lvl q.slot with
        |some (some c)=>some c
        |_=>none).isSome=true
       rw [hc'];rfl
     ·cases hkx
    ·cases hkx
  ·cases h
 ·rename_i q;simp only [RV]at hf;subst hf;obtain ⟨v,st',u,s',h1,h2,h3,h4,h5,h6,h7⟩:=qxZ hO ha hs h;exact ⟨v,st',u,s',h1,h2.imp λC hC=>⟨hC,rfl⟩,h3,h4,h5,h6,h7,rfl⟩
 ·cases h
theorem qc3{x:TV}{ys:List V}(h:RVL [x] ys):∃v,ys=[v]/\RV x v:=by
 simp only [RVL]at h;obtain ⟨v,m,rfl,h1,rfl⟩:=h;exact ⟨v,rfl,h1⟩
def qwA(P:Program)(H:Hints)(f:FuncId)(o:Oper)(xs:List TV)(st:TSt)(R:Type)(k:TV->TSt->Fp->Option R):Option R :=
 if qjm o.op xs then qlG P H f o xs st R k else match qkz o.op xs with
  |none=>qcz P H f (qah H f o) o.op xs none R λv c=>match c with
   |none=>k v st .none
   |some _=>none
  |some r=>if 16384<=r.slot then none else qcz P H f (qah H f o) o.op xs (st.box r) R λv c=>match c with
   |none=>k v st (.root r (qb0 P o.op xs).1 (qb0 P o.op xs).2 false)
   |some c=>if (quB o.op xs).all (λp=>decide (p.lvl<=r.lvl))&&decide ((qb0 P o.op xs).1+(qb0 P o.op xs).2<=c.length)then k v (st.qo r c) (.root r (qb0 P o.op xs).1 (qb0 P o.op xs).2 true)else none
theorem qtj{o:Oper}(h:qib o.op=true)(xs:List TV)(st:TSt)(R:Type)(k:TV->TSt->Fp->Option R):qlc P H J T O ctx f o xs st R k=qwA P H f o xs st R k:=by
 unfold qlc;split
 ·rename_i hop;rw [hop]at h;simp [qib]at h
 ·rename_i hop;rw [hop]at h;simp [qib]at h
 ·rename_i hop;rw [hop]at h;simp [qib]at h
 ·rfl
theorem qti{o:Oper}{c:Call}{fo:Operand}(hop:o.op=.call c)(hc:c.callee=.value fo)(xs:List TV)(st:TSt)(R:Type)(k:TV->TSt->Fp->Option R) :
  qlc P H J T O ctx f o xs st R k=match xs with
   |fv::args=>if qpu H fv args then qzV H O ctx o.dst fv args st R k else qnX H J T O ctx f (o.dst.getD 0) fv args st R λv s=>k v s (if qfE fv args then .none else if qdm H fv then .looks else .all)
   |[]=>none:=by
 unfold qlc;obtain ⟨cal,a1,a2⟩:=c;simp only at hc;subst hc;simp only [hop];cases xs<;>rfl
theorem LR.push{M:List qC}{M':List Level}{b:qC}{b':Level}{d:Nat}{c:List TV}{c':List V}(h:LR (M++[b]) (M'++[b']))(hl:M'.length=M.length)(hd:qV b d=none)(hc:RC c c')(hmp:d<16384->qf0 c'=false):LR (M++[(d,some c)::b]) (M'++[qb2 d c' b']):=by
 have hkey:∀k,RB (qV b k) (qu b' k):=λk=>by
  have:=h.rel M.length k;unfold qam qat at this;rw [List.getElem?_append_right (Nat.le_refl _),<- hl,List.getElem?_append_right (Nat.le_refl _)]at this;simpa using this
 have hnone:qu b' d=none:=by
  have h2:=hkey d;rw [hd]at h2;exact h2
 refine ⟨by simp [hl],λl k=>?_,λq hq=>?_,λl k c2 h2 hlt=>?_⟩
 rotate_right
 ·have key:=h.mp l k;unfold qat at key h2;by_cases e:l<M'.length
  ·rw [qg e]at key h2;exact key c2 h2 hlt
  ·rw [List.getElem?_append_right (by omega)]at key h2;cases hm:l-M'.length with
   |zero =>
    rw [hm]at key h2;simp only [List.getElem?_cons_zero]at key h2;by_cases e2:d=k
    ·subst e2;rw [qhA hnone]at h2;simp only [if_true,qb]at h2;subst h2;exact hmp hlt
    ·rw [qbH e2]at h2;exact key c2 h2 hlt
   |succ n=>rw [hm]at h2;simp at h2
 ·have key:=h.rel l k;unfold qam qat at key ⊢;by_cases e:l<M.length
  ·rw [qg e,qg (by omega)]at key ⊢;exact key
  ·rw [List.getElem?_append_right (by omega),List.getElem?_append_right (by omega),hl]at key ⊢;cases hm:l-M.length with
   |zero =>
    simp only [List.getElem?_cons_zero];by_cases e2:d=k
    ·subst e2;simp only [qV,qhA hnone,if_true];exact ⟨c',rfl,hc⟩
    ·simp only [qV,qbH e2,if_neg e2];exact hkey k
   |succ n=>simp [RB]
 ·simp only [qj,List.mem_singleton]at hq;rcases hq with hq|rfl
  ·exact h.nd q (by simp [hq])
  ·exact qoi hnone (h.nd b' (by simp))
theorem qei{st:TSt}{s:St}(hs:Rst st s){d:Nat}(h:qV st.B d=none):qu s.B d=none:=by
 have:=hs.M.rel st.L.length d;unfold qam qat at this;have e1:st.all[st.L.length]?=some st.B:=by simp [TSt.all]
 have e2:(qcH s)[st.L.length]?=some s.B:=by rw [<- hs.len];simp [qcH]
 rw [e1,e2]at this;simp only at this;rw [h]at this;exact this
theorem qm3{st:TSt}{s:St}(hs:Rst st s){d:Nat}{c:List TV}{c':List V}(hd:qV st.B d=none)(hc:RC c c')(hmp:d<16384->qf0 c'=false) :
  Rst {st with B:=(d,some c)::st.B,Wb:=⟨st.L.length,d⟩::st.Wb} {s with B:=qb2 d c' s.B}/\Fr2 st {st with B:=(d,some c)::st.B,Wb:=⟨st.L.length,d⟩::st.Wb} s {s with B:=qb2 d c' s.B}:=by
 refine ⟨⟨hs.E,LR.push hs.M hs.len hd hc hmp⟩,⟨λt ht=>ht,λr hr=>by simp [hr],λt ht=>.inl rfl,λt ht rs hE=>⟨rs,hE⟩,λr hr=>.inl ?_,λr hr hsm=>?_,rfl,rfl⟩⟩
 case refine_2 =>
  simp only [qk,not_or]at hr;obtain ⟨l,sl⟩:=r;unfold TSt.cont at hsm ⊢;simp only at hsm ⊢;by_cases e:l=st.L.length
  ·rw [if_pos e]at hsm ⊢;have:d≠sl:=λe2=>hr.1 (by rw [e2,e]);simp only [qV,if_neg this];exact hsm
  ·rw [if_neg e]at hsm ⊢;exact hsm
 simp only [qk,not_or]at hr;obtain ⟨l,sl⟩:=r;rw [qF,qF];unfold qat qcH;simp only
 have hlen:=hs.len;by_cases e:l<s.L.length
 ·rw [qg e,qg e]
 ·rw [List.getElem?_append_right (by omega),List.getElem?_append_right (by omega)];cases hm:l-s.L.length with
  |zero =>
   simp only [List.getElem?_cons_zero];have:d≠sl:=λe2=>hr.1 (by rw [e2];congr 1;omega);rw [qbH this]
  |succ n=>simp
theorem qhl(st:TSt)(r:Root)(c:List TV):(st.qo r c).E=st.E/\(st.qo r c).Wt=st.Wt/\(st.qo r c).Wb=r::st.Wb/\(st.qo r c).L.length=st.L.length:=by
 unfold TSt.qo;split<;>simp
theorem qdy(s:St)(r:Root)(c:List V):(s.qo r c).E=s.E/\(s.qo r c).L.length=s.L.length:=by
 unfold St.qo;split<;>simp
theorem qhh{st:TSt}{s:St}(hs:Rst st s){r:Root}{c0 c:List TV}{c':List V}(hb:st.box r=some c0)(hc:RVL c c')(hmp:r.slot<16384->qf0 c'=false):Rst (st.qo r c) (s.qo r c')/\Fr2 st (st.qo r c) s (s.qo r c'):=by
 obtain ⟨e1,e2,e3,e4⟩:=qhl st r c;obtain ⟨e5,e6⟩:=qdy s r c';refine ⟨⟨by rw [e1,e5];exact hs.E,?_⟩,⟨λt ht=>by rw [e2];exact ht,λq hq=>by rw [e3];simp [hq],λt ht=>.inl (by rw [e5]),λt ht rs hE=>⟨rs,by rw [<- e1];exact hE⟩,λq hq=>.inl ?_,λq hq hsm=>qhm st r c q hsm,e6,by rw [e5]⟩⟩
 ·rw [qiV,qoM];exact LR.qo hs.M _ _ (by rw [qpc hb];simp) hc.rc hmp
 ·rw [e3]at hq;simp only [qk,not_or]at hq;rw [qW,if_neg hq.1]
theorem qtU{x:V}(h:x.oks=true):qf0 x.cells=false:=by
 unfold V.oks at h;cases hc:x.cells with
 |nil=>rfl
 |cons y l =>
  rw [hc]at h;simp only [List.all_cons,qe]at h;cases y<;>first|rfl|(simp [V.one]at h)
theorem qfs{x:V}{l m:List V}:qf0 (x::l)=qf0 (x::m):=by cases x<;>rfl
theorem qmp{cs ys:List V}{off:Nat}(h1:qf0 cs=false)(h2:off=0\/cs=[]->qf0 ys=false):qf0 (qN cs off ys)=false:=by
 unfold qN;cases off with
 |zero =>
  simp only [List.take_zero,List.nil_append,Nat.zero_add];cases ys with
  |nil=>simpa using h1
  |cons y l=>rw [List.cons_append,qfs (m:=l)];exact h2 (.inl rfl)
 |succ n =>
  cases cs with
  |nil=>simpa using h2 (.inr rfl)
  |cons c l=>simp only [List.take_succ_cons,List.cons_append];rw [qfs (m:=l)];exact h1
theorem qsC{g:Fl->Fl}{l:List V}(h:qf0 l=false):qf0 (reflagL g l)=false:=by
 cases l with
 |nil=>rfl
 |cons x l=>cases x with
  |mp=>simp [qf0]at h
  |room s n =>
   simp only [reflagL,V.reflag];by_cases h1:g .own=.own
   ·rw [if_pos h1];rfl
   ·rw [if_neg h1];by_cases h2:n=0
    ·rw [if_pos h2];rfl
    ·rw [if_neg h2];rfl
  |_=>rfl
theorem qzu{tk:Bool}{o:Op}{ty:TypeId}{ys:List V}{q:Root}{bx:Option (List V)}{u:V}{c':List V}(hr:rootOf o ys=some q)(hb:∀c,bx=some c->qf0 c=false)
  (h:qaQ P H f tk o ty ys bx=some (u,some c')):qf0 c'=false:=by
 obtain ⟨off,rest,rfl,⟨t,a,rfl⟩|⟨t,a,x,rfl⟩⟩:=qbL hr
 ·cases rest with
  |nil =>
   simp only [qaQ]at h;split at h
   ·rename_i cs;split at h
    ·cases h
    ·split at h
     ·obtain ⟨y,_,he⟩:=qc.1 h;cases he;refine qmp (hb cs rfl) λh0=>qsC ?_;have h9:=hb cs rfl;cases cs with
      |nil=>simp [qf0]
      |cons c l =>
       rcases h0 with h0|h0
       ·subst h0;simp only [List.drop_zero];cases (if qK P t=true then P.cellsOf t else 1)with
        |zero=>rfl
        |succ n=>simp only [List.take_succ_cons];rw [qfs (m:=l)];exact h9
       ·cases h0
     ·obtain ⟨y,_,he⟩:=qc.1 h;cases he
   ·cases h
  |cons y l=>simp [qaQ]at h
 ·match rest,h with
  |[y],h =>
   simp only [qaQ]at h;split at h
   ·rename_i cs;split at h
    ·rename_i hc;simp only [qb,Prod.mk.injEq]at h;obtain ⟨_,rfl⟩:=h;exact qmp (hb _ rfl) λ_=>qtU hc.2.2.2.2
    ·cases h
   ·cases h
  |[],h=>simp [qaQ]at h
  |_::_::_,h=>simp [qaQ]at h
theorem quZ{op:Op}{xs:List TV}{ys:List V}(hx:RVL xs ys)(h:qjm op xs=true):qcJ op ys=true:=by
 unfold qjm at h;split at h
 ·rfl
 ·rfl
 ·rfl
 ·rfl
 ·simp only [RVL]at hx;obtain ⟨v,m,rfl,h1,rfl⟩:=hx;simp only [RV]at h1;subst h1;rfl
 ·cases h
theorem qu0{op:Op}{xs:List TV}{ys:List V}(hx:RVL xs ys)(hn:¬ qjm op xs=true)(hm:qcJ op ys=true) :
  qkz op xs=none/\∀tk bx (R:Type) (k:TV->Option (List TV)->Option R),qcz P H f tk op xs bx R k=none:=by
 unfold qcJ at hm;split at hm
 ·exact absurd rfl hn
 ·exact absurd rfl hn
 ·exact absurd rfl hn
 ·exact absurd rfl hn
 ·rename_i args argTypes q
  match xs,hx with
  |[x],hx =>
   obtain ⟨v,hv,hr⟩:=qc3 hx;cases hv;cases x with
   |any rs=>exact ⟨rfl,λ_ _ _ _=>rfl⟩
   |mref r=>exact absurd rfl hn
   |t τ o x=>cases τ<;>simp [RV,RTy]at hr
   |_=>simp [RV]at hr
  |[],hx=>simp [RVL]at hx
  |x::y::l,hx =>
   have:=hx.length;simp at this
 ·cases hm
theorem qsL{o:Oper}{xs:List TV}{ys:List V}{st:TSt}{s:St}{R:Type}{k:TV->TSt->Fp->Option R}{r:R}(hx:RVL xs ys)(hs:Rst st s)(h:qlG P H f o xs st R k=some r) :
  ∃v st' fp u s',k v st' fp=some r/\mapStep P H f o ys s=some (u,s',fp)/\RV v u/\Rst st' s'/\Fr2 st st' s s'/\st'.E=st.E/\s'.E=s.E:=by
 have hset:∀{q:Root} {τ:Ty} {o':Nat} {l:List τ.den},st.box q=some [.t (.mset τ) o' l]->qgZ τ=true/\s.box q=some [.mp (kvs τ l)]/\¬ q.slot<16384:=λ{q τ o' l} hb=>by
  obtain ⟨c',hc',hr⟩:=hs.box hb;obtain ⟨v,rfl,hv⟩:=qc3 hr;simp only [RV,RTy]at hv;obtain ⟨hk,rfl⟩:=hv;refine ⟨hk,hc',λhlt=>?_⟩;have:=hs.M.mp q.lvl q.slot _ (by rw [<- qF];exact hc') hlt;simp [qf0]at this
 unfold qlG at h;split at h
 ·-- make
  rename_i t ro hop;split at h
  ·rename_i d kt vt hd hu;split at h
   ·rename_i τ hτ;split at h
    ·rename_i hc;obtain ⟨hn,hk,hci⟩:=hc;have hn':qV st.B (q9 d)=none:=by simpa using hn
     have hrv:RVL [.t (.mset τ) 0 []] [.mp []]:=qv.2 ⟨by simp [RV,RTy,hk],qaa⟩;obtain ⟨hR,hF⟩:=qm3 hs hn' (RVL.rc hrv) (λhlt=>absurd hlt (by unfold q9;omega));refine ⟨_,_,_,.mref ⟨s.L.length,q9 d⟩,_,h,?_,by simp [RV,hs.len],hR,hF,rfl,rfl⟩;have hci':qkh ys=true:=by
      unfold qml at hci;split at hci
      ·simp only [RVL]at hx;subst hx;rfl
      ·obtain ⟨v,rfl,hv⟩:=qc3 hx;simp only [RV,RTy]at hv;subst hv;rfl
      ·cases hci
     unfold mapStep;simp only [hop,hd,hu];rw [if_pos ⟨by rw [qei hs hn'];rfl,hci'⟩,hs.len]
    ·cases h
   ·cases h
  ·cases h
 ·-- look up
  rename_i t mo ko ok hop;split at h
  ·rename_i q x;split at h
   ·rename_i τ o' l kt vt hb hu;split at h
    ·rename_i hf;split at h
     ·rename_i o2 y hz hy;obtain ⟨v1,m1,rfl,hv1,hx⟩:=(by simpa only [RVL]using hx:∃v m,ys=v::m/\RV (.mref q) v/\∃v' m',m=v'::m'/\RV x v'/\m'=[])
      obtain ⟨v2,m2,rfl,hv2,rfl⟩:=hx;simp only [RV]at hv1;subst hv1;obtain ⟨hk,hbs,_⟩:=hset hb;obtain ⟨u,hlk,hru⟩:=qxi (ok:=ok) (l:=l) hu hf hz hy hv2;refine ⟨_,_,_,u,s,h,?_,hru,hs,Fr2.refl _ _,rfl,rfl⟩;unfold mapStep;simp only [hop,hbs,hlk,qi]
     ·cases h
    ·cases h
   ·cases h
  ·cases h
 ·rename_i t mo ko xo hop;split at h
  ·rename_i q x ob;split at h
   ·rename_i τ o' l kt vt hb hu;split at h
    ·rename_i hf;split at h
     ·rename_i y hy;obtain ⟨v1,m1,rfl,hv1,hx⟩:=(by simpa only [RVL]using hx:∃v m,ys=v::m/\RV (.mref q) v/\∃v' m',m=v'::m'/\RV x v'/\∃v'' m'',m'=v''::m''/\RV (.t .bool ob true) v''/\m''=[])
      obtain ⟨v2,m2,rfl,hv2,hx⟩:=hx;obtain ⟨v3,m3,rfl,hv3,rfl⟩:=hx;simp only [RV]at hv1;subst hv1;obtain ⟨hk,hbs,hsl⟩:=hset hb;have hup:=qr4 (l:=l) hu hf hy hv2 (by simpa only [RV,RTy]using hv3);have hrv:RVL [.t (.mset τ) 0 (qBd τ l y)] [.mp (kvs τ (qBd τ l y))]:=qv.2 ⟨by simp only [RV,RTy];exact ⟨hk,rfl⟩,qaa⟩;obtain ⟨hR,hF⟩:=qhh hs hb hrv (λhlt=>absurd hlt hsl);refine ⟨_,_,_,.undef,_,h,?_,qcj [],hR,hF,(qhl _ _ _).1,(qdy _ _ _).1⟩;unfold mapStep;simp only [hop,hbs,hup,qi]
     ·cases h
    ·cases h
   ·cases h
  ·cases h
 ·rename_i t mo ko xo hop;split at h
  ·rename_i q x ob;split at h
   ·rename_i τ o' l kt vt hb hu;split at h
    ·rename_i hf;split at h
     ·rename_i y hy;obtain ⟨v1,m1,rfl,hv1,hx⟩:=(by simpa only [RVL]using hx:∃v m,ys=v::m/\RV (.mref q) v/\∃v' m',m=v'::m'/\RV x v'/\∃v'' m'',m'=v''::m''/\RV (.t .bool ob true) v''/\m''=[])
      obtain ⟨v2,m2,rfl,hv2,hx⟩:=hx;obtain ⟨v3,m3,rfl,hv3,rfl⟩:=hx;simp only [RV]at hv1;subst hv1;obtain ⟨hk,hbs,hsl⟩:=hset hb;have hup:=qr4 (l:=l) hu hf hy hv2 (by simpa only [RV,RTy]using hv3);have hrv:RVL [.t (.mset τ) 0 (qBd τ l y)] [.mp (kvs τ (qBd τ l y))]:=qv.2 ⟨by simp only [RV,RTy];exact ⟨hk,rfl⟩,qaa⟩;obtain ⟨hR,hF⟩:=qhh hs hb hrv (λhlt=>absurd hlt hsl);refine ⟨_,_,_,.undef,_,h,?_,qcj [],hR,hF,(qhl _ _ _).1,(qdy _ _ _).1⟩;unfold mapStep;simp only [hop,hbs,hup,qi]
     ·cases h
    ·cases h
   ·cases h
  ·cases h
 ·rename_i args argTypes hop;split at h
  ·rename_i q;split at h
   ·rename_i τ o' l kt vt hb hu;split at h
    ·rename_i hm;obtain ⟨v,rfl,hv⟩:=qc3 hx;simp only [RV]at hv;subst hv;obtain ⟨hk,hbs,_⟩:=hset hb;refine ⟨_,_,_,.val (.int .i64 (kvs τ l).length),s,h,?_,by simp [RV,RTy,kvs],hs,Fr2.refl _ _,rfl,rfl⟩;unfold mapStep;simp only [hop,hbs,hu,hm,if_true]
    ·cases h
   ·cases h
  ·cases h
 ·cases h
theorem qyP(hO:OOk P H lib O){d:Option Tmp}{fv:TV}{fv':V}{args:List TV}{args':List V}{st:TSt}{s:St}{R:Type}{k:TV->TSt->Fp->Option R}{r:R}
  (hf:RV fv fv') (ha:RVL args args') (hs:Rst st s) (h:qwm O ctx d fv args st R k=some r) :
  ∃v st' fp u s',k v st' fp=some r/\Ev (λC=>qlt C d fv' args' s=some (u,s',fp)) P H lib/\RV v u/\Rst st' s'/\Fr2 st st' s s'/\st'.E=st.E/\s'.E=s.E:=by
 unfold qwm at h;split at h
 ·rename_i g first cap d;simp only [RV]at hf;obtain ⟨first',cap',rfl,hf1,hc1⟩:=hf;have hall:RVL (first++args++cap) (first'++args'++cap'):=(hf1.append ha).append hc1;split at h
  ·rename_i hc;simp only [qe,Option.isNone_iff_eq_none]at hc;obtain ⟨⟨⟨hk,hp⟩,htg⟩,hn⟩:=hc;have hpt:=RVL.ptrs_eq _ _ hk hall;have hp':(ptrsL (first'++args'++cap')).isEmpty=true:=by rw [hpt];exact hp
   have hl:=RVL.tight _ _ htg hall;have hshare:RVL (shareL (first++args++cap)) ((first'++args'++cap').map V.share):=by
    have:=RVL.share _ _ hall;rw [qaf]at this;exact this
   obtain ⟨x,τ,o,l,v,sl,hkx,hkt,hr,hom,hev⟩:=hO.born _ _ _ _ _ _ _ h hshare;have hrv:RVL [.t (.mset τ) o l] [.mp (kvs τ l)]:=qv.2 ⟨by simp only [RV,RTy];exact ⟨hkt,rfl⟩,qaa⟩;obtain ⟨hR,hF⟩:=qm3 hs hn (RVL.rc hrv) (λhlt=>absurd hlt (by unfold q9;omega));refine ⟨_,_,_,v.adopt ⟨s.L.length,q9 d⟩,_,hkx,hev.imp λC hC=>?_,?_,hR,hF,rfl,rfl⟩
   ·unfold qlt;simp only [hC];rw [if_pos (by simp only [qe,Bool.not_eq_true',Option.isNone_iff_eq_none];exact ⟨⟨hp',hl⟩,qei hs hn⟩),hs.len]
   ·rw [hs.len];exact (rv_adopt _ _ _ hom hr).1
  ·cases h
 ·cases h
theorem quV{n:Nat}{q:Root}{c:List TV}(l sl:Nat):qam (qwT n q c) l sl=if l=q.lvl/\sl=q.slot/\l<n then some (some c)else none:=by
 unfold qam qwT;simp only [List.getElem?_map];by_cases hl:l<n
 ·rw [List.getElem?_range hl];simp only [qi];by_cases h1:l=q.lvl
  ·rw [if_pos h1];simp only [qV];by_cases h2:q.slot=sl
   ·rw [if_pos h2,if_pos ⟨h1,h2.symm,hl⟩]
   ·rw [if_neg h2,if_neg (λe=>h2 e.2.1.symm)]
  ·rw [if_neg h1,if_neg (λe=>h1 e.1)];rfl
 ·rw [List.getElem?_eq_none (by simp;omega),if_neg (λe=>hl e.2.2)];rfl
theorem qof{n:Nat}{q:Root}{c:List V}(l sl:Nat):qat (qkf n q c) l sl=if l=q.lvl/\sl=q.slot/\l<n then some c else none:=by
 unfold qat qkf;simp only [List.getElem?_map];by_cases hl:l<n
 ·rw [List.getElem?_range hl];simp only [qi];by_cases h1:l=q.lvl
  ·rw [if_pos h1];simp only [qu];by_cases h2:q.slot=sl
   ·rw [if_pos h2,if_pos ⟨h1,h2.symm,hl⟩]
   ·rw [if_neg h2,if_neg (λe=>h2 e.2.1.symm)]
  ·rw [if_neg h1,if_neg (λe=>h1 e.1)];rfl
 ·rw [List.getElem?_eq_none (by simp;omega),if_neg (λe=>hl e.2.2)];rfl
theorem qxo(hO:OOk P H lib O){d:Tmp}{g:FuncId}{args:List TV}{args':List V}{q:Root}{st:TSt}{s:St}{R:Type}{k:TV->TSt->Option R}{r:R}
  (ha:RVL args args') (hs:Rst st s) (h:qxn O ctx d g args q st R k=some r) :
  ∃v st' u s',k v st'=some r/\Ev (λC=>qfK C g args' q s=some (u,s')) P H lib/\RV v u/\Rst st' s'/\Fr2 st st' s s'/\st'.E=st.E/\s'.E=s.E:=by
 unfold qxn at h;split at h
 ·rename_i τ o l hb;obtain ⟨c',hc',hcr⟩:=hs.box hb;obtain ⟨mv,rfl,hmv⟩:=qc3 hcr;simp only [RV,RTy]at hmv;obtain ⟨hkt,rfl⟩:=hmv;have hsl:¬ q.slot<16384:=λhlt=>by
   have:=hs.M.mp q.lvl q.slot _ (by rw [<- qF];exact hc') hlt;simp [qf0]at this
  have hLR:LR (qwT (st.L.length+1) q [.t (.mset τ) o l]) (qkf (s.L.length+1) q [.mp (l.map λx=>(qcn τ x,.bool true))]):=by
   refine ⟨by simp [qwT,qkf,hs.len],λl' sl=>?_,λb hb'=>?_,λl' sl c hc hlt=>?_⟩
   ·rw [quV,qof,hs.len];split
    ·exact ⟨_,rfl,hcr⟩
    ·rfl
   ·unfold qkf at hb';obtain ⟨x,_,rfl⟩:=List.mem_map.1 hb';split<;>simp
   ·rw [qof]at hc;split at hc
    ·rename_i e;exact absurd (by rw [<- e.2.1];exact hlt) hsl
    ·cases hc
  have hdull:RVL (dullL args) (args'.map V.hand):=ha.qpF qkb rfl;obtain ⟨x,N,wb,v,N',hkx,hr,hN,hlen,hfr,hev⟩:=hO.call _ _ _ _ _ _ _ _ _ h hdull hLR;split at hkx
  ·rename_i hc;simp only [qe,Bool.not_eq_true',List.isEmpty_iff]at hc;obtain ⟨⟨hkn,hp⟩,hown⟩:=hc;split at hkx
   ·rename_i τ' o' l' hlk;have hrel:=hN.rel q.lvl q.slot;rw [show qam N q.lvl q.slot=some (some [.t (.mset τ') o' l'])from hlk]at hrel;obtain ⟨c2,hc2,hcr2⟩:=hrel;obtain ⟨mv2,rfl,hmv2⟩:=qc3 hcr2;have hmv2':=hmv2;simp only [RV,RTy]at hmv2';obtain ⟨hkt2,rfl⟩:=hmv2';obtain ⟨hR,hF⟩:=qhh hs hb (qv.2 ⟨hmv2,qaa⟩) (λhlt=>absurd hlt hsl);have hvo:v.owns=false:=by
     cases hvo:v.owns with
     |false=>rfl
     |true=>rw [RV.owns x v hr hvo]at hown;cases hown
    refine ⟨x,_,v,_,hkx,hev.imp λC hC=>?_,hr,hR,hF,(qhl _ _ _).1,(qdy _ _ _).1⟩;unfold qfK;simp only [hc',hC];rw [if_pos (by rw [RV.ptrs_eq x v hkn hr,hp,hvo];rfl)];rw [show qwo N' q=qat N' q.lvl q.slot from rfl,hc2]
   ·cases hkx
  ·cases hkx
 ·cases h
theorem qpt{fv:TV}{fv':V}{g:FuncId}{a b:List TV}(h:RV (.fn g a b) fv'):qq7 H fv'=(H.seq g).isSome:=by
 simp only [RV]at h;obtain ⟨a',b',rfl,_⟩:=h;rfl
theorem qBw{d:Option Tmp}{fv:TV}{fv':V}{args:List TV}{args':List V}{st:TSt}{s:St}{R:Type}{k:TV->TSt->Fp->Option R}{r:R}
  (hf:RV fv fv') (ha:RVL args args') (hs:Rst st s) (h:qDm H d fv args st R k=some r) :
  ∃v st' fp u s',k v st' fp=some r/\Ev (λC=>qvV C d fv' args' s=some (u,s',fp)) P H lib/\RV v u/\Rst st' s'/\Fr2 st st' s s'/\st'.E=st.E/\s'.E=s.E:=by
 unfold qDm at h;split at h
 ·rename_i g first cap d;simp only [RV]at hf;obtain ⟨first',cap',rfl,hf1,hc1⟩:=hf;have hall:RVL (first++args++cap) (first'++args'++cap'):=(hf1.append ha).append hc1;split at h
  ·rename_i o1 str o2 sep hl;rw [hl]at hall;simp only [RVL,RV,RTy]at hall;obtain ⟨_,_,hl',rfl,_,_,rfl,rfl,rfl⟩:=hall;split at h
   ·rename_i clos hc;split at h
    ·rename_i hn;rw [Option.isNone_iff_eq_none]at hn;have hrv:RVL [.t .str 0 str] [.val (.string ⟨str.toArray⟩)]:=qv.2 ⟨by simp only [RV,RTy],qaa⟩;obtain ⟨hR,hF⟩:=qm3 hs hn (RVL.rc hrv) (λ_=>rfl);refine ⟨_,_,_,.fn clos [] [.cptr .shared [.val (.string ⟨sep.toArray⟩)],.ptr ⟨s.L.length,d⟩ 0,.cptr .shared [.val (.int .i64 0)]],_,h,⟨1,λm hm=>?_⟩,?_,hR,hF,rfl,rfl⟩
     ·obtain ⟨m',rfl⟩:∃m',m=m'+1:=⟨m-1,by omega⟩
      unfold qvV;simp only [hl',qnS,hc];rw [if_pos (by rw [Option.isNone_iff_eq_none];exact qei hs hn),hs.len]
     ·simp only [RV];exact ⟨[],_,rfl,qaa,qv.2 ⟨by simp only [RV];exact ⟨.shared,_,rfl,by simp,λ_=>rfl,qv.2 ⟨by simp only [RV,RTy],qaa⟩⟩,qv.2 ⟨by simp only [RV,hs.len],qv.2 ⟨by simp only [RV];exact ⟨.shared,_,rfl,by simp,λ_=>rfl,qv.2 ⟨by simp only [RV,RTy],qaa⟩⟩,qaa⟩⟩⟩⟩
    ·cases h
   ·cases h
  ·cases h
 ·cases h
theorem qjl{fv:TV}{fv':V}{g:FuncId}{a b:List TV}(h:RV (.fn g a b) fv'):qjk H fv'=H.born g:=by
 simp only [RV]at h;obtain ⟨a',b',rfl,_⟩:=h;rfl
theorem qzW(hO:OOk P H lib O){d:Option Tmp}{fv:TV}{fv':V}{args:List TV}{args':List V}{st:TSt}{s:St}{R:Type}{k:TV->TSt->Fp->Option R}{r:R}
  (hf:RV fv fv') (ha:RVL args args') (hs:Rst st s) (h:qzV H O ctx d fv args st R k=some r) :
  qic H fv' args'=true/\∃v st' fp u s',k v st' fp=some r/\Ev (λC=>qh7 H C d fv' args' s=some (u,s',fp)) P H lib/\RV v u/\Rst st' s'/\Fr2 st st' s s'/\st'.E=st.E/\s'.E=s.E:=by
 unfold qzV at h;split at h
 ·rename_i hbn;have hb':qjk H fv'=true:=by
   cases fv<;>first|(simp [qmk]at hbn;done)|(rw [qjl (fv:=.any []) hf];exact hbn)
  obtain ⟨v,st',fp,u,s',hk,hev,hr,hR,hF,e1,e2⟩:=qyP hO hf ha hs h;refine ⟨by unfold qic;rw [hb'];rfl,v,st',fp,u,s',hk,hev.imp λC hC=>?_,hr,hR,hF,e1,e2⟩;unfold qh7;rw [if_pos hb'];exact hC
 rename_i hbn;split at h
 ·rename_i hsq;have hb':qjk H fv'=false:=by
   cases fv<;>first|(simp [qq8]at hsq;done)|(rw [qjl (fv:=.any []) hf];simpa [qmk]using hbn)
  have hs':qq7 H fv'=true:=by
   cases fv<;>first|(simp [qq8]at hsq;done)|(rw [qpt (fv:=.any []) hf];exact hsq)
  obtain ⟨v,st',fp,u,s',hk,hev,hr,hR,hF,e1,e2⟩:=qBw (P:=P) (lib:=lib) hf ha hs h;refine ⟨by unfold qic;rw [hs',hb'];rfl,v,st',fp,u,s',hk,hev.imp λC hC=>?_,hr,hR,hF,e1,e2⟩;unfold qh7;rw [if_neg (by rw [hb'];simp),if_pos hs'];exact hC
 ·rename_i hsq;split at h
  ·rename_i g first cap q hq;have hb':qjk H fv'=false:=by
    rw [qjl (fv:=.any []) hf];simpa [qmk]using hbn
   have hs':qq7 H fv'=false:=by
    rw [qpt (fv:=.any []) hf];simpa [qq8]using hsq
   have hf':=hf;simp only [RV]at hf';obtain ⟨first',cap',rfl,hf1,hc1⟩:=hf';have hall:RVL (first++args++cap) (first'++args'++cap'):=(hf1.append ha).append hc1;have hkn:knownL (first++args++cap)=true:=by
    unfold qjB at hq;simp only at hq;split at hq
    ·assumption
    ·cases hq
   have hq':qg2 (.fn g first' cap') args'=some q:=by rw [qoo hkn hall];exact hq
   obtain ⟨v,st',u,s',hk,hev,hr,hR,hF,e1,e2⟩:=qxo hO hall hs h;refine ⟨by unfold qic;rw [hq'];simp,v,st',_,u,s',hk,hev.imp λC hC=>?_,hr,hR,hF,e1,e2⟩;unfold qh7;rw [if_neg (by rw [hb'];simp),if_neg (by rw [hs'];simp),hq'];simp only [hC,qi]
  ·cases h
theorem qwB{o:Oper}{xs:List TV}{ys:List V}{st:TSt}{s:St}{R:Type}{k:TV->TSt->Fp->Option R}{r:R}(hx:RVL xs ys)(hs:Rst st s)(h:qwA P H f o xs st R k=some r) :
  ∃v st' fp u s',k v st' fp=some r/\qc8 P H f o ys s=some (u,s',fp)/\RV v u/\Rst st' s'/\Fr2 st st' s s'/\st'.E=st.E/\s'.E=s.E:=by
 unfold qwA at h;split at h
 ·rename_i hmo;obtain ⟨v,st',fp,u,s',hk,hm,hr,hR,hF,e1,e2⟩:=qsL hx hs h;refine ⟨v,st',fp,u,s',hk,?_,hr,hR,hF,e1,e2⟩;unfold qc8;rw [if_pos (quZ hx hmo),hm]
 rename_i hmo;have hmo':¬ qcJ o.op ys=true:=λhm=>by
  obtain ⟨h1,h2⟩:=qu0 (P:=P) (H:=H) (f:=f) hx hmo hm;rw [h1]at h;simp only [h2]at h;cases h
 split at h
 ·rename_i hr;obtain ⟨z,c,u,c',hk,hsem,hrv,hbo⟩:=qr2 (ty:=o.type) (bx:=none) (bx':=none) hx True.intro (by simp) h;split at hk
  ·have hc':c'=none:=hbo;subst hc';have hr':rootOf o.op ys=none:=by
    cases ho:o.op<;>try rfl
    case load t a =>
     rw [ho]at h hr
     match xs,hx,h,hr with
     |[],hx,h,hr=>simp [qcz]at h
     |[x],hx,h,hr =>
      obtain ⟨v,rfl,hv⟩:=qc3 hx;cases x<;>simp only [qcz]at h<;>try (cases h;done)
      simp only [RV]at hv;obtain ⟨_,l',rfl,_⟩:=hv;rfl
     |x::y::xs,hx,h,hr =>
      cases x<;>simp [qcz]at h
    case store t a b =>
     rw [ho]at h hr
     match xs,hx,h,hr with
     |[],hx,h,hr=>simp [qcz]at h
     |[x],hx,h,hr=>cases x<;>simp [qcz]at h
     |[x,y],hx,h,hr =>
      cases x<;>simp only [qcz]at h<;>try (cases h;done)
     |x::y::z::xs,hx,h,hr=>cases x<;>simp [qcz]at h
   refine ⟨z,st,.none,u,s,hk,?_,hrv,hs,Fr2.refl _ _,rfl,rfl⟩;unfold qc8;rw [if_neg hmo',hr'];simp only [hsem]
  ·cases hk
 ·rename_i q hr;split at h
  ·cases h
  rename_i hslot;have hslot:q.slot<16384:=Nat.lt_of_not_le hslot;have hmpq:∀c,s.box q=some c->qf0 c=false:=λc hc=>hs.M.mp q.lvl q.slot c (by rw [<- qF];exact hc) hslot;obtain ⟨z,c,u,c',hk,hsem,hrv,hbo⟩:=qr2 (ty:=o.type) hx (hs.bx q) hmpq h;have hshape:rootOf o.op ys=some q/\qak P o.op ys=qb0 P o.op xs/\(∀p∈qlu o.op ys,p∈quB o.op xs)/\(∀d,c=some d->∃c0,st.box q=some c0):=by
   cases ho:o.op<;>rw [ho]at hr<;>try (simp [qkz]at hr;done)
   case load t a =>
    rw [ho]at h
    match xs,hx,h,hr with
    |[],hx,h,hr=>simp [qcz]at h
    |[x],hx,h,hr =>
     obtain ⟨v,rfl,hv⟩:=qc3 hx;cases x<;>simp only [qkz]at hr<;>try (cases hr;done)
     cases hr;simp only [RV]at hv;subst hv;refine ⟨rfl,rfl,λp hp=>by simp [qlu]at hp,λd _=>?_⟩;simp only [qcz]at h;split at h
     ·rename_i cs hcs;exact ⟨cs,hcs⟩
     ·cases h
    |x::y::xs,hx,h,hr=>cases x<;>simp [qcz]at h
   case store t a b =>
    rw [ho]at h
    match xs,hx,h,hr with
    |[],hx,h,hr=>simp [qcz]at h
    |[x],hx,h,hr=>cases x<;>simp [qcz]at h
    |[x,y],hx,h,hr =>
     cases x<;>simp only [qkz]at hr<;>try (cases hr;done)
     cases hr;simp only [RVL]at hx;obtain ⟨v,m,rfl,hv,v2,m2,rfl,hv2,rfl⟩:=hx;simp only [RV]at hv;subst hv;simp only [qcz]at h;split at h
     ·rename_i cs hcs;split at h
      ·rename_i hcond;obtain ⟨hcells,_⟩:=RV.cells hcond.2.2.2 hv2;refine ⟨rfl,?_,λp hp=>?_,λd _=>⟨cs,hcs⟩⟩
       ·simp only [qak,qb0,hcells.length]
       ·simp only [qlu]at hp;simp only [quB];exact RV.qp _ _ hv2 p hp
      ·cases h
     ·cases h
    |x::y::z::xs,hx,h,hr=>cases x<;>simp [qcz]at h
  obtain ⟨hroot,hrange,hwp,hbx⟩:=hshape;split at hk
  ·have hc':c'=none:=hbo;subst hc';refine ⟨z,st,_,u,s,hk,?_,hrv,hs,Fr2.refl _ _,rfl,rfl⟩;unfold qc8;rw [if_neg hmo',hroot];simp only [hsem,hrange]
  ·rename_i d;obtain ⟨d',rfl,hd⟩:=hbo;split at hk
   ·rename_i hcond;obtain ⟨c0,hc0⟩:=hbx d rfl;obtain ⟨hR,hF⟩:=qhh hs hc0 hd (λ_=>qzu hroot hmpq hsem);refine ⟨z,_,_,u,s.qo q d',hk,?_,hrv,hR,hF,(qhl st q d).1,(qdy s q d').1⟩;unfold qc8;rw [if_neg hmo',hroot];simp only [hsem,hrange];rw [if_pos];simp only [qe,List.all_eq_true,decide_eq_true_eq]at hcond ⊢;exact ⟨λp hp=>hcond.1 p (hwp p hp),by rw [hd.length];exact hcond.2⟩
   ·cases hk
end
section
variable {P:Program} {H:Hints} {J:TH} {T:qoZ} {O:TOrc} {lib:FuncId->Option (List V->Option V)} {f:FuncId} {ctx:List Tmp}
theorem qu1(p:Bool)(u:Value):qf0 (ofConst p u).cells=false:=by
 have h0:∀u,qf0 [qcu p u]=false:=λu=>by
  unfold qcu;split
  ·unfold qd9;split<;>rfl
  ·rfl
 have h1:∀u,qf0 (qcu p u).cells=false\/(∃cs,u=.agg cs):=λu=>by
  unfold qcu;split
  ·left;unfold qd9;split<;>rfl
  ·left;rfl
 by_cases hu:∃cs,u=.agg cs
 ·obtain ⟨cs,rfl⟩:=hu;show qf0 (cs.toList.map (qcu p))=false;cases cs.toList with
  |nil=>rfl
  |cons x l=>rw [qh,qfs (m:=[])];exact h0 x
 ·have e:ofConst p u=qcu p u:=by
   unfold ofConst;split
   ·exact absurd ⟨_,rfl⟩ hu
   ·rfl
  rw [e];rcases h1 u with h2|h2
  ·exact h2
  ·exact absurd h2 hu
theorem qmn{c:List V}(h:q6 c=false):q6 (c.map V.qdH)=false:=by
 match c with
 |[]=>rfl
 |x::l =>
  simp only [qh];unfold V.qdH;split
  ·rfl
  ·cases x<;>first|rfl|(simp [q6]at h)
theorem qq6{c:List V}(h:qf0 c=false):qf0 (c.map V.qdH)=false:=by
 match c with
 |[]=>rfl
 |x::l =>
  simp only [qh];unfold V.qdH;split
  ·rfl
  ·cases x<;>first|rfl|(simp [qf0]at h)
theorem qtt{ys:List V}:∀{p:Path} {v u:V},qqm ys p v=some u->∃c l,u=.sl .own c l:=by
 intro p v u h;unfold qqm at h;split at h
 ·cases h
 ·split at h
  ·split at h
   ·split at h
    ·split at h
     ·cases h;exact ⟨_,_,rfl⟩
     ·cases h
    ·split at h
     ·obtain ⟨z,_,rfl⟩:=qc.1 h;exact ⟨_,_,rfl⟩
     ·cases h
   ·cases h
  ·cases h
 ·cases h
theorem qzb{c:List V}{i:Nat}{u:V}(h:qf0 c=false)(hu:qf0 [u]=false):qf0 (c.set i u)=false:=by
 cases c with
 |nil=>rfl
 |cons x l=>cases i with
  |zero=>rw [List.set_cons_zero,qfs (m:=[])];exact hu
  |succ n=>rw [List.set_cons_succ,qfs (m:=l)];exact h
theorem qyf(hT:TOk P H lib T)(hO:OOk P H lib O){o:Oper}{xs:List TV}{ys:List V}{st:TSt}{s:St}{R:Type}{k:TV->TSt->Fp->Option R}{r:R}(hx:RVL xs ys)(hs:Rst st s)
  (h:qlc P H J T O ctx f o xs st R k=some r) :
  ∃v st' fp u s',k v st' fp=some r/\Ev (λC=>qbr P H C f o ys s=some (u,s',fp)) P H lib/\RV v u/\Rst st' s'/\Fr2 st st' s s'/\st'.E=st.E/\s'.E=s.E:=by
 rcases qe6 o.op with ⟨t,hop⟩|⟨t,a,hop⟩|⟨c,fo,hop,hc⟩|hd
 ·unfold qlc at h;simp only [hop]at h;split at h
  ·rename_i d z hd hz;split at h
   ·rename_i hn;have hn':qV st.B d=none:=by simpa using hn
    obtain ⟨z',hz',_,hcz⟩:=qhS hz;have hmz:qf0 z'.cells=false:=by
     obtain ⟨i,u,_,_,rfl⟩:=qc6 hz';exact qu1 _ u
    obtain ⟨hR,hF⟩:=qm3 hs hn' (RVL.rc hcz) (λ_=>hmz);refine ⟨_,_,_,.ptr ⟨s.L.length,d⟩ 0,_,h,.of λC=>?_,by simp [RV,hs.len],hR,hF,rfl,rfl⟩;unfold qbr;simp only [hop,hd,hz'];rw [if_pos (by rw [qei hs hn'];rfl),hs.len]
   ·cases h
  ·cases h
 ·unfold qlc at h;simp only [hop]at h;split at h
  ·rename_i d x hd;split at h
   ·rename_i hn;have hn':qV st.B d=none:=by simpa using hn.1
    obtain ⟨v,rfl,hv⟩:=qc3 hx;obtain ⟨hcells,hok⟩:=RV.cells hn.2.2 hv;obtain ⟨hR,hF⟩:=qm3 hs hn' (RVL.rc hcells) (λ_=>qtU hok);refine ⟨_,_,_,.ptr ⟨s.L.length,d⟩ 0,_,h,.of λC=>?_,by simp [RV,hs.len],hR,hF,rfl,rfl⟩;unfold qbr;simp only [hop,hd];rw [if_pos ⟨by rw [qei hs hn'];rfl,by rw [hcells.length];exact hn.2.1,hok⟩,hs.len]
   ·cases h
  ·cases h
 ·rw [qti hop hc]at h;cases xs with
  |nil=>cases h
  |cons fv args =>
   simp only [RVL]at hx;obtain ⟨fv',args',rfl,hfv,ha⟩:=hx;simp only at h;cases hbn:qpu H fv args with
   |true =>
    rw [if_pos hbn]at h;obtain ⟨hb',v,st',fp,u,s',hk,hev,hr,hR,hF,e1,e2⟩:=qzW hO hfv ha hs h;refine ⟨v,st',fp,u,s',hk,hev.imp λC hC=>?_,hr,hR,hF,e1,e2⟩;rw [qbh hop hc];simp only [hb',if_true];exact hC
   |false =>
    rw [if_neg (by rw [hbn];simp)]at h;simp only [qpu,Bool.or_eq_false_iff]at hbn;have hb':qic H fv' args'=false:=by
     have h':=h;unfold qnX at h';split at h'
     ·rename_i g first cap;split at h'
      ·rename_i hkn;have hbn1:qjk H fv'=false:=by rw [qjl (fv:=.any []) hfv];exact hbn.1
       have hbn2:qq7 H fv'=false:=by rw [qpt (fv:=.any []) hfv];exact hbn.2.1
       have hf':=hfv;simp only [RV]at hf';obtain ⟨first',cap',rfl,hf1,hc1⟩:=hf';unfold qic;rw [hbn1,hbn2,qoo hkn ((hf1.append ha).append hc1),hbn.2.2];rfl
      ·cases h'
     ·have hf':=hfv;simp only [RV]at hf';subst hf';rfl
     ·cases h'
    obtain ⟨v,st',u,s',hk,hev,hr,hR,hF,e1,e2,hp⟩:=qqB hT hO hfv ha hs h;refine ⟨v,st',_,u,s',hk,hev.imp λC hC=>?_,hr,hR,hF,e1,e2⟩;rw [qbh hop hc];obtain ⟨hC,hlk⟩:=hC;simp only [hb',qf,if_false,hC,qi];rw [<- hp,hlk]
 ·rw [qtj hd]at h;obtain ⟨v,st',fp,u,s',hk,hm,hr,hR,hF,e1,e2⟩:=qwB hx hs h;exact ⟨v,st',fp,u,s',hk,.of λC=>by rw [qZ hd];exact hm,hr,hR,hF,e1,e2⟩
theorem qsx{E:Env}{E':List V}(h:RVL E.toL E')(t:Nat):RV (E.get t) (E'.getD t .undef):=by rw [qlC];exact h.getD t
theorem qzH{o:Oper}{E:Env}{E':List V}(h:RVL E.toL E')(x:Operand):RV (rdT H f o E x) (rd H f o E' x):=by
 cases x with
 |tmp t =>
  simp only [rdT,rd];split
  ·exact qsx h t
  ·exact (qsx h t).qab
 |const v=>exact quj _ _
 |global g=>exact qcj []
 |func g=>simp [rdT,rd,RV,RVL]
theorem qAE{o:Oper}{E:Env}{E':List V}(h:RVL E.toL E'):∀l:List Operand,RVL (l.map (rdT H f o E)) (l.map (rd H f o E'))
 |[]=>qaa
 |x::l=>qv.2 ⟨qzH h x,qAE h l⟩
theorem qi9:∀(ts:List Tmp) {E:Env} {E':List V},RVL E.toL E'->RVL (qbE E ts).toL (qx E' ts)
 |[],E,E',h=>h
 |t::ts,E,E',h=>by
  have h1:RVL (E.set t (E.get t).qab).toL (E'.modify t V.qab):=by
   rw [qoR];refine qel (by simp [h.length]) λi x v hx hv=>?_;rw [List.getElem?_modify]at hx hv;obtain ⟨y,hy,rfl⟩:=qc.1 hx;obtain ⟨u,hu,rfl⟩:=qc.1 hv;obtain ⟨u2,hu2,hr⟩:=h.get hy;rw [hu]at hu2;cases hu2;by_cases e:t=i
   ·simp only [e,if_true];exact hr.qab
   ·simp only [if_neg e];exact hr
  exact qi9 ts h1
theorem qqK{ts:List Tmp}{t:Nat}(h:t∉ts):∀E:List V,(qx E ts)[t]?=E[t]?:=by
 induction ts with
 |nil=>intro E;rfl
 |cons u ts ih =>
  intro E;simp only [qk,not_or]at h;have e:qx E (u::ts)=qx (E.modify u V.qab) ts:=rfl;rw [e,ih h.2,List.getElem?_modify];simp [Ne.symm h.1]
theorem qso(ts:List Tmp)(E:List V):(qx E ts).length=E.length:=qa0 ts E
theorem qha{st:TSt}{s:St}(hs:Rst st s)(d:Option Tmp){v:TV}{u:V}(hv:RV v u):Rst (st.put d v) (s.put d u)/\Fr2 st (st.put d v) s (s.put d u):=by
 cases d with
 |none=>exact ⟨hs,Fr2.refl _ _⟩
 |some t =>
  refine ⟨⟨by show RVL (st.E.set t v).toL _;rw [qdr];exact hs.E.set t hv,hs.M⟩,⟨λx hx=>by simp [TSt.put,hx],λr hr=>hr,λx hx=>.inl ?_,λx hx rs hE=>⟨rs,?_⟩,λr hr=>.inl rfl,λr hr h=>h,rfl,by simp [St.put]⟩⟩
  case refine_2 =>
   simp only [TSt.put,Mask.mem_ins,not_or]at hx;simp only [TSt.put,qdr]at hE
   rwa [List.getElem?_set_ne (Ne.symm hx.1)]at hE
  simp only [TSt.put,Mask.mem_ins,not_or]at hx;simp only [St.put];rw [List.getElem?_set_ne (Ne.symm hx.1)]
theorem ql4{E:Env}{E':List V}(h:RVL E.toL E'){ts:List Tmp}{t:Nat}(ht:t∉ts.filter (λt=>(E.get t).owns)):(qx E' ts)[t]?=E'[t]?:=by
 rw [qfp];split
 ·rename_i hm;have hno:(E.get t).owns=false:=by
   cases hh:(E.get t).owns with
   |false=>rfl
   |true=>exact absurd (List.mem_filter.2 ⟨hm,hh⟩) ht
  cases hv:E'[t]? with
  |none=>rfl
  |some v =>
   have hr:=qsx h t;rw [List.getD_eq_getElem?_getD (l:=E'),hv]at hr;simp only [qi,qb];refine dull_of_owns v ?_;cases ho:v.owns with
   |false=>rfl
   |true=>have:=RV.owns _ _ hr ho;rw [hno]at this;cases this
 ·rfl
theorem qyX{x:TV}{rs:List Root}(h:x.qab=.any rs):x=.any rs:=by
 cases x with
 |room a s=>rcases a with _|a<;>simp [TV.qab]at h
 |_=>simp_all [TV.qab]
theorem qfW:∀(T:List Tmp) (E:Env) (t:Nat) (rs:List Root),(qbE E T).toL[t]?=some (.any rs)->∃rs',E.toL[t]?=some (.any rs')
 |[],E,t,rs,h=>⟨rs,h⟩
 |s::T,E,t,rs,h=>by
  have h':(qbE (E.set s (E.get s).qab) T).toL[t]?=some (.any rs):=h;obtain ⟨rs',h1⟩:=qfW T _ t rs h';rw [qoR,List.getElem?_modify]at h1;cases hE:E.toL[t]? with
  |none=>rw [hE]at h1;cases h1
  |some x =>
   rw [hE]at h1;simp only [Option.map_eq_map,qi,qb]at h1;split at h1
   ·exact ⟨rs',by rw [qyX h1]⟩
   ·exact ⟨rs',by rw [h1]⟩
theorem qkG(hT:TOk P H lib T)(hO:OOk P H lib O){o:Oper}{st:TSt}{s:St}{R:Type}{k:TSt->Fp->Option R}{r:R}(hs:Rst st s)(h:qiP P H J T O ctx f o st R k=some r) :
  ∃st' fp s',k st' fp=some r/\Ev (λC=>qd3 P H C f o s=some (s',fp)) P H lib/\Rst st' s'/\Fr2 st st' s s'/\∀t:Nat,t∉tmpsOf o->o.dst≠some t->s'.E[t]?=s.E[t]?:=by
 unfold qiP at h;split at h
 ·cases h
 ·rename_i hn;have hs1:Rst (if qah H f o=true then {st with E:=qbE st.E (tmpsOf o),Wt:=Mask.ofList ((tmpsOf o).filter (λt=>(st.E.get t).owns))++st.Wt}else st) (if qah H f o=true then {s with E:=qx s.E (tmpsOf o)}else s) /\
    Fr2 st (if qah H f o=true then {st with E:=qbE st.E (tmpsOf o),Wt:=Mask.ofList ((tmpsOf o).filter (λt=>(st.E.get t).owns))++st.Wt}else st) s (if qah H f o=true then {s with E:=qx s.E (tmpsOf o)}else s):=by
   split
   ·refine ⟨⟨qi9 _ hs.E,hs.M⟩,⟨λt ht=>by simp [ht],λr hr=>hr,λt ht=>.inl ?_,λt ht rs hE=>?_,λr hr=>.inl rfl,λr hr h=>h,rfl,qso _ _⟩⟩
    ·simp only [Mask.mem_append,Mask.mem_ofList,not_or]at ht;exact ql4 hs.E ht.1
    ·exact qfW _ _ _ _ hE
   ·exact ⟨hs,Fr2.refl _ _⟩
  obtain ⟨v,st',fp,u,s',hk,hev,hr,hR,hF,e1,e2⟩:=qyf hT hO (qAE hs.E _) hs1.1 h;obtain ⟨hR2,hF2⟩:=qha hR o.dst hr;refine ⟨_,fp,_,hk,hev.imp λC hC=>?_,hR2,(hs1.2.trans hF).trans hF2,λt h1 h2=>?_⟩
  ·unfold qd3;rw [if_neg hn,hC];rfl
  ·have h3:(s'.put o.dst u).E[t]?=s'.E[t]?:=by
    unfold St.put;cases hd:o.dst with
    |none=>rfl
    |some d =>
     simp only
     rw [List.getElem?_set_ne];rintro rfl;exact h2 hd
   rw [h3,e2];split
   ·exact qqK h1 s.E
   ·rfl
theorem qsw{ops:Array Oper}{o:Oper}{st:TSt}{s:St}{R:Type}{yes no:TSt->Option R}{r:R}(hs:Rst st s)(h:qsv ops o st R yes no=some r) :
  ∃st1 b,qcp ops s.E o=some b/\Rst st1 s/\Fr2 st st1 s s/\(if b then yes st1 else no st1)=some r:=by
 unfold qsv at h;unfold qcp;split at h
 ·rename_i hg;rw [hg];exact ⟨st,true,rfl,hs,Fr2.refl _ _,h⟩
 ·rename_i j want hg;rw [hg];simp only
  split at h
  ·rename_i t ht;rw [ht];simp only
   split at h
   ·rename_i o' b hb;obtain ⟨v,hv,hr⟩:=hs.E.get (some_get hb (by simp));simp only [RV,RTy]at hr;subst hr;rw [hv];have hset:∀c,b=c->Rst ({st with E:=st.E.set t (.t .bool 0 c)}:TSt) s:=λc hc=>⟨by
     rw [qdr];refine qhg hs.E t λu hu=>?_;rw [hv]at hu;cases hu;simp [RV,RTy,hc],hs.M⟩
    have hfr:∀c,Fr2 st ({st with E:=st.E.set t (.t .bool 0 c)}:TSt) s s:=λc=>⟨λx hx=>hx,λx hx=>hx,λx hx=>.inl rfl,λx hx rs hE=>⟨rs,by
     simp only [qdr,List.getElem?_set]at hE;split at hE
     ·split at hE<;>cases hE
     ·exact hE⟩,λx hx=>.inl rfl,λx hx h=>h,rfl,rfl⟩
    cases b with
    |true =>
     simp only [cond_true]at h;refine ⟨_,(true==want),rfl,hset true rfl,hfr true,?_⟩;cases want<;>exact h
    |false =>
     simp only [cond_false]at h;refine ⟨_,(false==want),rfl,hset false rfl,hfr false,?_⟩;cases want<;>exact h
   ·rename_i vs hb;obtain ⟨v,hv,hr⟩:=hs.E.get (some_get hb (by simp));simp only [RV]at hr;subst hr;rw [hv];split at h
    ·rename_i h0;exact ⟨st,false,by simp only [h0,if_true],hs,Fr2.refl _ _,h⟩
    ·cases h
   ·cases h
  ·cases h
def qiH(p:List (Int×Nat×Nat)):Path:=p.map λe=>(e.1.toNat,e.2.1,e.2.2)
theorem qwZ{E:Env}{E':List V}(h:RVL E.toL E'){i:Operand}{n:Int}(hi:qqZ E i=some n)(h0:0<=n):idxOf E' i=some n.toNat:=by
 cases i with
 |tmp t =>
  simp only [qqZ]at hi;obtain ⟨k,hk⟩:=qnv hi (qsx h t);simp only [idxOf,hk];exact qfB h0
 |const v =>
  simp only [qqZ]at hi;split at hi
  ·cases hi;simp only [idxOf];exact qfB h0
  ·cases hi
 |_=>simp [qqZ]at hi
theorem qhz{ops:Array Oper}{E:Env}{E':List V}(h:RVL E.toL E'):∀(n k:Nat) (d:Tmp) (rt:Rt) (p:List (Int×Nat×Nat)) (ptr:Bool),qf9 P H f ops E n k d=some (rt,p,ptr)->(∀e∈p,0<=e.1)->qbp P H f ops E' n k d=some (rt,qiH p,ptr):=by
 intro n;induction n with
 |zero=>intro k d rt p ptr hx;simp [qf9]at hx
 |succ n ih =>
  intro k d rt p ptr hx h0;simp only [qf9]at hx;simp only [qbp];split at hx
  ·rename_i hl;rw [if_pos hl];simp only [qb,Prod.mk.injEq]at hx;obtain ⟨rfl,rfl,rfl⟩:=hx;rfl
  ·rename_i hl;rw [if_neg hl];cases hc:qnI ops k d with
   |none=>rw [hc]at hx;cases hx
   |some c =>
    rw [hc]at hx;try simp only at hx ⊢
    cases hop:(ops[c]?).map Oper.op with
    |none=>rw [hop]at hx;cases hx
    |some op =>
     rw [hop]at hx;try simp only at hx ⊢
     split at hx
     ·rename_i a heq;cases heq;exact ih _ _ _ _ _ hx h0
     ·rename_i t a i heq;cases heq;try simp only
      split at hx
      ·rename_i r q j elem hq hj hu;simp only [qb,Prod.mk.injEq]at hx;obtain ⟨rfl,rfl,rfl⟩:=hx;rw [ih _ _ _ _ _ hq (λe he=>h0 e (by simp [he])),qwZ h hj (h0 (j,0,P.cellsOf elem) (by simp)),hu];rfl
      ·cases hx
     ·rename_i t a fd heq;cases heq;try simp only
      split at hx
      ·rename_i r j o s q o' hq ho';simp only [qb,Prod.mk.injEq]at hx;obtain ⟨rfl,rfl,rfl⟩:=hx;rw [ih _ _ _ _ _ hq (λe he=>by
        rcases qk.1 he with rfl|he
        ·exact h0 (j,o+o',s) (by simp)
        ·exact h0 e (by simp [he])),ho']
       rfl
      ·cases hx
     ·rename_i t a heq;cases heq;try simp only
      split at hx
      ·cases hx
      ·rename_i hag;rw [if_neg hag];split at hx
       ·rename_i hla;rw [if_pos hla];split at hx
        ·rename_i r q hq;simp only [qb,Prod.mk.injEq]at hx;obtain ⟨rfl,rfl,rfl⟩:=hx;rw [ih _ _ _ _ _ hq h0]
        ·cases hx
       ·rename_i hla;rw [if_neg hla];split at hx
        ·rename_i r off hE;simp only [qb,Prod.mk.injEq]at hx;obtain ⟨rfl,rfl,rfl⟩:=hx;have:=qsx h a;rw [hE]at this;simp only [RV]at this;rw [this];rfl
        ·cases hx
     ·cases hx
theorem qvs{τ:Ty}(he:τ.qbR=true){o:Nat}{e:τ.den}{b:V}(hr:RTy τ o e b){cs:List TV}{cs':List V}(hc:RVL cs cs')(hlen:cs.length=τ.qbl)(h0:τ.qbl≠0):RV (qm9 (ofTy τ o e) cs) (qdb b cs'):=by
 have hd:∀(hone:τ.qbl=1),RV (cs.headD (.any [])) (cs'.headD .undef):=λ_=>by
  cases hc':cs with
  |nil=>rw [hc']at hlen;simp at hlen;omega
  |cons x l =>
   rw [hc']at hc;simp only [RVL]at hc;obtain ⟨v,m,rfl,h1,_⟩:=hc;exact h1
 cases τ with
 |int k=>simp only [RTy]at hr;subst hr;exact hd rfl
 |bool=>simp only [RTy]at hr;subst hr;exact hd rfl
 |str=>simp only [RTy]at hr;subst hr;exact hd rfl
 |flt=>simp only [RTy]at hr;obtain ⟨_,rfl,_⟩:=hr;exact hd rfl
 |cx=>simp only [RTy]at hr;obtain ⟨_,_,rfl,_⟩:=hr;exact hd rfl
 |err=>simp only [RTy]at hr;rcases hr with ⟨_,rfl⟩|⟨_,t9,rfl⟩<;>exact hd rfl
 |mset t=>simp [Ty.qbR]at he
 |sl t=>simp only [RTy]at hr;obtain ⟨f,c,l',rfl,_⟩:=hr;exact hd rfl
 |nsl t=>simp only [RTy]at hr;rcases hr with ⟨_,rfl⟩|⟨_,f,c,l',rfl,_⟩<;>exact hd rfl
 |unit=>exact absurd rfl h0
 |pair a b' =>
  simp only [RTy]at hr;obtain ⟨v1,l,rfl,_⟩:=hr;simp only [ofTy,qm9,qdb,RV];exact ⟨cs',rfl,hc⟩
theorem qty{α β:Type}{R:α->β->Prop}{l:List α}{l':List β}(h:All2 R l l'):∀(i:Nat) {a:α} {b:β},R a b->All2 R (l.set i a) (l'.set i b):=by
 induction h with
 |nil=>intro i a b _;exact .nil
 |cons h1 h2 ih =>
  intro i a b hab;cases i with
  |zero=>exact .cons hab h2
  |succ i=>exact .cons h1 (ih i hab)
theorem qyC{ys:List TV}{ys':List V}(hy:RVL ys ys'):∀(p:List (Int×Nat×Nat)) (x:TV) (v:V) {R:Type} {k:TV->Option R} {r:R},qAO ys p x R k=some r->RV x v ->
  (∀e∈p,0<=e.1)/\∃y u,k y=some r/\qqm ys' (qiH p) v=some u/\RV y u:=by
 intro p;induction p with
 |nil=>intro x v R k r h;unfold qAO at h;cases h
 |cons q p ih =>
  obtain ⟨i,o,s⟩:=q;intro x v R k r h hx;by_cases hxs:∃τ lv l,x=.t (.sl τ) lv l
  ·obtain ⟨τ,lv,l,rfl⟩:=hxs;unfold qAO at h;split at h
   ·rename_i hc;obtain ⟨hown,hcl,hs0,hok,hel⟩:=hc;obtain ⟨e,he,h⟩:=qd.1 h;obtain ⟨h0,hget⟩:=qlD he;simp only [RV,RTy]at hx;obtain ⟨fl,c,l',rfl,hfl,hall⟩:=hx;have hf:fl=.own:=hfl.own hown;subst hf;obtain ⟨b,hb,hr⟩:=hall.get hget;obtain ⟨hbl,hbo⟩:=qkA hel hr;have hcells:=(RV.cells (qpI hel (nx lv) e) (rv_ofTy τ (nx lv) e b hr)).1;have hcl2:(ofTy τ (nx lv) e).cells.length=τ.qbl:=by rw [<- hcells.length,hbl]
    have hn0:τ.qbl≠0:=by rw [hcl];exact hs0
    have hfin:∀(cs:List TV) (cs':List V) (e':τ.den),RVL cs cs'->cs.length=τ.qbl->qd5 τ (nx lv) (qm9 (ofTy τ (nx lv) e) cs)=some e' ->
      RV (.t (.sl τ) lv (l.set i.toNat e')) (.sl .own c (l'.set i.toNat (qdb b cs'))):=λcs cs' e' hcs hlen has=>by
     have:=qcT _ _ _ _ _ has (qvs hel hr hcs hlen hn0);simp only [RV,RTy];exact ⟨.own,c,_,rfl,qeu hown,qty hall _ this⟩
    cases p with
    |nil =>
     simp only at h;split at h
     ·rename_i hle;split at h
      ·rename_i e' has;have hsp:=qjS (off:=o) hcells hy;refine ⟨by simp [h0],_,_,h,?_,hfin _ _ e' hsp ?_ has⟩
       ·simp only [qiH,qh,List.map_nil,qqm];rw [hb];simp only
        rw [if_pos ⟨by rw [hbl,hcl],hbo⟩,if_pos (by rw [hy.length];exact hle)]
       ·rw [<- hsp.length,qbQ (by rw [hy.length,hbl,hcl];exact hle),hbl]
      ·cases h
     ·cases h
    |cons q2 p2 =>
     simp only at h;split at h
     ·rename_i z hz;obtain ⟨z',hz',hrz⟩:=hcells.get hz;obtain ⟨h1,y,u,hk,hupd,hyu⟩:=ih z z' h hrz;split at hk
      ·rename_i e' has;have hset:=hcells.set o hyu;refine ⟨λe he=>?_,_,_,hk,?_,hfin _ _ e' hset (by simp [hcl2]) has⟩
       ·rcases qk.1 he with rfl|he
        ·exact h0
        ·exact h1 e he
       ·have hpv:qiH ((i,o,s)::q2::p2)=(i.toNat,o,s)::qiH (q2::p2):=rfl;have hpn:qiH (q2::p2)=(q2.1.toNat,q2.2.1,q2.2.2)::qiH p2:=rfl;rw [hpv];rw [hpn]at hupd ⊢;unfold qqm;rw [hb];simp only
        rw [if_pos ⟨by rw [hbl,hcl],hbo⟩,hz'];simp only
        rw [hupd];rfl
      ·cases hk
     ·cases h
   ·cases h
  ·exfalso
   cases x with
   |t τ lv l =>
    cases τ with
    |sl τ=>exact hxs ⟨τ,lv,l,rfl⟩
    |_=>simp [qAO]at h
   |_=>simp [qAO]at h
theorem qBu{x:TV}{v:V}(h:RV x v):RV x.qdH v.qdH:=by
 unfold TV.qdH V.qdH;cases hf:x.firm with
 |true =>
  rw [RV.firm x v hf h];simpa using h
 |false =>
  simp only [qf,if_false];split
  ·exact qcj _
  ·simp only [RV];exact ⟨λr hr=>RV.qp x v h r hr,qaF (qv.2 ⟨h,qaa⟩)⟩
theorem qjM:∀{l:List TV} {l':List V},RVL l l'->RVL (l.map TV.qdH) (l'.map V.qdH)
 |[],l',h=>by simp only [RVL]at h;subst h;exact qaa
 |x::l,l',h=>by
  simp only [RVL]at h;obtain ⟨v,m,rfl,h1,h2⟩:=h;exact qv.2 ⟨qBu h1,qjM h2⟩
theorem quk:∀{l:List TV} {l':List V},RVL l l'->l.all TV.firm=true->l'.map V.qdH=l'
 |[],l',h,_=>by simp only [RVL]at h;subst h;rfl
 |x::l,l',h,hf=>by
  simp only [RVL]at h;obtain ⟨v,m,rfl,h1,h2⟩:=h;simp only [List.all_cons,qe]at hf;simp only [qh];rw [quk h2 hf.2];have:v.qdH=v:=by unfold V.qdH;rw [RV.firm x v hf.1 h1];rfl
  rw [this]
theorem qyc{E:Env}{i:Nat}{x:TV}(h:E.toL[i]?=some x)(hf:x.firm=false)(ha:x.isAny=false):i∈qBy E :=
 qzm (by simp [TV.isAny]) h (by simp [hf,ha])
theorem qjQ:∀{b:qC} {k:Nat} {c:List TV},qV b k=some (some c)->c.all TV.firm=false->(⟨0,k⟩:Root)∈qte b
 |[],k,c,h,_=>by simp [qV]at h
 |(k',none)::b,k,c,h,hf=>by
  simp only [qV]at h;split at h
  ·cases h
  ·simp only [qte];exact qjQ h hf
 |(k',some d)::b,k,c,h,hf=>by
  simp only [qV]at h;simp only [qte];split at h
  ·rename_i e;cases h;rw [hf];simp [e]
  ·split
   ·exact qjQ h hf
   ·exact List.mem_cons_of_mem _ (qjQ h hf)
theorem qfw(s:Nat):∀b:qC,qV (qwS b) s=(qV b s).map (Option.map (List.map TV.qdH))
 |[]=>rfl
 |(k,c)::b=>by
  simp only [qwS,qh,qV];split
  ·rfl
  ·exact qfw s b
theorem qsN{x:TV}(h:x.isAny=true):∃rs,x=.any rs:=by cases x<;>first|exact ⟨_,rfl⟩|(simp [TV.isAny]at h)
def qkB(s:St)(T:List Tmp):St:={s with E:=(qx s.E T).map V.qdH,B:=qjh s.B}
theorem qgR{st:TSt}(hL:st.L=[])(r:Root):st.cont r=if r.lvl=0 then (match qV st.B r.slot with|some (some c)=>some c|_=>none)else none:=by
 unfold TSt.cont;rw [hL];simp only [List.length_nil];by_cases h:r.lvl=0
 ·rw [if_pos h,if_pos h];cases qV st.B r.slot with
  |none=>rfl
  |some o=>cases o<;>rfl
 ·rw [if_neg h,if_neg h];simp
theorem qhD{b:qC}(h:qmK b=true){k:Nat}{c:List TV}(hl:qV b k=some (some c)):isRec c=false:=by
 unfold qmK at h;rw [List.all_eq_true]at h;have:=h _ (qcZ hl);simpa using this
theorem qkC{st:TSt}{s:St}(h:Rst st s)(hL:st.L=[])(hn0:qmK st.B=true)(T:List Tmp):s.L=[]/\qgf s.B=true/\Rst (st.qbU T) (qkB s T)/\Fr2 st (st.qbU T) s (qkB s T):=by
 have hL':s.L=[]:=List.eq_nil_of_length_eq_zero (by rw [h.len,hL];rfl);have hB:∀k,RB (qV st.B k) (qu s.B k):=λk=>by
  have:=h.M.rel 0 k;unfold qam qat at this;simpa [TSt.all,qcH,hL,hL']using this
 have hnd:(s.B.map (·.1)).Nodup:=h.M.nd s.B (by simp [qcH]);have hlp:∀k c,qu s.B k=some c->q6 c=false:=λk c hc=>by
  have:=hB k;cases ht:qV st.B k with
  |none=>rw [ht]at this;simp only [RB]at this;rw [this]at hc;cases hc
  |some o =>
   rw [ht]at this;cases o with
   |none=>exact this c hc
   |some d=>obtain ⟨d',hd',hr⟩:=this;rw [hc]at hd';cases hd';exact qaF (hr.rvl (qhD hn0 ht))
 have hE:=qi9 T h.E;have hlen:(qx s.E T).length=s.E.length:=qa0 T s.E;have hfirmE:∀(t:Nat),t∉qBy (qbE st.E T)->∀x v,(qbE st.E T).toL[t]?=some x->(qx s.E T)[t]?=some v->x.firm=true\/∃rs,x=.any rs:=λt hts x v hx _=>by
  cases hf:x.firm with
  |true=>exact .inl rfl
  |false =>
   cases ha:x.isAny with
   |true=>exact .inr (qsN ha)
   |false=>exact absurd (qyc hx hf ha) hts
 have hmap:((qbE st.E T).qsK λ_ v=>v.qdH).toL=(qbE st.E T).toL.map TV.qdH:=by
  apply List.ext_getElem?;intro i;rw [qqg,List.getElem?_map]
 refine ⟨hL',?_,⟨by show RVL ((qbE st.E T).qsK λ_ v=>v.qdH).toL _;rw [hmap];exact qjM hE,?_⟩,?_⟩
 ·unfold qgf;rw [List.all_eq_true];rintro ⟨k,c⟩ hk;simp only [hlp k c (qfu hnd hk),Bool.not_false]
 ·refine ⟨by simp [TSt.all,qcH,TSt.qbU,qkB,hL,hL'],λl k=>?_,λb hb=>?_,λl k c hc hlt=>?_⟩
  rotate_right
  ·unfold qat at hc;simp only [qcH,qkB,hL',List.nil_append]at hc;cases l with
   |zero =>
    simp only [List.getElem?_cons_zero,qch]at hc;obtain ⟨c0,h1,rfl⟩:=qc.1 hc;exact qq6 (h.M.mp 0 k c0 (by unfold qat;simpa [qcH,hL']using h1) hlt)
   |succ l=>simp at hc
  ·unfold qam qat;simp only [TSt.all,qcH,TSt.qbU,qkB,hL,hL',List.nil_append];cases l with
   |zero =>
    simp only [List.getElem?_cons_zero];rw [qfw,qch];have:=hB k;cases ht:qV st.B k with
    |none=>rw [ht]at this;simp only [RB]at this;rw [this]<;>rfl
    |some o =>
     rw [ht]at this;cases o with
     |none =>
      simp only [qi,Option.map_none];intro c hc;obtain ⟨c0,h1,rfl⟩:=qc.1 hc;exact qmn (this c0 h1)
     |some d=>obtain ⟨d',hd',hr⟩:=this;rw [hd'];exact ⟨_,rfl,(qjM (hr.rvl (qhD hn0 ht))).rc⟩
   |succ l=>simp [RB]
  ·simp only [qcH,qkB,hL',List.nil_append,List.mem_singleton]at hb;subst hb;simpa [qjh,List.map_map,Function.comp_def]using hnd
 ·refine ⟨λt ht=>by simp [TSt.qbU,ht],λr hr=>by simp [TSt.qbU,hr],λt ht=>?_,λt ht rs hE'=>?_,λr hr=>?_,λr hr hsm=>?_,rfl,by simp [qkB,hlen]⟩
  ·simp only [TSt.qbU,Mask.mem_append,Mask.mem_ofList,not_or]at ht;simp only [qkB,List.getElem?_map];have hEt:=ql4 h.E ht.1;rw [hEt];cases hv:s.E[t]? with
   |none=>left;rfl
   |some v =>
    simp only [qi];have hv2:(qx s.E T)[t]?=some v:=by rw [hEt];exact hv
    have hxt:∃x,(qbE st.E T).toL[t]?=some x:=by
     have hlt:t<(qbE st.E T).toL.length:=by
      have:=(qm.1 hv2).1;rw [<- hE.length];exact this
     exact ⟨_,List.getElem?_eq_getElem hlt⟩
    obtain ⟨x,hx⟩:=hxt;rcases hfirmE t ht.2.1 x v hx hv2 with hf|⟨rs,rfl⟩
    ·left
     obtain ⟨v',hv',hr⟩:=hE.get hx;rw [hv2]at hv';cases hv';unfold V.qdH;rw [RV.firm x v hf hr];rfl
    ·unfold V.qdH;cases hs:v.soft with
     |false=>left;rfl
     |true =>
      right
      exact ⟨qfW _ _ _ _ hx,rfl⟩
  ·simp only [TSt.qbU,Mask.mem_append,Mask.mem_ofList,not_or]at ht;simp only [TSt.qbU,hmap,List.getElem?_map]at hE';obtain ⟨x,hx,hxa⟩:=qc.1 hE';obtain ⟨v,hv,_⟩:=hE.get hx;rcases hfirmE t ht.2.1 x v hx hv with hf|⟨rs',rfl⟩
   ·unfold TV.qdH at hxa;rw [hf]at hxa;simp only [if_true]at hxa;subst hxa;simp [TV.firm]at hf
   ·exact qfW _ _ _ _ hx
  ·simp only [TSt.qbU,qj,not_or]at hr;rw [qdC (st:=qkB s T) hL',qdC hL'];by_cases h0:r.lvl=0
   ·rw [if_pos h0,if_pos h0];simp only [qkB,qch];have:=hB r.slot;cases ht:qV st.B r.slot with
    |none=>rw [ht]at this;simp only [RB]at this;rw [this];left;rfl
    |some o =>
     rw [ht]at this;cases o with
     |none =>
      right
      refine ⟨by rw [hL'];rfl,by rw [qgR hL,if_pos h0,ht],by simp,λc hc=>?_⟩;obtain ⟨c0,h1,rfl⟩:=qc.1 hc;exact qmn (this c0 h1)
     |some d =>
      left
      obtain ⟨d',hd',hrr⟩:=this;rw [hd'];cases hf:d.all TV.firm with
      |true=>simp only [qi];rw [quk (hrr.rvl (qhD hn0 ht)) hf]
      |false =>
       exfalso
       refine hr.1 ?_;have:=qjQ ht hf;obtain ⟨l,sl⟩:=r;simp only at h0 this;rw [h0];exact this
   ·rw [if_neg h0,if_neg h0];left;rfl
  ·rw [qgR hL]at hsm;have hL2:(st.qbU T).L=[]:=hL;rw [qgR hL2];by_cases h0:r.lvl=0
   ·rw [if_pos h0]at hsm ⊢;simp only [TSt.qbU,qfw];cases ht:qV st.B r.slot with
    |none=>rw [ht]at hsm;cases hsm
    |some o =>
     rw [ht]at hsm;cases o with
     |none=>cases hsm
     |some d=>rfl
   ·rw [if_neg h0]at hsm;cases hsm
theorem qyd{st:TSt}{s:St}(h:Rst st s)(hL:st.L=[])(hn0:qmK st.B=true)(hB0:st.B.all (λp=>decide (p.1<16384))=true)(T:List Tmp):s.L=[]/\qro s.B=true/\Rst (st.qbU T) (qkB s T)/\Fr2 st (st.qbU T) s (qkB s T):=by
 obtain ⟨hL',hnl,hR,hF⟩:=qkC h hL hn0 T;refine ⟨hL',?_,hR,hF⟩;have hB:∀k,RB (qV st.B k) (qu s.B k):=λk=>by
  have:=h.M.rel 0 k;unfold qam qat at this;simpa [TSt.all,qcH,hL,hL']using this
 have hnd:(s.B.map (·.1)).Nodup:=h.M.nd s.B (by simp [qcH]);have hmp:∀k c,qu s.B k=some c->qf0 c=false:=λk c hc=>by
  by_cases hlt:k<16384
  ·have h9:qat (qcH s) 0 k=some c:=by unfold qat;simpa [qcH,hL']using hc
   exact h.M.mp 0 k c h9 hlt
  ·have:=hB k;cases ht:qV st.B k with
   |none=>rw [ht]at this;simp only [RB]at this;rw [this]at hc;cases hc
   |some o =>
    rw [List.all_eq_true]at hB0;have h9:=hB0 _ (qcZ ht);simp only [decide_eq_true_eq]at h9;omega
 unfold qro;unfold qgf at hnl;rw [List.all_eq_true]at hnl ⊢;rintro ⟨k,c⟩ hk;have h1:=hnl _ hk;simp only [Bool.not_eq_true']at h1;simp only [qdk h1 (hmp k c (qfu hnd hk)),Bool.not_false]
theorem qBv{x:TV}{v:V}(h:RV x v):RV x.qdH v:=by
 unfold TV.qdH;split
 ·exact h
 ·simp only [RV];exact ⟨RV.qp x v h,qaF (qv.2 ⟨h,qaa⟩)⟩
theorem qpZ:∀{l:List TV} {l':List V},RVL l l'->RVL (l.map TV.qdH) l'
 |[],l',h=>h
 |x::l,l',h=>by
  simp only [RVL]at h;obtain ⟨v,m,rfl,h1,h2⟩:=h;exact qv.2 ⟨qBv h1,qpZ h2⟩
theorem qtf{st:TSt}{s:St}(h:Rst st s)(hL:st.L=[])(hn0:qmK st.B=true):Rst (st.qbU []) s/\Fr2 st (st.qbU []) s s:=by
 obtain ⟨hL',_,_,hf⟩:=qkC h hL hn0 [];have hB:∀k,RB (qV st.B k) (qu s.B k):=λk=>by
  have:=h.M.rel 0 k;unfold qam qat at this;simpa [TSt.all,qcH,hL,hL']using this
 have hE:RVL (qbE st.E []).toL s.E:=qi9 [] h.E;have hmap:((qbE st.E []).qsK λ_ v=>v.qdH).toL=(qbE st.E []).toL.map TV.qdH:=by
  apply List.ext_getElem?;intro i;rw [qqg,List.getElem?_map]
 refine ⟨⟨by show RVL ((qbE st.E []).qsK λ_ v=>v.qdH).toL _;rw [hmap];exact qpZ hE,⟨by simp [TSt.all,qcH,TSt.qbU,hL,hL'],λl k=>?_,h.M.nd,h.M.mp⟩⟩,⟨hf.wt,hf.wb,λ_ _=>.inl rfl,hf.an,λ_ _=>.inl rfl,hf.bn,rfl,rfl⟩⟩;unfold qam qat;simp only [TSt.all,qcH,TSt.qbU,hL,hL',List.nil_append];cases l with
 |zero =>
  simp only [List.getElem?_cons_zero];rw [qfw];have:=hB k;cases ht:qV st.B k with
  |none=>rw [ht]at this;simp only [RB]at this;rw [this]<;>rfl
  |some o =>
   rw [ht]at this;cases o with
   |none=>exact this
   |some d=>obtain ⟨d',hd',hr⟩:=this;rw [hd'];exact ⟨_,rfl,(qpZ (hr.rvl (qhD hn0 ht))).rc⟩
 |succ l=>simp [RB]
theorem quD{xs:List Int}{o:Nat}{l:List V}(h:All2 (RTy (.int .i64) o) xs l):qmj l=some xs:=by
 induction h with
 |nil=>rfl
 |cons h1 _ ih =>
  simp only [RTy]at h1;subst h1;simp only [qmj,ih,qi]
theorem qlT(o:Nat):∀xs:List Int,All2 (RTy (.int .i64) o) xs (qc0 xs)
 |[]=>.nil
 |x::xs=>.cons (by simp only [RTy]) (qlT o xs)
theorem qAe{F:List Int->Option (List Int)}{t:Tmp}{d:Option Tmp}{st:TSt}{s:St}{R:Type}{k:TSt->Option R}{r:R}(hs:Rst st s)(h:qBF F t d st R k=some r) :
  ∃st' s',k st'=some r/\qhQ F t d s=some s'/\Rst st' s'/\Fr2 st st' s s':=by
 unfold qBF at h;split at h
 ·rename_i hLn;simp only [qe,List.isEmpty_iff]at hLn;obtain ⟨hL,hn0⟩:=hLn;split at h
  ·rename_i o xs hget;split at h
   ·rename_i ho;obtain ⟨ys,hys,hk⟩:=qd.1 h;obtain ⟨hL',hnl,hR1,hF1⟩:=qkC hs hL hn0 [];have hrt:=qsx hs.E t;rw [hget]at hrt;simp only [RV,RTy]at hrt;obtain ⟨f,c,l',hv,hfl,hall⟩:=hrt;have hf:=hfl.own ho;subst hf;have hin:=quD (o:=0) hall;have hnew:RV (.t (.sl (.int .i64)) o ys) (.sl .own c (qc0 ys)):=by
     simp only [RV,RTy];exact ⟨.own,c,_,rfl,hfl,qlT 0 ys⟩
    have hand:RV (.any []) V.undef:=qcj [];cases hx:xs with
    |nil =>
     obtain ⟨hR0,hF0⟩:=qtf hs hL hn0;obtain ⟨hR2,hF2⟩:=qha hR0 (some t) hnew;obtain ⟨hR3,hF3⟩:=qha hR2 d hand;refine ⟨_,_,hk,?_,hR3,(hF0.trans hF2).trans hF3⟩;unfold qhQ;rw [if_pos (by rw [hL',hnl];rfl),hv];simp only [hin,hys];rw [hx];rfl
    |cons x0 xs0 =>
     obtain ⟨hR2,hF2⟩:=qha hR1 (some t) hnew;obtain ⟨hR3,hF3⟩:=qha hR2 d hand;refine ⟨_,_,hk,?_,hR3,(hF1.trans hF2).trans hF3⟩;unfold qhQ;rw [if_pos (by rw [hL',hnl];rfl),hv];simp only [hin,hys];rw [hx];rfl
   ·cases h
  ·cases h
 ·cases h
def qAl(h:Hole)(s:St):Prop:=∃c l' b,s.E[h.r]?=some (.sl .own c (l'.set h.j.toNat b))/\All2 (RTy h.τ (nx h.lv)) h.l l'/\b.cells=[b]/\b.oks=true/\(∀cs,qdb b cs=cs.headD .undef)/\0<=h.j/\h.j.toNat<l'.length/\qa7 h.lv=true
def qfL(h:Option Hole)(s:St):Prop:=∀x,h=some x->qAl x s
theorem qkg{s:St}:qfL none s:=λx h=>by cases h
theorem qtW{o:Oper}{hole:Option Hole}{s s':St}(h:qfL hole s)(hk:∀t:Nat,t∉tmpsOf o->o.dst≠some t->s'.E[t]?=s.E[t]?):qfL (qpx o hole) s':=by
 intro x hx;unfold qpx at hx;split at hx
 ·rename_i h0;split at hx
  ·cases hx
  ·rename_i hc;cases hx;simp only [not_or]at hc;obtain ⟨c,l',b,h1,h2⟩:=h x rfl;exact ⟨c,l',b,by rw [hk x.r (by simpa using hc.2) hc.1];exact h1,h2⟩
 ·cases hx
theorem qw8{o:Oper}{hole:Option Hole}{s:St}(h:qfL hole s)(v:V):qfL (qpx o hole) (s.put o.dst v) :=
 qtW h λt _ h2=>by
  unfold St.put;cases hd:o.dst with
  |none=>rfl
  |some d =>
   simp only
   rw [List.getElem?_set_ne];rintro rfl;exact h2 hd
theorem qy2{hole:Option Hole}{r0:Tmp}{p:List (Int×Nat×Nat)}{x:TV}{v:V}{st:TSt}{s sV:St}{R:Type}{k:TSt->Option R}{r:R}(hh:qfL hole sV)(hx:RV x v)(hs:Rst st s)(h:qy1 hole r0 p x st R k=some r) :
  (∀e∈p,0<=e.1)/\∃st' y,k st'=some r/\qqm v.cells (qiH p) (sV.E.getD r0 .undef)=some y/\y.soft=false/\Rst st' (s.put (some r0) y)/\Fr2 st st' s (s.put (some r0) y):=by
 unfold qy1 at h;split at h
 ·rename_i hl i;split at h
  ·rename_i hr0;subst hr0;split at h
   ·rename_i τ o y;split at h
    ·rename_i e he;cases hd:decide (i=hl.j)with
     |false=>rw [hd]at h;cases h
     |true =>
      rw [hd]at h;simp only [cond_true]at h;have hij:i=hl.j:=of_decide_eq_true hd;subst hij;split at h
      ·rename_i hf;obtain ⟨c,l',b,h1,h2,h3,h4,h5,h6,h7,h8⟩:=hh hl rfl;have hvc:v.cells=[v]:=by
        simp only [RV,RTy]at hx;obtain ⟨f,c,m,rfl,_⟩:=hx;rfl
       have hy:=qcT _ _ _ _ _ he hx;have hnew:RV (.t (.sl hl.τ) hl.lv (hl.l.set hl.j.toNat e)) (.sl .own c (l'.set hl.j.toNat v)):=by
        simp only [RV,RTy];exact ⟨.own,c,_,rfl,qeu h8,qty h2 _ hy⟩
       obtain ⟨hR2,hF2⟩:=qha hs (some hl.r) hnew;refine ⟨by simp [h6],_,_,h,?_,RV.firm _ _ hf hnew,hR2,hF2⟩;have hE:sV.E.getD hl.r .undef=.sl .own c (l'.set hl.j.toNat b):=by rw [List.getD_eq_getElem?_getD,h1];rfl
       rw [hE,hvc];simp only [qiH,qh,List.map_nil,qqm];have hg:(l'.set hl.j.toNat b)[hl.j.toNat]?=some b:=by rw [List.getElem?_set_self h7]
       rw [hg];simp only
       rw [if_pos ⟨by rw [h3];rfl,h4⟩,if_pos (by simp),h3,h5,List.set_set];simp [qN]
      ·cases h
    ·cases h
   ·cases h
  ·cases h
 ·cases h
theorem qCm{ops:Array Oper}{i:Nat}{o:Oper}{st:TSt}{s:St}{hole:Option Hole}{R:Type}{k:TSt->Option R}{r:R}(hs:Rst st s)(hh:qfL hole s)(h:lsT P H f ops i o st hole R k=some r) :
  ∃st' s',k st'=some r/\qgz P H f ops i o s=some s'/\Rst st' s'/\Fr2 st st' s s':=by
 unfold lsT at h;split at h
 ·rename_i t d xo hop;simp only at h;split at h
  ·rename_i hc;simp only [qe,decide_eq_true_eq,List.isEmpty_iff]at hc;obtain ⟨⟨⟨⟨⟨⟨⟨⟨⟨hL,hn0⟩,hB0⟩,hdst⟩,hgd⟩,hnd⟩,hs0⟩,hxl⟩,hxo⟩,hxp⟩:=hc;obtain ⟨hL',hnl,hsoft,hfr⟩:=qyd hs hL hn0 hB0 (tmpsOf o);have hrx:=qzH (H:=H) (f:=f) (o:=o) hs.E xo;obtain ⟨hcx,hox⟩:=RV.cells hxo hrx;have hpx:(rd H f o s.E xo).qp=[]:=by
    rw [List.eq_nil_iff_forall_not_mem];intro q hq;have:=RV.qp _ _ hrx q hq;rw [hxp]at this;cases this
   have hcond:(s.L.isEmpty&&qro s.B&&o.dst.isNone&&o.guard.isNone&&qeA (tmpsOf o)&&decide (P.cellsOf t≠0)&&decide ((rd H f o s.E xo).cells.length=P.cellsOf t)&&(rd H f o s.E xo).oks&&(rd H f o s.E xo).qp.isEmpty)=true:=by
    simp only [qe,decide_eq_true_eq];exact ⟨⟨⟨⟨⟨⟨⟨⟨by rw [hL'];rfl,hnl⟩,hdst⟩,hgd⟩,hnd⟩,hs0⟩,by rw [hcx.length];exact hxl⟩,hox⟩,by rw [hpx];rfl⟩
   have hrev:∀p:List (Int×Nat×Nat),(qiH p).reverse=qiH p.reverse:=λp=>by simp [qiH]
   split at h
   ·rename_i r0 p hlk;split at h
    ·cases h
    ·rename_i hrT;split at h
     ·obtain ⟨hp0,st',y,hk,hupd,hysoft,hR2,hF2⟩:=qy2 hh hrx hsoft h;have hlk':=qhz hs.E _ _ _ _ _ _ hlk hp0;have hsing:(qiH p).reverse=qiH p:=by
       unfold qy1 at h;split at h
       ·rfl
       ·cases h
      refine ⟨_,_,hk,?_,hR2,hfr.trans hF2⟩;unfold qgz;rw [hop];simp only
      rw [if_pos hcond,hlk'];simp only
      rw [if_neg hrT,hsing,hupd];simp only
      rw [hysoft];rfl
     obtain ⟨hp0,y,u,hk,hupd,hyu⟩:=qyC hcx _ _ _ h (qsx hs.E r0);split at hk
     ·rename_i hf;have hlk':=qhz hs.E _ _ _ _ _ _ hlk (λe he=>hp0 e (by simpa using he));obtain ⟨hR2,hF2⟩:=qha hsoft (some r0) hyu;refine ⟨_,_,hk,?_,hR2,hfr.trans hF2⟩;unfold qgz;rw [hop];simp only
      rw [if_pos hcond,hlk'];simp only
      rw [if_neg hrT,hrev,hupd];simp only
      rw [RV.firm y u hf hyu];rfl
     ·cases hk
   ·rename_i q off p hlk;split at h
    ·rename_i cs hcs;split at h
     ·rename_i z hz;obtain ⟨c',hc',hrc⟩:=hs.box hcs;obtain ⟨z',hz',hrz⟩:=hrc.get hz;obtain ⟨hp0,y,u,hk,hupd,hyu⟩:=qyC hcx _ _ _ h hrz;split at hk
      ·rename_i hf;have hlk':=qhz hs.E _ _ _ _ _ _ hlk (λe he=>hp0 e (by simpa using he));have hsb:(st.qbU (tmpsOf o)).box q=some (cs.map TV.qdH):=by
        have hL2:(st.qbU (tmpsOf o)).L=[]:=hL;refine qtG ?_ (qoK (qjM hrc))
        replace hcs:=(qpb hcs).1
        rw [qgR hL]at hcs;rw [qgR hL2];by_cases h0:q.lvl=0
        ·rw [if_pos h0]at hcs ⊢;simp only [TSt.qbU,qfw];split at hcs
         ·rename_i c hc;cases hcs;rw [hc];rfl
         ·cases hcs
        ·rw [if_neg h0]at hcs;cases hcs
       have hq0:q.lvl=0:=by
        rw [qdC hL']at hc';split at hc'
        ·assumption
        ·cases hc'
       obtain ⟨hR2,hF2⟩:=qhh hsoft hsb ((qjM hrc).set off hyu) (λhlt=>qzb (qq6 (hs.M.mp q.lvl q.slot c' (by rw [<- qF];exact hc') hlt)) (by obtain ⟨c9,l9,h9⟩:=qtt hupd;rw [h9];rfl));refine ⟨_,_,hk,?_,hR2,hfr.trans hF2⟩;unfold qgz;rw [hop];simp only
       rw [if_pos hcond,hlk'];simp only
       rw [hc'];simp only
       rw [hz'];simp only
       rw [hrev,hupd];simp only
       rw [RV.firm y u hf hyu];simp only [qf,if_false,qb];unfold St.qo qkB;rw [if_pos (by rw [hq0,hL'];rfl)]
      ·cases hk
     ·cases h
    ·cases h
   ·cases h
  ·cases h
 ·cases h
theorem qxf{o:Oper}{E:Env}{E':List V}(h:RVL E.toL E')(hg:qsJ H f o E=true):qdZ H f o E'=true:=by
 unfold qsJ at hg;unfold qdZ;simp only [Bool.or_eq_true,qe]at hg ⊢;refine hg.imp id λ⟨h1,h2⟩=>⟨?_,?_⟩
 ·rw [h.length,qiS];exact h1
 ·split
  ·rename_i t a hop;rw [hop]at h2;simp only [Bool.or_eq_true]at h2 ⊢;refine h2.imp id λh3=>?_;have:=qsx h a;cases hx:E.get a with
   |cptr l=>rw [hx]at this;simp only [RV]at this;obtain ⟨f',l',hl',_⟩:=this;rw [hl']<;>rfl
   |_=>rw [hx]at h3;cases h3
  ·rfl
theorem qly(hT:TOk P H lib T)(hO:OOk P H lib O){ops:Array Oper}{R:Type}{k:TSt->Option R}{r:R}:∀(is:List Nat) (st:TSt) (s:St),Rst st s->quS P H J T O ctx f ops is st R k=some r ->
  ∃st' s',k st'=some r/\Ev (λC=>qfd P H C f ops is s=some s') P H lib/\Rst st' s'/\Fr2 st st' s s'
 |[],st,s,hs,h=>⟨st,s,h,.of λC=>rfl,hs,Fr2.refl _ _⟩
 |i::is,st,s,hs,h=>by
  simp only [quS]at h;split at h
  ·cases h
  ·rename_i o ho;obtain ⟨st1,b,hw,hs1,hf1,hb⟩:=qsw hs h;cases b with
   |true =>
    simp only [if_true]at hb;obtain ⟨st2,fp,s2,hk,hev,hR,hF,hkeep⟩:=qkG hT hO hs1 hb;obtain ⟨st3,s3,hk3,hev3,hR3,hF3⟩:=qly hT hO is st2 s2 hR hk;refine ⟨st3,s3,hk3,(hev.and hev3).imp λC hC=>?_,hR3,(hf1.trans hF).trans hF3⟩;simp only [qfd,ho,hw,qjT,hC.1,qi,hC.2]
   |false =>
    simp only [qf,if_false]at hb;obtain ⟨hR,hF⟩:=qha hs1 o.dst (v:=.val undef) (u:=.val undef) (by simp [RV]);obtain ⟨st3,s3,hk3,hev3,hR3,hF3⟩:=qly hT hO is _ _ hR hb;refine ⟨st3,s3,hk3,hev3.imp λC hC=>?_,hR3,(hf1.trans hF).trans hF3⟩;simp only [qfd,ho,hw,hC]
def Cov(l:List (Nat×Foot))(e:Nat×Foot):Prop:=∃e'∈l,e'.1=e.1/\e'.2.fp=e.2.fp/\e'.2.looks=e.2.looks/\∀t∈e.2.took,t∈e'.2.took
theorem qyx{o:Oper}{E:Env}{E':List V}(h:RVL E.toL E'):∀t∈qfa H f o E',t∈qkM H f o E:=λt ht=>by
 unfold qfa at ht;unfold qkM;split at ht
 ·rename_i htk;rw [if_pos htk];simp only [List.mem_filter]at ht ⊢;exact ⟨ht.1,RV.owns _ _ (qsx h t) ht.2⟩
 ·cases ht
theorem ql7(hT:TOk P H lib T)(hO:OOk P H lib O){ops:Array Oper}{R:Type}{k:TSt->List (Nat×Foot)->Option R}{r:R}:∀(is:List Nat) (st:TSt) (s:St) (acc:List (Nat×Foot)),Rst st s->qqN P H J T O ctx f ops is st acc R k=some r ->
  ∃st' s' fps fpv,k st' fps=some r/\Ev (λC=>qfX P H C f ops is s=some (s',fpv)) P H lib/\Rst st' s'/\Fr2 st st' s s'/\(∀e∈acc,e∈fps)/\(∀e∈fpv,Cov fps e)
 |[],st,s,acc,hs,h=>⟨st,s,acc,[],h,.of λC=>rfl,hs,Fr2.refl _ _,λe he=>he,by simp⟩
 |i::is,st,s,acc,hs,h=>by
  simp only [qqN]at h;split at h
  ·cases h
  ·rename_i o ho;obtain ⟨st1,b,hw,hs1,hf1,hb⟩:=qsw hs h;cases b with
   |true =>
    simp only [if_true]at hb;obtain ⟨st2,fp,s2,hk,hev,hR,hF,hkeep⟩:=qkG hT hO hs1 hb;obtain ⟨st3,s3,fps,fpv,hk3,hev3,hR3,hF3,hacc,hcov⟩:=ql7 hT hO is st2 s2 _ hR hk;refine ⟨st3,s3,fps,(i,⟨fp,qfa H f o s.E,qbu H f ops o⟩)::fpv,hk3,(hev.and hev3).imp λC hC=>?_,hR3,(hf1.trans hF).trans hF3,λe he=>hacc e (by simp [he]),λe he=>?_⟩
    ·simp only [qfX,qgM,ho,hw,hC.1,qi,hC.2]
    ·rcases qk.1 he with rfl|he
     ·exact ⟨_,hacc _ (List.mem_cons_self ..),rfl,rfl,rfl,λt ht=>qyx hs1.E t ht⟩
     ·exact hcov e he
   |false =>
    simp only [qf,if_false]at hb;obtain ⟨hR,hF⟩:=qha hs1 o.dst (v:=.val undef) (u:=.val undef) (by simp [RV]);obtain ⟨st3,s3,fps,fpv,hk3,hev3,hR3,hF3,hacc,hcov⟩:=ql7 hT hO is _ _ _ hR hb;refine ⟨st3,s3,fps,(i,⟨.none,[],qbu H f ops o⟩)::fpv,hk3,hev3.imp λC hC=>?_,hR3,(hf1.trans hF).trans hF3,λe he=>hacc e (by simp [he]),λe he=>?_⟩
    ·simp only [qfX,qgM,ho,hw,hC,qi]
    ·rcases qk.1 he with rfl|he
     ·exact ⟨_,hacc _ (List.mem_cons_self ..),rfl,rfl,rfl,λt ht=>by cases ht⟩
     ·exact hcov e he
theorem qB4{ops:Array Oper}{i:Nat}{o:Oper}{st:TSt}{s:St}{R:Type}{k:TSt->Hole->Option R}{r:R}(hs:Rst st s)(h:apT P H f ops i o st R k=some r) :
  ∃st' s' hole,k st' hole=some r/\qdB P H f ops i o s=some s'/\Rst st' s'/\Fr2 st st' s s'/\qAl hole s':=by
 unfold apT at h;split at h
 ·rename_i argTypes args _ hop;split at h
  ·rename_i d hd;split at h
   ·rename_i r0 j hlk;split at h
    ·cases h
    ·rename_i hrd;simp only [not_or]at hrd;split at h
     ·rename_i τ lv l hE;split at h
      ·rename_i hown;simp only [qe]at hown;obtain ⟨e,he,hk⟩:=qd.1 h;obtain ⟨h0,hget⟩:=qlD he;have hlk':=qhz hs.E _ _ _ _ _ _ hlk (λe he=>by simp only [List.mem_singleton]at he;subst he;exact h0);have hr:=qsx hs.E r0;rw [hE]at hr;simp only [RV,RTy]at hr;obtain ⟨fl,c,l',hv,hfl,hall⟩:=hr;have hf:fl=.own:=hfl.own hown.1;subst hf;obtain ⟨b,hb,hrb⟩:=hall.get hget;have hrb0:RTy (.sl τ) (nx lv) e b:=hrb;obtain ⟨f2,c2,l2,rfl,hf2,hall2⟩:=hrb;have hf2':f2=.own:=hf2.own hown.2;subst hf2';have hlen:s.E.length=st.E.n:=by rw [hs.E.length,qiS]
       have hr0lt:r0<s.E.length:=by
        rcases Nat.lt_or_ge r0 s.E.length with h9|h9
        ·exact h9
        ·exfalso
         rw [List.getD_eq_getElem?_getD,List.getElem?_eq_none h9]at hv;cases hv
       have hjl:j.toNat<l'.length:=(qm.1 hb).1;have hdl:(V.sl .own c2 l2).qab=.sl .qab c2 (reflagL qX l2):=rfl;let y:V:=.sl .own c (l'.set j.toNat (V.qab (.sl .own c2 l2)))
       have hyp:y.qp=[]:=by simp [y,V.qp]
       refine ⟨_,{s with E:=(s.E.set r0 y).set d (.sl .own c2 l2)},_,hk,?_,⟨?_,hs.M⟩,?_,?_⟩
       ·unfold qdB;rw [hop];simp only
        rw [hd];simp only
        rw [hlk'];simp only [qiH,qh,List.map_nil];rw [if_neg (by simp only [not_or];exact ⟨hrd.1,by omega⟩),hv];simp only [qz4,hb];simp [y]
       ·show RVL ((st.E.set r0 (.any [])).set d _).toL _;rw [qdr,qdr];refine (hs.E.set r0 ?_).set d ?_
        ·simp only [RV];exact ⟨by rw [hyp];simp,by simp [y,q6]⟩
        ·simp only [RV];exact hrb0
       ·refine ⟨λt ht=>by simp [Mask.mem_ins,ht],λq hq=>hq,λt ht=>.inl ?_,λt ht rs hE'=>?_,λq hq=>.inl rfl,λq hq h=>h,rfl,by simp⟩
        ·simp only [Mask.mem_ins,not_or]at ht;simp only
         rw [List.getElem?_set_ne (Ne.symm ht.2.1),List.getElem?_set_ne (Ne.symm ht.1)]
        ·simp only [Mask.mem_ins,not_or]at ht;simp only [qdr]at hE';rw [List.getElem?_set_ne (Ne.symm ht.2.1),List.getElem?_set_ne (Ne.symm ht.1)]at hE';exact ⟨rs,hE'⟩
       ·refine ⟨c,l',V.qab (.sl .own c2 l2),?_,hall,rfl,by simp [hdl,V.oks,V.cells,V.one],λcs=>by rw [hdl];rfl,h0,hjl,hown.1⟩;simp only
        rw [List.getElem?_set_ne (Ne.symm hrd.1),List.getElem?_set_self hr0lt]
      ·cases h
     ·cases h
   ·cases h
  ·cases h
 ·cases h
theorem qgU(hT:TOk P H lib T)(hO:OOk P H lib O){ops:Array Oper}{R:Type}{k:TSt->List (Nat×Foot)->Option R}{r:R}:∀(is:List Nat) (st:TSt) (s:St) (hole:Option Hole) (acc:List (Nat×Foot)),Rst st s->qfL hole s->qgT P H J T O ctx f ops is st hole acc R k=some r ->
  ∃st' s' fps fpv,k st' fps=some r/\Ev (λC=>qdS P H C f ops is s=some (s',fpv)) P H lib/\Rst st' s'/\Fr2 st st' s s'/\(∀e∈acc,e∈fps)/\(∀e∈fpv,Cov fps e)
 |[],st,s,hole,acc,hs,hh,h=>⟨st,s,acc,[],h,.of λC=>rfl,hs,Fr2.refl _ _,λe he=>he,by simp⟩
 |i::is,st,s,hole,acc,hs,hh,h=>by
  simp only [qgT]at h;split at h
  ·cases h
  ·rename_i o ho;split at h
   ·rename_i hls;obtain ⟨st2,s2,hk,hst,hR,hF⟩:=qCm hs hh h;obtain ⟨st3,s3,fps,fpv,hk3,hev3,hR3,hF3,hacc,hcov⟩:=qgU hT hO is st2 s2 none _ hR qkg hk;refine ⟨st3,s3,fps,(i,⟨.all,[],looksAt ops o⟩)::fpv,hk3,hev3.imp λC hC=>?_,hR3,hF.trans hF3,λe he=>hacc e (by simp [he]),λe he=>?_⟩
    ·simp only [qdS,qh6,ho,hls,if_true,hst,qi,hC]
    ·rcases qk.1 he with rfl|he
     ·exact ⟨_,hacc _ (List.mem_cons_self ..),rfl,rfl,rfl,λt ht=>ht⟩
     ·exact hcov e he
   ·rename_i hls;have fin:∀(st:TSt) (s0:St) (hole:Option Hole),Rst st s0->qfL hole s0 ->
      (qsv ops o st R
       (λst=>qiP P H J T O ctx f o st R λst' fp=>qgT P H J T O ctx f ops is st' (qpx o hole) ((i,⟨fp,qkM H f o st.E,qbu H f ops o⟩)::acc) R k)
       (λst=>qgT P H J T O ctx f ops is (st.put o.dst (.val undef)) (qpx o hole) ((i,⟨.none,[],qbu H f ops o⟩)::acc) R k))=some r ->
      ∃st' s' fps fpv,k st' fps=some r/\Ev (λC=>∃s1 ft rest,qgM P H C f ops i s0=some (s1,ft)/\qdS P H C f ops is s1=some (s',rest)/\fpv=(i,ft)::rest) P H lib/\Rst st' s'/\Fr2 st st' s0 s'/\(∀e∈acc,e∈fps)/\(∀e∈fpv,Cov fps e):=by
     intro st s0 hole hs hh h;obtain ⟨st1,b,hw,hs1,hf1,hb⟩:=qsw hs h;cases b with
     |true =>
      simp only [if_true]at hb;obtain ⟨st2,fp,s2,hk,hev,hR,hF,hkeep⟩:=qkG hT hO hs1 hb;obtain ⟨st3,s3,fps,fpv,hk3,hev3,hR3,hF3,hacc,hcov⟩:=qgU hT hO is st2 s2 _ _ hR (qtW hh hkeep) hk;refine ⟨st3,s3,fps,(i,⟨fp,qfa H f o s0.E,qbu H f ops o⟩)::fpv,hk3,(hev.and hev3).imp λC hC=>⟨s2,_,fpv,?_,hC.2,rfl⟩,hR3,(hf1.trans hF).trans hF3,λe he=>hacc e (by simp [he]),λe he=>?_⟩
      ·simp only [qgM,ho,hw,hC.1,qi]
      ·rcases qk.1 he with rfl|he
       ·exact ⟨_,hacc _ (List.mem_cons_self ..),rfl,rfl,rfl,λt ht=>qyx hs1.E t ht⟩
       ·exact hcov e he
     |false =>
      simp only [qf,if_false]at hb;obtain ⟨hR,hF⟩:=qha hs1 o.dst (v:=.val undef) (u:=.val undef) (by simp [RV]);obtain ⟨st3,s3,fps,fpv,hk3,hev3,hR3,hF3,hacc,hcov⟩:=qgU hT hO is _ _ _ _ hR (qw8 hh _) hb;refine ⟨st3,s3,fps,(i,⟨.none,[],qbu H f ops o⟩)::fpv,hk3,hev3.imp λC hC=>⟨_,_,fpv,?_,hC,rfl⟩,hR3,(hf1.trans hF).trans hF3,λe he=>hacc e (by simp [he]),λe he=>?_⟩
      ·simp only [qgM,ho,hw]
      ·rcases qk.1 he with rfl|he
       ·exact ⟨_,hacc _ (List.mem_cons_self ..),rfl,rfl,rfl,λt ht=>by cases ht⟩
       ·exact hcov e he
    split at h
    ·rename_i hap;split at h
     ·cases h
     rename_i hilk;obtain ⟨st1,s1,hl,hk,hta,hR,hF,hhl⟩:=qB4 hs h;obtain ⟨st3,s3,fps,fpv,hk3,hev3,hR3,hF3,hacc,hcov⟩:=fin st1 s1 (some hl) hR (λx hx=>by cases hx;exact hhl) hk;refine ⟨st3,s3,fps,fpv,hk3,hev3.imp λC ⟨s2,ft,rest,h1,h2,h3⟩=>?_,hR3,hF.trans hF3,hacc,hcov⟩;simp only [qdS,qh6,ho,hls,hap,hilk,hta,if_true,qf,if_false,qa,h1,h2,h3,qi]
    ·rename_i hap;split at h
     ·rename_i hgt;have hg:=qxf hs.E hgt;obtain ⟨st3,s3,fps,fpv,hk3,hev3,hR3,hF3,hacc,hcov⟩:=fin st s hole hs hh h;refine ⟨st3,s3,fps,fpv,hk3,hev3.imp λC ⟨s2,ft,rest,h1,h2,h3⟩=>?_,hR3,hF3,hacc,hcov⟩;simp only [qdS,qh6,ho,hls,hap,hg,if_true,qf,if_false,h1,h2,h3,qi]
     ·cases h
theorem qop{l l' m:List Tmp}(h:∀t∈l,t∈l')(hm:meets l m=true):meets l' m=true:=by
 unfold meets at hm ⊢;rw [List.any_eq_true]at hm ⊢;obtain ⟨t,ht,h2⟩:=hm;exact ⟨t,h t ht,h2⟩
theorem qrm{U:List (Nat×Nat)}{fps fpv:List (Nat×Foot)}(hc:∀e∈fpv,Cov fps e)(h:qg4 U fps=true):qg4 U fpv=true:=by
 unfold qg4 at h ⊢;rw [List.all_eq_true]at h ⊢;rintro ⟨i,j⟩ hu;have h1:=h (i,j) hu;simp only [List.all_eq_true]at h1 ⊢;rintro ⟨a,p⟩ ha;obtain ⟨⟨a',p'⟩,hp',hpa,hpf,hpl,hpt⟩:=hc (a,p) ha;simp only at hpa hpf hpl hpt;subst hpa;have h2:=h1 (a',p') hp';simp only [Bool.or_eq_true,List.all_eq_true]at h2 ⊢;rcases h2 with h2|h2
 ·exact .inl h2
 ·right
  rintro ⟨b,q⟩ hb;obtain ⟨⟨b',q'⟩,hq',hqa,hqf,hql,hqt⟩:=hc (b,q) hb;simp only at hqa hqf hql hqt;subst hqa;have h3:=h2 (b',q') hq';simp only [Bool.not_eq_true']at h3 ⊢;rcases h3 with h3|h3
  ·exact .inl h3
  ·right
   cases hcl:Foot.qfT p q with
   |false=>rfl
   |true =>
    have:Foot.qfT p' q'=true:=by
     unfold Foot.qfT at hcl ⊢;simp only [Bool.or_eq_true]at hcl ⊢;rw [<- hpf,<- hqf,<- hpl,<- hql]at hcl;rcases hcl with (h4|h4)|h4
     ·exact .inl (.inl h4)
     ·exact .inl (.inr (qop hpt h4))
     ·exact .inr (qop hqt h4)
    rw [this]at h3;cases h3
theorem qhB{σ ρ:Type}{g:σ->Option (σ⊕ρ)}{s:σ}{r:ρ}(h:qaw g s=some r):∃n,qh3 g n s=some r:=by
 unfold qaw at h;split at h
 ·rename_i hex;cases h;exact ⟨_,Classical.choose_spec (Classical.choose_spec hex)⟩
 ·cases h
theorem qxj{j:Join}{bid:Nat}{c:Code}(ih:Snd (tx P H J T O ctx f bid c) (qyH P H lib f bid c)){st:TSt}{s0:St}(hst:Rst st s0){R:Type}{k:Ex->TSt->Option R}{r:R} :
  ∀(n:Nat) (x:denL (j.ps.map (·.1))) (s:St),Rst (st.fresh.qbJ j (ofL j.ps x)) s->Fr2 st.fresh (st.fresh.qbJ j (ofL j.ps x)) s0 s ->
   qh3 (λx=>match (st.fresh.qbJ j (ofL j.ps x)).clear (H.clear f bid)with
      |some st1=>tx P H J T O ctx f bid c st1 (denL (j.ps.map (·.1))⊕R) λe st2=>match e with
       |.normal=>(st2.outs st j).map .inl
       |e=>(k e (st2.merge st)).map .inr
      |none=>none) n x=some r ->
   ∃e st' s',qyH P H lib f bid (.loop c) s e s'/\Rst st' s'/\Fr2 st st' s0 s'/\k e st'=some r
 |0,x,s,hs,hf,h=>by simp [qh3]at h
 |n+1,x,s,hs,hf,h=>by
  simp only [qh3]at h;cases hcl:(st.fresh.qbJ j (ofL j.ps x)).clear (H.clear f bid)with
  |none=>rw [hcl]at h;simp at h
  |some st1 =>
   rw [hcl]at h;simp only at h;obtain ⟨s1,hv1,hs1,hf1⟩:=qhp hs hcl;have done:∀(e:Ex) (st2:TSt) (s2:St),e≠.normal->qyH P H lib f bid c s1 e s2->Rst st2 s2->Fr2 st1 st2 s1 s2->k e (st2.merge st)=some r ->
     ∃e st' s',qyH P H lib f bid (.loop c) s e s'/\Rst st' s'/\Fr2 st st' s0 s'/\k e st'=some r:=by
    intro e st2 s2 hne hev hR hF hk;refine ⟨e,st2.merge st,s2,hev.imp λC hC=>?_,hR.merge,qt2 ((hf.trans hf1).trans hF),hk⟩;simp only [ex,hv1,hC];cases e with
    |normal=>exact absurd rfl hne
    |_=>rfl
   split at h
   ·rename_i x' hx';obtain ⟨e,st2,s2,hev,hR,hF,hk⟩:=ih st1 _ _ _ s1 hx' hs1;cases e with
    |normal =>
     obtain ⟨y,hy,hy2⟩:=qc.1 hk;cases hy2;have hF0:Fr2 st.fresh st2 s0 s2:=(hf.trans hf1).trans hF;have hy':st2.outs st.fresh j=some x':=hy;obtain ⟨e',st',s',hev',hR',hF',hk'⟩:=qxj ih hst n x' s2 (qhK hst.fresh hR hF0 hy') (qhJ (st:=st.fresh) hR hF0 hy') h;refine ⟨e',st',s',?_,hR',hF',hk'⟩;obtain ⟨n1,h1⟩:=hev;obtain ⟨n2,h2⟩:=hev';refine ⟨max n1 (n2+1),λm hm=>?_⟩;have e1:=h1 m (by omega);obtain ⟨m',rfl⟩:∃m',m=m'+1:=⟨m-1,by omega⟩
     have e2:=h2 m' (by omega);have hun:ex P H (qnS P H lib (m'+1)) f bid (.loop c) s=(match s.clear (H.clear f bid)with
      |some st=>match ex P H (qnS P H lib (m'+1)) f bid c st with
       |some (.normal,s)=>(qnS P H lib (m'+1)).code f bid (.loop c) s
       |r=>r
      |none=>none):=by simp only [ex]<;>rfl
     show ex P H (qnS P H lib (m'+1)) f bid (.loop c) s=_;rw [hun,hv1];simp only [e1];exact e2
    |exit id =>
     obtain ⟨y,hy,hy2⟩:=qc.1 hk;cases hy2
    |ret =>
     obtain ⟨y,hy,hy2⟩:=qc.1 hk;cases hy2
   ·rename_i y hx';cases h;obtain ⟨e,st2,s2,hev,hR,hF,hk⟩:=ih st1 _ _ _ s1 hx' hs1;cases e with
    |normal =>
     obtain ⟨y,hy,hy2⟩:=qc.1 hk;cases hy2
    |exit id =>
     obtain ⟨y',hy,hy2⟩:=qc.1 hk;cases hy2;exact done _ _ _ (by simp) hev hR hF hy
    |ret =>
     obtain ⟨y',hy,hy2⟩:=qc.1 hk;cases hy2;exact done _ _ _ (by simp) hev hR hF hy
   ·cases h
theorem qzZ{j:Join}{st:TSt}{s:St}(hs:Rst st s)(hf:st.qkd j=true){x:denL (j.ps.map (·.1))}(hx:asL j.ps (j.lv.map st.get)=some x) :
  Rst (st.fresh.qbJ j (ofL j.ps x)) s/\Fr2 st.fresh (st.fresh.qbJ j (ofL j.ps x)) s s:=by
 have ho:st.fresh.outs st.fresh j=some x:=by
  unfold TSt.outs;have h1:st.fresh.qkd j=true:=hf;have h2:st.fresh.wrote j=true:=by
   have:Mask.empty.sub j.D=true:=Mask.qCE λt ht=>absurd ht Mask.mem_empty;simp [TSt.wrote,TSt.fresh,this]
  have h3:st.fresh.qCR st.fresh j=true:=by
   unfold TSt.qCR;rw [List.all_eq_true];intro r _;cases st.fresh.cont r<;>simp
  rw [h1,h2,h3];exact hx
 exact ⟨qhK hs.fresh hs.fresh (Fr2.refl _ _) ho,qhJ (st:=st.fresh) hs.fresh (Fr2.refl _ _) ho⟩
theorem qnx(ops:Array Oper):qgC H ops true=none:=by
 unfold qgC;split
 ·rename_i h _;cases h
 ·rfl
theorem qwt(s:St):s.clear []=some s:=by
 have h1:qU [] s.B=s.B:=by
  have:∀B:Level,qU [] B=B:=λB=>by
   induction B with
   |nil=>rfl
   |cons p B ih=>obtain ⟨k,c⟩:=p;simp [qU,ih]
  exact this s.B
 unfold St.clear;simp only [h1,true_or,if_true];rfl
theorem qBr{D:List Tmp}{st st1:TSt}{s:St}(h:Rst st s)(hc:qBS D st=some st1):∃s1,s.clear D=some s1/\Rst st1 s1/\Fr2 st st1 s s1:=by
 cases D with
 |nil =>
  simp only [qBS,qb]at hc;subst hc;exact ⟨s,qwt s,h,Fr2.refl _ _⟩
 |cons d D=>exact qhp h hc
theorem qfv(L:List qC)(B:qC)(l k:Nat):qam (L++[B]) l k=if l=L.length then qV B k else qam L l k:=by
 unfold qam;by_cases h:l=L.length
 ·subst h;simp
 ·rw [if_neg h];by_cases hlt:l<L.length
  ·rw [qg hlt]
  ·rw [List.getElem?_eq_none (by simp;omega),List.getElem?_eq_none (by omega)]
theorem qb5(L:List Level)(B:Level)(l k:Nat):qat (L++[B]) l k=if l=L.length then qu B k else qat L l k:=by
 unfold qat;by_cases h:l=L.length
 ·subst h;simp
 ·rw [if_neg h];by_cases hlt:l<L.length
  ·rw [qg hlt]
  ·rw [List.getElem?_eq_none (by simp;omega),List.getElem?_eq_none (by omega)]
theorem LR.last{M:List qC}{M':List Level}{b:qC}{b':Level}(h:LR (M++[b]) (M'++[b']))(k:Nat):RB (qV b k) (qu b' k):=by
 have hl:M'.length=M.length:=by have:=h.len;simp at this;exact this
 have:=h.rel M.length k;rw [qfv,qb5,if_pos rfl,if_pos hl.symm]at this;exact this
theorem LR.qAF{M:List qC}{M':List Level}{b c:qC}{b' c':Level}(h:LR (M++[b]) (M'++[b']))(hr:∀k,RB (qV c k) (qu c' k))(hn:(c'.map (·.1)).Nodup)(hm:∀k x,qu c' k=some x->k<16384->qf0 x=false):LR (M++[c]) (M'++[c']):=by
 have hl:M'.length=M.length:=by have:=h.len;simp at this;exact this
 refine ⟨by simp [hl],λl k=>?_,λq hq=>?_,λl k x hx hlt=>?_⟩
 ·have:=h.rel l k;rw [qfv,qb5,hl]at this ⊢;by_cases e:l=M.length
  ·rw [if_pos e,if_pos e];exact hr k
  ·rw [if_neg e,if_neg e]at this ⊢;exact this
 ·simp only [qj,List.mem_singleton]at hq;rcases hq with hq|rfl
  ·exact h.nd q (by simp [hq])
  ·exact hn
 ·have:=h.mp l k x;rw [qb5]at this hx;by_cases e:l=M'.length
  ·rw [if_pos e]at hx;exact hm k x hx hlt
  ·rw [if_neg e]at this hx;exact this hx hlt
theorem qxI{M:List qC}{M':List Level}{b:qC}{b':Level}(h:LR (M++[b]) (M'++[b']))(hf:quU b=true){r:Root}(hr:r∈qlq b'):r∈qjG b:=by
 obtain ⟨k,c,hk,hrc⟩:=qrz hr;have hlk:=qfu (h.nd b' (by simp)) hk;have hb:=h.last k;cases ht:qV b k with
 |none=>rw [ht]at hb;simp only [RB]at hb;rw [hb]at hlk;cases hlk
 |some o =>
  obtain ⟨d,rfl⟩:=qtM hf (qcZ ht);rw [ht]at hb;obtain ⟨d',hd',hr'⟩:=hb;rw [hd']at hlk;cases hlk;exact qos (qcZ ht) (hr'.qp r hrc)
theorem qzG(hT:TOk P H lib T)(hO:OOk P H lib O){bid:Nat}{g:Operand}{ps:Array Tmp}{asz bo:Code}{st:TSt}{R:Type}{k:Ex->TSt->Option R}{r:R}{s:St}
  (h:tx P H J T O ctx f bid (.rangeFunc g ps asz bo) st R k=some r) (hs:Rst st s) :
  ∃e st' s',qyH P H lib f bid (.rangeFunc g ps asz bo) s e s'/\Rst st' s'/\Fr2 st st' s s'/\k e st'=some r:=by
 simp only [tx]at h;split at h
 ·rename_i hh first cap t ts hgv hps;split at h
  ·rename_i hnb;simp only [qe,Option.isNone_iff_eq_none,decide_eq_true_eq]at hnb;obtain ⟨hn,ht⟩:=hnb;have hlen:=hs.len;have hnV:=qei hs hn;have hg:=qzH (H:=H) (f:=f) (o:=default) hs.E g;rw [hgv]at hg;simp only [RV]at hg;obtain ⟨first',cap',hV,hf1,hc1⟩:=hg;have hE:RVL (dullL st.E.toL) (s.E.map V.qab):=by
    have:=hs.E.qab;rw [qaf]at this;exact this
   have hR1:Rst {st with B:=(t,some [.lp .ready none f (dullL st.E.toL) (t::ts) asz bo])::st.B,Wb:=⟨st.L.length,t⟩::st.Wb} {s with B:=(t,[.lp .ready none f (s.E.map V.qab) (t::ts) asz bo])::s.B}:=by
    refine ⟨hs.E,LR.qAF hs.M (λq=>?_) ?_ (λq x hx hlt=>?_)⟩
    ·simp only [qV,qu];by_cases e:t=q
     ·rw [if_pos e,if_pos e];exact ⟨_,rfl,_,rfl,hE⟩
     ·rw [if_neg e,if_neg e];exact hs.M.last q
    ·have:=hs.M.nd s.B (by simp [qcH]);simp only [qh,List.nodup_cons];refine ⟨λhm=>?_,this⟩;obtain ⟨⟨k',c⟩,hp,hp2⟩:=List.mem_map.1 hm;simp only at hp2;subst hp2;rw [qfu this hp]at hnV;cases hnV
    ·simp only [qu]at hx;by_cases e:t=q
     ·rw [if_pos e]at hx;cases hx;rfl
     ·rw [if_neg e]at hx;refine hs.M.mp s.L.length q x ?_ hlt;unfold qcH;rw [qb5,if_pos rfl];exact hx
   have hfv:RV (.fn hh first cap) (.fn hh first' cap'):=by simp only [RV];exact ⟨_,_,rfl,hf1,hc1⟩
   have hyl:RVL [.yld ⟨st.L.length,t⟩] [.yld ⟨s.L.length,t⟩]:=by rw [hlen];exact qv.2 ⟨by simp only [RV],qaa⟩
   obtain ⟨v,st2,u,s2,hk,hev,_,hR2,hF2,hE2,hE2',_⟩:=qqB hT hO hfv hyl hR1 h;simp only at hk hE2 hE2';split at hk
   ·rename_i hcond;simp only [qe]at hcond;obtain ⟨hok,hfull⟩:=hcond;have hlen2:=hR2.len;have hlen3:s2.L.length=s.L.length:=hF2.len;have hcl:∀q,RB (qV (qaG [t] st2.B) q) (qu (qU [t] s2.B) q):=λq=>by
     rw [qey,qaJ];by_cases e : [t].contains q=true
     ·rw [if_pos e,if_pos e];rfl
     ·rw [if_neg e,if_neg e];exact hR2.M.last q
    have hM3:LR (st2.L++[qaG [t] st2.B]) (s2.L++[qU [t] s2.B]):=by
     refine LR.qAF hR2.M hcl ((hR2.M.nd s2.B (by simp [qcH])).sublist ((qj7 [t] s2.B).map _)) (λq x hx hlt=>?_);rw [qaJ]at hx;split at hx
     ·cases hx
     ·refine hR2.M.mp s2.L.length q x ?_ hlt;unfold qcH;rw [qb5,if_pos rfl];exact hx
    have hokV:qcO s.L.length [t] (qlq (qU [t] s2.B))=true:=by
     unfold qcO at hok ⊢;rw [List.all_eq_true]at hok ⊢;intro q hq;rw [hlen];exact hok q (qxI hM3 hfull hq)
    have hvB:∀{x pe g3 env3 ps3 as3 bo3},qV st2.B t=some (some [.lp x pe g3 env3 ps3 as3 bo3])->∃env3',qu s2.B t=some [.lp x pe g3 env3' ps3 as3 bo3]:=λhl=>by
     have:=hR2.M.last t;rw [hl]at this;obtain ⟨c',h1,env',rfl,_⟩:=this;exact ⟨env',h1⟩
    have hrest:Rst {st2 with B:=qaG [t] st2.B,Wb:=st.Wb++st2.Wb.filter (λq=>!decide (q=⟨st.L.length,t⟩))} {s with L:=s2.L,B:=qU [t] s2.B}/\Fr2 st {st2 with B:=qaG [t] st2.B,Wb:=st.Wb++st2.Wb.filter (λq=>!decide (q=⟨st.L.length,t⟩))} s {s with L:=s2.L,B:=qU [t] s2.B}:=by
     refine ⟨⟨by have:=hR2.E;rw [hE2']at this;exact this,hM3⟩,⟨λx hx=>hF2.wt x hx,λx hx=>by simp [hx],λx hx=>.inl rfl,λx hx rs hr=>⟨rs,by rw [<- hE2];exact hr⟩,λq hq=>?_,λq hq hsm=>?_,hlen3,rfl⟩⟩
     ·have eB:∀q:Root,q≠⟨st.L.length,t⟩->({s with L:=s2.L,B:=qU [t] s2.B}:St).box q=s2.box q:=λq hq=>by
       rw [qF,qF];unfold qcH;rw [qb5,qb5];by_cases e:q.lvl=s2.L.length
       ·rw [if_pos e,if_pos e,qaJ,if_neg];intro hc;simp only [List.contains_cons,List.contains_nil,Bool.or_false,beq_iff_eq]at hc;exact hq (by cases q;simp only at hc e ⊢;subst hc;rw [e,hlen3,hlen])
       ·rw [if_neg e,if_neg e]
      have eS:∀q:Root,q≠⟨st.L.length,t⟩->({s with B:=(t,[.lp .ready none f (s.E.map V.qab) (t::ts) asz bo])::s.B}:St).box q=s.box q:=λq hq=>by
       rw [qF,qF];unfold qcH;rw [qb5,qb5];by_cases e:q.lvl=s.L.length
       ·rw [if_pos e,if_pos e];simp only [qu];rw [if_neg];intro hc;exact hq (by cases q;simp only at hc e ⊢;subst hc;rw [e,hlen])
       ·rw [if_neg e,if_neg e]
      by_cases e:q=⟨st.L.length,t⟩
      ·subst e;left
       rw [qF,qF];unfold qcH;rw [qb5,qb5];simp only
       rw [if_pos (by omega),if_pos hlen.symm,qaJ,if_pos (by simp),hnV]
      ·have hq2:q∉st2.Wb:=λhm=>hq (by
        simp only [qj,List.mem_filter];exact .inr ⟨hm,by simp [e]⟩)
       rw [eB q e];rcases hF2.b q hq2 with h9|⟨h9,h10,h11,h12⟩
       ·left;rw [h9,eS q e]
       ·right
        refine ⟨h9,?_,by rw [h11,eS q e],h12⟩;rw [qaT]at h10 ⊢;unfold TSt.all at h10 ⊢;rw [qfv]at h10 ⊢;by_cases e2:q.lvl=st.L.length
        ·simp only [e2,if_true,qV]at h10 ⊢;rw [if_neg (by intro hc;exact e (by cases q;simp only at hc e2 ⊢;subst hc;rw [e2]))]at h10;exact h10
        ·simp only [e2,if_false]at h10 ⊢;exact h10
     ·by_cases e:q=⟨st.L.length,t⟩
      ·subst e;rw [qaT]at hsm;unfold TSt.all at hsm;rw [qfv,if_pos rfl,hn]at hsm;cases hsm
      ·have hq2:q∉st2.Wb:=λhm=>hq (by
        simp only [qj,List.mem_filter];exact .inr ⟨hm,by simp [e]⟩)
       have i1:=hF2.bn q hq2 (by
        rw [qaT]at hsm ⊢;unfold TSt.all at hsm ⊢;rw [qfv]at hsm ⊢;by_cases e2:q.lvl=st.L.length
        ·simp only [e2,if_true,qV]at hsm ⊢;rw [if_neg (by intro hc;exact e (by cases q;simp only at hc e2 ⊢;subst hc;rw [e2]))];exact hsm
        ·simp only [e2,if_false]at hsm ⊢;exact hsm)
       rw [qaT]at i1 ⊢;unfold TSt.all at i1 ⊢;rw [qfv]at i1 ⊢;by_cases e2:q.lvl=st2.L.length
       ·simp only [e2,if_true]at i1 ⊢;rw [qey,if_neg]
        ·exact i1
        ·intro hc;simp only [List.contains_cons,List.contains_nil,Bool.or_false,beq_iff_eq]at hc;exact e (by cases q;simp only at hc e2 ⊢;subst hc;rw [e2];congr 1;omega)
       ·simp only [e2,if_false]at i1 ⊢;exact i1
    have hnV':(qu s.B t).isNone=true:=by rw [hnV];rfl
    split at hk
    ·rename_i hl;obtain ⟨env3',hb⟩:=hvB hl;exact ⟨.normal,_,_,hev.imp λC ⟨hC,_⟩=>by simp only [ex,hV,hps,hnV',if_true,hC,hokV,hb],hrest.1,hrest.2,hk⟩
    ·rename_i hl;obtain ⟨env3',hb⟩:=hvB hl;exact ⟨.ret,_,_,hev.imp λC ⟨hC,_⟩=>by simp only [ex,hV,hps,hnV',if_true,hC,hokV,hb],hrest.1,hrest.2,hk⟩
    ·rename_i id _ _ _ _ _ hl;obtain ⟨env3',hb⟩:=hvB hl;exact ⟨.exit _,_,_,hev.imp λC ⟨hC,_⟩=>by simp only [ex,hV,hps,hnV',if_true,hC,hokV,hb],hrest.1,hrest.2,hk⟩
    ·cases hk
   ·cases hk
  ·cases h
 ·cases h
theorem qw1{E:Env}{E':List V}(h:RVL E.toL E'){x:Operand}(hx:qCQ E x=true):qBR E' x=true:=by
 unfold qCQ at hx;unfold qBR;split at hx
 ·rename_i t;split at hx
  ·rename_i k o n ht;have hr:=qsx h t;rw [ht]at hr;simp only [RV,RTy]at hr;cases hE:E'[t]? with
   |none=>rw [List.getD_eq_getElem?_getD,hE]at hr;cases hr
   |some v =>
    rw [List.getD_eq_getElem?_getD,hE]at hr;simp only [Option.getD_some]at hr;subst hr;simp only [hE]
  ·cases hx
 ·rename_i v;split at hx
  ·rfl
  ·cases hx
 ·cases hx
theorem qxH{E:Env}{E':List V}(h:RVL E.toL E'){t:Tmp}{r:Root}{off:Nat}(hx:E.get t=.ptr r off):E'[t]?=some (.ptr r off):=by
 have hr:=qsx h t;rw [hx]at hr;simp only [RV]at hr;cases hE:E'[t]? with
 |none=>rw [List.getD_eq_getElem?_getD,hE]at hr;cases hr
 |some v =>
  rw [List.getD_eq_getElem?_getD,hE]at hr;simp only [Option.getD_some]at hr;rw [hr]
theorem qsX{ops:Array Oper}{st:TSt}{s:St}(hs:Rst st s)(h:qpP ops st=true):qpO ops s=true:=by
 unfold qpP at h;unfold qpO;refine List.all_eq_true.2 λo ho=>?_;have h1:=List.all_eq_true.1 h o ho;unfold qt9 at h1;unfold qmU;split at h1
 ·rename_i op t x y t2 hop;simp only [qe]at h1;simp only [hop];rw [qw1 hs.E h1.1,qw1 hs.E h1.2];rfl
 ·rename_i t a hop;simp only [hop];split at h1
  ·rename_i r off ha;simp only [qe,decide_eq_true_eq]at h1;obtain ⟨⟨hsl,hb⟩,hbx⟩:=h1;split at hbx
   ·rename_i cs hcs;obtain ⟨c',hc',hrc⟩:=hs.box hcs;have hlp:=qdk (qaF hrc) (hs.M.mp r.lvl r.slot c' (by rw [<- qF];exact hc') hsl);rw [qxH hs.E ha];simp only [hc',hlp,Bool.not_false,Bool.true_and,qe,decide_eq_true_eq];refine ⟨?_,by rw [hrc.length];simpa using hbx⟩;unfold qB6 at hb;unfold qyN;obtain ⟨o2,ho2,h2⟩:=List.any_eq_true.1 hb;obtain ⟨t2,ht2,h3⟩:=List.any_eq_true.1 h2;refine List.any_eq_true.2 ⟨o2,ho2,List.any_eq_true.2 ⟨t2,ht2,?_⟩⟩;simp only [qe]at h3 ⊢;refine ⟨h3.1,?_⟩;have h4:=h3.2;unfold qAw at h4;split at h4
    ·rename_i r' o' hE;rw [qxH hs.E hE];exact h4
    ·cases h4
   ·cases hbx
  ·cases h1
 ·rename_i hn1 hn2;split
  ·rename_i op t x y t2 hop;exact absurd hop (hn1 _ _ _ _ _)
  ·rename_i t a hop;exact absurd hop (hn2 _ _)
  ·rfl
theorem qnU(hT:TOk P H lib T)(hO:OOk P H lib O):∀(c:Code) (bid:Nat),Snd (tx P H J T O ctx f bid c) (qyH P H lib f bid c)
 |.skip,bid=>λst R k r s h hs=>⟨.normal,st,s,.of λC=>rfl,hs,Fr2.refl _ _,h⟩
 |.ret,bid=>λst R k r s h hs=>⟨.ret,st,s,.of λC=>rfl,hs,Fr2.refl _ _,h⟩
 |.exit id,bid=>λst R k r s h hs=>⟨.exit id,st,s,.of λC=>rfl,hs,Fr2.refl _ _,h⟩
 |.seq a b,bid=>λst R k r s h hs=>by
  simp only [tx]at h;obtain ⟨e,st1,s1,hev,hR,hF,hk⟩:=qnU hT hO a bid st _ _ r s h hs;cases e with
  |normal =>
   obtain ⟨e2,st2,s2,hev2,hR2,hF2,hk2⟩:=qnU hT hO b bid st1 _ _ r s1 hk hR;exact ⟨e2,st2,s2,(hev.and hev2).imp λC hC=>by simp only [ex,hC.1,hC.2],hR2,hF.trans hF2,hk2⟩
  |exit id=>exact ⟨.exit id,st1,s1,hev.imp λC hC=>by simp only [ex,hC],hR,hF,hk⟩
  |ret=>exact ⟨.ret,st1,s1,hev.imp λC hC=>by simp only [ex,hC],hR,hF,hk⟩
 |.cond c a b,bid=>λst R k r s h hs=>by
  simp only [tx]at h;refine qlE (rel:=qyH P H lib f bid (.cond c a b)) ?_ _ st R k r s h hs;intro st R k r s h hs;have hr:=qzH (H:=H) (f:=f) (o:=default) hs.E c;simp only at h;split at h
  ·rename_i o t ht;rw [ht]at hr;simp only [RV,RTy]at hr;cases t with
   |true =>
    obtain ⟨e2,st2,s2,hev2,hR2,hF2,hk2⟩:=qnU hT hO a bid st _ _ r s h hs;exact ⟨e2,st2,s2,hev2.imp λC hC=>by simp only [ex,hr,if_true,hC],hR2,hF2,hk2⟩
   |false =>
    obtain ⟨e2,st2,s2,hev2,hR2,hF2,hk2⟩:=qnU hT hO b bid st _ _ r s h hs;exact ⟨e2,st2,s2,hev2.imp λC hC=>by simp only [ex,hr,qf,if_false,hC],hR2,hF2,hk2⟩
  ·cases h
 |.block id c,bid=>λst R k r s h hs=>by
  simp only [tx]at h;refine qlE (rel:=qyH P H lib f bid (.block id c)) ?_ _ st R k r s h hs;intro st R k r s h hs;obtain ⟨e,st1,s1,hev,hR,hF,hk⟩:=qnU hT hO c id st _ _ r s h hs;cases e with
  |exit i =>
   simp only at hk;split at hk
   ·rename_i hi;exact ⟨.normal,st1,s1,hev.imp λC hC=>by simp only [ex,hC,hi,if_true],hR,hF,hk⟩
   ·rename_i hi;exact ⟨.exit i,st1,s1,hev.imp λC hC=>by simp only [ex,hC,hi,if_false],hR,hF,hk⟩
  |normal=>exact ⟨.normal,st1,s1,hev.imp λC hC=>by simp only [ex,hC],hR,hF,hk⟩
  |ret=>exact ⟨.ret,st1,s1,hev.imp λC hC=>by simp only [ex,hC],hR,hF,hk⟩
 |.region id ops draw,bid=>λst R k r s h hs=>by
  simp only [tx]at h;refine qlE (rel:=qyH P H lib f bid (.region id ops draw)) ?_ _ st R k r s h hs;intro st R k r s h hs;simp only [qrE,qu9]at h;cases hpre:qBS (H.pre f id) st with
  |none=>rw [hpre]at h;cases h
  |some sta =>
  rw [hpre]at h;simp only at h;obtain ⟨sa,hcl,hs,hf0⟩:=qBr hs hpre;cases hnt:qgC H ops draw with
  |some p =>
   obtain ⟨F,t,e,d⟩:=p;rw [hnt]at h;simp only at h;split at h
   ·rename_i hlt;obtain ⟨hR0,hF0⟩:=qha hs (some e) (qcj []);obtain ⟨st1,s1,hk,hts,hR,hF⟩:=qAe hR0 h;have hlt':e<sa.E.length:=by rw [hs.E.length,qiS];exact hlt
    exact ⟨.normal,st1,s1,.of λC=>by simp only [ex,hcl,hnt,hts,if_pos hlt',qi],hR,(hf0.trans hF0).trans hF,hk⟩
   ·cases h
  |none =>
  rw [hnt]at h;simp only at h;cases hls:qsz H f ops with
  |true =>
   rw [hls]at h;simp only [if_true]at h;cases hpe:(H.perm f id).isEmpty with
   |false =>
    rw [hpe]at h;simp only [qf,if_false]at h;split at h
    ·rename_i hok;obtain ⟨st1,s1,fps,fpv,hk,hev,hR,hF,_,hcov⟩:=qgU hT hO _ sta sa none [] hs qkg h;split at hk
     ·rename_i hnc;refine ⟨.normal,st1,s1,hev.imp λC hC=>?_,hR,hf0.trans hF,hk⟩;simp only [ex,hcl,hnt,hls,hpe,if_true,qf,if_false];unfold qpQ;rw [if_pos hok,hC];simp only
      rw [if_pos (qsX hR hnc)]
     ·cases hk
    ·cases h
   |true =>
   rw [hpe]at h;simp only [if_true]at h;split at h
   ·rename_i hok;obtain ⟨st1,s1,fps,fpv,hk,hev,hR,hF,_,hcov⟩:=qgU hT hO _ sta sa none [] hs qkg h;split at hk
    ·rename_i hnc;refine ⟨.normal,st1,s1,hev.imp λC hC=>?_,hR,hf0.trans hF,hk⟩;have hnc':(!draw||qg4 (H.pairs f id) fpv)=true:=by
      simp only [Bool.or_eq_true]at hnc ⊢;exact hnc.imp (λh=>h) λh=>qrm hcov h
     simp only [ex,hcl,hnt,hls,hpe,if_true,hok,hC,hnc']
    ·cases hk
   ·cases h
  |false =>
  rw [hls]at h;simp only [qf,if_false]at h;split at h
  ·rename_i hd;split at h
   ·rename_i hok;split at h
    ·rename_i hU;obtain ⟨st1,s1,hk,hev,hR,hF⟩:=qly hT hO _ sta sa hs h;rw [hU]at hok;exact ⟨.normal,st1,s1,hev.imp λC hC=>by simp only [ex,hcl,hnt,qnx,hls,qf,if_false,hd,if_true,hU,hok,hC,qi],hR,hf0.trans hF,hk⟩
    ·rename_i U hU;obtain ⟨st1,s1,fps,fpv,hk,hev,hR,hF,_,hcov⟩:=ql7 hT hO _ sta sa [] hs h;split at hk
     ·rename_i hnc;have hnc':=qrm hcov hnc;refine ⟨.normal,st1,s1,hev.imp λC hC=>?_,hR,hf0.trans hF,hk⟩;simp only [ex,hcl,hnt,qnx,hls,qf,if_false,hd,if_true,hok];cases hp:H.pairs f id with
      |nil=>exact absurd hp (by simpa using hU)
      |cons u U' =>
       rw [hp]at hnc';simp only [hC,hnc',if_true]
     ·cases hk
   ·cases h
  ·rename_i hd;obtain ⟨st1,s1,hk,hev,hR,hF⟩:=qly hT hO _ sta sa hs h;exact ⟨.normal,st1,s1,hev.imp λC hC=>by simp only [ex,hcl,hnt,hls,qf,if_false];rw [if_neg hd,hC];rfl,hR,hf0.trans hF,hk⟩
 |.loop c,bid=>λst R k r s h hs=>by
  simp only [tx]at h;split at h
  ·rename_i j hj;split at h
   ·rename_i hf;obtain ⟨x0,hx0,h⟩:=qd.1 h;obtain ⟨n,hn⟩:=qhB h;obtain ⟨h1,h2⟩:=qzZ hs hf hx0;exact qxj (qnU hT hO c bid) hs n x0 s h1 h2 hn
   ·cases h
  ·split at h
   ·rename_i st1 hcl;obtain ⟨s1,hv1,hs1,hf1⟩:=qhp hs hcl;obtain ⟨e,st2,s2,hev,hR,hF,hk⟩:=qnU hT hO c bid st1 _ _ r s1 h hs1;cases e with
    |normal =>
     obtain ⟨e3,st3,s3,hev3,hR3,hF3,hk3⟩:=hO.code ctx f bid (.loop c) st2 _ _ r s2 hk hR;exact ⟨e3,st3,s3,(hev.and hev3).imp λC hC=>by simp only [ex,hv1,hC.1,hC.2],hR3,(hf1.trans hF).trans hF3,hk3⟩
    |exit id=>exact ⟨.exit id,st2,s2,hev.imp λC hC=>by simp only [ex,hv1,hC],hR,hf1.trans hF,hk⟩
    |ret=>exact ⟨.ret,st2,s2,hev.imp λC hC=>by simp only [ex,hv1,hC],hR,hf1.trans hF,hk⟩
   ·cases h
 |.rangeFunc ..,bid=>λst R k r s h hs=>qzG hT hO h hs
 |.scope _,bid=>λst R k r s h hs=>by simp [tx]at h
 |.label _,bid=>λst R k r s h hs=>by simp [tx]at h
 |.goto _,bid=>λst R k r s h hs=>by simp [tx]at h
 |.refuse _,bid=>λst R k r s h hs=>by simp [tx]at h
end
section
variable {P:Program} {H:Hints} {J:TH} {T:qoZ} {O:TOrc} {lib:FuncId->Option (List V->Option V)} {f:FuncId} {ctx:List Tmp}
theorem qfN{st:TSt}{s:St}(hs:Rst st s):∀(l:List ResultVar) (rs:List TV),qeS (l.map (qiM P st))=some rs->∃rs',qfb (l.map (qc2 P s))=some rs'/\RVL rs rs'
 |[],rs,h=>by simp only [List.map_nil,qeS,qb]at h;subst h;exact ⟨[],rfl,qaa⟩
 |v::l,rs,h=>by
  simp only [qh]at h;cases h1:qiM P st v with
  |none=>rw [h1]at h;simp [qeS]at h
  |some x =>
   rw [h1]at h;simp only [qeS]at h;obtain ⟨rs0,h2,rfl⟩:=qc.1 h;obtain ⟨rs',h3,hr⟩:=qfN hs l rs0 h2;have:∃u,qc2 P s v=some u/\RV x u:=by
    cases v with
    |tmp t =>
     simp only [qiM,qb]at h1;subst h1;exact ⟨_,rfl,qsx hs.E t⟩
    |cell a t =>
     simp only [qiM]at h1;split at h1
     ·rename_i r off hE;have hg:=qsx hs.E a;rw [hE]at hg;simp only [RV]at hg;split at h1
      ·rename_i cs hcs;split at h1
       ·rename_i hsl;obtain ⟨cs',hcs',hc⟩:=hs.box hcs;obtain ⟨u,hu,hr⟩:=qdp h1 (hc.drop off);refine ⟨u,?_,hr⟩;have hlp:=qdk (qaF hc) (hs.M.mp r.lvl r.slot cs' (by rw [<- qF];exact hcs') hsl);simp only [qc2,hg,hcs',hlp,qf,if_false,hu]
       ·cases h1
      ·cases h1
     ·cases h1
   obtain ⟨u,hu,hru⟩:=this;refine ⟨u::rs',?_,qv.2 ⟨hru,hr⟩⟩;simp only [qh,hu,qfb,h3,qi]
theorem qj4{st:TSt}{s:St}(hs:Rst st s):∀(l:List ResultVar) (ks:List (Bool×Nat×Nat)),qj3 (l.map (qfG st))=some ks->l.map (qM s)=ks
 |[],ks,h=>by simp only [List.map_nil,qj3,qb]at h;subst h;rfl
 |v::l,ks,h=>by
  simp only [qh]at h;cases h1:qfG st v with
  |none=>rw [h1]at h;simp [qj3]at h
  |some x =>
   rw [h1]at h;simp only [qj3]at h;obtain ⟨ks0,h2,rfl⟩:=qc.1 h;have:qM s v=x:=by
    cases v with
    |tmp t=>simp only [qfG,qb]at h1;subst h1;rfl
    |cell a t =>
     simp only [qfG]at h1;split at h1
     ·rename_i r off hE;have hg:=qsx hs.E a;rw [hE]at hg;simp only [RV]at hg;cases h1;simp only [qM,hg]
     ·cases h1
   simp only [qh,this,qj4 hs l ks0 h2]
theorem qjL:∀{rs:List TV} {rs':List V},RVL rs rs'->RV (qcK rs) (packed rs')
 |[],rs',h=>by simp only [RVL]at h;subst h;simp [qcK,packed,RV,RVL]
 |[x],rs',h=>by obtain ⟨v,rfl,hv⟩:=qc3 h;exact hv
 |x::y::rs,rs',h=>by
  have h0:=h;simp only [RVL]at h;obtain ⟨v,m,rfl,_,v2,m2,rfl,_,_⟩:=h;simp only [qcK,packed,RV];exact ⟨_,rfl,h0⟩
theorem qx4(hT:TOk P H lib T)(hO:OOk P H lib O){args:List TV}{M:List qC}{R:Type}{k:TV->List qC->List Root->Option R}{r:R}{vs:List V}{M':List Level}
  (h:runT P H J T O ctx f args M R k=some r) (ha:RVL args vs) (hM:LR M M') :
  ∃x N wb v N',k x N wb=some r/\RV x v/\LR N N'/\N.length=M.length/\(∀l sl,(⟨l,sl⟩:Root)∉wb->qat N' l sl=qat M' l sl/\∀c,qam M l sl=some (some c)->∃c',qam N l sl=some (some c'))/\J.lib f=false/\Ev (λC=>qzN P H C f vs M'=some (v,N')) P H lib:=by
 unfold runT at h;split at h
 ·cases h
 ·rename_i hlib;split at h
  ·rename_i fn hfn;split at h
   ·rename_i c hbody;have hE:RVL (Env.qgB args fn.ntmps).toL (vs++List.replicate (fn.ntmps-vs.length) .undef):=by
     rw [qkL,ha.length];exact ha.append (RVL.replicate (qcj []) _)
    have h0:Rst {E:=Env.qgB args fn.ntmps,L:=M,B:=[],Wt:=.empty,Wb:=[]} {E:=vs++List.replicate (fn.ntmps-vs.length) .undef,L:=M',B:=[]}:=⟨hE,hM.init⟩
    have hsnd:Snd (λst R k=>tx P H J T O ctx f 0 c st R λe st=>match e with
     |.normal=>k .normal st
     |.ret=>k .normal st
     |_=>none) (λs e s'=>e=.normal/\Ev (λC=>∃e,(e=.normal\/e=.ret)/\ex P H C f 0 c s=some (e,s')) P H lib):=by
     intro st R k r s h hs;obtain ⟨e,st1,s1,hev,hR,hF,hk⟩:=qnU hT hO c 0 st _ _ r s h hs;cases e with
     |normal=>exact ⟨.normal,st1,s1,⟨rfl,hev.imp λC hC=>⟨.normal,.inl rfl,hC⟩⟩,hR,hF,hk⟩
     |ret=>exact ⟨.normal,st1,s1,⟨rfl,hev.imp λC hC=>⟨.ret,.inr rfl,hC⟩⟩,hR,hF,hk⟩
     |exit id=>cases hk
    obtain ⟨e,st1,s1,⟨_,hev⟩,hR,hF,hk⟩:=qlE hsnd _ _ _ _ _ _ h h0;split at hk
    ·rename_i rs ks hrs hks;have hlen:=hR.len;have hlen2:=hF.len;have hML:=hM.len;simp only at hlen2;have frame:∀l sl,(⟨l,sl⟩:Root)∉st1.Wb->qat s1.L l sl=qat M' l sl/\∀c,qam M l sl=some (some c)->∃c',qam st1.L l sl=some (some c'):=λl sl hl=>by
      refine ⟨?_,λc hc=>?_⟩
      ·by_cases e:l<s1.L.length
       ·rcases hF.b ⟨l,sl⟩ hl with this|⟨h9,_⟩
        ·rw [qF,qF]at this;unfold qat qcH at this;simp only at this;unfold qat;rw [qg e,qg (by omega)]at this;exact this
        ·simp only at h9;omega
       ·unfold qat;rw [List.getElem?_eq_none (by omega),List.getElem?_eq_none (by omega)]
      ·have hlt:l<M.length:=by
        unfold qam at hc;cases hM0:M[l]? with
        |none=>rw [hM0]at hc;cases hc
        |some b=>exact (qm.1 hM0).1
       have hbx:(({E:=Env.qgB args fn.ntmps,L:=M,B:=[],Wt:=.empty,Wb:=[]}:TSt).cont ⟨l,sl⟩).isSome=true:=by
        rw [qaT];unfold qam TSt.all;simp only
        rw [qg hlt];unfold qam at hc;rw [hc];rfl
       obtain ⟨c',hc'⟩:=Option.isSome_iff_exists.1 (hF.bn ⟨l,sl⟩ hl hbx);have h10:=qdF hc';refine ⟨c',?_⟩;unfold qam TSt.all at h10;simp only at h10;rw [qg (by omega)]at h10;exact h10
     split at hk
     ·rename_i hc;simp only [qe]at hc;obtain ⟨⟨hkn,hpt⟩,hko⟩:=hc;obtain ⟨rs',hrs',hrr⟩:=qfN hR _ _ hrs;have hkeys:=qj4 hR _ _ hks;have hpeq:=RVL.ptrs_eq _ _ hkn hrr;refine ⟨_,_,_,packed (if M'.isEmpty&&!ownsL rs' then reflagL qhu rs' else rs'),s1.L,hk,?_,hR.M.front,by omega,frame,by simpa using hlib,hev.imp ?_⟩
      ·split
       ·exact qjL (RVL.qnD qqU rfl _ _ hrr)
       ·exact qjL hrr
      ·rintro C ⟨e,he,hC⟩;unfold qzN;simp only [hfn,hbody,hC];rw [if_pos he,hrs'];simp only
       rw [if_pos];simp only [hpeq,hkeys,qe];rw [hML];exact ⟨hpt,hko⟩
     ·split at hk
      ·rename_i hc;simp only [qe,Bool.not_eq_true']at hc;obtain ⟨⟨⟨hkn,hem⟩,hko⟩,hpt⟩:=hc;split at hk
       ·rename_i xs hxs;split at hk
        ·rename_i hc2;simp only [qe]at hc2;obtain ⟨hkx,hpx⟩:=hc2;obtain ⟨rs',hrs',hrr⟩:=qfN hR _ _ hrs;have hkeys:=qj4 hR _ _ hks;have hpeq:=RVL.ptrs_eq _ _ hkn hrr;obtain ⟨us,hus,hru⟩:=peekTL_ok (bt:=st1.box) (bx:=s1.box) (λr c hc=>by
          obtain ⟨c',h1,h2⟩:=hR.box hc;exact ⟨c',h1,h2,λhlt=>hR.M.mp r.lvl r.slot c' (by rw [<- qF];exact h1) hlt⟩) _ _ _ hxs hrr
         have hpu:=RVL.ptrs_eq _ _ hkx hru;have hem':M'.isEmpty=true:=by
          rw [List.isEmpty_iff]at hem ⊢;subst hem;exact List.eq_nil_of_length_eq_zero (by rw [hML];rfl)
         refine ⟨_,_,_,packed us,s1.L,hk,qjL hru,hR.M.front,by omega,frame,by simpa using hlib,hev.imp ?_⟩;rintro C ⟨e,he,hC⟩;unfold qzN;simp only [hfn,hbody,hC];rw [if_pos he,hrs'];simp only
         have hn1:¬ (((ptrsL rs').all λr=>decide (r.lvl<M'.length))&&qok M'.length (fn.results.toList.map (qM s1)))=true:=by
          rw [hpeq,hML,hpt];simp
         rw [if_neg hn1,if_pos (by rw [hem',hkeys,hML,hko];rfl),hus];simp only [hpu,hpx,if_true]
        ·cases hk
       ·cases hk
      ·cases hk
    ·cases hk
   ·cases h
  ·cases h
theorem qmR:∀{rs:List TV},onlyMapsTL rs=true->(qcK rs).onlyMaps=true
 |[],_=>rfl
 |[x],h=>by simpa [qcK,onlyMapsTL]using h
 |x::y::l,h=>by simpa only [qcK,TV.onlyMaps]using h
theorem qwl(hT:TOk P H lib T)(hO:OOk P H lib O){args:List TV}{R:Type}{k:TV->TV->Option R}{r:R}{vs:List V}
  (h:qwk P H J T O ctx f args R k=some r) (ha:RVL args vs) :
  ∃x τ o l v sl,k x (.t (.mset τ) o l)=some r/\qgZ τ=true/\RV x v/\x.onlyMaps=true/\Ev (λC=>qwj P H C f vs=some (v,sl,kvs τ l)) P H lib:=by
 unfold qwk at h;split at h
 ·cases h
 ·split at h
  ·rename_i fn hfn;split at h
   ·rename_i c hbody;have hE:RVL (Env.qgB args fn.ntmps).toL (vs++List.replicate (fn.ntmps-vs.length) .undef):=by
     rw [qkL,ha.length];exact ha.append (RVL.replicate (qcj []) _)
    have hM0:LR [] []:=⟨rfl,λl s=>by simp [qam,qat,RB],by simp,λl s c h=>by simp [qat]at h⟩
    have h0:Rst {E:=Env.qgB args fn.ntmps,L:=[],B:=[],Wt:=.empty,Wb:=[]} {E:=vs++List.replicate (fn.ntmps-vs.length) .undef,L:=[],B:=[]}:=⟨hE,hM0.init⟩
    obtain ⟨e,st1,s1,hev,hR,hF,hk⟩:=qnU hT hO c 0 _ _ _ r _ h h0;have key:(match qeS (fn.results.toList.map (qiM P st1))with
     |some rs=>match peekTL st1.box rs with
      |some xs=>match ptrsTL xs with
       |[q]=>if q.lvl=0 then (match st1.box q with
        |some [.t (.mset τ) o l]=>if knownL xs&&onlyMapsTL xs then k (qcK xs) (.t (.mset τ) o l)else none
        |_=>none)else none
       |_=>none
      |none=>none
     |none=>none)=some r/\(e=.normal\/e=.ret):=by
     cases e with
     |normal=>exact ⟨hk,.inl rfl⟩
     |ret=>exact ⟨hk,.inr rfl⟩
     |exit id=>cases hk
    obtain ⟨hk2,he⟩:=key;split at hk2
    ·rename_i rs hrs;split at hk2
     ·rename_i xs hxs;split at hk2
      ·rename_i q hq;split at hk2
       ·rename_i hl0;split at hk2
        ·rename_i τ o l hbx;split at hk2
         ·rename_i hc;simp only [qe]at hc;obtain ⟨hkn,hom⟩:=hc;obtain ⟨rs',hrs',hrr⟩:=qfN hR _ _ hrs;obtain ⟨us,hus,hru⟩:=peekTL_ok (bt:=st1.box) (bx:=s1.box) (λr c hc=>by
           obtain ⟨c',h1,h2⟩:=hR.box hc;exact ⟨c',h1,h2,λhlt=>hR.M.mp r.lvl r.slot c' (by rw [<- qF];exact h1) hlt⟩) _ _ _ hxs hrr
          have hpeq:=RVL.ptrs_eq _ _ hkn hru;obtain ⟨c',hc',hcr⟩:=hR.box hbx;obtain ⟨v,rfl,hv⟩:=qc3 hcr;simp only [RV,RTy]at hv;obtain ⟨hkt,rfl⟩:=hv;have hom':=(rvl_adopt q _ _ hom hru).2;refine ⟨_,τ,o,l,packed us,q.slot,hk2,hkt,qjL hru,qmR hom,hev.imp λC hC=>?_⟩;unfold qwj;simp only [hfn,hbody,hC];rw [if_pos he,hrs'];simp only [hus,hpeq,hq];rw [if_pos hl0,hc'];simp only [hom',if_true];rfl
         ·cases hk2
        ·cases hk2
       ·cases hk2
      ·cases hk2
     ·cases hk2
    ·cases hk2
   ·cases h
  ·cases h
theorem qwz{x:TV}(h:x≠.val (.slice none 0 0))(h2:∀t o y,x≠.t (.nsl t) o y):x.qcS=x:=by
 unfold TV.qcS;split
 ·exact absurd rfl h
 ·exact absurd rfl (h2 _ _ _)
 ·rfl
theorem qzO{x:TV}{v:V}(h:RV x v):RV x.qcS v.qcS:=by
 by_cases hv:v=.val (.slice none 0 0)
 ·subst hv;cases x with
  |any rs=>simp only [RV]at h;simp [TV.qcS,V.qcS,RV,V.qp,ptrsL,q6]
  |t τ o y=>cases τ<;>first|(simp [RV,RTy]at h;done)|(simp [TV.qcS,V.qcS,RV,V.qp,ptrsL,q6])
  |val u =>
   simp only [RV,V.val.injEq]at h;subst h;simp [TV.qcS,V.qcS,RV,FlR,qa7]
  |_=>simp [RV]at h
 ·by_cases hx:∃t o y,x=.t (.nsl t) o y
  ·obtain ⟨t,o,y,rfl⟩:=hx;rw [qph hv];simp only [RV]at h;simp only [TV.qcS,RV];have h1:=qbM _ _ _ _ h;refine ⟨by rw [h1];simp,qhx h⟩
  ·rw [qph hv,qwz]
   ·exact h
   ·rintro rfl;simp only [RV]at h;exact hv h
   ·rintro t o y rfl;exact hx ⟨t,o,y,rfl⟩
theorem qrM:∀{l:List TV} {m:List V},RVL l m->RVL (l.map TV.qcS) (m.map V.qcS)
 |[],m,h=>by simp only [RVL]at h;subst h;exact qaa
 |x::l,m,h=>by
  simp only [RVL]at h;obtain ⟨v,m',rfl,h1,h2⟩:=h;exact qv.2 ⟨qzO h1,qrM h2⟩
theorem qCC{g:FuncId}{l:List TV}{m:List V}(h:RVL l m):RVL (dnT H g l) (dnA H g m):=by
 unfold dnT dnA;cases H.qcS g
 ·exact h
 ·exact qrM h
def qDs(P:Program)(H:Hints)(lib:FuncId->Option (List V->Option V))(g:FuncId)(cs vs cs':List V):Prop:=Ev (λC=>qzN P H C g (.ptr ⟨0,0⟩ 0::vs) [[(0,cs)]]=some (.tuple [],[[(0,cs')]])) P H lib
def qBN(P:Program)(H:Hints)(lib:FuncId->Option (List V->Option V))(I:IoT):Prop :=
 ∀g c args (R:Type) (k:List TV->Option R) r cs vs,I g c args R k=some r->RVL c cs->RVL args vs->lib g=none/\∃c' cs',k c'=some r/\RVL c' cs'/\qDs P H lib g cs vs cs'
mutual
theorem denilD_ptrs:∀v:V,v.denilD.qp=v.qp
 |.agg l=>by simp only [V.denilD,V.qp,denilDL_ptrs l]
 |.tuple l=>by simp only [V.denilD,V.qp,denilDL_ptrs l]
 |.val u=>by unfold V.denilD;split<;>first|rfl|(rename_i e;cases e;simp [V.qp,ptrsL])|(rename_i e;cases e)
 |.undef|.ptr .. | .cptr .. | .sl .. | .room .. | .fn .. | .yld _|.iface .. | .mref _|.bsl .. | .mp _|.lp ..=>rfl
theorem denilDL_ptrs:∀l:List V,ptrsL (denilDL l)=ptrsL l
 |[]=>rfl
 |v::l=>by simp only [denilDL,ptrsL,denilD_ptrs v,denilDL_ptrs l]
end
theorem qiq{v:V}(h:q6 [v]=false):q6 [v.denilD]=false:=by
 cases v<;>first|exact h|rfl|(unfold V.denilD;split<;>first|rfl|exact h)
theorem qvy:∀(τ:Ty) (o:Nat) (x:τ.den) (v:V),(∀t,τ≠.nsl t)->(∀a b,τ≠.pair a b)->RTy τ o x v->v.denilD=v
 |.int _,_,_,v,_,_,h=>by simp only [RTy]at h;subst h;rfl
 |.bool,_,_,v,_,_,h=>by simp only [RTy]at h;subst h;rfl
 |.str,_,_,v,_,_,h=>by simp only [RTy]at h;subst h;rfl
 |.flt,_,_,v,_,_,h=>by simp only [RTy]at h;obtain ⟨_,rfl,_⟩:=h;rfl
 |.cx,_,_,v,_,_,h=>by simp only [RTy]at h;obtain ⟨_,_,rfl,_⟩:=h;rfl
 |.err,_,_,v,_,_,h=>by simp only [RTy]at h;rcases h with ⟨_,rfl⟩|⟨_,_,rfl⟩<;>rfl
 |.mset _,_,_,v,_,_,h=>by simp only [RTy]at h;obtain ⟨_,rfl⟩:=h;rfl
 |.nsl t,_,_,v,hx,_,h=>absurd rfl (hx t)
 |.sl _,_,_,v,_,_,h=>by simp only [RTy]at h;obtain ⟨_,_,_,rfl,_⟩:=h;rfl
 |.unit,_,_,v,_,_,h=>by simp only [RTy]at h;subst h;rfl
 |.pair a b,_,_,v,_,hy,h=>absurd rfl (hy a b)
mutual
theorem rv_denilD:∀(x:TV) (v:V),RV x v->RV x.denilD v.denilD
 |.agg l,v,h=>by
  simp only [RV]at h;obtain ⟨l',rfl,h⟩:=h;simp only [TV.denilD,V.denilD,RV];exact ⟨_,rfl,rvl_denilD l l' h⟩
 |.tuple l,v,h=>by
  simp only [RV]at h;obtain ⟨l',rfl,h⟩:=h;simp only [TV.denilD,V.denilD,RV];exact ⟨_,rfl,rvl_denilD l l' h⟩
 |.any rs,v,h=>by
  simp only [RV]at h;simp only [TV.denilD,RV];exact ⟨by rw [denilD_ptrs];exact h.1,qiq h.2⟩
 |.t τ o x,v,h=>by
  by_cases hx:∃t,τ=.nsl t
  ·obtain ⟨t,rfl⟩:=hx;simp only [RV]at h;simp only [TV.denilD,RV];have h1:=qbM _ _ _ _ h;exact ⟨by rw [denilD_ptrs,h1];simp,qiq (qhx h)⟩
  ·by_cases hy:∃a b,τ=.pair a b
   ·obtain ⟨a,b,rfl⟩:=hy;simp only [RV]at h;simp only [TV.denilD,RV];have h1:=qbM _ _ _ _ h;exact ⟨by rw [denilD_ptrs,h1];simp,qiq (qhx h)⟩
   ·have e1:(TV.t τ o x).denilD=.t τ o x:=by cases τ<;>first|rfl|exact absurd ⟨_,rfl⟩ hx|exact absurd ⟨_,_,rfl⟩ hy
    rw [e1];simp only [RV]at h ⊢;rw [qvy τ o x v (λt e=>hx ⟨t,e⟩) (λa b e=>hy ⟨a,b,e⟩) h];exact h
 |.val u,v,h=>by
  simp only [RV]at h;subst h;by_cases hu:u=.slice none 0 0
  ·subst hu;simp [TV.denilD,V.denilD,RV,FlR,qa7]
  ·have e:(V.val u).denilD=.val u:=by
    unfold V.denilD;split<;>first|rfl|(rename_i e;cases e;exact absurd rfl hu)|(rename_i e;cases e)
   have e2:(TV.val u).denilD=.val u:=by
    unfold TV.denilD;split<;>first|rfl|(rename_i e;cases e;exact absurd rfl hu)|(rename_i e;cases e)
   rw [e,e2];simp [RV]
 |.clp τ x,v,h=>by simp only [TV.denilD,RV]at h ⊢;obtain ⟨f,l',rfl,h1⟩:=h;exact ⟨f,l',rfl,h1⟩
 |.room a s,v,h=>by
  have e:v.denilD=v:=by simp only [RV]at h;cases v<;>first|rfl|(simp at h)
  rw [e];exact h
 |.empty o,v,h=>by simp only [TV.denilD,RV]at h ⊢;obtain ⟨f,c,rfl,h1⟩:=h;exact ⟨f,c,rfl,h1⟩
 |.fn ..,v,h=>by simp only [TV.denilD,RV]at h ⊢;obtain ⟨a,b,rfl,h1⟩:=h;exact ⟨a,b,rfl,h1⟩
 |.ptr ..,v,h=>by simp only [TV.denilD,RV]at h ⊢;subst h;rfl
 |.cptr ..,v,h=>by simp only [TV.denilD,RV]at h ⊢;obtain ⟨f,l',rfl,h1⟩:=h;exact ⟨f,l',rfl,h1⟩
 |.iface ..,v,h=>by simp only [TV.denilD,RV]at h ⊢;obtain ⟨a,rfl,h1⟩:=h;exact ⟨a,rfl,h1⟩
 |.mref _,v,h=>by simp only [TV.denilD,RV]at h ⊢;subst h;rfl
 |.bsl ..,v,h=>by simp only [TV.denilD,RV]at h ⊢;subst h;rfl
 |.yld _,v,h=>by simp only [TV.denilD,RV]at h ⊢;subst h;rfl
 |.lp ..,v,h=>by simp only [RV]at h
theorem rvl_denilD:∀(l:List TV) (m:List V),RVL l m->RVL (denilDTL l) (denilDL m)
 |[],m,h=>by simp only [RVL]at h;subst h;simp [denilDTL,denilDL,RVL]
 |x::l,m,h=>by
  simp only [RVL]at h;obtain ⟨v,m',rfl,h1,h2⟩:=h;simp only [denilDTL,denilDL];exact qv.2 ⟨rv_denilD x v h1,rvl_denilD l m' h2⟩
end
theorem qCB{g:FuncId}{x:TV}{v:V}(h:RV x v):RV (qC2 H g x) (dnR H g v):=by
 unfold qC2 dnR;cases H.denr g
 ·exact h
 ·exact rv_denilD x v h
theorem quN{x:TV}(h:x≠.val (.slice none 0 0))(h2:∀t o y,x≠.t (.nsl t) o y):x.qbj=x:=by
 unfold TV.qbj;split
 ·exact absurd rfl h
 ·exact absurd rfl (h2 _ _ _)
 ·rfl
theorem qx5{x:TV}{v:V}(h:RV x v):RV x.qbj v.qbj:=by
 by_cases hv:v=.val (.slice none 0 0)
 ·subst hv;cases x with
  |any rs=>simp only [RV]at h;simp [TV.qbj,V.qbj,RV,V.qp,ptrsL,q6]
  |t τ o y=>cases τ<;>first|(simp [RV,RTy]at h;done)|(simp [TV.qbj,V.qbj,RV,V.qp,ptrsL,q6])
  |val u =>
   simp only [RV,V.val.injEq]at h;subst h;simp [TV.qbj,V.qbj,RV,FlR,qa7]
  |_=>simp [RV]at h
 ·by_cases hx:∃t o y,x=.t (.nsl t) o y
  ·obtain ⟨t,o,y,rfl⟩:=hx;rw [ql3 hv];simp only [RV]at h;simp only [TV.qbj,RV];have h1:=qbM _ _ _ _ h;refine ⟨by rw [h1];simp,qhx h⟩
  ·rw [ql3 hv,quN]
   ·exact h
   ·rintro rfl;simp only [RV]at h;exact hv h
   ·rintro t o y rfl;exact hx ⟨t,o,y,rfl⟩
theorem qoJ:∀{l:List TV} {m:List V},RVL l m->RVL (l.map TV.qbj) (m.map V.qbj)
 |[],m,h=>by simp only [RVL]at h;subst h;exact qaa
 |x::l,m,h=>by
  simp only [RVL]at h;obtain ⟨v,m',rfl,h1,h2⟩:=h;exact qv.2 ⟨qx5 h1,qoJ h2⟩
theorem qCh:qBN P H lib (λ_ _ _ _ _=>none):=λ_ _ _ _ _ _ _ _ h=>by cases h
theorem qmO:∀{c:List TV} {cs:List V},c.all TV.one=true->RVL c cs->qc7 cs=false
 |[],cs,_,h=>by simp only [RVL]at h;subst h;rfl
 |x::c,cs,h1,h=>by
  simp only [RVL]at h;obtain ⟨v,m,rfl,h2,_⟩:=h;simp only [List.all_cons,qe]at h1;have:=RV.one h1.1 h2;cases v<;>first|rfl|(simp [V.one]at this)
theorem qxh(M:List qC)(q:Root):qtZ M q=qam M q.lvl q.slot:=by unfold qtZ qam;rfl
theorem qyQ(M:List Level)(q:Root):qwo M q=qat M q.lvl q.slot:=by unfold qwo qat;rfl
theorem qw5{c:List V}(h:qc7 c=false):qf0 c=false:=by
 cases c with
 |nil=>rfl
 |cons v l=>cases v<;>first|rfl|(simp [qc7]at h)
theorem qBf{I:IoT}(hI:qBN P H lib I){g:FuncId}(hg:H.io g=true){args:List TV}{M:List qC}{R:Type}{k:TV->List qC->List Root->Option R}{r:R}{vs:List V}{M':List Level}
  (h:qC5 I g args M R k=some r) (ha:RVL args vs) (hM:LR M M') :
  ∃x N wb v N',k x N wb=some r/\RV x v/\LR N N'/\N.length=M.length/\(∀l sl,(⟨l,sl⟩:Root)∉wb->qat N' l sl=qat M' l sl/\∀c,qam M l sl=some (some c)->∃c',qam N l sl=some (some c'))/\qqn P H lib g vs M' v N':=by
 unfold qC5 at h;split at h
 rotate_left
 ·cases h
 rename_i q off rest;split at h
 rotate_left
 ·cases h
 rename_i h1;simp only [qe,decide_eq_true_eq,List.isEmpty_iff]at h1;obtain ⟨⟨⟨rfl,hslot⟩,hkr⟩,hpr⟩:=h1;split at h
 rotate_left
 ·cases h
 rename_i c hc;split at h
 rotate_left
 ·cases h
 rename_i h2;simp only [qe,List.isEmpty_iff]at h2;obtain ⟨⟨hone,hkc⟩,hpc⟩:=h2;rw [qxh]at hc;have hrel:=hM.rel q.lvl q.slot;rw [hc]at hrel;obtain ⟨cs,hcs,hrc⟩:=hrel;have hlc:RVL c cs:=hrc.rvl (by
  cases c with
  |nil=>rfl
  |cons x l=>simp only [List.all_cons,qe]at hone;cases x<;>first|rfl|(simp [TV.one]at hone))
 simp only [RVL]at ha;obtain ⟨v0,vrest,rfl,hv0,har⟩:=ha;simp only [RV]at hv0;subst hv0;obtain ⟨hlib,c',cs',hk,hlc',n,hev⟩:=hI g c (rest.map TV.qbj) _ _ _ cs (vrest.map V.qbj) h hlc (qoJ har);split at hk
 rotate_left
 ·cases hk
 rename_i h3;simp only [qe,List.isEmpty_iff]at h3;obtain ⟨⟨hone',hkc'⟩,hpc'⟩:=h3;have hlp:=qmO hone hlc;have hlp':=qmO hone' hlc';have ep:ptrsL cs=[]:=by rw [RVL.ptrs_eq _ _ hkc hlc];exact hpc
 have ep':ptrsL cs'=[]:=by rw [RVL.ptrs_eq _ _ hkc' hlc'];exact hpc'
 have epr:ptrsL vrest=[]:=by rw [RVL.ptrs_eq _ _ hkr har];exact hpr
 refine ⟨.tuple [],qzR M q c',[q],.tuple [],qAH M' q cs',hk,by simp [RV,RVL],?_,by simp [qzR],?_,⟨n+1,λm hm=>?_⟩⟩
 ·exact hM.qo q.lvl q.slot (by rw [hc];simp) hlc'.rc (λ_=>qw5 hlp')
 ·intro l sl hne;have hne':¬ (l=q.lvl/\sl=q.slot):=λ⟨e1,e2⟩=>hne (by simp [e1,e2]);constructor
  ·unfold qAH;rw [qg1];split
   ·rename_i e;subst e;have hs:sl≠q.slot:=λe=>hne' ⟨rfl,e⟩;unfold qat;cases M'[q.lvl]? with
    |none=>rfl
    |some b=>simp only;rw [qdl,if_neg hs]
   ·rfl
  ·intro c2 hc2;unfold qzR;rw [qe0];split
   ·rename_i e;subst e;have hs:sl≠q.slot:=λe=>hne' ⟨rfl,e⟩;unfold qam at hc2;cases hMq:M[q.lvl]? with
    |none=>rw [hMq]at hc2;cases hc2
    |some b=>rw [hMq]at hc2;simp only at hc2 ⊢;rw [qfx,if_neg hs];exact ⟨c2,hc2⟩
   ·exact ⟨c2,hc2⟩
 ·obtain ⟨m',rfl⟩:∃m',m=m'+1:=⟨m-1,by omega⟩
  have:=hev m' (by omega);simp only [qnS,hlib,hg,if_true];unfold ioF;simp only [epr,List.isEmpty_nil,if_true,qyQ,hcs,hlp,ep,Bool.not_false,Bool.and_self];rw [show (List.map V.qbj (V.ptr ⟨0,0⟩ 0::vrest))=V.ptr ⟨0,0⟩ 0::vrest.map V.qbj from rfl,this];simp [V.qp,V.owns,ownsL,ptrsL,hlp',ep']
theorem qqh(hT:TOk P H lib T)(hJ:∀g,J.lib g=false->lib g=none)(hI:qBN P H lib J.io):∀n,OOk P H lib (qlr P H J T n)
 |0=>⟨λctx g args M R k r vs M' h=>by simp [qlr]at h,λctx f bid c st R k r s h=>by simp [qlr]at h,λctx g args R k r vs h=>by simp [qlr]at h⟩
 |n+1=>by
  have ih:=qqh hT hJ hI n;refine ⟨λctx g args M R k r vs M' h ha hM=>?_,λctx f bid c st R k r s h hs=>?_,λctx g args R k r vs h ha=>?_⟩
  rotate_right
  ·simp only [qlr]at h;obtain ⟨x,τ,o,l,v,sl,hk,hkt,hr,hom,hev⟩:=qwl hT ih h ha;refine ⟨x,τ,o,l,v,sl,hk,hkt,hr,hom,?_⟩;obtain ⟨n1,h1⟩:=hev;refine ⟨n1+1,λm hm=>?_⟩;obtain ⟨m',rfl⟩:∃m',m=m'+1:=⟨m-1,by omega⟩
   exact h1 m' (by omega)
  ·simp only [qlr]at h;split at h
   ·rename_i hg;exact qBf hI hg h ha hM
   rename_i hg;obtain ⟨x,N,wb,v,N',hk,hr,hN,hlen,hfr,hl,hev⟩:=qx4 hT ih h (qCC ha) hM;refine ⟨_,N,wb,_,N',hk,qCB hr,hN,hlen,hfr,?_⟩;obtain ⟨n1,h1⟩:=hev;refine ⟨n1+1,λm hm=>?_⟩;obtain ⟨m',rfl⟩:∃m',m=m'+1:=⟨m-1,by omega⟩
   have:=h1 m' (by omega);simp only [qnS,hJ g hl];rw [if_neg hg];have h3:qzN P H (qnS P H lib m') g (dnA H g vs) M'=some (v,N'):=this;rw [h3];rfl
  ·simp only [qlr]at h;obtain ⟨e,st',s',hev,hR,hF,hk⟩:=qnU hT ih c bid st _ _ r s h hs;refine ⟨e,st',s',?_,hR,hF,hk⟩;obtain ⟨n1,h1⟩:=hev;refine ⟨n1+1,λm hm=>?_⟩;obtain ⟨m',rfl⟩:∃m',m=m'+1:=⟨m-1,by omega⟩
   exact h1 m' (by omega)
def qP(P:Program)(H:Hints)(lib:FuncId->Option (List V->Option V))(e:Entry):Prop :=
 ∀x y,e.F x=some y->∀vs,RVL (qaY e.ps x) vs->∃v,qqn P H lib e.g vs [] v []/\RV (qpN e.rs y) v
theorem quE{τ:Ty}{cs:List TV}{x:τ.den}{l':List V}(h:qsf τ cs=some x)(hr:RVL cs l'):RVL (ofTy τ 1000 x).cells l':=by
 unfold qsf at h;split at h
 ·rename_i h1;split at h
  ·rename_i c;obtain ⟨u,rfl,hu⟩:=qc3 hr;have h2:=rv_ofTy _ _ _ _ (qcT _ _ _ _ _ h hu);have h3:(ofTy τ 1000 x).cells=[ofTy τ 1000 x]:=by cases τ<;>first|rfl|simp [Ty.one]at h1
   rw [h3];exact qv.2 ⟨h2,qaa⟩
  ·cases h
 ·rename_i h1;have h2:=rv_ofTy _ _ _ _ (qcT _ _ _ _ (.agg l') h (by simp only [RV];exact ⟨l',rfl,hr⟩));cases τ with
  |unit=>simp only [ofTy,TV.cells,RV]at h2 ⊢;obtain ⟨m,e,hm⟩:=h2;cases e;exact hm
  |pair a b=>simp only [ofTy,TV.cells,RV]at h2 ⊢;obtain ⟨m,e,hm⟩:=h2;cases e;exact hm
  |mset t=>simp [qd5]at h
  |_=>simp [Ty.one]at h1
theorem qsg{c:Cp}{w:TV}{x:c.den}{v:V}(h:qAU c w=some x)(hr:RV w v):RV (qCq c x) v:=by
 cases c with
 |v τ=>exact rv_ofTy _ _ _ _ (qcT _ _ _ _ _ h hr)
 |p τ =>
  cases w<;>simp only [qAU]at h<;>try (cases h;done)
  rename_i sh cs;cases sh with
  |false=>simp only [qAU]at h;cases h
  |true =>
   simp only [qAU]at h;simp only [RV]at hr;obtain ⟨f,l',rfl,hf,hsh,hl⟩:=hr;simp only [qCq,RV];exact ⟨f,l',rfl,hf,hsh,quE h hl⟩
theorem qtD:∀(cs:List Cp) (l:List TV) (x:denC cs) (l':List V),qqy cs l=some x->RVL l l'->RVL (qzs cs x) l'
 |[],l,x,l',h,hr=>by
  cases l with
  |nil=>simpa [qzs]using hr
  |cons=>simp [qqy]at h
 |[c],l,x,l',h,hr=>by
  match l,h,hr with
  |[v],h,hr =>
   obtain ⟨u,rfl,h1⟩:=qc3 hr;exact qv.2 ⟨qsg h h1,qaa⟩
  |[],h,hr=>simp [qqy]at h
  |_::_::_,h,hr=>simp [qqy]at h
 |c::q::ps,l,x,l',h,hr=>by
  match l,h,hr with
  |[],h,hr=>simp [qqy]at h
  |v::l,h,hr =>
   simp only [qqy]at h;obtain ⟨y,hy,h⟩:=qd.1 h;obtain ⟨z,hz,h⟩:=qd.1 h;simp only [qb]at h;subst h;simp only [RVL]at hr;obtain ⟨u,m,rfl,h1,h2⟩:=hr;exact qv.2 ⟨qsg hy h1,qtD (q::ps) l _ _ hz h2⟩
theorem qwf{p:Pm}{w:TV}{x:p.den}{v:V}(h:qBO p w=some x)(hr:RV w v):RV (qCS p x) v:=by
 cases p with
 |ty τ=>exact rv_ofTy _ _ _ _ (qcT _ _ _ _ _ h hr)
 |ptr τ=>exact qsg (c:=.p τ) h hr
 |fn g cs =>
  cases w<;>simp only [qBO]at h<;>try (cases h;done)
  rename_i g' first cap;cases first with
  |cons y ys=>simp only [qBO]at h;cases h
  |nil =>
   simp only [qBO]at h;split at h
   ·rename_i hg;subst hg;simp only [RV]at hr;obtain ⟨a',b',rfl,ha,hb⟩:=hr;simp only [RVL]at ha;subst ha;simp only [qCS,RV];exact ⟨[],b',rfl,qaa,qtD _ _ _ _ h hb⟩
   ·cases h
theorem qpa:∀(ps:List Pm) (l:List TV) (x:denP ps) (l':List V),qqx ps l=some x->RVL l l'->RVL (qaY ps x) l'
 |[],l,x,l',h,hr=>by
  cases l with
  |nil=>simpa [qaY]using hr
  |cons=>simp [qqx]at h
 |[p],l,x,l',h,hr=>by
  match l,h,hr with
  |[v],h,hr =>
   obtain ⟨u,rfl,h1⟩:=qc3 hr;exact qv.2 ⟨qwf h h1,qaa⟩
  |[],h,hr=>simp [qqx]at h
  |_::_::_,h,hr=>simp [qqx]at h
 |p::q::ps,l,x,l',h,hr=>by
  match l,h,hr with
  |[],h,hr=>simp [qqx]at h
  |v::l,h,hr =>
   simp only [qqx]at h;obtain ⟨y,hy,h⟩:=qd.1 h;obtain ⟨z,hz,h⟩:=qd.1 h;simp only [qb]at h;subst h;simp only [RVL]at hr;obtain ⟨u,m,rfl,h1,h2⟩:=hr;exact qv.2 ⟨qwf hy h1,qpa (q::ps) l _ _ hz h2⟩
theorem qAL:∀{l:List Entry},(∀e∈l,qP P H lib e)->TOk P H lib (qec l)
 |[],_=>λg args R k r vs h=>by simp [qec]at h
 |e::l,he=>λg args R k r vs h ha=>by
  have ih:=qAL (l:=l) λe' h'=>he e' (by simp [h']);simp only [qec]at h;split at h
  ·rename_i hg;subst hg;split at h
   ·rename_i x hx;obtain ⟨y,hy,hk⟩:=qd.1 h;obtain ⟨v,hev,hr⟩:=he e (by simp) x y hy vs (qpa _ _ _ _ hx ha);exact ⟨_,v,hk,hr,hev⟩
   ·exact ih _ _ _ _ _ _ h ha
  ·exact ih _ _ _ _ _ _ h ha
theorem q4:TOk P H lib (qec []):=qAL (by simp)
theorem qq{e:Entry}{l:List Entry}(h:qP P H lib e)(h':TOk P H lib (qec l)):TOk P H lib (qec (e::l)):=λg args R k r vs hh ha=>by
 simp only [qec]at hh;split at hh
 ·rename_i hg;subst hg;split at hh
  ·rename_i x hx;obtain ⟨y,hy,hk⟩:=qd.1 hh;obtain ⟨v,hev,hr⟩:=h x y hy vs (qpa _ _ _ _ hx ha);exact ⟨_,v,hk,hr,hev⟩
  ·exact h' _ _ _ _ _ _ hh ha
 ·exact h' _ _ _ _ _ _ hh ha
theorem qyK{rs:List (Ty×Nat)}{x:TV}{y:denL (rs.map (·.1))}{v:V}(h:qwg rs x=some y)(hr:RV x v):RV (qpN rs y) v:=by
 match rs,y,h with
 |[p],y,h =>
  simp only [qwg]at h;have:=qlU [p] [x] y [v] h (qv.2 ⟨hr,qaa⟩);simp only [qpN];obtain ⟨τ,o⟩:=p;simp only [ofL]at this ⊢;exact (qv.1 this).1
 |[],y,h =>
  cases x<;>simp only [qwg]at h<;>try (cases h;done)
  rename_i l _;simp only [RV]at hr;obtain ⟨l',rfl,hl⟩:=hr;have:=qlU [] l y l' h hl;simp only [qpN,ofL,qcK,RV];exact ⟨l',rfl,this⟩
 |p::q::rs,y,h =>
  cases x<;>simp only [qwg]at h<;>try (cases h;done)
  rename_i l _;simp only [RV]at hr;obtain ⟨l',rfl,hl⟩:=hr;have:=qlU (p::q::rs) l y l' h hl;have hpk:∀m:List TV,2<=m.length->qcK m=.tuple m:=λm hm=>by
   match m,hm with
   |_::_::_,_=>rfl
  simp only [qpN];rw [hpk _ (by rw [qhn _ _ _ h];have:=qhn _ _ _ h;obtain ⟨τ,o⟩:=p;cases rs<;>simp [ofL]at this<;>omega)];simp only [RV];exact ⟨l',rfl,this⟩
theorem qG(hT:TOk P H lib T)(hJ:∀g,J.lib g=false->lib g=none)(n:Nat)(g:FuncId)(ps:List Pm)(rs:List (Ty×Nat))(F:denP ps->Option (denL (rs.map (·.1))))
  (h:∀x,fnT P H J T n g (qaY ps x) rs=F x) (hI:qBN P H lib J.io:=by exact qCh):qP P H lib ⟨g,ps,rs,F⟩:=by
 intro x y hy vs hvs;simp only at hy hvs;rw [<- h x]at hy;unfold fnT at hy;obtain ⟨w,N,wb,v,N',hk,hr,hN,hlen,_,hev⟩:=(qqh hT hJ hI n).call _ _ _ _ _ _ _ _ [] hy hvs ⟨rfl,λl s=>by simp [qam,qat,RB],by simp,λl s c h=>by simp [qat]at h⟩;have hN0:N=[]:=List.eq_nil_of_length_eq_zero (by rw [hlen];rfl);subst hN0;have hN0':N'=[]:=List.eq_nil_of_length_eq_zero (by rw [hN.len];rfl);subst hN0';exact ⟨v,hev,qyK hk hr⟩
def qi3(P:Program)(H:Hints)(lib:FuncId->Option (List V->Option V))(e:IoEntry):Prop :=
 lib e.g=none/\∀x y z,e.F x y=some z->∀cs vs,RVL (ofL e.bs x) cs->RVL (ofL e.ps y) vs->∃cs',qDs P H lib e.g cs vs cs'/\RVL (ofL e.bs z) cs'
theorem qp6:∀{l:List IoEntry},(∀e∈l,qi3 P H lib e)->qBN P H lib (qvI l)
 |[],_=>λg c args R k r cs vs h=>by simp [qvI]at h
 |e::l,he=>λg c args R k r cs vs h hc ha=>by
  simp only [qvI]at h;split at h
  ·rename_i hg;subst hg;split at h
   ·rename_i x y hx hy;obtain ⟨z,hz,hk⟩:=qd.1 h;obtain ⟨h1,h2⟩:=he e (by simp);obtain ⟨cs',h3,h4⟩:=h2 x y z hz cs vs (qlU _ _ _ _ hx hc) (qlU _ _ _ _ hy ha);exact ⟨h1,_,cs',hk,h4,h3⟩
   ·cases h
  ·exact qp6 (λe' h'=>he e' (by simp [h'])) g c args R k r cs vs h hc ha
theorem quF:∀{bs:List (Ty×Nat)} {c:List TV} {z:denL (bs.map (·.1))},asL bs c=some z->isRec c=false
 |bs,[],_,_=>rfl
 |bs,v::l,z,h=>by
  cases v<;>first|rfl|(
   match bs,z,h with
   |[],z,h=>simp [asL]at h
   |[(τ,o)],z,h=>cases l<;>cases τ<;>simp [asL,qd5]at h
   |(τ,o)::q::ps,z,h=>cases τ<;>simp [asL,qd5]at h)
theorem qxC{B:Level}{cs':List V}(h0:qu B 0=some cs')(hn:∀s,s≠0->qu B s=none)(nd:(B.map (·.1)).Nodup):B=[(0,cs')]:=by
 match B,h0,hn,nd with
 |[],h0,_,_=>simp [qu]at h0
 |(k,c)::B,h0,hn,nd =>
  by_cases hk:k=0
  ·subst hk;simp only [qu,if_true,qb]at h0;subst h0
   match B,hn,nd with
   |[],_,_=>rfl
   |(k2,c2)::B,hn,nd =>
    have h2:k2≠0:=λe=>by subst e;simp at nd
    have:=hn k2 h2;simp only [qu,if_true]at this;rw [if_neg (λe=>h2 e.symm)]at this;cases this
  ·have:=hn k hk;simp [qu]at this
theorem qsA(hT:TOk P H lib T)(hJ:∀g,J.lib g=false->lib g=none)(n:Nat)(g:FuncId)(bs:List (Ty×Nat))(ps:List (Ty×Nat))(F:denL (bs.map (·.1))->denL (ps.map (·.1))->Option (denL (bs.map (·.1))))
  (h:∀x y,qC4 P H J T n g (ofL bs x) (ofL ps y) bs=F x y) (hI:qBN P H lib J.io) (hl:lib g=none):qi3 P H lib ⟨g,bs,ps,F⟩:=by
 refine ⟨hl,λx y z hz cs vs hcs hvs=>?_⟩;simp only at hz hcs hvs;rw [<- h x y]at hz;unfold qC4 at hz;split at hz
 rotate_left
 ·cases hz
 rename_i hone;have hlp:=qmO hone hcs;have hLR:LR [[(0,some (ofL bs x))]] [[(0,cs)]]:={
  len:=rfl
  rel:=λl s=>by
   cases l with
   |succ l=>exact (show RB none none from rfl)
   |zero =>
    show RB (if 0=s then some (some (ofL bs x))else none) (if 0=s then some cs else none);by_cases hs:0=s
    ·rw [if_pos hs,if_pos hs];exact ⟨cs,rfl,hcs.rc⟩
    ·rw [if_neg hs,if_neg hs];rfl
  nd:=by simp
  mp:=λl s c hc _=>by
   cases l with
   |succ l=>simp [qat]at hc
   |zero =>
    have hc':(if 0=s then some cs else none)=some c:=hc;split at hc'
    ·cases hc';exact qw5 hlp
    ·cases hc'}
 obtain ⟨w,N,wb,v,N',hk,hr,hN,hlen,hfr,hlj,n1,hev⟩:=qx4 hT (qqh hT hJ hI n) hz (qv.2 ⟨(by simp only [RV]:RV (.ptr ⟨0,0⟩ 0) (.ptr ⟨0,0⟩ 0)),hvs⟩) hLR;split at hk
 rotate_left
 ·cases hk
 rename_i c';simp only [RV,RVL]at hr;obtain ⟨l',rfl,rfl⟩:=hr;obtain ⟨B,rfl⟩:∃B,N'=[B]:=by
  have h1:=hN.len
  match N',h1 with
  |[B],_=>exact ⟨B,rfl⟩
 obtain ⟨cs',h0,hrc⟩:∃cs',qu B 0=some cs'/\RC c' cs':=hN.rel 0 0;have hB:B=[(0,cs')]:=qxC h0 (λs hs=>by
  have h1:RB (if 0=s then some (some c')else none) (qu B s):=hN.rel 0 s;rw [if_neg (λe=>hs e.symm)]at h1;exact h1) (hN.nd B (by simp))
 subst hB;have hnr:isRec c'=false:=quF hk;exact ⟨cs',⟨n1,hev⟩,qlU _ _ _ _ hk (hrc.rvl hnr)⟩
theorem quP(hm:P.follows .mixedOrders=true)(qce:qi4 P H)
  (hlib:∀g h args r,lib g=some h->h args=some r->qa4 P g args [] r []) {e:Entry} (he:qP P H lib e) {x:denP e.ps} {y:denL (e.rs.map (·.1))} (h:e.F x=some y) {vs:List V} (hv:RVL (qaY e.ps x) vs) :
  ∃v,qa4 P e.g vs [] v []/\RV (qpN e.rs y) v:=by
 obtain ⟨v,⟨n,hev⟩,hr⟩:=he x y h vs hv;exact ⟨v,(qsT hm qce hlib n).call _ _ _ _ _ (hev n (Nat.le_refl _)),hr⟩
end
end Go.Tx
end
section
namespace Go.Tx
open Go Go.Ab Go.RowKit Go.ChangeShapes Go.WideShapes Go.Deep
section
def Rng(N:Nat):(τ:Ty)->τ.den->Prop
 |.int k,n=>k.min<=n/\n<=k.max
 |.bool,_=>True
 |.str,s=>s.length<=N
 |.flt,_=>True
 |.cx,_=>True
 |.err,_=>True
 |.mset _,_=>True
 |.nsl _,_=>True
 |.sl t,l=>l.length<=N/\∀e∈l,Rng N t e
 |.unit,_=>True
 |.pair a b,x=>Rng N a x.1/\Rng N b x.2
def qBW(N:Nat):(τs:List Ty)->denP (τs.map .ty)->Prop
 |[],_=>True
 |[τ],x=>Rng N τ x
 |τ::q::l,x=>Rng N τ x.1/\qBW N (q::l) x.2
def cx0(w:World):Cx:={β:=λ_=>none,ω:=λb=>match w.heap[b]? with
 |some (.cells c _ _)=>some (c.size,true)
 |_=>none}
structure Sm {H:Type} (N:Nat) (S:DataW H->Prop):Prop where
 slice:∀es sp,S (.slice es sp)->es.length<=maxLen->es.length<=N/\∀e∈es,S e
 agg:∀ps,S (.agg ps)->∀p∈ps,S p
 str:∀b,S (.lit (.string b))->b.length<=maxLen->b.length<=N
def qtx(N:Nat)(w:World)(τ:Ty)(v:Value):Prop:=∃y u,Rng N τ y/\RTy τ 1000 y u/\Rep w (cx0 w) u v []
section
variable (P:Program)
def okT:Nat->TypeId->Bool
 |0,_=>false
 |d+1,t=>decide (t<P.types.size)&&match P.underlying t with
  |some (.slice e)=>decide (P.cellsOf e≠0)&&((qbD P d e).map List.length==some (P.cellsOf e))&&okT d e
  |some (.struct fields)=>fields.toList.all λfd=>okT d fd.type
  |some (.array _ e)=>okT d e
  |some (.float _)|some (.complex _)=>false
  |_=>true
end
variable {H:Type} {enc:TypeId × Value->H} {P:Program} {w:World} {base:Nat} {held:Bool}
theorem glue{α β:Type}{R:α->β->Prop}:∀(css:List (List α)) (szs:List Nat) (vals:List β),css.length=szs.length->vals.length=szs.sum ->
  (∀(j:Nat) c s,css[j]?=some c->szs[j]?=some s->All2 R c ((vals.drop (szs.take j).sum).take s))->All2 R css.flatten vals
 |[],szs,vals,h1,h2,_=>by
  have:szs=[]:=List.eq_nil_of_length_eq_zero (by simpa using h1.symm);subst this;have:vals=[]:=List.eq_nil_of_length_eq_zero (by simpa using h2);subst this;exact .nil
 |c::css,[],vals,h1,_,_=>by simp at h1
 |c::css,s::szs,vals,h1,h2,h=>by
  have h0:=h 0 c s rfl rfl;simp only [List.take_zero,List.sum_nil,List.drop_zero]at h0;have hr:=glue css szs (vals.drop s) (by simpa using h1) (by simp only [List.length_drop,h2,List.sum_cons];omega) λj c' s' hc hs=>by
   have:=h (j+1) c' s' (by simpa using hc) (by simpa using hs);simpa [List.take_succ_cons,List.sum_cons,List.drop_drop]using this
  have:=h0.append hr;simpa [List.flatten_cons]using this
theorem qsU{N:Nat}:∀(cs:List Ty) (vals:List Value),All2 (qtx N w) cs vals->∃(y:(cs.foldr Ty.pair .unit).den) (us:List V),Rng N _ y/\RTy (cs.foldr Ty.pair .unit) 1000 y (.agg us)/\RepL w (cx0 w) us vals []
 |[],vals,h=>by cases h;exact ⟨(),[],trivial,by simp [RTy],by simp [RepL]⟩
 |c::cs,vals,h=>by
  cases h with
  |cons h1 h2 =>
   obtain ⟨y,u,hy,hu,hr⟩:=h1;obtain ⟨ys,us,hys,hus,hrs⟩:=qsU cs _ h2;refine ⟨(y,ys),u::us,⟨hy,hys⟩,?_,?_⟩
   ·simp only [List.foldr_cons,RTy];exact ⟨u,us,rfl,hu,hus⟩
   ·simp only [RepL];exact ⟨_,_,[],[],rfl,rfl,hr,hrs⟩
theorem qsl{d:Nat}{e:TypeId}{σ:Ty}(hc:qbD P d e=some [σ])(hs:∀fs,P.underlying e≠some (.struct fs))(ha:∀n q,P.underlying e≠some (.array n q)):σ.one=true:=by
 cases d with
 |zero=>simp [qbD]at hc
 |succ d =>
  simp only [qbD]at hc;split at hc
  ·cases hc;rfl
  ·cases hc;rfl
  ·cases hc;rfl
  ·cases hc;rfl
  ·cases hc;rfl
  ·split at hc
   ·cases hc;rfl
   ·cases hc;rfl
   ·cases hc;rfl
   ·cases hc
  ·rename_i fs hfs;exact absurd hfs (hs _)
  ·rename_i n e' hfs;exact absurd hfs (ha _ _)
  ·cases hc
def qBQ(P:Program)(e:TypeId)(cs:List Ty):Option Ty:=match P.underlying e with
 |some (.struct _)=>some (cs.foldr Ty.pair .unit)
 |some (.array ..)=>some (cs.foldr Ty.pair .unit)
 |_=>match cs with
  |[τ]=>some τ
  |_=>none
theorem qA4{N:Nat}{d:Nat}{e:TypeId}{cs:List Ty}{τ:Ty}(hc:qbD P d e=some cs)(hτ:qBQ P e cs=some τ){vals:List Value}(h:All2 (qtx N w) cs vals) :
  ∃(y:τ.den) (u:V) (v:Value),Rng N τ y/\RTy τ 1000 y u/\Rep w (cx0 w) u v []/\v.cells.toList=vals:=by
 have agg:τ=cs.foldr Ty.pair .unit->∃(y:τ.den) (u:V) (v:Value),Rng N τ y/\RTy τ 1000 y u/\Rep w (cx0 w) u v []/\v.cells.toList=vals:=by
  rintro rfl;obtain ⟨y,us,hy,hu,hr⟩:=qsU cs vals h;exact ⟨y,.agg us,.agg vals.toArray,hy,hu,by simp only [Rep];exact ⟨vals,rfl,hr⟩,by simp [Value.cells]⟩
 unfold qBQ at hτ;split at hτ
 ·cases hτ;exact agg rfl
 ·cases hτ;exact agg rfl
 ·rename_i hns hna;have hns':=hns;have hna':=hna;split at hτ
  ·cases hτ;have hone:=qsl hc (λfs hh=>hns' fs hh) (λn q hh=>hna' n q hh)
   match vals,h with
   |v::_,.cons h1 .nil =>
    obtain ⟨y,u,hy,hu,hr⟩:=h1;refine ⟨y,u,v,hy,hu,hr,?_⟩;rw [qb3 (qiL (qx2 hone hu) hr)]
  ·cases hτ
theorem qwO{b:Nat}{e:Nat}{fz:Bool}(h:(cx0 w).ω b=some (e,fz)):fz=true/\b<w.heap.size/\∃c t fr,w.heap[b]?=some (.cells c t fr)/\e=c.size:=by
 simp only [cx0]at h;split at h
 ·rename_i c t fr hc;cases h;exact ⟨rfl,(Array.getElem?_eq_some_iff.1 hc).1,c,t,fr,hc,rfl⟩
 ·cases h
theorem qj6{a:Addr}{v:Value}(h:w.cell? a=some v):a.spot=none/\∃c t fr,w.heap[a.block]?=some (.cells c t fr)/\c[a.off]?=some v:=by
 unfold World.cell? at h;split at h
 ·rename_i c t fr hc;split at h
  ·cases h
  ·rename_i hs;exact ⟨by simpa using hs,c,t,fr,hc,h⟩
 ·cases h
theorem qyb{N:Nat}{τ:Ty}{b off len cap s:Nat}(hs:0<s)(hlc:len<=cap)(hcap:cap≠0)(hτ:τ.qbR=true)(hn:τ.qbl=s)
  (hel:∀i,i<cap->∃vals:List Value,vals.length=s/\(∀j,j<s->w.cell? ⟨b,off+i*s+j,none⟩=vals[j]?)/\(i<len->∃(y:τ.den) (u:V) (v:Value),Rng N τ y/\RTy τ 1000 y u/\Rep w (cx0 w) u v []/\v.cells.toList=vals)) :
  ∃(l:List τ.den) (us:List V),l.length=len/\(∀y∈l,Rng N τ y)/\All2 (RTy τ 1000) l us/\Rep w (cx0 w) (.sl .shared false us) (.slice (some ⟨b,off,none⟩) len cap) []:=by
 have key:∀n,n<=len->∃(l:List τ.den) (us:List V) (vals:List Value),l.length=n/\(∀y∈l,Rng N τ y)/\All2 (RTy τ 1000) l us/\RepE w (cx0 w) s us vals []/\vals.length=n*s/\(∀j v,vals[j]?=some v->w.cell? ⟨b,off+j,none⟩=some v):=by
  intro n;induction n with
  |zero=>exact λ_=>⟨[],[],[],rfl,by simp,.nil,by simp [RepE],by simp,by simp⟩
  |succ n ih =>
   intro hle;obtain ⟨l,us,vals,h1,h2,h3,h4,h5,h6⟩:=ih (by omega);obtain ⟨vs,hvl,hvc,hy⟩:=hel n (by omega);obtain ⟨y,u,v,hry,hu,hr,hcv⟩:=hy (by omega);refine ⟨l++[y],us++[u],vals++vs,by simp [h1],?_,h3.append (.cons hu .nil),?_,by simp [h5,hvl,Nat.succ_mul],?_⟩
   ·intro z hz;simp only [qj,List.mem_singleton]at hz;rcases hz with hz|rfl
    ·exact h2 z hz
    ·exact hry
   ·have h7:RepE w (cx0 w) s [u] vs []:=by
     simp only [RepE];exact ⟨v,[],[],[],by simp [hcv],by rw [<- hvl,<- hcv];simp,rfl,hr,rfl,rfl⟩
    simpa using qgk h4 h7
   ·intro j v hj;by_cases hlt:j<vals.length
    ·rw [qg hlt]at hj;exact h6 j v hj
    ·rw [List.getElem?_append_right (by omega)]at hj;have hjs:=(qm.1 hj).1;have:=hvc (j-vals.length) (by omega);rw [hj]at this;rw [<- this];congr 2
     omega
 obtain ⟨l,us,vals,h1,h2,h3,h4,h5,h6⟩:=key len (Nat.le_refl _);refine ⟨l,us,h1,h2,h3,?_⟩;have hlen:=h3.length;have hcells:=qdc hτ h3
 obtain ⟨vs,hvl,hvc,_⟩:=hel 0 (by omega);have hc0:=hvc 0 (by omega);have hv0:∃v0,vs[0]?=some v0:=⟨vs[0]'(by omega),List.getElem?_eq_getElem (by omega)⟩
 obtain ⟨v0,hv0⟩:=hv0;rw [hv0]at hc0;obtain ⟨_,c,t,fr,hblk,hoff⟩:=qj6 hc0;simp only [Nat.zero_mul,Nat.add_zero]at hblk hoff;have hoff':=(Array.getElem?_eq_some_iff.1 hoff).1;simp only [Rep];refine ⟨qv8 h3,.inr ⟨b,off,cap,s,vals,[],?_,?_,by simp,?_,hs,?_,h6,⟨c.size,true,?_,?_,rfl⟩,h4,by simp,by simp⟩⟩
 ·rw [hlen,h1]
 ·rw [hlen,h1];exact hlc
 ·rw [hlen,h1];exact h5
 ·intro x hx;rw [(hcells x hx).1];exact hn
 ·simp only [cx0,hblk]
 ·by_cases h0:vals.length=0
  ·rw [h0];omega
  ·have:∃v1,vals[vals.length-1]?=some v1:=⟨vals[vals.length-1]'(by omega),List.getElem?_eq_getElem (by omega)⟩
   obtain ⟨v1,hv1⟩:=this;obtain ⟨_,c',t',fr',hblk',hoff1⟩:=qj6 (h6 _ _ hv1);simp only at hblk' hoff1;rw [hblk]at hblk';cases hblk'
   have:=(Array.getElem?_eq_some_iff.1 hoff1).1;omega
theorem quO{d:Nat}{e:TypeId}{cs:List Ty}{τ:Ty}(hc:qbD P d e=some cs)(hτ:qBQ P e cs=some τ)(hones:∀c∈cs,c.one=true):τ.qbR=true/\τ.qbl=cs.length:=by
 have agg:∀cs:List Ty,(∀c∈cs,c.one=true)->(cs.foldr Ty.pair .unit).qnj=true/\(cs.foldr Ty.pair .unit).qbR=true/\(cs.foldr Ty.pair .unit).qbl=cs.length:=by
  intro cs;induction cs with
  |nil=>intro _;exact ⟨rfl,rfl,rfl⟩
  |cons c cs ih =>
   intro h;obtain ⟨h1,_,h3⟩:=ih λc' hc'=>h c' (by simp [hc']);simp only [List.foldr_cons,Ty.qnj,Ty.qbR,Ty.qbl,h c (by simp),h1,h3,Bool.and_self,List.length_cons];exact ⟨trivial,trivial,trivial⟩
 unfold qBQ at hτ;split at hτ
 ·cases hτ;exact ⟨(agg cs hones).2.1,(agg cs hones).2.2⟩
 ·cases hτ;exact ⟨(agg cs hones).2.1,(agg cs hones).2.2⟩
 ·split at hτ
  ·cases hτ;have h1:=hones τ (by simp);cases τ<;>first|exact ⟨rfl,rfl⟩|simp [Ty.one]at h1
  ·cases hτ
theorem qlF{α β:Type}{g:α->Option β}:∀{l:List α} {r:List β},l.mapM g=some r->r.length=l.length/\∀(i:Nat) (a:α),l[i]?=some a->∃b,r[i]?=some b/\g a=some b
 |[],r,h=>by simp at h;subst h;exact ⟨rfl,by simp⟩
 |a::l,r,h=>by
  simp only [List.mapM_cons,Option.bind_eq_bind,qd]at h;obtain ⟨b,hb,r',hr',h⟩:=h;cases h;obtain ⟨h1,h2⟩:=qlF hr';refine ⟨by simp [h1],λi x hi=>?_⟩;cases i with
  |zero=>simp at hi;subst hi;exact ⟨b,rfl,hb⟩
  |succ n=>obtain ⟨c,hc,hg⟩:=h2 n x (by simpa using hi);exact ⟨c,by simpa using hc,hg⟩
theorem qeV:∀(d:Nat) (t:TypeId) (cs:List Ty),qbD P d t=some cs->∀c∈cs,c.one=true
 |0,t,cs,h=>by simp [qbD]at h
 |d+1,t,cs,h=>by
  simp only [qbD]at h;split at h
  ·cases h;simp [Ty.one]
  ·cases h;simp [Ty.one]
  ·cases h;simp [Ty.one]
  ·cases h;simp [Ty.one]
  ·cases h;simp [Ty.one]
  ·split at h
   ·cases h;simp [Ty.one]
   ·cases h;simp [Ty.one]
   ·cases h;simp [Ty.one]
   ·cases h
  ·rename_i fields _;obtain ⟨css,hcss,rfl⟩:=qc.1 h;obtain ⟨h1,h2⟩:=qlF hcss;intro c hc;obtain ⟨q,hq,hcq⟩:=List.mem_flatten.1 hc;obtain ⟨i,hi⟩:=List.mem_iff_getElem?.1 hq;have hlt:i<fields.toList.length:=by have:=(qm.1 hi).1;omega
   obtain ⟨b,hb,hg⟩:=h2 i _ (List.getElem?_eq_getElem hlt);rw [hi]at hb;cases hb;exact qeV d _ _ hg c hcq
  ·obtain ⟨q,hq,rfl⟩:=qc.1 h;intro c hc;obtain ⟨q',hq',hcq⟩:=List.mem_flatten.1 hc;obtain ⟨_,rfl⟩:=List.mem_replicate.1 hq';exact qeV d _ _ hq c hcq
  ·cases h
end
section
variable {H:Type} {enc:TypeId × Value->H} {P:Program} {w:World} {base:Nat} {held:Bool}
theorem qtd{d:Nat}{e:TypeId}{cs1 cs:List Ty}(hc:qbD P d e=some cs1)(h:(match qbD P d e,P.underlying e with
   |some cs,some (.struct _)=>some [Ty.sl (cs.foldr .pair .unit)]
   |some cs,some (.array ..)=>some [.sl (cs.foldr .pair .unit)]
   |some [τ],_=>some [.sl τ]
   |_,_=>none)=some cs):∃τ,cs=[.sl τ]/\qBQ P e cs1=some τ:=by
 rw [hc]at h;unfold qBQ;cases hu:P.underlying e with
 |none=>rw [hu]at h;simp only at h ⊢;split at h<;>simp_all
 |some dd =>
  rw [hu]at h;cases dd<;>simp only at h ⊢<;>first|(simp only [qb]at h;exact ⟨_,h.symm,rfl⟩)|(split at h<;>simp_all)
theorem qxW{X:Cx}:Rep w X (.sl .shared false []) (.slice none 0 0) []:=by simp [Rep,ptrsL]
theorem qxX{X:Cx}(a:Addr):Rep w X (.sl .shared false []) (.slice (some a) 0 0) []:=by simp [Rep,ptrsL]
theorem qhE(hl:laidOutB P=true){N:Nat}{S:DataW H->Prop}(hS:Sm N S):∀(d:Nat) (t:TypeId) (cs:List Ty),qbD P d t=some cs->okT P d t=true->∀(fuel:Nat) (vals:List Value) (x:DataW H×List MemPlace),S x.1 ->
  DataW.trod enc P w base (λ_=>true) held fuel t vals=some x->All2 (qtx N w) cs vals
 |0,t,cs,hc,_,fuel,vals,x,hx,h=>by simp [qbD]at hc
 |d+1,t,cs,hc,hok,fuel,vals,x,hx,h=>by
  simp only [qbD]at hc;simp only [okT,qe,decide_eq_true_eq]at hok;split at hc
  ·rename_i k hu;cases hc;obtain ⟨n,rfl,rfl,hwf⟩:=DataW.trod_int hu h;refine .cons ⟨n,.val (.int k n),?_,by simp [RTy],by simp [Rep]⟩ .nil;simp only [Rng];simp only [Lit.wf,qe,decide_eq_true_eq]at hwf;exact hwf
  ·rename_i hu;cases hc;obtain ⟨b,rfl,rfl⟩:=DataW.trod_bool hu h;exact .cons ⟨b,.val (.bool b),trivial,by simp [RTy],by simp [Rep]⟩ .nil
  ·rename_i hu;cases hc;obtain ⟨s,rfl,rfl,hs⟩:=DataW.trod_string hu h;have hsl:s.data.toList.length<=maxLen:=by
    have e:s.data.toList.length=s.size:=Array.length_toList;rw [e];exact hs
   exact .cons ⟨s.data.toList,.val (.string s),hS.str _ hx hsl,by simp [RTy],by simp [Rep]⟩ .nil
  ·rename_i hu;rw [hu]at hok;simp at hok
  ·rename_i hu;rw [hu]at hok;simp at hok
  ·rename_i e hu;obtain ⟨ht,hoe⟩:=hok;rw [hu]at hoe;simp only [qe,decide_eq_true_eq,beq_iff_eq]at hoe;cases hce:qbD P d e with
   |none=>rw [hce]at hc;simp at hc
   |some cs1 =>
    obtain ⟨τ,rfl,hτ⟩:=qtd hce (by rw [hce];rw [hce]at hc;exact hc);obtain ⟨hel,hnc⟩:=quO hce hτ (qeV d e cs1 hce);rcases open_slice hu h with ⟨rfl,rfl⟩|⟨a,len,cap,m,n,D,Pl,rfl,hb,hlc,hcm,hm,rfl,hx'⟩
    ·exact .cons ⟨[],.sl .shared false [],⟨Nat.zero_le _,by simp⟩,by simp only [RTy];exact ⟨_,_,[],rfl,qeY rfl (by simp) (λ_=>rfl),.nil⟩,qxW⟩ .nil
    ·simp only [if_true]at hm;subst hm;obtain ⟨hN,hSe⟩:=hS.slice _ _ hx (by simp;omega);by_cases hcap:m=0
     ·subst hcap;have hlen:len=0:=by omega
      subst hlen;exact .cons ⟨[],.sl .shared false [],⟨Nat.zero_le _,by simp⟩,by simp only [RTy];exact ⟨_,_,[],rfl,qeY rfl (by simp) (λ_=>rfl),.nil⟩,qxX a⟩ .nil
     ·have hspot:a.spot=none:=by
       obtain ⟨cs',hcs',_⟩:=hx' 0 (by omega);obtain ⟨_,hl1,hc1⟩:=World.cells?_some hcs';have h0:=hc1 0 (by omega);simp only [Nat.zero_mul]at h0;have:∃v0,cs'[0]?=some v0:=⟨cs'[0]'(by omega),List.getElem?_eq_getElem (by omega)⟩
       obtain ⟨v0,hv0⟩:=this;rw [hv0]at h0;have:=(qj6 h0).1;simpa [Addr.add]using this
      obtain ⟨b,off,spot⟩:=a;simp only at hspot;subst hspot;have hsz:∀i,i<m->∃vals:List Value,vals.length=P.cellsOf e/\(∀j,j<P.cellsOf e->w.cell? ⟨b,off+i*P.cellsOf e+j,none⟩=vals[j]?) /\
        (i<len->∃(y:τ.den) (u:V) (v:Value),Rng N τ y/\RTy τ 1000 y u/\Rep w (cx0 w) u v []/\v.cells.toList=vals):=λi hi=>by
       obtain ⟨cs',hcs',htr⟩:=hx' i hi;obtain ⟨_,hl1,hc1⟩:=World.cells?_some hcs';refine ⟨cs',hl1,λj hj=>?_,λhil=>?_⟩
       ·rw [<- hc1 j hj,Addr.add_lit,Addr.add_lit]
       ·have hSi:S (D i):=hSe _ (List.mem_map.2 ⟨i,List.mem_range.2 hil,rfl⟩);exact qA4 hce hτ (qhE hl hS d e cs1 hce hoe.2 n cs' _ hSi htr)
      have hn:τ.qbl=P.cellsOf e:=by
       have:=hoe.1.2;rw [hce]at this;simp only [qi,qb]at this;rw [hnc,this]
      obtain ⟨l,us,h1,h2,h3,h4⟩:=qyb (Nat.pos_of_ne_zero hoe.1.1) hlc hcap hel hn hsz;exact .cons ⟨l,.sl .shared false us,⟨by rw [h1];simpa using hN,h2⟩,by simp only [RTy];exact ⟨_,_,us,rfl,qeY rfl (by simp) (λ_=>rfl),h3⟩,h4⟩ .nil
  ·rename_i fields hu;obtain ⟨ht,hoe⟩:=hok;rw [hu]at hoe;simp only [List.all_eq_true]at hoe;obtain ⟨css,hcss,rfl⟩:=qc.1 hc;obtain ⟨hl1,hget⟩:=qlF hcss;obtain ⟨xs,n,_,rfl,hvl,hxl,hxs⟩:=DataW.trod_struct hu h;obtain ⟨_,hsum,hoff⟩:=kid_struct hl ht hu;refine glue css (fields.toList.map λf=>P.cellsOf f.type) vals (by simp [hl1]) (by rw [hvl,hsum]) λj c s hcj hsj=>?_;rw [List.getElem?_map]at hsj;obtain ⟨fd,hfd,rfl⟩:=qc.1 hsj;obtain ⟨c',hc',hg⟩:=hget j fd hfd;rw [hcj]at hc';cases hc';have hx1:=hxs j fd (by simpa using hfd);rw [hoff j fd hfd,List.map_take]at hx1;have hj:j<xs.length:=by rw [hxl];have:=(qm.1 hfd).1;simpa using this
   rw [List.getElem?_eq_getElem hj]at hx1;exact qhE hl hS d fd.type c hg (hoe fd (List.mem_of_getElem? hfd)) n _ _ (hS.agg _ hx _ (List.mem_map.2 ⟨xs[j],List.getElem_mem hj,rfl⟩)) hx1
  ·rename_i n' e hu;obtain ⟨ht,hoe⟩:=hok;rw [hu]at hoe;simp only at hoe;obtain ⟨cs1,hce,rfl⟩:=qc.1 hc;obtain ⟨_,hsum⟩:=kid_array hl ht hu;cases fuel with
   |zero=>simp [DataW.trod]at h
   |succ fuel =>
    unfold DataW.trod at h;rw [hu]at h;simp only at h;split at h
    ·rename_i hvl;obtain ⟨xs,hxs,rfl⟩:=qc.1 h;obtain ⟨hxl,hget⟩:=qlF hxs;refine glue _ (List.replicate n' (P.cellsOf e)) vals (by simp) (by rw [hvl,hsum];simp) λj c s hcj hsj=>?_;have hjn:j<n':=by have:=(qm.1 hcj).1;simpa using this
     rw [List.getElem?_replicate,if_pos hjn]at hcj hsj;cases hcj;cases hsj
     obtain ⟨b,hb,hg⟩:=hget j j (by simp [hjn]);have htk:((List.replicate n' (P.cellsOf e)).take j).sum=j*P.cellsOf e:=by
      rw [List.take_replicate];simp [Nat.min_eq_left (Nat.le_of_lt hjn)]
     rw [htk];exact qhE hl hS d e cs1 hce hoe fuel _ _ (hS.agg _ hx _ (List.mem_map.2 ⟨b,List.mem_of_getElem? hb,rfl⟩)) hg
    ·cases h
  ·cases hc
theorem qzz(hl:laidOutB P=true){N:Nat}{S:DataW H->Prop}(hS:Sm N S){t:TypeId}{τ:Ty}(hτ:qAN P t=some τ)(hok:okT P 10 t=true){v:Value}{d:DataW H}{ps:List MemPlace}{b0:Nat}(hval:Value.okWide P w .any b0 t v)
  (h:DataW.Trod enc P w base (λ_=>true) held t v d ps) (hd:S d):qtx N w τ v:=by
 obtain ⟨fuel,hf⟩:=h;unfold qAN at hτ;split at hτ
 ·rename_i cs hc;have hall:=qhE hl hS 10 t cs hc hok fuel _ _ hd hf;split at hτ
  ·rename_i ha;cases hτ;obtain ⟨y,us,hy,hu,hr⟩:=qsU cs _ hall;have hv:∃c,v=.agg c:=by
    unfold qK at ha;unfold Value.okWide at hval;split at ha
    ·rename_i fs hfs;rw [hfs]at hval;obtain ⟨c,hc,_⟩:=hval;exact ⟨c,hc⟩
    ·rename_i n e hfs;rw [hfs]at hval;obtain ⟨c,hc,_⟩:=hval;exact ⟨c,hc⟩
    ·cases ha
   obtain ⟨c,rfl⟩:=hv;refine ⟨y,.agg us,hy,hu,?_⟩;simp only [Rep];exact ⟨c.toList,by simp,by simpa [Value.cells]using hr⟩
  ·rename_i ha
   match cs,hτ,hall with
   |τ'::cs',hτ,hall =>
    simp only [List.head?_cons,qb]at hτ;subst hτ;have hone:=qeV 10 t _ hc τ' (by simp);have hv:v.cells.toList=[v]:=by
     cases v with
     |agg c =>
      exfalso
      unfold qK at ha;unfold Value.okWide at hval;split at hval
      ·rename_i fs hfs;rw [hfs]at ha;simp at ha
      ·rename_i n e hfs;rw [hfs]at ha;simp at ha
      ·unfold Cell.okWide Cell.ok at hval;split at hval;all_goals first|(rename_i h1 h2;cases h2;done)|skip
       all_goals (split at hval<;>first|(exact hval.elim)|(rename_i h1 h2;cases h2))
     |_=>rfl
    rw [hv]at hall;cases hall with
    |cons h1 h2=>exact h1
 ·cases hτ
theorem qru(hl:laidOutB P=true){N:Nat}{S:DataW H->Prop}(hS:Sm N S){b0:Nat}:∀(ts:List TypeId) (τs:List Ty) (vs:List Value) (ds:List (DataW H)) (ps:List MemPlace),ts.mapM (qAN P)=some τs->ts.all (okT P 10)=true ->
  (∀(j:Nat) t v,ts[j]?=some t->vs[j]?=some v->Value.okWide P w .any b0 t v)->DataW.TrodAll enc P w base (λ_=>true) held ts vs ds ps->(∀d∈ds,S d) ->
  ∃x us,qBW N τs x/\RVL (qaY (τs.map .ty) x) us/\RepL w (cx0 w) us vs []
 |[],τs,vs,ds,ps,hm,_,_,h,_=>by
  simp at hm;subst hm;obtain ⟨rfl,_,_⟩:=trodAll_nil h;exact ⟨(),[],trivial,qaa,by simp [RepL]⟩
 |t::ts,τs,vs,ds,ps,hm,hok,hval,h,hd=>by
  simp only [List.mapM_cons,Option.bind_eq_bind,qd]at hm;obtain ⟨τ,hτ,τs',hm',he⟩:=hm;cases he;simp only [List.all_cons,qe]at hok;obtain ⟨v,vs',d,ds',p,q,rfl,rfl,rfl,h1,h2⟩:=trodAll_cons h;obtain ⟨y,u,hy,hu,hr⟩:=qzz hl hS hτ hok.1 (hval 0 t v rfl rfl) h1 (hd d (by simp));obtain ⟨x,us,hx,hus,hrs⟩:=qru hl hS ts τs' vs' ds' q hm' hok.2 (λj t' v' a b=>hval (j+1) t' v' (by simpa using a) (by simpa using b)) h2 λd' hd'=>hd d' (by simp [hd']);have hR:RepL w (cx0 w) (u::us) (v::vs') []:=by simp only [RepL];exact ⟨v,vs',[],[],rfl,rfl,hr,hrs⟩
  cases τs' with
  |nil=>exact ⟨y,u::us,hy,(qv.2 ⟨rv_ofTy _ _ _ _ hu,hus⟩:RVL (ofTy τ 1000 y::[]) (u::us)),hR⟩
  |cons τ2 τs2=>exact ⟨(y,x),u::us,⟨hy,hx⟩,(qv.2 ⟨rv_ofTy _ _ _ _ hu,hus⟩:RVL (ofTy τ 1000 y::qaY ((τ2::τs2).map .ty) x) (u::us)),hR⟩
theorem qjW(hl:laidOutB P=true){W W':World}(hb:Below W.heap.size W W'):∀{ts:List TypeId} {vs:List Value} {ds:List (DataW H)} {ps:List MemPlace},ts.all (λt=>P.readableRec t&&decide (t<P.types.size))=true ->
  DataW.TrodAll enc P W 0 (λ_=>true) true ts vs ds ps->(∀x∈ps,x.block<W.heap.size)->∀sp:Nat->Bool,(∀p∈ps,sp p.block=true)->DataW.TrodAll enc P W' 0 sp true ts vs ds ps
 |[],[],[],ps,_,h,_,sp,_=>h
 |t::ts,v::vs,d::ds,ps,hr,⟨p,q,h1,h2,e⟩,hlt,sp,hsp=>by
  simp only [List.all_cons,qe,decide_eq_true_eq]at hr;subst e;refine ⟨p,q,?_,qjW hl hb hr.2 h2 (λx hx=>hlt x (List.mem_append_right _ hx)) sp (λx hx=>hsp x (List.mem_append_right _ hx)),rfl⟩;exact WideElems.Trod_stays hl hr.1.1 hr.1.2 h1 (λx hx=>hb.same (hlt x (List.mem_append_left _ hx))) (λx hx=>hsp x (List.mem_append_left _ hx))
theorem qC9{w:World}:LRel [] w (cx0 w) (λ_=>[]) where
 box:=λr c h=>by simp [qbc]at h
 boxD:=λ_ _=>rfl
 inj:=λr r' b h=>by simp [qbc]at h
 lin:=λ_=>Lin.nil
 dis:=λ_ _ _ b hb=>by cases hb
 ptrB:=λr c h=>by simp [qbc]at h
 up:=λr c h=>by simp [qbc]at h
 dom:=λb e fz h=>(qwO h).2.1
theorem qxc{H0:Hints}{lib:FuncId->Option (List V->Option V)}(hm:P.follows .mixedOrders=true)(qce:qi4 P H0)
  (hlib:∀g h args r,lib g=some h->h args=some r->qa4 P g args [] r []) (hl:laidOutB P=true) {N:Nat} {S:DataW H->Prop} (hS:Sm N S) {k:FuncId} {fn:Func} (hfn:P.funcs[k]?=some fn) (hbody:fn.body.isSome=true)
  {ts:List TypeId} {τs:List Ty} (hts:ts.mapM (qAN P)=some τs) (hok:ts.all (okT P 10)=true) {F:denP (τs.map .ty)->Option Bool}
  (he:qP P H0 lib ⟨k,τs.map .ty,[(.bool,0)],F⟩) (hF:∀x,qBW N τs x->F x=some true)
  {W:World} {args:Array Value} {ds:List (DataW H)} {ps:List MemPlace} {b0:Nat} (hval:∀(j:Nat) t v,ts[j]?=some t->args.toList[j]?=some v->Value.okWide P W .any b0 t v)
  (h:DataW.TrodAll enc P W 0 (λ_=>true) true ts args.toList ds ps) (hd:∀d∈ds,S d) (hgl:qnG W (cx0 W)) :
  Calls P k args W λe W'=>e=.returned (.bool true)/\Below W.heap.size W W':=by
 obtain ⟨x,us,hx,hus,hrs⟩:=qru hl hS ts τs args.toList ds ps hts hok hval h hd;obtain ⟨v,hcall,hr⟩:=quP hm qce hlib he (x:=x) (y:=true) (hF x hx) hus;simp only [qpN,ofL,qcK,ofTy,RV,RTy]at hr;subst hr;have hp:ptrsL us=[]:=by
  apply List.eq_nil_iff_forall_not_mem.2;intro q hq;have hk:∀(τs:List Ty) (x:denP (τs.map .ty)),ptrsTL (qaY (τs.map .ty) x)=[]:=by
   have h1:∀(τ:Ty) (y:τ.den),(ofTy τ 1000 y).qp=[]/\ptrsTL (ofTyC τ 1000 y)=[]:=by
    intro τ;induction τ with
    |pair a b iha ihb=>intro y;simp [ofTy,ofTyC,TV.qp,ptrsTL,(iha y.1).1,(ihb y.2).2]
    |_=>intro y;simp [ofTy,ofTyC,TV.qp,ptrsTL]
   intro τs;induction τs with
   |nil=>intro x;rfl
   |cons τ τs ih =>
    intro x;cases τs with
    |nil=>show ptrsTL [ofTy τ 1000 x]=[];simp [ptrsTL,(h1 τ x).1]
    |cons τ2 τs2=>show ptrsTL (ofTy τ 1000 x.1::qaY ((τ2::τs2).map .ty) x.2)=[];simp only [ptrsTL,(h1 τ x.1).1,List.nil_append];exact ih x.2
  have:=RVL.qp _ _ hus q hq;rw [hk]at this;cases this
 rcases hcall W (cx0 W) args.toList (λ_=>[]) hrs hgl qC9 (λq hq=>by rw [hp]at hq;cases hq) (λ_ b e fz h=>(qwO h).1)with ⟨_,hc⟩|⟨_,v,w',hv,_⟩
 ·refine (by simpa using hc:Calls P k args W _).mono ?_;rintro e W' ⟨v,rfl,X',O',Or,hrep,_,_,_,_,_,_,haft⟩;simp only [Rep]at hrep;obtain ⟨rfl,_⟩:=hrep;refine ⟨rfl,⟨haft.os,haft.tape,haft.out,haft.size,λb hb=>?_⟩⟩;exact (haft.kept b hb (by rintro (⟨r,h1,_⟩|⟨r,h1⟩)<;>simp [qbc]at h1)).1
 ·exfalso
  have hbs:fn.body.isNone=false:=by cases hb:fn.body<;>simp_all
  simp only [callFunc,Sem.run_bind,run_program,Result.andThen_ok,hfn,qce.1 k fn hfn hbody,hbs,qf,if_false,Sem.run_pure]at hv;cases hv
end
end Go.Tx
end
