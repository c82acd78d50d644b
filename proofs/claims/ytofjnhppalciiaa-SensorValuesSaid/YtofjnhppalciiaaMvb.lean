/-
  ONE LAW OF A CHAPTER: its program side is run by an interpreter that is proved sound; what it computes is shown to be what the law says. No conditions. Part 2 of 8.
-/
import Derived.Test.YtofjnhppalciiaaMva
import Derived.RangeFuncLeaves
import Derived.RangeFuncNested
import Derived.RangeFuncRecord
import Derived.OrdersIn
set_option linter.unusedSimpArgs false
set_option linter.unusedVariables false
set_option linter.unnecessarySimpa false
section
namespace Go.Ab
open Go
section
variable {P:Program} {H:Hints} {f:FuncId} {w:World} {X:Cx}
theorem qo3{c:List V}{vals:List Value}{O:List Nat}(h:RepL w X c vals O):qc3 c=false:=by
 cases c with
 |nil=>rfl
 |cons x l =>
  cases x<;>first|rfl|(simp only [RepL,Rep]at h;obtain ⟨_,_,_,_,_,_,h,_⟩:=h;exact h.elim)
theorem qgL{c:List V}(h:qc3 c=false):q3 c=false:=by
 cases c with
 |nil=>rfl
 |cons x l=>cases x<;>first|rfl|(simp [qc3]at h)
theorem qjO{c:List V}{vals:List Value}{O:List Nat}(h:RepL w X c vals O):q3 c=false:=qgL (qo3 h)
theorem qql{st:St}{r:Root}(h:(st.box r).isSome=true):r.lvl<st.L.length+1:=by
 unfold St.box at h;rcases Nat.lt_or_ge r.lvl (st.L.length+1)with h1|h1
 ·exact h1
 ·rw [if_neg (by omega),List.getElem?_eq_none (by omega)]at h;simp at h
theorem qnk.cells{b:Nat}{c:List V}{O:List Nat}(h:qnk w X b c O)(hn:qc3 c=false):∃cs t,w.heap[b]?=some (.cells cs t (0,0))/\RepL w X c cs.toList O:=by
 rcases h with h|⟨s,pe,g,env,ps,asg,body,lo,rfl,_⟩|⟨es,ents,ck,rfl,_⟩
 ·exact h
 ·simp [qc3]at hn
 ·simp [qc3]at hn
theorem qjn{b off:Nat}{cs:Array Value}{t:TypeId}{fr:Nat×Nat}(h:w.heap[b]?=some (.cells cs t fr)):Seg w b off (cs.toList.drop off):=by
 intro i v hi;rw [List.getElem?_drop]at hi;simp only [World.cell?,h];simpa using hi
theorem qg4{t:TypeId}{cs:List V}{x:V}{vals:List Value}{O:List Nat}{off:Nat}(hx:q8 P t (cs.drop off)=some x)(h:RepL w X cs vals O) :
  ∃v Ox Orest,Rep w X x v Ox/\(if qO P t then P.cellsOf t<=(vals.drop off).length/\v=.agg ((vals.drop off).take (P.cellsOf t)).toArray else (vals.drop off).head?=some v)/\(∃d,P.underlying t=some d) /\
   RepL w X (qP cs off (reflagL qW ((cs.drop off).take (if qO P t then P.cellsOf t else 1)))) vals Orest/\∀b,Ox.count b+Orest.count b<=O.count b:=by
 obtain ⟨A,B,rfl,hA,hB⟩:=qaB off h;unfold q8 at hx;cases hu:P.underlying t with
 |none=>simp [hu]at hx
 |some d =>
  simp only [hu]at hx;have hsp:∀(n:Nat) (C D:List Nat),n<=(cs.drop off).length->RepL w X ((cs.drop off).take n) ((vals.drop off).take n) C->RepL w X ((cs.drop off).drop n) ((vals.drop off).drop n) D ->
    RepL w X (qP cs off (reflagL qW ((cs.drop off).take n))) vals (A++D):=by
   intro n C D hn hC hD;have hl:(reflagL qW ((cs.drop off).take n)).length=n:=by rw [qR,List.length_take];omega
   unfold qP;rw [hl];have:=qaq (qaq hA (qrw hC)) hD;rw [show vals.take off++(vals.drop off).take n++(vals.drop off).drop n=vals by rw [List.append_assoc,List.take_append_drop,List.take_append_drop]]at this;simpa [List.drop_drop,<- List.append_assoc]using this
  by_cases ha:qO P t=true
  ·simp only [ha,if_true]at hx ⊢;split at hx
   ·rename_i hle;simp only [qb]at hx;subst hx;obtain ⟨C,D,rfl,hC,hD⟩:=qaB (P.cellsOf t) hB;exact ⟨_,C,A++D,by simp only [Rep];exact ⟨_,rfl,hC⟩,⟨by rw [<- qE _ _ _ hB];exact hle,rfl⟩,⟨d,rfl⟩,hsp (P.cellsOf t) C D hle hC hD,λb=>by simp only [qcy];omega⟩
   ·simp at hx
  ·have ha':qO P t=false:=by simpa using ha
   simp only [ha',qf,if_false]at hx ⊢;obtain ⟨C,D,rfl,hC,hD⟩:=qaB 1 hB;have hs:=hsp 1 C D (by cases hd:cs.drop off with|nil=>rw [hd]at hx;simp at hx|cons y l=>simp) hC hD;cases hd:cs.drop off with
   |nil=>rw [hd]at hx;simp at hx
   |cons y rest =>
    have hC':=hC;rw [hd]at hx;simp at hx;subst hx;rw [hd,List.take_succ_cons,List.take_zero]at hC';obtain ⟨u,hu',hr⟩:=qbH hC';have hh:(vals.drop off).head?=some u:=by
     cases hv:vals.drop off with
     |nil=>rw [hv]at hu';simp at hu'
     |cons q l=>rw [hv]at hu';simp at hu';simp [hu']
    exact ⟨u,C,A++D,hr,hh,⟨d,rfl⟩,by rw [hd]at hs;exact hs,λb=>by simp only [qcy];omega⟩
def qp3(O:Pl->List Nat)(r:Root)(Ob:List Nat):Pl->List Nat:=λp=>if p=.box r then Ob else O p
theorem qsj{w':World}{b:Nat}(hω:X.ω b=none)(hk:∀k,k≠b->w'.heap[k]?=w.heap[k]?)(R:List Root):Ext R w X w' X (λ_=>False) where
 β:=λ_ _=>rfl
 ω:=λk e fz h=>⟨e,fz,h,Nat.le_refl _,id,λ_=>⟨rfl,rfl⟩⟩
 cell:=λk e fz i v h _ hc=>by
  have hkb:k≠b:=λe'=>by rw [e',hω]at h;cases h
  rw [qC (hk k hkb)];exact hc
 obj:=λk e fz c t _ h hc=>by
  have hkb:k≠b:=λe'=>by rw [e',hω]at h;cases h
  exact ⟨c,by rw [hk k hkb];exact hc,rfl⟩
theorem qt1{w':World}{b:Nat}(hω:X.ω b=none)(hk:∀k,k≠b->w'.heap[k]?=w.heap[k]?){l:List V}{vals:List Value}{A:List Nat}(hr:RepL w X l vals A):RepL w' X l vals A :=
 RepL.ext (qsj hω hk (ptrsL _)) _ _ _ (λ_ h=>h) (by simp) hr
theorem Rel.qo{st:St}{tmps:Array Value}{O:Pl->List Nat}(h:Rel st tmps w X O){r:Root}{c c':List V}{b:Nat}{Ob:List Nat}{w':World}(hr:st.box r=some c)(hb:X.β r=some b)
  (hk:∀k,k≠b->w'.heap[k]?=w.heap[k]?) (hsz:w'.heap.size=w.heap.size) (hc':qnk w' X b c' Ob) (hl:Lin Ob) (hfree:∀k∈Ob,∀q,q≠.box r->k∉O q) (hp:∀r'∈ptrsL c',(st.box r').isSome=true/\r'.lvl<=r.lvl) :
  Rel (st.qo r c') tmps w' X (qp3 O r Ob):=by
 obtain ⟨b',hb',hlt,hω,hbx⟩:=h.box r c hr;obtain rfl:b=b':=by rw [hb]at hb';exact Option.some.inj hb'
 have hext:∀{x:V} {u:Value} {A:List Nat},Rep w X x u A->Rep w' X x u A:=λhr=>Rep.ext (qsj hω hk _) _ _ _ (λ_ h=>h) (by simp) hr;have hextL:∀{l:List V} {vals:List Value} {A:List Nat},RepL w X l vals A->RepL w' X l vals A:=λhr=>RepL.ext (qsj hω hk (ptrsL _)) _ _ _ (λ_ h=>h) (by simp) hr;have hlive:∀r',((st.qo r c').box r').isSome=(st.box r').isSome:=λr'=>by
  rw [qV];split
  ·rename_i e;subst e;simp [hr]
  ·rfl
 refine {size:=by rw [qdN];exact h.size,env:=?_,envD:=?_,box:=?_,boxD:=?_,inj:=?_,lin:=?_,dis:=?_,ptrE:=?_,ptrB:=?_,up:=?_,dom:=?_}
 ·intro s x hx;rw [qdN]at hx;obtain ⟨v,hv,hr'⟩:=h.env s x hx;exact ⟨v,hv,by simpa [qp3]using hext hr'⟩
 ·intro s hs;rw [qdN]at hs;simpa [qp3]using h.envD s hs
 ·intro r' c1 hr';rw [qV]at hr';by_cases e:r'=r
  ·subst e;rw [if_pos rfl,hr]at hr';simp at hr';subst hr';exact ⟨b,hb,by omega,hω,by rw [show qp3 O r' Ob (.box r')=Ob from by simp [qp3]];exact hc'⟩
  ·rw [if_neg e]at hr';obtain ⟨k,hkb,hlt',hω',hbx'⟩:=h.box r' c1 hr';have hne:k≠b:=λe'=>e (h.inj r' r b (by simp [hr']) (by simp [hr]) (by rw [hkb,e']) hb);exact ⟨k,hkb,by omega,hω',by simpa [qp3,e]using hbx'.qgM (hk k hne) (λl vals A _ _ hr=>hextL hr)⟩
 ·intro r' hr';have h1:=hlive r';rw [hr']at h1;have hn:st.box r'=none:=by cases hh:st.box r' with|none=>rfl|some _=>rw [hh]at h1;simp at h1
  have e:r'≠r:=λe=>by rw [e,hr]at hn;cases hn
  simpa [qp3,e]using h.boxD r' hn
 ·intro r1 r2 k h1 h2 h3 h4;rw [hlive]at h1 h2;exact h.inj r1 r2 k h1 h2 h3 h4
 ·intro p;unfold qp3;split
  ·exact hl
  ·exact h.lin p
 ·intro p q hpq k hkp hkq;unfold qp3 at hkp hkq;split at hkp
  ·rename_i e;subst e;rw [if_neg (Ne.symm hpq)]at hkq;exact hfree k hkp q (Ne.symm hpq) hkq
  ·split at hkq
   ·rename_i e1 e2;subst e2;exact hfree k hkq p e1 hkp
   ·exact h.dis p q hpq k hkp hkq
 ·intro r' hr';rw [qdN]at hr';rw [hlive];exact h.ptrE r' hr'
 ·intro r' c1 hr' r2 hr2;rw [hlive];rw [qV]at hr';split at hr'
  ·rename_i e;subst e;rw [hr]at hr';simp at hr';subst hr';exact (hp r2 hr2).1
  ·exact h.ptrB r' c1 hr' r2 hr2
 ·intro r' c1 hr' r2 hr2;rw [qV]at hr';split at hr'
  ·rename_i e;subst e;rw [hr]at hr';simp at hr';subst hr';exact (hp r2 hr2).2
  ·exact h.up r' c1 hr' r2 hr2
 ·intro k e fz hk';rw [hsz];exact h.dom k e fz hk'
theorem Fr.qo{w0:World}{X0:Cx}{M:Md}{n:Nat}{st:St}{tmps:Array Value}{O:Pl->List Nat}(h:Rel st tmps w X O)(hF:Fr w0 X0 M n st w X O){r:Root}{c c':List V}{b:Nat}{Ob:List Nat}{w':World}(hr:st.box r=some c)(hb:X.β r=some b)(hkd:q3 c'=q3 c)
  (hk:∀k,k≠b->w'.heap[k]?=w.heap[k]?) (hsz:w'.heap.size=w.heap.size) (hO:∀k∈Ob,w0.heap.size<=k\/M k) (hos:w'.os=w.os) (hout:w'.output=w.output) (htape:w'.tape=w.tape):Fr w0 X0 M n (st.qo r c') w' X (qp3 O r Ob):=by
 obtain ⟨b',hb',hlt,hω,hbx⟩:=h.box r c hr;obtain rfl:b=b':=by rw [hb]at hb';exact Option.some.inj hb'
 have hM:b<w0.heap.size->M b:=λhb0=>by
  rcases hF.boxM r b (by simp [hr]) hb with h1|h1
  ·omega
  ·exact h1
 have hlive:∀r',((st.qo r c').box r').isSome=(st.box r').isSome:=λr'=>by
  rw [qV];split
  ·rename_i e;subst e;simp [hr]
  ·rfl
 exact {
  size:=by rw [hsz];exact hF.size
  kept:=λk hk0 hMk=>by
   have:k≠b:=λe=>hMk (by rw [e];exact hM (by omega));obtain ⟨h1,h2⟩:=hF.kept k hk0 hMk;exact ⟨by rw [hk k this,h1],h2⟩
  grew:=λk e fz hω0=>by
   obtain ⟨e1,fz1,h1,h2,h3,h4⟩:=hF.grew k e fz hω0;have hkb:k≠b:=λe'=>by rw [e',hω]at h1;cases h1
   exact ⟨e1,fz1,h1,h2,h3,λi v hi hc=>by rw [qC (hk k hkb)];exact h4 i v hi hc⟩
  β:=hF.β
  own:=λp k hkp=>by
   unfold qp3 at hkp;split at hkp
   ·exact hO k hkp
   ·exact hF.own p k hkp
  boxM:=λr' k h1 h2=>by rw [hlive]at h1;exact hF.boxM r' k h1 h2
  lev:=by rw [qy7];exact hF.lev
  live:=λr' hr'=>by
   rw [<- hF.live r' hr',qV];split
   ·rename_i e;subst e;simp [hr,hkd]
   ·rfl
  os:=by rw [hos,hF.os]
  out:=by rw [hout,hF.out]
  tape:=by rw [htape,hF.tape]
  gl:=hF.gl
  gm:=hF.gm}
theorem qbV(a:Act)(d:Option Tmp)(v:Value):(a.put d v).tmps=qmG a.tmps d v:=by cases d<;>rfl
theorem Rel.taken{st:St}{tmps:Array Value}{O:Pl->List Nat}(h:Rel st tmps w X O)(T:List Tmp):Rel {st with E:=qA st.E T} tmps w X (qg1 O T none st.E.length []):=by
 have:=h.put (T:=T) (Oin:=[]) (O':=[]) (z:=.undef) (v:=undef) none (by simp) (Eff.refl _ h.dom) (by simp [Rep]) Lin.nil (by simp) (by simp [V.qq]);simpa [St.put,qmG]using this
theorem Fr.taken{w0:World}{X0:Cx}{M:Md}{n:Nat}{st:St}{tmps:Array Value}{O:Pl->List Nat}(h:Rel st tmps w X O)(hF:Fr w0 X0 M n st w X O)(T:List Tmp):Fr w0 X0 M n {st with E:=qA st.E T} w X (qg1 O T none st.E.length []):=by
 have:=Fr.put (z:=.undef) h hF (T:=T) (Oin:=[]) (O':=[]) none (by simp) (Eff.refl _ h.dom) (by simp);simpa [St.put]using this
theorem Rel.qin{st:St}{tmps:Array Value}{O:Pl->List Nat}(h:Rel st tmps w X O){O':List Nat}{z:V}{v:Value}(d:Option Tmp)(hz:Rep w X z v O')(hl:Lin O')(hfree:∀b∈O',∀q,b∉O q)(hp:∀r∈z.qq,(st.box r).isSome=true) :
  Rel (st.put d z) (qmG tmps d v) w X (qg1 O [] d st.E.length O'):=by
 have:=h.put (T:=[]) (Oin:=[]) d (by simp) (Eff.refl _ h.dom) hz hl (λb hb q _=>hfree b hb q) hp;simpa [qnJ]using this
theorem Fr.qin{w0:World}{X0:Cx}{M:Md}{n:Nat}{st:St}{O:Pl->List Nat}(hF:Fr w0 X0 M n st w X O){O':List Nat}{z:V}(d:Option Tmp)(hO':∀b∈O',w0.heap.size<=b\/M b) :
  Fr w0 X0 M n (st.put d z) w X (qg1 O [] d st.E.length O') where
 size:=hF.size
 kept:=hF.kept
 grew:=hF.grew
 β:=hF.β
 own:=λp b hb=>by
  cases p with
  |tmp t =>
   simp only [qg1]at hb;split at hb
   ·exact hO' b hb
   ·split at hb
    ·simp at hb
    ·exact hF.own _ b hb
  |box r=>exact hF.own _ b hb
 boxM:=λr b hr hb=>by rw [qfi]at hr;exact hF.boxM r b hr hb
 lev:=by cases d<;>exact hF.lev
 live:=λr hr=>by rw [qfi];exact hF.live r hr
 os:=hF.os
 out:=hF.out
 tape:=hF.tape
 gl:=hF.gl
 gm:=hF.gm
theorem qhc{w0:World}{X0:Cx}{M:Md}{n:Nat}{st:St}{a:Act}{O:Pl->List Nat}{dst:Option Tmp}{tk:Bool}{t:TypeId}{ao:Operand}{r:Root}{off:Nat}{cs:List V}{z:V}{c:Option (List V)}{Oin:List Nat}
  (h:Rel st a.tmps w X O) (hF:Fr w0 X0 M n st w X O) (hp:Rep w X (.ptr r off) (a.eval ao) Oin) (hr:st.box r=some cs) (hx:(if qc3 cs then none else if tk then (q8 P t (cs.drop off)).map λx=>(x,some (qP cs off (reflagL qW ((cs.drop off).take (if qO P t then P.cellsOf t else 1)))))
   else ((q8 P t (cs.drop off)).map V.q5).map λx=>(x,Option.none))=some (z,c)) :
  ∃v,(Instr.loadAt t (a.eval ao)).run P w=.ok v w/\Sim w0 X0 M n ((match c with|some c=>st.qo r c|none=>st).put dst z) (a.put dst v).tmps w:=by
 simp only [Rep]at hp;obtain ⟨_,b,hb,hv⟩:=hp;obtain ⟨b',hb',hlt,hω,hbx⟩:=h.box r cs hr;obtain rfl:b=b':=by rw [hb]at hb';exact Option.some.inj hb'
 split at hx
 ·simp at hx
 ·rename_i hlp;obtain ⟨arr,ty,hw,hl⟩:=hbx.cells (by simpa using hlp);have hseg:Seg w b off (arr.toList.drop off):=qjn hw;have hrun:∀v,(∃d,P.underlying t=some d)->(if qO P t then P.cellsOf t<=(arr.toList.drop off).length/\v=.agg ((arr.toList.drop off).take (P.cellsOf t)).toArray else (arr.toList.drop off).head?=some v)->(Instr.loadAt t (a.eval ao)).run P w=.ok v w:=by
   rintro v ⟨d,hd⟩ hvv;rw [hv];simp only [Instr.loadAt,Instr.sureAddr,Sem.run_bind,Sem.run_pure,Result.andThen_ok];exact qdX hd hseg hvv
  simp only [qbV];split at hx
  ·obtain ⟨y,hy,he⟩:=qc.1 hx;obtain ⟨rfl,rfl⟩:=Prod.mk.inj he;obtain ⟨v,Ox,Ob,hrep,hvv,hd,hrest,hcnt⟩:=qg4 hy hl;refine ⟨v,hrun v hd hvv,X,?_⟩;have hlb:=h.lin (.box r);have hmem:∀k∈Ob,k∈O (.box r):=qb8 λk=>by have:=hcnt k;omega
   have hmemx:∀k∈Ox,k∈O (.box r):=qb8 λk=>by have:=hcnt k;omega
   have hp2:∀r'∈ptrsL (qP cs off (reflagL qW ((cs.drop off).take (if qO P t then P.cellsOf t else 1)))),r'∈ptrsL cs:=λr' hr'=>by
    rcases qgf r' hr' with h1|h1
    ·exact h1
    ·rw [ptrsL_reflag]at h1;exact qcJ (qld h1)
   have hset:=h.qo (w':=w) hr hb (λ_ _=>rfl) rfl (.inl ⟨arr,ty,hw,hrest⟩) (qfz hlb λk=>by have:=hcnt k;omega) (λk hk q hq=>h.dis (.box r) q (Ne.symm hq) k (hmem k hk)) (λr' hr'=>⟨h.ptrB r cs hr r' (hp2 r' hr'),h.up r cs hr r' (hp2 r' hr')⟩);have hsetF:=Fr.qo (c':=qP cs off (reflagL qW ((cs.drop off).take (if qO P t then P.cellsOf t else 1)))) (Ob:=Ob) (w':=w) h hF hr hb (by rw [qjO hrest,qgL (by simpa using hlp)]) (λ_ _=>rfl) rfl (λk hk=>hF.own _ k (hmem k hk)) rfl rfl rfl;refine ⟨_,hset.qin dst hrep (qfz hlb λk=>by have:=hcnt k;omega) (λk hk q hkq=>?_) (λr' hr'=>?_),hsetF.qin dst (λk hk=>hF.own _ k (hmemx k hk))⟩
   ·unfold qp3 at hkq;split at hkq
    ·have h1:=List.count_pos_iff.2 hk;have h2:=List.count_pos_iff.2 hkq;have h3:=hcnt k;have h4:=hlb k;omega
    ·rename_i hne;exact h.dis (.box r) q (Ne.symm hne) k (hmemx k hk) hkq
   ·rw [qV];have hl:=h.ptrB r cs hr r' (qcJ (qbA hy r' hr'));split
    ·simp [hr]
    ·exact hl
  ·obtain ⟨z',hz,he⟩:=qc.1 hx;obtain ⟨rfl,rfl⟩:=Prod.mk.inj he;obtain ⟨y,hy,rfl⟩:=qc.1 hz;obtain ⟨v,Ox,Ob,hrep,hvv,hd,hrest,hcnt⟩:=qg4 hy hl;refine ⟨v,hrun v hd hvv,X,_,h.qin dst (qgh hrep) Lin.nil (by simp) (λr' hr'=>?_),hF.qin dst (by simp)⟩;rw [qg0]at hr';exact h.ptrB r cs hr r' (qcJ (qbA hy r' hr'))
theorem qvm{w0:World}{X0:Cx}{M:Md}{n:Nat}{st:St}{a:Act}{O:Pl->List Nat}{dst:Option Tmp}{T:List Tmp}{t:TypeId}{ao xo:Operand}{r:Root}{off:Nat}{cs:List V}{x:V}{Op Ox:List Nat}
  (h:Rel st a.tmps w X O) (hF:Fr w0 X0 M n st w X O) (hp:Rep w X (.ptr r off) (a.eval ao) Op) (hxr:Rep w X x (a.eval xo) Ox) (hin:∀b∈Ox,∃t∈T,b∈O (.tmp t)) (hlx:Lin Ox) (hr:st.box r=some cs)
  (hc:qc3 cs=false/\P.cellsOf t≠0/\x.cells.length=P.cellsOf t/\off+x.cells.length<=cs.length/\x.oks=true) (hpx:∀r'∈x.qq,(st.box r').isSome=true) (hup:∀r'∈ptrsL (qP cs off x.cells),r'.lvl<=r.lvl) :
  ∃w',(Instr.storeAt t (a.eval ao) (a.eval xo)).run P w=.ok () w'/\Sim w0 X0 M n ((({st with E:=qA st.E T}:St).qo r (qP cs off x.cells)).put dst .undef) (a.put dst undef).tmps w':=by
 obtain ⟨hlp,hs0,hxl,hle,hok⟩:=hc;simp only [Rep]at hp;obtain ⟨_,b,hb,hv⟩:=hp;obtain ⟨b',hb',hlt,hω,hbx⟩:=h.box r cs hr;obtain rfl:b=b':=by rw [hb]at hb';exact Option.some.inj hb'
 obtain ⟨arr,ty,hw,hl⟩:=hbx.cells hlp;obtain ⟨hcells,hones⟩:=qcg hok hxr;have hul:(a.eval xo).cells.toList.length=x.cells.length:=(qE _ _ _ hcells).symm;have hal:cs.length=arr.size:=by rw [qE _ _ _ hl];simp
 obtain ⟨Ob,hspl,hcnt⟩:=qir (off:=off) hl hcells;have hst:=run_storeCells_at (P:=P) b off ty (a.eval xo).cells.toList 0 arr w hw (by omega) hones;simp only [Nat.add_zero]at hst;refine ⟨w.setRow b (arr.toList.take off++(a.eval xo).cells.toList++arr.toList.drop (off+(a.eval xo).cells.toList.length)).toArray,?_,X,?_⟩
 ·rw [hv];have:¬ ((a.eval xo).cells.size≠P.cellsOf t):=by rw [<- hxl,<- hul];simp
  simp only [Instr.storeAt,Instr.sureAddr,Sem.run_bind,Sem.run_pure,Result.andThen_ok,storeVar,qab hs0,if_neg this];exact hst
 ·rw [qbV];have h1:=h.taken T;have hF1:=Fr.taken h hF T;have hr1:({st with E:=qA st.E T}:St).box r=some cs:=hr;have hlOb:Lin Ob:=λk=>by
   have h2:=hcnt k;have h3:=h.lin (.box r) k;have h4:=hlx k;by_cases hk:k∈Ox
   ·have:(O (.box r)).count k=0:=List.count_eq_zero.2 λhkb=>by
     obtain ⟨s,_,hs⟩:=hin k hk;exact h.dis (.box r) (.tmp s) (by simp) k hkb hs
    omega
   ·have:Ox.count k=0:=List.count_eq_zero.2 hk;omega
  have hmem:∀k∈Ob,k∈O (.box r)\/k∈Ox:=λk hk=>by
   have h2:=hcnt k;have:=List.count_pos_iff.2 hk;by_cases hk':k∈Ox
   ·exact .inr hk'
   ·have:Ox.count k=0:=List.count_eq_zero.2 hk';exact .inl (List.count_pos_iff.1 (by omega))
  have hset:=h1.qo (c':=qP cs off x.cells) hr1 hb (λk hk=>setRow_other w b k _ hk) (by simp) (.inl ⟨_,ty,setRow_heap w b arr _ ty _ hw,qt1 hω (λk hk=>setRow_other w b k _ hk) hspl⟩) hlOb (λk hk q hq hkq=>?_) (λr' hr'=>?_)
  ·have hsetF:=Fr.qo (c':=qP cs off x.cells) (Ob:=Ob) (w':=w.setRow b (arr.toList.take off++(a.eval xo).cells.toList++arr.toList.drop (off+(a.eval xo).cells.toList.length)).toArray) h1 hF1 hr1 hb (by rw [qjO hspl,qgL hlp]) (λk hk=>setRow_other w b k _ hk) (by simp) (λk hk=>?_) rfl rfl rfl
   ·exact ⟨_,hset.qin dst (z:=.undef) (v:=undef) (O':=[]) (by simp [Rep]) Lin.nil (by simp) (by simp [V.qq]),hsetF.qin dst (by simp)⟩
   ·rcases hmem k hk with h2|h2
    ·exact hF.own _ k h2
    ·obtain ⟨s',_,hks⟩:=hin k h2;exact hF.own _ k hks
  ·cases q with
   |tmp s =>
    simp only [qg1]at hkq;rw [if_neg (by simp)]at hkq;split at hkq
    ·simp at hkq
    ·rename_i hn;rcases hmem k hk with h2|h2
     ·exact h.dis (.box r) (.tmp s) (by simp) k h2 hkq
     ·obtain ⟨s',hs',hks⟩:=hin k h2;exact h.dis (.tmp s') (.tmp s) (λe=>hn (by cases e;exact hs')) k hks hkq
   |box r' =>
    rcases hmem k hk with h2|h2
    ·exact h.dis (.box r) (.box r') (Ne.symm hq) k h2 hkq
    ·obtain ⟨s',hs',hks⟩:=hin k h2;exact h.dis (.tmp s') (.box r') (by simp) k hks hkq
  ·refine ⟨?_,hup r' hr'⟩;rcases qgf r' hr' with h2|h2
   ·exact h.ptrB r cs hr r' h2
   ·exact hpx r' (qeL h2)
def Cx.setβ(X:Cx)(r:Root)(b:Nat):Cx:={X with β:=λk=>if k=r then some b else X.β k}
theorem ext_setβ{w':World}{r0:Root}{b:Nat}{R:List Root}(hR:r0∉R)(hd:Dom w X)(hk:∀k,k<w.heap.size->w'.heap[k]?=w.heap[k]?):Ext R w X w' (X.setβ r0 b) (λ_=>False) where
 β:=λr hr=>by simp only [Cx.setβ];rw [if_neg (λe=>hR (by rw [<- e];exact hr))]
 ω:=λk e fz h=>⟨e,fz,h,Nat.le_refl _,id,λ_=>⟨rfl,rfl⟩⟩
 cell:=λk e fz i v h _ hc=>by rw [qC (hk k (hd k e fz h))];exact hc
 obj:=λk e fz c t _ h hc=>⟨c,by rw [hk k (hd k e fz h)];exact hc,rfl⟩
def qrY(O:Pl->List Nat)(r0:Root)(d:Tmp)(Oc:List Nat):Pl->List Nat:=λp=>if p=.box r0 then Oc else if p=.tmp d then []else O p
theorem Rel.qmi{st:St}{tmps:Array Value}{O:Pl->List Nat}(h:Rel st tmps w X O){d:Nat}{c:List V}{arr:Array Value}{t:TypeId}{Oc:List Nat}(hnb:qy st.B d=none)(hc:RepL w X c arr.toList Oc)(hl:Lin Oc)
  (hfree:∀k∈Oc,∀q,q≠.tmp d->k∉O q) (hp:∀r∈ptrsL c,(st.box r).isSome=true) :
  Rel {st with E:=st.E.set d (.ptr ⟨st.L.length,d⟩ 0),B:=qb2 d c st.B} (tmps.setIfInBounds d (.pointer (some ⟨w.heap.size,0,none⟩))) (w.alloc (.cells arr t)) (X.setβ ⟨st.L.length,d⟩ w.heap.size) (qrY O ⟨st.L.length,d⟩ d Oc):=by
 have hr0:st.box ⟨st.L.length,d⟩=none:=by simp [St.box,hnb]
 have hold:∀k,k<w.heap.size->(w.alloc (.cells arr t)).heap[k]?=w.heap[k]?:=λk hk=>heap_alloc_old w _ hk;have hnotin:∀l:List Root,(∀r∈l,(st.box r).isSome=true)->(⟨st.L.length,d⟩:Root)∉l:=λl hl hm=>by have:=hl _ hm;rw [hr0]at this;simp at this
 have hext:∀{x:V} {u:Value} {A:List Nat},(∀r∈x.qq,(st.box r).isSome=true)->Rep w X x u A->Rep (w.alloc (.cells arr t)) (X.setβ ⟨st.L.length,d⟩ w.heap.size) x u A:=λhx hr =>
  Rep.ext (ext_setβ (hnotin _ hx) h.dom hold) _ _ _ (λ_ h=>h) (by simp) hr
 have hextL:∀{l:List V} {us:List Value} {A:List Nat},(∀r∈ptrsL l,(st.box r).isSome=true)->RepL w X l us A->RepL (w.alloc (.cells arr t)) (X.setβ ⟨st.L.length,d⟩ w.heap.size) l us A:=λhx hr =>
  RepL.ext (ext_setβ (hnotin _ hx) h.dom hold) _ _ _ (λ_ h=>h) (by simp) hr
 have hbox:∀r,({st with E:=st.E.set d (.ptr ⟨st.L.length,d⟩ 0),B:=qb2 d c st.B}:St).box r=if r=⟨st.L.length,d⟩then some c else st.box r:=λr=>qfV st d c hnb r;have hlive:∀r,(st.box r).isSome=true->(({st with E:=st.E.set d (.ptr ⟨st.L.length,d⟩ 0),B:=qb2 d c st.B}:St).box r).isSome=true:=λr hr=>by
  rw [hbox];split
  ·rfl
  ·exact hr
 have hne:∀r,(st.box r).isSome=true->r≠⟨st.L.length,d⟩:=λr hr e=>by rw [e,hr0]at hr;simp at hr
 refine {size:=by simp [h.size],env:=?_,envD:=?_,box:=?_,boxD:=?_,inj:=?_,lin:=?_,dis:=?_,ptrE:=?_,ptrB:=?_,up:=?_,dom:=?_}
 ·intro s x hx;have hlt:s<st.E.length:=by have:=(qm.1 hx).1;simpa using this
  by_cases hsd:d=s
  ·subst hsd;rw [List.getElem?_set_self hlt]at hx;cases hx;refine ⟨.pointer (some ⟨w.heap.size,0,none⟩),by simp [h.size,hlt],?_⟩;simp only [qrY,Rep];exact ⟨by simp,w.heap.size,by simp [Cx.setβ],rfl⟩
  ·rw [List.getElem?_set_ne hsd]at hx;obtain ⟨v,hv,hr⟩:=h.env s x hx;refine ⟨v,by simp [hsd,hv],?_⟩;have e:qrY O ⟨st.L.length,d⟩ d Oc (.tmp s)=O (.tmp s):=by simp [qrY,Ne.symm hsd]
   rw [e];exact hext (λr hr=>h.ptrE r (qD.2 ⟨x,List.mem_of_getElem? hx,hr⟩)) hr
 ·intro s hs;simp at hs;simp only [qrY];rw [if_neg (by simp)];split
  ·rfl
  ·exact h.envD s hs
 ·intro r c1 hr;rw [hbox]at hr;by_cases e:r=⟨st.L.length,d⟩
  ·subst e;rw [if_pos rfl]at hr;cases hr;refine ⟨w.heap.size,by simp [Cx.setβ],by simp,?_,?_⟩
   ·cases hω:(X.setβ ⟨st.L.length,d⟩ w.heap.size).ω w.heap.size with
    |none=>rfl
    |some p=>have:=h.dom w.heap.size p.1 p.2 hω;omega
   ·rw [show qrY O ⟨st.L.length,d⟩ d Oc (.box ⟨st.L.length,d⟩)=Oc from by simp [qrY]];exact .inl ⟨arr,t,heap_alloc_new w _,hextL hp hc⟩
  ·rw [if_neg e]at hr;obtain ⟨k,hkb,hlt,hω,hbx⟩:=h.box r c1 hr;refine ⟨k,by simp [Cx.setβ,e,hkb],by simp;omega,hω,?_⟩;rw [show qrY O ⟨st.L.length,d⟩ d Oc (.box r)=O (.box r)from by simp [qrY,e]];exact hbx.qgM (hold k hlt) (λl vals A hl _ hr'=>hextL (λr' hr'=>h.ptrB r c1 hr r' (hl r' hr')) hr')
 ·intro r hr;rw [hbox]at hr;split at hr
  ·cases hr
  ·rename_i e;simp [qrY,e,h.boxD r hr]
 ·intro r r' k h1 h2 h3 h4;rw [hbox]at h1 h2;simp only [Cx.setβ]at h3 h4;have hltk:∀r'',(st.box r'').isSome=true->X.β r''=some k->k<w.heap.size:=λr'' hs hb=>by
   obtain ⟨c'',hc''⟩:=Option.isSome_iff_exists.1 hs;obtain ⟨k',hk',hlt',_⟩:=h.box r'' c'' hc'';rw [hb]at hk';cases hk';exact hlt'
  split at h3
  ·rename_i e1;split at h4
   ·rename_i e2;rw [e1,e2]
   ·rename_i e2;rw [if_neg e2]at h2;cases h3;have:=hltk r' h2 h4;omega
  ·rename_i e1;rw [if_neg e1]at h1;split at h4
   ·cases h4;have:=hltk r h1 h3;omega
   ·rename_i e2;rw [if_neg e2]at h2;exact h.inj r r' k h1 h2 h3 h4
 ·intro p;unfold qrY;split
  ·exact hl
  ·split
   ·exact Lin.nil
   ·exact h.lin p
 ·intro p q hpq k hkp hkq;unfold qrY at hkp hkq;split at hkp
  ·rename_i e;subst e;rw [if_neg (Ne.symm hpq)]at hkq;split at hkq
   ·simp at hkq
   ·rename_i hq;exact hfree k hkp q hq hkq
  ·split at hkp
   ·simp at hkp
   ·rename_i e1 e2;split at hkq
    ·exact hfree k hkq p e2 hkp
    ·split at hkq
     ·simp at hkq
     ·exact h.dis p q hpq k hkp hkq
 ·intro r hr;rcases mem_set hr with hr|hr
  ·exact hlive r (h.ptrE r hr)
  ·simp only [V.qq,List.mem_singleton]at hr;subst hr;rw [hbox,if_pos rfl];rfl
 ·intro r c1 hr r' hr';rw [hbox]at hr;split at hr
  ·cases hr;exact hlive r' (hp r' hr')
  ·exact hlive r' (h.ptrB r c1 hr r' hr')
 ·intro r c1 hr r' hr';rw [hbox]at hr;split at hr
  ·rename_i e;cases hr;subst e;have:=qql (hp r' hr');simp only<;>omega
  ·exact h.up r c1 hr r' hr'
 ·intro k e fz hk;have:=h.dom k e fz hk;simp<;>omega
theorem Fr.qmi{w0:World}{X0:Cx}{M:Md}{n:Nat}{st:St}{tmps:Array Value}{O:Pl->List Nat}(h:Rel st tmps w X O)(hF:Fr w0 X0 M n st w X O){d:Nat}{c:List V}{arr:Array Value}{t:TypeId}{Oc:List Nat}(hnb:qy st.B d=none)(hO:∀k∈Oc,w0.heap.size<=k\/M k) :
  Fr w0 X0 M n {st with E:=st.E.set d (.ptr ⟨st.L.length,d⟩ 0),B:=qb2 d c st.B} (w.alloc (.cells arr t)) (X.setβ ⟨st.L.length,d⟩ w.heap.size) (qrY O ⟨st.L.length,d⟩ d Oc) where
 size:=by have:=hF.size;simp<;>omega
 kept:=λb hb hM=>by
  obtain ⟨h1,h2⟩:=hF.kept b hb hM;exact ⟨by rw [heap_alloc_old w _ (Nat.lt_of_lt_of_le hb hF.size),h1],h2⟩
 grew:=λb e fz hω=>by
  obtain ⟨e1,fz1,h1,h2,h3,h4⟩:=hF.grew b e fz hω;exact ⟨e1,fz1,h1,h2,h3,λi v hi hc=>by rw [qC (heap_alloc_old w _ (h.dom b e1 fz1 h1))];exact h4 i v hi hc⟩
 β:=λr hr=>by
  have hl:=hF.lev;simp only [Cx.setβ];rw [if_neg (λe=>by rw [e]at hr;simp at hr;omega)];exact hF.β r hr
 own:=λp b hb=>by
  unfold qrY at hb;split at hb
  ·exact hO b hb
  ·split at hb
   ·simp at hb
   ·exact hF.own p b hb
 boxM:=λr b hr hb=>by
  have hl:=hF.lev;rw [show ({st with E:=st.E.set d (.ptr ⟨st.L.length,d⟩ 0),B:=qb2 d c st.B}:St).box r=if r=⟨st.L.length,d⟩then some c else st.box r from qfV st d c hnb r]at hr;simp only [Cx.setβ]at hb;split at hb
  ·rename_i e;cases hb;exact .inl hF.size
  ·rename_i e;rw [if_neg e]at hr;exact hF.boxM r b hr hb
 lev:=hF.lev
 live:=λr hr=>by
  have hl:=hF.lev;rw [show ({st with E:=st.E.set d (.ptr ⟨st.L.length,d⟩ 0),B:=qb2 d c st.B}:St).box r=if r=⟨st.L.length,d⟩then some c else st.box r from qfV st d c hnb r,if_neg (λe=>by rw [e]at hr;simp at hr;omega)];exact hF.live r hr
 os:=hF.os
 out:=hF.out
 tape:=hF.tape
 gl:=hF.gl
 gm:=hF.gm
end
section
variable {w w':World} {X X' X2:Cx}
def Cx.qhw(X:Cx)(w:World):Cx :=
 {β:=X.β,ω:=λb=>match X.ω b with
  |some p=>some (p.1,true)
  |none=>match w.heap[b]? with
   |some (.cells arr _ _)=>some (arr.size,true)
   |_=>none}
theorem peek_ω{b e:Nat}{fz:Bool}(h:X.ω b=some (e,fz)):(X.qhw w).ω b=some (e,true):=by simp [Cx.qhw,h]
theorem qtP{b:Nat}{arr:Array Value}{t:TypeId}{m:Nat×Nat}(h:X.ω b=none)(hb:w.heap[b]?=some (.cells arr t m)):(X.qhw w).ω b=some (arr.size,true):=by simp [Cx.qhw,h,hb]
theorem qmu{b e:Nat}{fz:Bool}(h:(X.qhw w).ω b=some (e,fz)):fz=true:=by
 simp only [Cx.qhw]at h;split at h
 ·cases h;rfl
 ·split at h
  ·cases h;rfl
  ·cases h
theorem qtQ(hd:Dom w X):Dom w (X.qhw w):=λb e fz h=>by
 simp only [Cx.qhw]at h;split at h
 ·rename_i p hp;exact hd b p.1 p.2 hp
 ·split at h
  ·rename_i hb;exact (Array.getElem?_eq_some_iff.1 hb).1
  ·cases h
theorem qu5:Flags qL X (X.qhw w) (λ_=>True) true where
 β:=rfl
 own:=λf=>by simp [qL]
 dul:=λ_ _=>rfl
 ω:=λ_ b e fz h=>⟨true,peek_ω h⟩
 sh:=λf b e fz h _ _ _ _=>peek_ω h
theorem quZ{c:V}(h:c.one=true):c.cells=[c]:=by cases c<;>first|rfl|(simp [V.one]at h)
theorem qrv:∀{l:List V} {vals:List Value} {O:List Nat},l.all V.one=true->RepL w X l vals O->RepE w X 1 l vals O
 |[],vals,O,_,h=>by simp only [RepL]at h;simp only [RepE];exact h
 |x::l,vals,O,ha,h=>by
  simp only [RepL]at h;obtain ⟨u,vs,O1,O2,rfl,rfl,h1,h2⟩:=h;simp only [List.all_cons,qe]at ha;have hc:=qb3 (qis ha.1 h1);simp only [RepE];exact ⟨u,vs,O1,O2,by rw [hc];rfl,by rw [hc];rfl,rfl,h1,qrv ha.2 h2⟩
mutual
theorem peekV_okX{bx:Root->Option (List V)}{Ob:Root->List Nat}(hF:Flags qL X X' (λ_=>True) true)(hb:∀r c,bx r=some c->∃b,X.β r=some b/\b<w.heap.size/\X.ω b=none/\qnk w X b c (Ob r)/\∀arr t m,w.heap[b]?=some (.cells arr t m)->X'.ω b=some (arr.size,true)) :
  ∀(x x':V) (v:Value) (O:List Nat),peekV bx x=some x'->Rep w X x v O->Rep w X' x' v []
 |.undef,x',v,O,h,hr=>by simp only [peekV,qb]at h;subst h;simp [Rep]
 |.val u,x',v,O,h,hr=>by simp only [peekV,qb]at h;subst h;simp only [Rep]at hr ⊢;exact ⟨hr.1,trivial⟩
 |.sl f c l,x',v,O,h,hr=>by
  simp only [peekV,qb]at h;subst h;exact Rep.flags hF (.sl f c l) v O (λ_ _=>trivial) (λ_=>rfl) hr
 |.cptr f cs,x',v,O,h,hr=>by
  simp only [peekV,qb]at h;subst h;exact Rep.flags hF (.cptr f cs) v O (λ_ _=>trivial) (λ_=>rfl) hr
 |.ptr r off,x',v,O,h,hr=>by
  simp only [peekV]at h;split at h
  ·rename_i c hc;split at h
   ·rename_i hcc;obtain ⟨hlp,hoff⟩:=hcc;simp only [qb]at h;subst h;simp only [Rep]at hr;obtain ⟨rfl,b,hbr,rfl⟩:=hr;obtain ⟨b',h1,h2,h3,h4,h4'⟩:=hb r c hc;rw [hbr]at h1;cases h1;obtain ⟨arr,t,h5,h6⟩:=h4.cells hlp;have h7:=RepL.flags hF c arr.toList _ (λ_ _=>trivial) (λ_=>rfl) h6;have hlen:=qE c _ _ h6;obtain ⟨A,B,hAB,_,h8⟩:=qaB off h7;have hB:B=[]:=by
     cases B with
     |nil=>rfl
     |cons y B=>simp at hAB
    subst hB;simp only [Rep];refine ⟨trivial,b,off,arr.toList.drop off,rfl,qjn h5,⟨_,_,h4' _ _ _ h5,?_,λ_=>rfl⟩,?_,by simp⟩
    ·simp only [List.length_drop,Array.length_toList]at hlen ⊢;omega
    ·rw [show reflagL qL (c.drop off)=(reflagL qL c).drop off by rw [qG,qG,List.map_drop]];exact h8
   ·cases h
  ·cases h
 |.fn f a c,x',v,O,h,hr=>by
  simp only [peekV]at h;split at h
  ·rename_i x y hx hy;simp only [qb]at h;subst h;simp only [Rep]at hr ⊢;obtain ⟨va,vc,O1,O2,rfl,rfl,h1,h2⟩:=hr;exact ⟨va,vc,[],[],rfl,rfl,peekL_okX hF hb a x va O1 hx h1,peekL_okX hF hb c y vc O2 hy h2⟩
  ·cases h
 |.iface t x,x',v,O,h,hr=>by
  simp only [peekV]at h;obtain ⟨y,hy,rfl⟩:=qc.1 h;simp only [Rep]at hr ⊢;obtain ⟨u,rfl,h1⟩:=hr;exact ⟨u,rfl,peekV_okX hF hb x y u O hy h1⟩
 |.agg l,x',v,O,h,hr=>by
  simp only [peekV]at h;obtain ⟨y,hy,rfl⟩:=qc.1 h;simp only [Rep]at hr ⊢;obtain ⟨u,rfl,h1⟩:=hr;exact ⟨u,rfl,peekL_okX hF hb l y u O hy h1⟩
 |.tuple l,x',v,O,h,hr=>by
  simp only [peekV]at h;obtain ⟨y,hy,rfl⟩:=qc.1 h;simp only [Rep]at hr ⊢;obtain ⟨u,rfl,h1⟩:=hr;exact ⟨u,rfl,peekL_okX hF hb l y u O hy h1⟩
 |.yld _,x',v,O,h,hr=>by simp [peekV]at h
 |.mref r,x',v,O,h,hr=>by
  simp only [peekV,qb]at h;subst h;simp only [Rep]at hr ⊢;obtain ⟨_,b,h1,h2⟩:=hr;exact ⟨trivial,b,by rw [hF.β];exact h1,h2⟩
 |.bsl r off n,x',v,O,h,hr=>by
  simp only [peekV]at h;split at h
  ·rename_i c hc;split at h
   ·rename_i hcc;obtain ⟨hlp,hoff,hone,hnp⟩:=hcc;simp only [qb]at h;subst h;simp only [Rep]at hr;obtain ⟨rfl,b,cap,hbr,rfl,hcap⟩:=hr;obtain ⟨b',h1,h2,h3,h4,h4'⟩:=hb r c hc;rw [hbr]at h1;cases h1;obtain ⟨arr,t,h5,h6⟩:=h4.cells hlp;have h7:=RepL.flags hF c arr.toList _ (λ_ _=>trivial) (λ_=>rfl) h6;have hlen:=qE c _ _ h6;obtain ⟨A,B,hAB,_,h8⟩:=qaB off h7;have hB:B=[]:=by
     cases B with
     |nil=>rfl
     |cons y B=>simp at hAB
    subst hB;obtain ⟨A2,B2,hAB2,h9,_⟩:=qaB n h8;have hA2:A2=[]:=by
     cases A2 with
     |nil=>rfl
     |cons y B=>simp at hAB2
    subst hA2;have e1:reflagL qL ((c.drop off).take n)=((reflagL qL c).drop off).take n:=by rw [qG,qG,List.map_take,List.map_drop]
    have hl:((arr.toList.drop off).take n).length=n:=by
     simp only [Array.length_toList]at hlen;simp only [List.length_take,List.length_drop,Array.length_toList]<;>omega
    have hl2:(reflagL qL ((c.drop off).take n)).length=n:=by rw [qR,List.length_take,List.length_drop];omega
    rw [<- e1]at h9;simp only [Rep];refine ⟨by rw [ptrsL_reflag];exact hnp,.inr ⟨b,off,cap,1,(arr.toList.drop off).take n,[],by rw [hl2],by rw [hl2];exact hcap,by simp,by rw [hl,hl2];simp,by simp,?_,?_,⟨_,_,h4' _ _ _ h5,?_,rfl⟩,qrv hone h9,by simp,by simp⟩⟩
    ·intro x hx;rw [quZ (List.all_eq_true.1 hone x hx)];rfl
    ·intro i u hi;rw [List.getElem?_take]at hi;split at hi
     ·exact qjn h5 i u hi
     ·cases hi
    ·simp only [Array.length_toList]at hlen;rw [hl];omega
   ·cases h
  ·cases h
 |.mp _,x',v,O,h,hr=>by simp [peekV]at h
 |.room ..,x',v,O,h,hr=>by simp [peekV]at h
 |.lp ..,x',v,O,h,hr=>by simp [peekV]at h
theorem peekL_okX{bx:Root->Option (List V)}{Ob:Root->List Nat}(hF:Flags qL X X' (λ_=>True) true)(hb:∀r c,bx r=some c->∃b,X.β r=some b/\b<w.heap.size/\X.ω b=none/\qnk w X b c (Ob r)/\∀arr t m,w.heap[b]?=some (.cells arr t m)->X'.ω b=some (arr.size,true)) :
  ∀(l l':List V) (vals:List Value) (O:List Nat),peekL bx l=some l'->RepL w X l vals O->RepL w X' l' vals []
 |[],l',vals,O,h,hr=>by simp only [peekL,qb]at h;subst h;simp only [RepL]at hr ⊢;exact ⟨hr.1,trivial⟩
 |x::l,l',vals,O,h,hr=>by
  simp only [peekL]at h;split at h
  ·rename_i y ys hy hys;simp only [qb]at h;subst h;simp only [RepL]at hr ⊢;obtain ⟨u,vs,O1,O2,rfl,rfl,h1,h2⟩:=hr;exact ⟨u,vs,[],[],rfl,rfl,peekV_okX hF hb x y u O1 hy h1,peekL_okX hF hb l ys vs O2 hys h2⟩
  ·cases h
end
theorem qyW{bx:Root->Option (List V)}{Ob:Root->List Nat}(hb:∀r c,bx r=some c->∃b,X.β r=some b/\b<w.heap.size/\X.ω b=none/\qnk w X b c (Ob r))
  (l l':List V) (vals:List Value) (O:List Nat) (h:peekL bx l=some l') (hr:RepL w X l vals O):RepL w (X.qhw w) l' vals [] :=
 peekL_okX (Ob:=Ob) qu5 (λr c hc=>by obtain ⟨b,h1,h2,h3,h4⟩:=hb r c hc;exact ⟨b,h1,h2,h3,h4,λarr t m h5=>qtP h3 h5⟩) l l' vals O h hr
theorem qiE.qb9{b off n cap s:Nat}(he:X2.ω b=X.ω b)(h:qiE w X .own b off n cap s):qiE w X2 .own b off n cap s:=by
 unfold qiE at *;rw [he];exact h
mutual
theorem Rep.qb9:∀(x:V) (v:Value) (O:List Nat),x.qb9=true->(∀b∈O,X2.ω b=X.ω b)->Rep w X x v O->Rep w X2 x v O
 |.undef,v,O,hm,hb,hr=>by simpa only [Rep]using hr
 |.val _,v,O,hm,hb,hr=>by simpa only [Rep]using hr
 |.sl f c l,v,O,hm,hb,hr=>by
  simp only [V.qb9,qe,decide_eq_true_eq]at hm;obtain ⟨rfl,hm⟩:=hm;simp only [Rep]at hr ⊢;obtain ⟨hp,hr⟩:=hr;refine ⟨hp,?_⟩;rcases hr with hr|⟨b,off,cap,s,vals,O',h1,h2,h3,h4,h5,h6,h7,h8,h9,h10,h11⟩
  ·exact .inl hr
  ·have hO:=h10 trivial;subst hO;exact .inr ⟨b,off,cap,s,vals,O',h1,h2,h3,h4,h5,h6,h7,h8.qb9 (hb b (by simp)),RepE.qb9 s l vals O' hm (λk hk=>hb k (by simp [hk])) h9,λ_=>rfl,λhn=>absurd rfl hn⟩
 |.room s n,v,O,hm,hb,hr=>by
  simp only [Rep]at hr ⊢;obtain ⟨b,cap,hv,hn,hs,rfl,hω,hsp⟩:=hr;exact ⟨b,cap,hv,hn,hs,rfl,by rw [hb b (by simp)];exact hω,hsp⟩
 |.fn f a c,v,O,hm,hb,hr=>by
  simp only [V.qb9,qe]at hm;simp only [Rep]at hr ⊢;obtain ⟨va,vc,O1,O2,rfl,rfl,h1,h2⟩:=hr;exact ⟨va,vc,O1,O2,rfl,rfl,RepL.qb9 a va O1 hm.1 (λk hk=>hb k (by simp [hk])) h1,RepL.qb9 c vc O2 hm.2 (λk hk=>hb k (by simp [hk])) h2⟩
 |.iface t x,v,O,hm,hb,hr=>by
  simp only [V.qb9]at hm;simp only [Rep]at hr ⊢;obtain ⟨u,rfl,h1⟩:=hr;exact ⟨u,rfl,Rep.qb9 x u O hm hb h1⟩
 |.agg l,v,O,hm,hb,hr=>by
  simp only [V.qb9]at hm;simp only [Rep]at hr ⊢;obtain ⟨u,rfl,h1⟩:=hr;exact ⟨u,rfl,RepL.qb9 l u O hm hb h1⟩
 |.tuple l,v,O,hm,hb,hr=>by
  simp only [V.qb9]at hm;simp only [Rep]at hr ⊢;obtain ⟨u,rfl,h1⟩:=hr;exact ⟨u,rfl,RepL.qb9 l u O hm hb h1⟩
 |.ptr ..,_,_,hm,_,_|.yld _,_,_,hm,_,_|.mref _,_,_,hm,_,_|.bsl ..,_,_,hm,_,_|.mp _,_,_,hm,_,_|.cptr ..,_,_,hm,_,_|.lp ..,_,_,hm,_,_=>by simp [V.qb9]at hm
theorem RepL.qb9:∀(l:List V) (vals:List Value) (O:List Nat),mineL l=true->(∀b∈O,X2.ω b=X.ω b)->RepL w X l vals O->RepL w X2 l vals O
 |[],_,_,_,_,hr=>by simpa only [RepL]using hr
 |x::l,vals,O,hm,hb,hr=>by
  simp only [mineL,qe]at hm;simp only [RepL]at hr ⊢;obtain ⟨u,vs,O1,O2,rfl,rfl,h1,h2⟩:=hr;exact ⟨u,vs,O1,O2,rfl,rfl,Rep.qb9 x u O1 hm.1 (λk hk=>hb k (by simp [hk])) h1,RepL.qb9 l vs O2 hm.2 (λk hk=>hb k (by simp [hk])) h2⟩
theorem RepE.qb9(s:Nat):∀(l:List V) (vals:List Value) (O:List Nat),mineL l=true->(∀b∈O,X2.ω b=X.ω b)->RepE w X s l vals O->RepE w X2 s l vals O
 |[],_,_,_,_,hr=>by simpa only [RepE]using hr
 |x::l,vals,O,hm,hb,hr=>by
  simp only [mineL,qe]at hm;simp only [RepE]at hr ⊢;obtain ⟨u,vs,O1,O2,rfl,hs,rfl,h1,h2⟩:=hr;exact ⟨u,vs,O1,O2,rfl,hs,rfl,Rep.qb9 x u O1 hm.1 (λk hk=>hb k (by simp [hk])) h1,RepE.qb9 s l vs O2 hm.2 (λk hk=>hb k (by simp [hk])) h2⟩
end
end
section
variable {P:Program} {H:Hints} {f:FuncId} {w:World} {X:Cx}
def qa9(M:List Level)(r:Root):Option (List V):=match M[r.lvl]? with|some b=>qy b r.slot|none=>none
theorem qbq(st:St)(r:Root):st.box r=qa9 (st.L++[st.B]) r:=by
 unfold St.box qa9;by_cases h:r.lvl=st.L.length
 ·simp [h]
 ·simp only [h,if_false];by_cases hlt:r.lvl<st.L.length
  ·rw [qg hlt];rfl
  ·rw [List.getElem?_eq_none (by omega),List.getElem?_eq_none (by simp;omega)]
structure LRel (M:List Level) (w:World) (X:Cx) (O:Root->List Nat):Prop where
 box:∀r c,qa9 M r=some c->∃b,X.β r=some b/\b<w.heap.size/\X.ω b=none/\qnk w X b c (O r)
 boxD:∀r,qa9 M r=none->O r=[]
 inj:∀r r' b,(qa9 M r).isSome=true->(qa9 M r').isSome=true->X.β r=some b->X.β r'=some b->r=r'
 lin:∀r,Lin (O r)
 dis:∀r r',r≠r'->∀b∈O r,b∉O r'
 ptrB:∀r c,qa9 M r=some c->∀r'∈ptrsL c,(qa9 M r').isSome=true
 up:∀r c,qa9 M r=some c->∀r'∈ptrsL c,r'.lvl<=r.lvl
 dom:Dom w X
theorem Rel.qCc{st:St}{tmps:Array Value}{O:Pl->List Nat}(h:Rel st tmps w X O):LRel (st.L++[st.B]) w X (λr=>O (.box r)) where
 box:=λr c hr=>h.box r c (by rw [qbq];exact hr)
 boxD:=λr hr=>h.boxD r (by rw [qbq];exact hr)
 inj:=λr r' b h1 h2=>h.inj r r' b (by rw [qbq];exact h1) (by rw [qbq];exact h2)
 lin:=λr=>h.lin _
 dis:=λr r' hne=>h.dis _ _ (λe=>hne (by cases e;rfl))
 ptrB:=λr c hr r' hr'=>by rw [<- qbq];exact h.ptrB r c (by rw [qbq];exact hr) r' hr'
 up:=λr c hr=>h.up r c (by rw [qbq];exact hr)
 dom:=h.dom
theorem LRel.own{M:List Level}{O:Root->List Nat}(h:LRel M w X O):∀r,∀b∈O r,∃e,X.ω b=some (e,false):=λr b hb=>by
 cases hr:qa9 M r with
 |none=>rw [h.boxD r hr]at hb;simp at hb
 |some c=>obtain ⟨k,_,_,_,hbx⟩:=h.box r c hr;exact hbx.own b hb
def Mod(M:List Level)(X:Cx)(O:Root->List Nat):Md where
 may:=λb=>(∃r,(qa9 M r).isSome=true/\X.β r=some b)\/∃r,b∈O r
 kind:=λr=>(qa9 M r).map q3
structure Aft (w:World) (X:Cx) (Md:Md) (n:Nat) (w':World) (X':Cx) (own:Nat->Prop):Prop where
 size:w.heap.size<=w'.heap.size
 kept:∀b,b<w.heap.size->¬ Md b->w'.heap[b]?=w.heap[b]?/\X'.ω b=X.ω b
 grew:∀b e fz,X.ω b=some (e,fz)->∃e' fz',X'.ω b=some (e',fz')/\e<=e'/\(fz=true->fz'=true)/\∀i v,i<e->w.cell? ⟨b,i,none⟩=some v->w'.cell? ⟨b,i,none⟩=some v
 β:∀r,r.lvl<n->X'.β r=X.β r
 own:∀b,own b->w.heap.size<=b\/Md b
 os:w'.os=w.os
 out:w'.output=w.output
 tape:w'.tape=w.tape
def qB0(M:List Level)(r:V)(M':List Level)(w:World)(X:Cx)(O:Root->List Nat)(v:Value)(w':World):Prop :=
 ∃X' O' Or,Rep w' X' r v Or/\LRel M' w' X' O'/\Lin Or/\(∀q,∀b∈Or,b∉O' q)/\(∀q∈r.qq,(qa9 M' q).isSome=true)/\M'.length=M.length/\(∀q,(qa9 M' q).map q3=(qa9 M q).map q3) /\
  Aft w X (Mod M X O) M.length w' X' (λb=>b∈Or\/∃q,b∈O' q)
def qoA(ext:Prop)(P:Program)(g:FuncId)(args:Array Value)(w:World)(R:Value->World->Prop):Prop :=
 ((callFunc g args).run P w=.ok (.enter g args) w/\Calls P g args w λe w'=>∃v,e=.returned v/\R v w') \/
 (ext/\∃v w',(callFunc g args).run P w=.ok (.value v) w'/\R v w')
theorem qoA.mono{ext ext':Prop}{P:Program}{g:FuncId}{args:Array Value}{w:World}{R R':Value->World->Prop}(h:qoA ext P g args w R)(he:ext->ext')(hr:∀v w',R v w'->R' v w'):qoA ext' P g args w R':=by
 rcases h with ⟨h1,h2⟩|⟨h0,v,w',h1,h2⟩
 ·exact .inl ⟨h1,h2.mono λe w' ⟨v,he,hR⟩=>⟨v,he,hr _ _ hR⟩⟩
 ·exact .inr ⟨he h0,v,w',h1,hr _ _ h2⟩
def qaS(P:Program)(g:FuncId)(args:List V)(M:List Level)(r:V)(M':List Level):Prop :=
 ∀(w:World) (X:Cx) (vals:List Value) (O:Root->List Nat),RepL w X args vals []->qlo w X->LRel M w X O->(∀q∈ptrsL args,(qa9 M q).isSome=true)->(M=[]->∀b e fz,X.ω b=some (e,fz)->fz=true) ->
  qoA (M=[]) P g vals.toArray w λv w'=>qB0 M r M' w X O v w'
def qvF(P:Program)(g:FuncId)(args:List V)(r:V)(s:Nat)(es:List (Value×Value)):Prop :=
 r.onlyMaps=true/\(∀k∈r.qq,k=⟨0,s⟩) /\
 ∀(w:World) (X:Cx) (vals:List Value),RepL w X args vals []->qlo w X->Dom w X->ptrsL args=[]->(∀b e fz,X.ω b=some (e,fz)->fz=true) ->
  qoA True P g vals.toArray w λv w'=>∃X' b ents ck,Rep w' X' r v []/\Dom w' X'/\X'.β ⟨0,s⟩=some b/\w.heap.size<=b/\b<w'.heap.size/\X'.ω b=none/\w'.heap[b]?=some (.map ents ck)/\ents.toList.map kv=es /\
   Aft w X (Mod [] X (λ_=>[])) 0 w' X' (λ_=>False)
def qzZ(P:Program)(g clos:FuncId):Prop:=∀(s sep:ByteArray) (w:World),qoA True P g #[.string s,.string sep] w λv w' =>
 v=.func (.func clos) #[] #[.pointer (some ⟨w.heap.size+1,0,none⟩),.pointer (some ⟨w.heap.size,0,none⟩),.pointer (some ⟨w.heap.size+2,0,none⟩)] /\
  ∃t t2 t3,w'=((w.alloc (.cells #[.string s] t)).alloc (.cells #[.string sep] t2)).alloc (.cells #[.int .i64 0] t3)
def qzv(P:Program)(H:Hints):Prop:=∀g clos,H.seq g=some clos->qzZ P g clos
def Cx.freeze(X:Cx)(F:List Nat):Cx:={X with ω:=λb=>if b∈F then (X.ω b).map (λp=>(p.1,true))else X.ω b}
def Cx.callee(X:Cx)(loose:Bool)(own:Nat->Bool):Cx :=
 {X with ω:=λb=>if own b then X.ω b else (X.ω b).bind λp=>if p.2||loose then some (p.1,true)else none}
theorem frozen_ω{F:List Nat}{b e:Nat}{fz:Bool}(h:X.ω b=some (e,fz)):(X.freeze F).ω b=some (e,decide (b∈F)||fz):=by
 simp only [Cx.freeze];rw [h];split<;>simp [*]
theorem callee_ω{loose:Bool}{own:Nat->Bool}{b e:Nat}{fz:Bool}(h:X.ω b=some (e,fz)):(X.callee loose own).ω b=if own b then some (e,fz)else if fz||loose then some (e,true)else none:=by
 simp only [Cx.callee,h];split<;>simp
theorem qlo.freeze(h:qlo w X)(F:List Nat):qlo w (X.freeze F):=h.of λx _ e hω=>⟨⟨e,by rw [frozen_ω hω];simp⟩,rfl⟩
theorem qlo.callee(h:qlo w X)(loose:Bool)(own:Nat->Bool):qlo w (X.callee loose own):=h.of λx _ e hω=>⟨⟨e,by rw [callee_ω hω];split<;>simp⟩,rfl⟩
theorem qlo.qhw(h:qlo w X):qlo w (X.qhw w):=h.of λx _ e hω=>⟨⟨e,peek_ω hω⟩,rfl⟩
theorem qoh{args:List V}{vals:List Value}{Oa:List Nat}{own:Nat->Bool}(h:RepL w X args vals Oa)(hown:∀b∈Oa,own b=false)(hol:looseL args=true->∀b,own b=false) :
  RepL w ((X.freeze Oa).callee (looseL args) own) (reflagL qL args) vals []:=by
 refine RepL.flags (X:=X) (S:=λb=>b∈Oa) (D:=looseL args) ?_ args vals Oa (λ_ h=>h) (λh=>h) h;refine {β:=rfl,own:=λf=>by simp [qL],dul:=λf hf=>by simp [qL]at hf,ω:=?_,sh:=?_}
 ·intro hD b e fz hω;rw [callee_ω (frozen_ω hω),hol hD b,hD];simp
 ·intro fl b e fz hω hS hsh hd _;rw [callee_ω (frozen_ω hω)];cases fl with
  |own =>
   have hb:=hS rfl;rw [hown b hb];simp [hb]
  |shared =>
   have:=hsh rfl;subst this;split<;>simp
  |q5 =>
   have hD:=hd rfl;rw [hol hD b,hD];simp
def Cx.back(X X':Cx)(sz:Nat)(own:Nat->Bool):Cx:={β:=X.β,ω:=λb=>if b<sz/\own b=false then X.ω b else X'.ω b}
theorem qqJ(X X':Cx)(S:Nat->Prop)(hβ:X'.β=X.β)(hω:∀b e fz,X.ω b=some (e,fz)->∃fz',X'.ω b=some (e,fz')/\(S b->fz'=fz)):Flags' qhl X X' S where
 β:=hβ
 own:=λf=>by cases f<;>simp [qhl]
 ω:=hω
 sh:=λf b e fz _ _ _ hg=>by cases f<;>simp [qhl]at hg
theorem qe4:∀{M L:List Level} {B:Level},qc5 M=some (L,B)->M=L++[B]
 |[b],L,B,h=>by simp only [qc5,qb,Prod.mk.injEq]at h;obtain ⟨rfl,rfl⟩:=h;rfl
 |b::c::l,L,B,h=>by
  simp only [qc5]at h;obtain ⟨⟨L1,B1⟩,h1,h2⟩:=qc.1 h;simp only [Prod.mk.injEq]at h2;obtain ⟨rfl,rfl⟩:=h2;rw [qe4 h1];rfl
theorem Aft.ext{Md:Md}{n:Nat}{w':World}{X':Cx}{own:Nat->Prop}(h:Aft w X Md n w' X' own)(hd:Dom w X){R:List Root}(hR:∀r∈R,r.lvl<n):Ext R w X w' X' (λb=>Md b) where
 β:=λr hr=>h.β r (hR r hr)
 ω:=λb e fz hω=>by
  obtain ⟨e',fz',h1,h2,h3,_⟩:=h.grew b e fz hω;refine ⟨e',fz',h1,h2,h3,λhn=>?_⟩;rw [(h.kept b (hd b e fz hω) hn).2,hω]at h1;cases h1;exact ⟨rfl,rfl⟩
 cell:=λb e fz i v hω hi hc=>by
  obtain ⟨_,_,_,_,_,h4⟩:=h.grew b e fz hω;exact h4 i v hi hc
 obj:=λb e fz c t hU hω hc=>⟨c,by rw [(h.kept b (hd b e fz hω) hU).1];exact hc,rfl⟩
def qz2(O:Pl->List Nat)(O':Root->List Nat):Pl->List Nat
 |.tmp t=>O (.tmp t)
 |.box q=>O' q
theorem qqn{w0:World}{X0:Cx}{Md:Md}{n:Nat}{st:St}{tmps:Array Value}{O:Pl->List Nat}(h:Rel st tmps w X O)(hF:Fr w0 X0 Md n st w X O){M':List Level}{w':World}{L:List Level}{B:Level}{X':Cx}{O':Root->List Nat}{ow:Nat->Prop}
  (hlr:LRel M' w' X' O') (hlen:M'.length=(st.L++[st.B]).length) (hkind:∀q,(qa9 M' q).map q3=(qa9 (st.L++[st.B]) q).map q3) (how:∀q,∀b∈O' q,ow b)
  (haft:Aft w X (Mod (st.L++[st.B]) X (λq=>O (.box q))) (st.L++[st.B]).length w' X' ow) (hM:M'=L++[B]) :
  Rel {st with L:=L,B:=B} tmps w' X' (qz2 O O')/\Fr w0 X0 Md n {st with L:=L,B:=B} w' X' (qz2 O O'):=by
 subst hM;have hlive:∀q,(qa9 (L++[B]) q).isSome=(qa9 (st.L++[st.B]) q).isSome:=λq=>by
  have:=hkind q;cases h1:qa9 (L++[B]) q<;>cases h2:qa9 (st.L++[st.B]) q<;>simp_all
 have hLl:L.length=st.L.length:=by simpa using hlen
 have hbox:∀q,({st with L:=L,B:=B}:St).box q=qa9 (L++[B]) q:=λq=>qbq _ q;have hliv:∀q,(({st with L:=L,B:=B}:St).box q).isSome=(st.box q).isSome:=λq=>by rw [hbox,hlive,<- qbq]
 have hMd:∀b,Mod (st.L++[st.B]) X (λq=>O (.box q)) b->(∃r,(st.box r).isSome=true/\X.β r=some b)\/∃r,b∈O (.box r):=λb hb=>by
  rcases hb with ⟨r,h1,h2⟩|h1
  ·exact .inl ⟨r,by rw [qbq];exact h1,h2⟩
  ·exact .inr h1
 have hωb:∀b,(∃r,(st.box r).isSome=true/\X.β r=some b)->X.ω b=none:=by
  rintro b ⟨r,h1,h2⟩;obtain ⟨c,hc⟩:=Option.isSome_iff_exists.1 h1;obtain ⟨b',hb',_,hω,_⟩:=h.box r c hc;rw [h2]at hb';cases hb';exact hω
 have hnot:∀t,∀b∈O (.tmp t),¬ Mod (st.L++[st.B]) X (λq=>O (.box q)) b:=λt b hb hm=>by
  rcases hMd b hm with h1|⟨r,h1⟩
  ·obtain ⟨e,he⟩:=h.ownω _ b hb;rw [hωb b h1]at he;cases he
  ·exact h.dis (.tmp t) (.box r) (by simp) b hb h1
 have hO':∀q,∀b∈O' q,w.heap.size<=b\/(∃r,(st.box r).isSome=true/\X.β r=some b)\/∃r,b∈O (.box r):=λq b hb=>by
  rcases haft.own b (how q b hb)with h1|h1
  ·exact .inl h1
  ·exact .inr (hMd b h1)
 have hlv:∀q,(st.box q).isSome=true->q.lvl<(st.L++[st.B]).length:=λq hq=>by simpa using qql hq
 constructor
 ·refine {size:=h.size,env:=?_,envD:=h.envD,box:=?_,boxD:=?_,inj:=?_,lin:=?_,dis:=?_,ptrE:=?_,ptrB:=?_,up:=λr c hr=>by rw [hbox]at hr;exact hlr.up r c hr,dom:=hlr.dom}
  ·intro t x hx;obtain ⟨v,hv,hr⟩:=h.env t x hx;exact ⟨v,hv,Rep.ext (haft.ext h.dom (R:=x.qq) λr hr=>hlv r (h.ptrE r (qD.2 ⟨x,List.mem_of_getElem? hx,hr⟩))) _ _ _ (λ_ h=>h) (hnot t) hr⟩
  ·intro r c hr;rw [hbox]at hr;exact hlr.box r c hr
  ·intro r hr;rw [hbox]at hr;exact hlr.boxD r hr
  ·intro r r' b h1 h2;rw [hbox]at h1 h2;exact hlr.inj r r' b h1 h2
  ·intro p;cases p with
   |tmp t=>exact h.lin _
   |box r=>exact hlr.lin r
  ·have hc:∀t r,∀b∈O (.tmp t),b∉O' r:=λt r b hb hb'=>by
    rcases hO' r b hb' with h1|h1|⟨r',h1⟩
    ·have:=h.qyV _ b hb;omega
    ·obtain ⟨e,he⟩:=h.ownω _ b hb;rw [hωb b h1]at he;cases he
    ·exact h.dis (.tmp t) (.box r') (by simp) b hb h1
   intro p q hpq b hb hbq;cases p with
   |tmp t=>cases q with
    |tmp s=>exact h.dis _ _ hpq b hb hbq
    |box r=>exact hc t r b hb hbq
   |box r=>cases q with
    |tmp s=>exact hc s r b hbq hb
    |box r'=>exact hlr.dis r r' (λe=>hpq (by rw [e])) b hb hbq
  ·intro r hr;rw [hliv];exact h.ptrE r hr
  ·intro r c hr r' hr';rw [hbox]at hr ⊢;exact hlr.ptrB r c hr r' hr'
 ·have hMd0:∀b,b<w0.heap.size->Mod (st.L++[st.B]) X (λq=>O (.box q)) b->Md b:=λb hb hm=>by
   rcases hMd b hm with ⟨r,h1,h2⟩|⟨r,h1⟩
   ·rcases hF.boxM r b h1 h2 with h3|h3
    ·omega
    ·exact h3
   ·rcases hF.own _ b h1 with h3|h3
    ·omega
    ·exact h3
  exact {
   size:=Nat.le_trans hF.size haft.size
   kept:=λb hb hM=>by
    obtain ⟨h1,h2⟩:=hF.kept b hb hM;obtain ⟨h3,h4⟩:=haft.kept b (Nat.lt_of_lt_of_le hb hF.size) (λhm=>hM (hMd0 b hb hm));exact ⟨by rw [h3,h1],by rw [h4,h2]⟩
   grew:=λb e fz hω=>by
    obtain ⟨e1,fz1,h1,h2,h3,h4⟩:=hF.grew b e fz hω;obtain ⟨e2,fz2,h5,h6,h7,h8⟩:=haft.grew b e1 fz1 h1;exact ⟨e2,fz2,h5,by omega,λhz=>h7 (h3 hz),λi v hi hc=>h8 i v (by omega) (h4 i v hi hc)⟩
   β:=λr hr=>by rw [haft.β r (by have:=hF.lev;simp;omega),hF.β r hr]
   own:=λp b hb=>by
    cases p with
    |tmp t=>exact hF.own _ b hb
    |box r =>
     rcases hO' r b hb with h1|⟨r',h1,h2⟩|⟨r',h1⟩
     ·exact .inl (Nat.le_trans hF.size h1)
     ·exact hF.boxM r' b h1 h2
     ·exact hF.own _ b h1
   boxM:=λr b hr hb=>by
    rw [hliv]at hr;rw [haft.β r (hlv r hr)]at hb;exact hF.boxM r b hr hb
   lev:=by show L.length=n;rw [hLl];exact hF.lev
   live:=λr hr=>by rw [hbox,hkind,<- qbq];exact hF.live r hr
   os:=by rw [haft.os,hF.os]
   out:=by rw [haft.out,hF.out]
   tape:=by rw [haft.tape,hF.tape]
   gl:=hF.gl
   gm:=hF.gm}
theorem qmM{args:List V}{vals:List Value}{Oa:List Nat}(h:RepL w X args vals Oa):RepL w (X.freeze Oa) (reflagL qgv args) vals []:=by
 refine RepL.flags (X:=X) (S:=λb=>b∈Oa) (D:=true) ?_ args vals Oa (λ_ h=>h) (λ_=>rfl) h;refine {β:=rfl,own:=λf=>by cases f<;>simp [qgv],dul:=λ_ _=>rfl,ω:=λ_ b e fz hω=>⟨_,frozen_ω hω⟩,sh:=?_};intro fl b e fz hω hS hsh _ hg;rw [frozen_ω hω];cases fl with
 |own=>simp [hS rfl]
 |shared=>simp [hsh rfl]
 |q5=>simp [qgv]at hg
theorem qjG{Oa:List Nat}(hd:Dom w X)(hOa:∀b∈Oa,∃e,X.ω b=some (e,false)):Eff w X w (X.freeze Oa) Oa where
 size:=Nat.le_refl _
 kept:=λ_ _ _=>rfl
 ωk:=λb _ hn=>by simp [Cx.freeze,hn]
 own:=λb hb e fz hω=>⟨e,true,by rw [frozen_ω hω];simp [hb],Nat.le_refl _,λ_=>rfl,λ_ _ _ h=>h,λc t hc=>⟨c,hc,rfl⟩⟩
 β:=rfl
 dom:=λb e fz hω=>by
  simp only [Cx.freeze]at hω;split at hω
  ·rename_i hb;obtain ⟨e',he'⟩:=hOa b hb;exact hd b e' _ he'
  ·exact hd b e fz hω
 os:=rfl
 out:=rfl
 tape:=rfl
theorem qv8{C:Orc}(hC:∀g args M r M',C.call g args M=some (r,M')->qaS P g args M r M'){w0:World}{X0:Cx}{Md:Md}{n:Nat}{st st1:St}{tmps:Array Value}{O:Pl->List Nat}{g:FuncId}{args:List V}{vals:List Value}{Oa:List Nat}{T:List Tmp}{z:V}{s:St}{d:Option Tmp}
  (h:Rel st tmps w X O) (hF:Fr w0 X0 Md n st w X O) (hst1:st1={st with E:=qA st.E T}) (ha:RepL w X args vals Oa) (hin:∀b∈Oa,∃t∈T,b∈O (.tmp t)) (hla:Lin Oa) (hpa:∀q∈ptrsL args,(st.box q).isSome=true)
  (hx:qeX C g args st1=some (z,s)) :
  qoA (ptrsL args=[]\/(peekL st.box args).isSome=true) P g vals.toArray w λv w'=>∃X' O',Rel (s.put d z) (qmG tmps d v) w' X' O'/\Fr w0 X0 Md n (s.put d z) w' X' O'/\∀r,r.lvl<=st.L.length->X'.β r=X.β r:=by
 subst hst1;unfold qeX at hx;have hOaω:=repL_own args vals Oa ha;have hOalt:=repL_dom h.dom args vals Oa ha;split at hx
 ·-- nothing but values
  rename_i hnp;split at hx
  ·rename_i r hr;obtain ⟨rfl,rfl⟩:=Prod.mk.inj (Option.some.inj hx);have hok:=hC _ _ _ _ _ hr w ((X.freeze Oa).callee (looseL args) λ_=>false) vals (λ_=>[])
    (by rw [show args.map V.share=reflagL qL args from (qG _ _).symm];exact qoh ha (λ_ _=>rfl) (λ_ _=>rfl)) ((hF.now.freeze Oa).callee _ _)
    {
     box:=λr c hc=>by simp [qa9]at hc,boxD:=λ_ _=>rfl,inj:=λr r' b h1=>by simp [qa9]at h1,lin:=λ_=>Lin.nil,dis:=λ_ _ _ _ h=>by simp at h,ptrB:=λr c hc=>by simp [qa9]at hc,up:=λr c hc=>by simp [qa9]at hc
     dom:=λb e fz hω=>by
      simp only [Cx.callee,Cx.freeze,qf,if_false]at hω;by_cases hb:b∈Oa
      ·exact hOalt b hb
      ·rw [if_neg hb]at hω;obtain ⟨p,hp,_⟩:=qd.1 hω;exact h.dom b p.1 p.2 hp}
    (λq hq=>by rw [show args.map V.share=reflagL qL args from (qG _ _).symm,ptrsL_reflag]at hq;rw [show ptrsL args=[] by simpa using hnp]at hq;simp at hq)
    (λ_ b e fz hω=>by
     simp only [Cx.callee,qf,if_false]at hω;obtain ⟨p,_,hc⟩:=qd.1 hω;split at hc
     ·cases hc;rfl
     ·cases hc)
   refine hok.mono (λ_=>.inl (by simpa using hnp)) ?_;rintro v w' ⟨X',O',Or,hrep,hlr,hlin,hfree,hpr,_,_,haft⟩;have hOr:∀b∈Or,w.heap.size<=b:=λb hb=>by
    rcases haft.own b (.inl hb)with h1|⟨q,h1,_⟩|⟨q,h1⟩
    ·exact h1
    ·simp [qa9]at h1
    ·simp at h1
   have hnoM:∀b,¬ Mod [] ((X.freeze Oa).callee (looseL args) λ_=>false) (λ_=>[]) b:=λb hb=>by
    rcases hb with ⟨q,h1,_⟩|⟨q,h1⟩
    ·simp [qa9]at h1
    ·simp at h1
   have hrp:r.qq=[]:=by
    cases hrr:r.qq with
    |nil=>rfl
    |cons q l=>have:=hpr q (by rw [hrr];simp);simp [qa9]at this
   let X2:Cx:=(X.freeze Oa).back X' w.heap.size λ_=>false
   have hX2:∀b,X2.ω b=if b<w.heap.size then (X.freeze Oa).ω b else X'.ω b:=λb=>by simp [X2,Cx.back]
   have heff:Eff w X w' X2 Oa:={
    size:=haft.size
    kept:=λb hb _=>(haft.kept b hb (hnoM b)).1
    ωk:=λb hb hn=>by rw [hX2,if_pos hb];simp [Cx.freeze,hn]
    own:=λb hb e fz hω=>by
     have hlt:=hOalt b hb;refine ⟨e,true,by rw [hX2,if_pos hlt,frozen_ω hω];simp [hb],Nat.le_refl _,λ_=>rfl,λi v _ hc=>by rw [qC (haft.kept b hlt (hnoM b)).1];exact hc,λc t hc=>⟨c,by rw [(haft.kept b hlt (hnoM b)).1];exact hc,rfl⟩⟩
    β:=rfl
    dom:=λb e fz hω=>by
     rw [hX2]at hω;split at hω
     ·have:=haft.size;omega
     ·exact hlr.dom b e fz hω
    os:=haft.os
    out:=haft.out
    tape:=haft.tape}
   have hold:∀b e fz,X'.ω b=some (e,fz)->b<w.heap.size->fz=true/\∃fz1,(X.freeze Oa).ω b=some (e,fz1)/\(looseL args=false->fz1=true):=λb e fz hω hlt=>by
    rw [(haft.kept b hlt (hnoM b)).2]at hω;simp only [Cx.callee,qf,if_false]at hω;obtain ⟨p,hp,hc⟩:=qd.1 hω;split at hc
    ·rename_i h1;cases hc;refine ⟨rfl,p.2,hp,λhl=>by simpa [hl]using h1⟩
    ·cases hc
   have hrep1:Rep w' {X' with β:=X.β} r v Or:=Rep.ext (X:=X') (X':={X' with β:=X.β}) (w':=w') (R:=[]) (U:=λ_=>False)
    {β:=by simp,ω:=λb e fz h=>⟨e,fz,h,Nat.le_refl _,id,λ_=>⟨rfl,rfl⟩⟩,cell:=λ_ _ _ _ _ _ _ h=>h,obj:=λb e fz c t _ _ h=>⟨c,h,rfl⟩} _ _ _ (by rw [hrp];simp) (by simp) hrep
   have hz:Rep w' X2 (if looseL args=true then r.qba else r) v Or:=by
    by_cases hl:looseL args=true
    ·rw [if_pos hl];refine Rep.flags' (qqJ {X' with β:=X.β} X2 (λb=>b∈Or) rfl λb e fz hω=>?_) _ _ _ (λ_ h=>h) hrep1;rw [hX2];split
     ·rename_i hlt;obtain ⟨_,fz1,h1,_⟩:=hold b e fz hω hlt;exact ⟨fz1,h1,λhb=>by have:=hOr b hb;omega⟩
     ·exact ⟨fz,hω,λ_=>rfl⟩
    ·rw [if_neg hl];have hl':looseL args=false:=by simpa using hl
     refine Rep.ext (R:=[]) (U:=λ_=>False) {β:=by simp,ω:=λb e fz hω=>?_,cell:=λ_ _ _ _ _ _ _ h=>h,obj:=λb e fz c t _ _ h=>⟨c,h,rfl⟩} _ _ _ (by rw [hrp];simp) (by simp) hrep1;refine ⟨e,fz,?_,Nat.le_refl _,id,λ_=>⟨rfl,rfl⟩⟩;rw [hX2];split
     ·rename_i hlt;obtain ⟨rfl,fz1,h1,h2⟩:=hold b e fz hω hlt;rw [h1,h2 hl']
     ·exact hω
   refine ⟨X2,_,h.put (T:=T) d hin heff hz hlin (h.free hin λb hb=>.inr (hOr b hb)) (λq hq=>?_),Fr.put h hF (T:=T) d hin heff (λb hb=>.inr (hOr b hb)),λ_ _=>rfl⟩;have:(if looseL args=true then r.qba else r).qq=[]:=by split<;>simp [V.qba,ptrs_reflag,hrp]
   rw [this]at hq;simp at hq
  ·cases hx
 rename_i hnp0;split at hx
 ·-- a call that only looks
  split at hx
  ·rename_i xs hpk;split at hx
   ·rename_i hnp;split at hx
    ·rename_i r hr;split at hx
     ·rename_i hmine;obtain ⟨rfl,rfl⟩:=Prod.mk.inj (Option.some.inj hx);have hpk':peekL st.box args=some xs:=hpk;have hok:=hC _ _ _ _ _ hr w (X.qhw w) vals (λ_=>[])
       (qyW (Ob:=λr=>O (.box r)) (λr c hrc=>h.box r c hrc) args xs vals Oa hpk' ha) hF.now.qhw
       {
        box:=λr c hc=>by simp [qa9]at hc,boxD:=λ_ _=>rfl,inj:=λr r' b h1=>by simp [qa9]at h1,lin:=λ_=>Lin.nil,dis:=λ_ _ _ _ h=>by simp at h,ptrB:=λr c hc=>by simp [qa9]at hc,up:=λr c hc=>by simp [qa9]at hc
        dom:=qtQ h.dom}
       (λq hq=>by rw [show ptrsL xs=[] by simpa using hnp]at hq;simp at hq)
       (λ_ b e fz hω=>qmu hω)
      refine hok.mono (λ_=>.inr (by rw [hpk'];rfl)) ?_;rintro v w' ⟨X',O',Or,hrep,hlr,hlin,hfree,hpr,_,_,haft⟩;have hOr:∀b∈Or,w.heap.size<=b:=λb hb=>by
       rcases haft.own b (.inl hb)with h1|⟨q,h1,_⟩|⟨q,h1⟩
       ·exact h1
       ·simp [qa9]at h1
       ·simp at h1
      have hnoM:∀b,¬ Mod [] (X.qhw w) (λ_=>[]) b:=λb hb=>by
       rcases hb with ⟨q,h1,_⟩|⟨q,h1⟩
       ·simp [qa9]at h1
       ·simp at h1
      have hrp:r.qq=[]:=by
       cases hrr:r.qq with
       |nil=>rfl
       |cons q l=>have:=hpr q (by rw [hrr];simp);simp [qa9]at this
      let X2:Cx:=(X.freeze Oa).back X' w.heap.size λ_=>false
      have hX2:∀b,X2.ω b=if b<w.heap.size then (X.freeze Oa).ω b else X'.ω b:=λb=>by simp [X2,Cx.back]
      have heff:Eff w X w' X2 Oa:={
       size:=haft.size
       kept:=λb hb _=>(haft.kept b hb (hnoM b)).1
       ωk:=λb hb hn=>by rw [hX2,if_pos hb];simp [Cx.freeze,hn]
       own:=λb hb e fz hω=>by
        have hlt:=hOalt b hb;refine ⟨e,true,by rw [hX2,if_pos hlt,frozen_ω hω];simp [hb],Nat.le_refl _,λ_=>rfl,λi v _ hc=>by rw [qC (haft.kept b hlt (hnoM b)).1];exact hc,λc t hc=>⟨c,by rw [(haft.kept b hlt (hnoM b)).1];exact hc,rfl⟩⟩
       β:=rfl
       dom:=λb e fz hω=>by
        rw [hX2]at hω;split at hω
        ·have:=haft.size;omega
        ·exact hlr.dom b e fz hω
       os:=haft.os
       out:=haft.out
       tape:=haft.tape}
      have hz:Rep w' X2 r v Or:=Rep.qb9 r v Or hmine (λb hb=>by
       have:=hOr b hb;rw [hX2,if_neg (by omega)]) hrep
      exact ⟨X2,_,h.put (T:=T) d hin heff hz hlin (h.free hin λb hb=>.inr (hOr b hb)) (λq hq=>by rw [hrp]at hq;simp at hq),Fr.put h hF (T:=T) d hin heff (λb hb=>.inr (hOr b hb)),λ_ _=>rfl⟩
     ·cases hx
    ·cases hx
   ·cases hx
  ·cases hx
 ·-- with boxes
  split at hx
  ·rename_i r M' hr;split at hx
   ·rename_i L B hsp;split at hx
    ·rename_i hll;obtain ⟨rfl,rfl⟩:=Prod.mk.inj (Option.some.inj hx);have heff:=qjG h.dom hOaω;have h1:=h.put (T:=T) (d:=none) (z:=.undef) (v:=undef) (O':=[]) hin heff (by simp [Rep]) Lin.nil (by simp) (by simp [V.qq]);have hF1:=Fr.put (z:=.undef) h hF (T:=T) (O':=[]) none hin heff (by simp);change Rel {st with E:=qA st.E T} tmps w _ _ at h1
     change Fr w0 X0 Md n {st with E:=qA st.E T} w _ _ at hF1
     have hok:=hC _ _ _ _ _ hr w (X.freeze Oa) vals _ (by rw [show args.map V.hand=reflagL qgv args from (qG _ _).symm];exact qmM ha) (hF.now.freeze Oa) h1.qCc
      (λq hq=>by
       rw [show args.map V.hand=reflagL qgv args from (qG _ _).symm,ptrsL_reflag]at hq;rw [<- qbq];exact hpa q hq) (λe=>by simp at e)
     refine hok.mono (λe=>by simp at e) ?_;rintro v w' ⟨X',O',Or,hrep,hlr,hlin,hfree,hpr,hlen,hlive,haft⟩;obtain ⟨h2,hF2⟩:=qqn h1 hF1 hlr hlen hlive (λq b hb=>.inr ⟨q,hb⟩) haft (qe4 hsp);have hOr:∀b∈Or,∀q,b∉qz2 (qg1 O T none st.E.length []) O' q:=λb hb q hbq=>by
      cases q with
      |box r'=>exact hfree r' b hb hbq
      |tmp t =>
       rcases haft.own b (.inl hb)with h3|⟨q,h3,h4⟩|⟨q,h3⟩
       ·have:=h1.qyV (.tmp t) b hbq;omega
       ·obtain ⟨c,hc⟩:=Option.isSome_iff_exists.1 h3;obtain ⟨b',hb',_,hω,_⟩:=h1.qCc.box q c hc;rw [h4]at hb';cases hb';obtain ⟨e,he⟩:=h1.ownω (.tmp t) b hbq;rw [hω]at he;cases he
       ·exact h1.dis (.tmp t) (.box q) (by simp) b hbq h3
     refine ⟨X',_,h2.qin d hrep hlin hOr (λq hq=>?_),hF2.qin d (λb hb=>?_),λq hq=>haft.β q (by simp;omega)⟩
     ·rw [qbq];show (qa9 (L++[B]) q).isSome=true;rw [<- qe4 hsp];exact hpr q hq
     ·rcases haft.own b (.inl hb)with h3|⟨q,h3,h4⟩|⟨q,h3⟩
      ·exact .inl (Nat.le_trans hF1.size h3)
      ·have h3':(({st with E:=qA st.E T}:St).box q).isSome=true:=by rw [qbq];exact h3
       exact hF1.boxM q b h3' h4
      ·exact hF1.own _ b h3
    ·cases hx
   ·cases hx
  ·cases hx
end
section
variable {P:Program} {H:Hints} {f:FuncId} {w:World} {X:Cx}
def Ex.qoS:Ex->Exit
 |.normal=>.normal
 |.exit id=>.exit id
 |.ret=>.ret
def qbX(w0 w:World)(X:Cx)(D:List Deferred):Prop :=
 ∃ks:List Nat,D=ks.map (λk=>{target:=.collected k,args:=#[]})/\ks.Nodup/\∀k∈ks,w0.heap.size<=k/\w.heap[k]?=some (.deferred (some []))/\X.ω k=none
def qew(w0:World)(X0:Cx)(Md:Md)(n:Nat)(st:St)(a:Act)(w:World):Prop :=
 ∃X O,Rel st a.tmps w X O/\Fr w0 X0 Md n st w X O/\qbX w0 w X a.defers
def FOk(F:Fence)(X0:Cx)(Md:Md)(n:Nat):Prop :=
 (F=Fence.wide\/∃r l,F=Fence.wide.inRound l/\r.lvl<n/\X0.β r=some l/\Md.kind r=some true)/\(n=0->∀b e fz,X0.ω b=some (e,fz)->fz=true)
def qgD(F:Fence)(P:Program)(c:Code)(Q:Exit->Act->World->Prop)(a:Act)(w:World):Prop :=
 ∀I:Act->World->Prop,(∀a w,c.wpIn F 0 P (Exit.then I Q) a w->I a w)->I a w
def codeOk(F:Fence)(P:Program)(c:Code)(Q:Exit->Act->World->Prop)(a:Act)(w:World):Prop :=
 match c with
 |.loop c=>qgD F P c Q a w
 |c=>c.wpIn F 0 P Q a w
theorem qrP{I I':Act->World->Prop}{Q Q':Exit->Act->World->Prop}(h:∀a w,I a w->I' a w)(hq:∀e a w,Q e a w->Q' e a w):∀e a w,Exit.then I Q e a w->Exit.then I' Q' e a w:=by
 intro e a w he;cases e<;>first|exact h _ _ he|exact hq _ _ _ he
theorem qgD.close{F:Fence}{c:Code}{Q:Exit->Act->World->Prop}{a:Act}{w:World}(h:c.wpIn F 0 P (Exit.then (qgD F P c Q) Q) a w):qgD F P c Q a w :=
 λI hI=>hI a w (wpIn_mono h (qrP (λa w h=>h I hI) (λ_ _ _ h=>h)))
theorem qgD.mono{F:Fence}{c:Code}{Q Q':Exit->Act->World->Prop}{a:Act}{w:World}(h:qgD F P c Q a w)(hq:∀e a w,Q e a w->Q' e a w):qgD F P c Q' a w :=
 λI hI=>h I λa w ha=>hI a w (wpIn_mono ha (qrP (λ_ _ h=>h) hq))
theorem qgD.wp{F:Fence}{c:Code}{Q:Exit->Act->World->Prop}{a:Act}{w:World}(h:qgD F P c Q a w):(Code.loop c).wpIn F 0 P Q a w:=by
 intro b k cs hro hb hr;have key:=h (λa w=>∃e a' w',Q e a' w'/\ArrivesIn (Machine.fenced P F) P (lone (b.atR a (.code c::.inLoop c::k)) cs w) b k cs e a' w') (by
  intro a w ha;obtain ⟨e,a₁,w₁,hq,harr⟩:=ha b (.inLoop c::k) cs hro hb hr;cases e with
  |normal =>
   obtain ⟨e₂,a₂,w₂,hq₂,harr₂⟩:=hq;exact ⟨e₂,a₂,w₂,hq₂,.of_steps (StepsIn.trans harr (.one (fenced_calm hb hr rfl) stepR_inLoop)) harr₂⟩
  |exit id=>exact ⟨_,a₁,w₁,hq,.pass (x:=.inLoop c) rfl (λ_ _=>.inl (by simp)) harr⟩
  |goto l=>exact ⟨_,a₁,w₁,hq,.pass (x:=.inLoop c) rfl (λ_ _=>.inl (by simp)) harr⟩
  |ret=>exact ⟨_,a₁,w₁,hq,.pass (x:=.inLoop c) rfl (λ_ _=>.inl (by simp)) harr⟩
  |panic ch=>exact ⟨_,a₁,w₁,hq,.pass (x:=.inLoop c) rfl (λ_ _=>.inl (by simp)) harr⟩
  |outgrown=>exact ⟨_,a₁,w₁,hq,.pass (x:=.inLoop c) rfl (λ_ _=>.inl (by simp)) harr⟩)
 obtain ⟨e,a',w',hq,harr⟩:=key;exact ⟨e,a',w',hq,.of_steps (.one (fenced_calm hb hr rfl) stepR_loop) harr⟩
theorem codeOk.wp{F:Fence}{c:Code}{Q:Exit->Act->World->Prop}{a:Act}{w:World}(h:codeOk F P c Q a w):c.wpIn F 0 P Q a w:=by
 cases c with
 |loop c=>exact qgD.wp h
 |_=>exact h
def qvH(P:Program)(c:Code)(st:St)(e:Ex)(st':St):Prop :=
 ∀(F:Fence) (w0:World) (X0:Cx) (Md:Md) (n:Nat) (a:Act) (w:World),FOk F X0 Md n->qew w0 X0 Md n st a w ->
  codeOk F P c (λe' a' w'=>e'=e.qoS/\qew w0 X0 Md n st' a' w') a w
def qA2(P:Program)(g:FuncId)(args:List V)(r:V):Prop :=
 ∀(w:World) (X:Cx) (vals:List Value) (Oin:List Nat),RepL w X args vals Oin->qlo w X->Dom w X->Lin Oin->ptrsL args=[]->(∀b e fz,X.ω b=some (e,fz)->fz=true\/b∈Oin) ->
  qoA True P g vals.toArray w λv w'=>∃X' Or,Rep w' X' r v Or/\Lin Or/\(∀k∈Or,k∈Oin\/w.heap.size<=k)/\Dom w' X'/\w.heap.size<=w'.heap.size/\(∀k,k<w.heap.size->k∉Oin->w'.heap[k]?=w.heap[k]?)/\w'.os=w.os/\w'.output=w.output/\w'.tape=w.tape
structure OrcOk (P:Program) (C:Orc):Prop where
 call:∀g args M r M',C.call g args M=some (r,M')->qaS P g args M r M'
 code:∀f bid c st e st',C.code f bid c st=some (e,st')->qvH P c st e st'
 born:∀g args r s es,C.born g args=some (r,s,es)->qvF P g args r s es
 seq:∀g c,C.seq g=some c->qzZ P g c
 own:∀g args r,C.own g args=some r->qA2 P g args r
def qnR(O:Root->List Nat):Pl->List Nat
 |.tmp _=>[]
 |.box r=>O r
theorem qdQ(E:List V)(M:List Level)(r:Root):({E:=E,L:=M,B:=[]}:St).box r=qa9 M r:=by
 unfold St.box qa9;by_cases h:r.lvl=M.length
 ·simp [h,qy]
 ·simp only [h,if_false];cases M[r.lvl]?<;>rfl
theorem qrt{M:List Level}{O:Root->List Nat}(hgl:qlo w X)(h:LRel M w X O){E:List V}{tmps:Array Value}(hE:RepL w X E tmps.toList [])(hp:∀r∈ptrsL E,(qa9 M r).isSome=true) :
  Rel {E:=E,L:=M,B:=[]} tmps w X (qnR O)/\Fr w X (Mod M X O) M.length {E:=E,L:=M,B:=[]} w X (qnR O):=by
 have hR:Rel {E:=E,L:=M,B:=[]} tmps w X (qnR O):={
   size:=by rw [qE _ _ _ hE];simp
   env:=λt x hx=>by
    obtain ⟨v,Oi,hv,hr,hc⟩:=qjj t hE hx;have:Oi=[]:=by
     cases Oi with
     |nil=>rfl
     |cons b l=>have:=hc b;simp at this
    subst this;exact ⟨v,by simpa using hv,hr⟩
   envD:=λ_ _=>rfl
   box:=λr c hr=>by rw [qdQ]at hr;exact h.box r c hr
   boxD:=λr hr=>by rw [qdQ]at hr;exact h.boxD r hr
   inj:=λr r' b h1 h2=>by rw [qdQ]at h1 h2;exact h.inj r r' b h1 h2
   lin:=λp=>by cases p with|tmp t=>exact Lin.nil|box r=>exact h.lin r
   dis:=λp q hpq b hb hbq=>by
    cases p with
    |tmp t=>simp [qnR]at hb
    |box r=>cases q with
     |tmp t=>simp [qnR]at hbq
     |box r'=>exact h.dis r r' (λe=>hpq (by rw [e])) b hb hbq
   ptrE:=λr hr=>by rw [qdQ];exact hp r hr
   ptrB:=λr c hr r' hr'=>by rw [qdQ]at hr ⊢;exact h.ptrB r c hr r' hr'
   up:=λr c hr=>by rw [qdQ]at hr;exact h.up r c hr
   dom:=h.dom}
 refine ⟨hR,?_⟩
 ·exact {
   size:=Nat.le_refl _
   kept:=λ_ _ _=>⟨rfl,rfl⟩
   grew:=λb e fz hω=>⟨e,fz,hω,Nat.le_refl _,id,λ_ _ _ h=>h⟩
   β:=λ_ _=>rfl
   own:=λp b hb=>by
    cases p with
    |tmp t=>simp [qnR]at hb
    |box r=>exact .inr (.inr ⟨r,hb⟩)
   boxM:=λr b hr hb=>by rw [qdQ]at hr;exact .inr (.inl ⟨r,hr,hb⟩)
   lev:=rfl
   live:=λr _=>by rw [qdQ];rfl
   os:=rfl
   out:=rfl
   tape:=rfl
   gl:=hgl
   gm:=λx hx hm=>by
    obtain ⟨⟨e,he⟩,_⟩:=hgl x hx;rcases hm with ⟨r,h1,h2⟩|⟨r,h1⟩
    ·obtain ⟨c,hc⟩:=Option.isSome_iff_exists.1 h1;obtain ⟨b',hb',_,hω,_⟩:=h.box r c hc;rw [h2]at hb';cases hb';rw [he]at hω;cases hω
    ·obtain ⟨e',he'⟩:=hR.ownω (.box r) x.1 h1;rw [he]at he';cases he'}
theorem qr7{M:List Level}{r:Root}(h:(qa9 M r).isSome=true):r.lvl<M.length:=by
 unfold qa9 at h;rcases Nat.lt_or_ge r.lvl M.length with h1|h1
 ·exact h1
 ·rw [List.getElem?_eq_none h1]at h;simp at h
theorem qdq{st:St}{r:Root}:qa9 st.L r=if r.lvl<st.L.length then st.box r else none:=by
 unfold St.box qa9;by_cases h:r.lvl<st.L.length
 ·rw [if_pos h,if_neg (by omega)];rfl
 ·rw [if_neg h,List.getElem?_eq_none (by omega)]
def qh7(n:Nat)(O:Pl->List Nat):Root->List Nat:=λr=>if r.lvl<n then O (.box r)else []
theorem qmK{w0:World}{X0:Cx}{M:List Level}{O0:Root->List Nat}{st:St}{tmps:Array Value}{O:Pl->List Nat}(h:Rel st tmps w X O)(hF:Fr w0 X0 (Mod M X0 O0) M.length st w X O) :
  LRel st.L w X (qh7 M.length O)/\st.L.length=M.length/\(∀q,(qa9 st.L q).map q3=(qa9 M q).map q3):=by
 have hl:=hF.lev;have hb:∀r c,qa9 st.L r=some c->r.lvl<M.length/\st.box r=some c:=λr c hr=>by
  have h1:=qr7 (M:=st.L) (r:=r) (by simp [hr]);rw [qdq,if_pos h1]at hr;exact ⟨by omega,hr⟩
 refine ⟨{box:=?_,boxD:=?_,inj:=?_,lin:=?_,dis:=?_,ptrB:=?_,up:=?_,dom:=h.dom},hl,?_⟩
 ·intro r c hr;obtain ⟨h1,h2⟩:=hb r c hr;simpa [qh7,h1]using h.box r c h2
 ·intro r hr;rw [qdq]at hr;unfold qh7;split
  ·rename_i h1;rw [if_pos (by omega)]at hr;exact h.boxD r hr
  ·rfl
 ·intro r r' b h1 h2;obtain ⟨c,hc⟩:=Option.isSome_iff_exists.1 h1;obtain ⟨c',hc'⟩:=Option.isSome_iff_exists.1 h2;exact h.inj r r' b (by simp [(hb r c hc).2]) (by simp [(hb r' c' hc').2])
 ·intro r;unfold qh7;split
  ·exact h.lin _
  ·exact Lin.nil
 ·intro r r' hne b hb1 hb2;unfold qh7 at hb1 hb2;split at hb1
  ·split at hb2
   ·exact h.dis (.box r) (.box r') (by simpa using hne) b hb1 hb2
   ·simp at hb2
  ·simp at hb1
 ·intro r c hr r' hr';obtain ⟨h1,h2⟩:=hb r c hr;have h3:=h.up r c h2 r' hr';rw [qdq,if_pos (by omega)];exact h.ptrB r c h2 r' hr'
 ·intro r c hr;exact h.up r c (hb r c hr).2
 ·intro q;by_cases hq:q.lvl<M.length
  ·rw [qdq,if_pos (by omega)];exact hF.live q hq
  ·have h1:qa9 st.L q=none:=by rw [qdq,if_neg (by omega)]
   have h2:qa9 M q=none:=by
    cases hh:qa9 M q with
    |none=>rfl
    |some c=>have:=qr7 (M:=M) (r:=q) (by simp [hh]);omega
   rw [h1,h2]
theorem qzB{w0:World}{X0:Cx}{M:List Level}{O0:Root->List Nat}{st:St}{O:Pl->List Nat}(hF:Fr w0 X0 (Mod M X0 O0) M.length st w X O){ow:Nat->Prop}(how:∀b,ow b->∃p,b∈O p) :
  Aft w0 X0 (Mod M X0 O0) M.length w X ow where
 size:=hF.size
 kept:=hF.kept
 grew:=hF.grew
 β:=hF.β
 own:=λb hb=>by obtain ⟨p,hp⟩:=how b hb;exact hF.own p b hp
 os:=hF.os
 out:=hF.out
 tape:=hF.tape
theorem qn2{n:Nat}{O:Pl->List Nat}{r:Root}{b:Nat}(h:b∈qh7 n O r):b∈O (.box r):=by
 unfold qh7 at h;split at h
 ·exact h
 ·simp at h
theorem qbX.of{w0 w':World}{X':Cx}{D:List Deferred}(h:qbX w0 w X D)(hk:∀k,w.heap[k]?=some (.deferred (some []))->X.ω k=none->w0.heap.size<=k->w'.heap[k]?=w.heap[k]?/\X'.ω k=X.ω k):qbX w0 w' X' D:=by
 obtain ⟨ks,h1,h2,h3⟩:=h;refine ⟨ks,h1,h2,λk hks=>?_⟩;obtain ⟨h4,h5,h6⟩:=h3 k hks;obtain ⟨h7,h8⟩:=hk k h5 h6 h4;exact ⟨h4,by rw [h7,h5],by rw [h8,h6]⟩
theorem qpm{b k:Nat}{c:List V}{O:List Nat}(h:qnk w X b c O)(hk:w.heap[k]?=some (.deferred (some []))):k≠b:=λe=>by
 subst e;rcases h with ⟨cs,t,h1,_⟩|⟨s,pe,g,env,ps,asg,body,lo,_,h1,_⟩|⟨es,ents,ck,_,h1,_⟩<;>rw [h1]at hk<;>cases hk
theorem qxi{w0:World}{X0:Cx}{Md':Md}{n:Nat}{st:St}{tmps:Array Value}{df:List Deferred}{O:Pl->List Nat}(hR:Rel st tmps w X O)(hF:Fr w0 X0 Md' n st w X O)(hM:qbX w0 w X df) :
  ∃Md2:Md,Fr w X Md2 n st w X O/\Md2.kind=Md'.kind /\
   ∀st' w' X' O',Fr w X Md2 n st' w' X' O'->Fr w0 X0 Md' n st' w' X' O'/\qbX w0 w' X' df:=by
 obtain ⟨ks,hD,hnd,hks⟩:=hM;let Md2:Md:={may:=λb=>(b<w0.heap.size->Md' b)/\b∉ks,kind:=Md'.kind}
 have hbk:∀r b,(st.box r).isSome=true->X.β r=some b->b∉ks:=λr b hr hb hbk=>by
  obtain ⟨c,hc⟩:=Option.isSome_iff_exists.1 hr;obtain ⟨b',hb',_,_,hbx⟩:=hR.box r c hc;rw [hb]at hb';cases hb';exact qpm hbx (hks b hbk).2.1 rfl
 refine ⟨Md2,?_,rfl,?_⟩
 ·exact {
   size:=Nat.le_refl _
   kept:=λ_ _ _=>⟨rfl,rfl⟩
   grew:=λb e fz hω=>⟨e,fz,hω,Nat.le_refl _,id,λ_ _ _ h=>h⟩
   β:=λ_ _=>rfl
   own:=λp b hb=>by
    refine .inr ⟨λhlt=>?_,λhbk=>?_⟩
    ·rcases hF.own p b hb with h1|h1
     ·omega
     ·exact h1
    ·obtain ⟨e,he⟩:=hR.ownω p b hb;rw [(hks b hbk).2.2]at he;cases he
   boxM:=λr b hr hb=>by
    refine .inr ⟨λhlt=>?_,hbk r b hr hb⟩;rcases hF.boxM r b hr hb with h1|h1
    ·omega
    ·exact h1
   lev:=hF.lev
   live:=hF.live
   os:=rfl
   out:=rfl
   tape:=rfl
   gl:=hF.now
   gm:=λx hx hm=>hF.gm x hx (hm.1 (hF.gl.lt hx))}
 ·intro st' w' X' O' hF';refine ⟨?_,ks,hD,hnd,λk hk=>?_⟩
  ·exact {
    size:=Nat.le_trans hF.size hF'.size
    kept:=λb hb hM=>by
     obtain ⟨h1,h2⟩:=hF.kept b hb hM;obtain ⟨h3,h4⟩:=hF'.kept b (Nat.lt_of_lt_of_le hb hF.size) (λhm=>hM (hm.1 hb));exact ⟨by rw [h3,h1],by rw [h4,h2]⟩
    grew:=λb e fz hω=>by
     obtain ⟨e1,fz1,h1,h2,h3,h4⟩:=hF.grew b e fz hω;obtain ⟨e2,fz2,h5,h6,h7,h8⟩:=hF'.grew b e1 fz1 h1;exact ⟨e2,fz2,h5,by omega,λhz=>h7 (h3 hz),λi v hi hc=>h8 i v (by omega) (h4 i v hi hc)⟩
    β:=λr hr=>by rw [hF'.β r hr,hF.β r hr]
    own:=λp b hb=>by
     have:=hF.size;rcases hF'.own p b hb with h1|h1
     ·exact .inl (by omega)
     ·rcases Nat.lt_or_ge b w0.heap.size with h2|h2
      ·exact .inr (h1.1 h2)
      ·exact .inl h2
    boxM:=λr b hr hb=>by
     have:=hF.size;rcases hF'.boxM r b hr hb with h1|h1
     ·exact .inl (by omega)
     ·rcases Nat.lt_or_ge b w0.heap.size with h2|h2
      ·exact .inr (h1.1 h2)
      ·exact .inl h2
    lev:=hF'.lev
    live:=hF'.live
    os:=by rw [hF'.os,hF.os]
    out:=by rw [hF'.out,hF.out]
    tape:=by rw [hF'.tape,hF.tape]
    gl:=hF.gl
    gm:=hF.gm}
  ·obtain ⟨h1,h2,h3⟩:=hks k hk;obtain ⟨h4,h5⟩:=hF'.kept k (Array.getElem?_eq_some_iff.1 h2).1 (λhm=>hm.2 hk);exact ⟨h1,by rw [h4,h2],by rw [h5,h3]⟩
theorem qxh{w0:World}{X0:Cx}{Md':Md}{n:Nat}{st:St}{tmps:Array Value}{df:List Deferred}{O:Pl->List Nat}(hR:Rel st tmps w X O)(hF:Fr w0 X0 Md' n st w X O)(hM:qbX w0 w X df) :
  ∃Md2:Md,Fr w X Md2 n st w X O/\Md2.kind=Md'.kind /\
   ∀st' (tmps':Array Value) w',Sim w X Md2 n st' tmps' w'->qew w0 X0 Md' n st' {tmps:=tmps',defers:=df} w':=by
 obtain ⟨Md2,h1,h2,h3⟩:=qxi hR hF hM;exact ⟨Md2,h1,h2,λst' tmps' w' ⟨X',O',hR',hF'⟩=>⟨X',O',hR',(h3 st' w' X' O' hF').1,(h3 st' w' X' O' hF').2⟩⟩
theorem qzK{w0:World}{X0:Cx}{Md':Md}{n:Nat}{st:St}{a:Act}(h:qew w0 X0 Md' n st a w) :
  ∃(X:Cx) (Md2:Md),Sim w X Md2 n st a.tmps w/\(∀r,r.lvl<n->X.β r=X0.β r)/\Md2.kind=Md'.kind /\
   ∀st' (tmps':Array Value) w',Sim w X Md2 n st' tmps' w'->qew w0 X0 Md' n st' {tmps:=tmps',defers:=a.defers} w':=by
 obtain ⟨X,O,hR,hF,hM⟩:=h;obtain ⟨Md2,h1,h2,h3⟩:=qxh hR hF hM;exact ⟨X,Md2,⟨X,O,hR,h1⟩,hF.β,h2,h3⟩
end
section
variable {P:Program} {H:Hints} {f:FuncId} {w:World} {X:Cx}
theorem qkx{w0:World}{X0:Cx}{Md:Md}{n:Nat}{st:St}{tmps:Array Value}{O:Pl->List Nat}(h:Rel st tmps w X O)(hF:Fr w0 X0 Md n st w X O){args:List V}{vals:List Value}{Oa:List Nat}{T:List Tmp}
  (ha:RepL w X args vals Oa) (hin:∀b∈Oa,∃t∈T,b∈O (.tmp t)) :
  Rel {st with E:=qA st.E T} tmps w (X.freeze Oa) (qg1 O T none st.E.length [])/\Fr w0 X0 Md n {st with E:=qA st.E T} w (X.freeze Oa) (qg1 O T none st.E.length []) /\
   RepL w (X.freeze Oa) (args.map V.hand) vals []:=by
 have hOaω:=repL_own args vals Oa ha;have heff:=qjG h.dom hOaω;have h1:=h.put (T:=T) (d:=none) (z:=.undef) (v:=undef) (O':=[]) hin heff (by simp [Rep]) Lin.nil (by simp) (by simp [V.qq]);have hF1:=Fr.put (z:=.undef) h hF (T:=T) (O':=[]) none hin heff (by simp);exact ⟨h1,hF1,by rw [show args.map V.hand=reflagL qgv args from (qG _ _).symm];exact qmM ha⟩
theorem qtJ{w0:World}{X0:Cx}{Md:Md}{n:Nat}{st:St}{tmps:Array Value}{O:Pl->List Nat}(h:Rel st tmps w X O)(hF:Fr w0 X0 Md n st w X O){r:Root}{b:Nat}{s:LoopState}{pe:Option Code}{g:FuncId}{env:List V}{ps:List Tmp}{asz bo:Code}
  (hst:st.box r=some [.lp s pe g env ps asz bo]) (hb:X.β r=some b) :
  ∃lo:Loop,w.heap[b]?=some (.loop lo)/\lo.state=s/\lo.pending=pe/\lo.params.toList=ps/\lo.assign=asz/\lo.body=bo/\RepL w X env lo.tmps.toList [] /\
   (∀k,w.heap[k]?=some (.deferred (some []))->k≠b) /\
   ∀s' pe',Rel (st.qo r [.lp s' pe' g env ps asz bo]) tmps (w.putObj b (.loop {lo with state:=s',pending:=pe'})) X (qp3 O r []) /\
    Fr w0 X0 Md n (st.qo r [.lp s' pe' g env ps asz bo]) (w.putObj b (.loop {lo with state:=s',pending:=pe'})) X (qp3 O r []):=by
 obtain ⟨b',hb',hlt,hω,hbx⟩:=h.box r _ hst;obtain rfl:b=b':=by rw [hb]at hb';exact Option.some.inj hb'
 rcases hbx with ⟨cs,t,_,h2⟩|⟨s1,pe1,g1,env1,ps1,asg,body,lo,hc,hw,h1,h2,_,h3,h4,h5,h6,h7⟩|⟨es,ents,ck,hc,_⟩
 ·have:=qo3 h2;simp [qc3]at this
 ·simp only [List.cons.injEq,V.lp.injEq,and_true]at hc;obtain ⟨rfl,rfl,rfl,rfl,rfl,rfl,rfl⟩:=hc;refine ⟨lo,hw,h1,h2,h3,h4,h5,h6,λk hk e=>?_,λs' pe'=>?_⟩
  ·subst e;rw [hw]at hk;cases hk
  ·have hk:∀k,k≠b->(w.putObj b (.loop {lo with state:=s',pending:=pe'})).heap[k]?=w.heap[k]?:=λk hk=>World.putObj_heap_other hk;have hsz:(w.putObj b (.loop {lo with state:=s',pending:=pe'})).heap.size=w.heap.size:=by simp [World.putObj]
   refine ⟨h.qo hst hb hk hsz ?_ Lin.nil (by simp) (λr' hr'=>?_),Fr.qo h hF hst hb rfl hk hsz (by simp) rfl rfl rfl⟩
   ·exact .inr (.inl ⟨s',pe',g,env,ps,asz,bo,{lo with state:=s',pending:=pe'},rfl,World.putObj_heap_same hlt,rfl,rfl,rfl,h3,h4,h5,qt1 hω hk h6,rfl⟩)
   ·have hr2:r'∈ptrsL [V.lp s pe g env ps asz bo]:=by simpa [ptrsL,V.qq]using hr'
    exact ⟨h.ptrB r _ hst r' hr2,h.up r _ hst r' hr2⟩
 ·cases hc
theorem qt2:∀(i:Nat) {l:List V} {vals:List Value} {x:V} {v:Value},RepL w X l vals []->Rep w X x v []->RepL w X (l.set i x) (vals.set i v) []
 |i,[],vals,x,v,h,hx=>by simp only [RepL]at h;simp [h.1,RepL]
 |0,y::l,vals,x,v,h,hx=>by
  simp only [RepL]at h;obtain ⟨u,vs,O1,O2,rfl,hO,h1,h2⟩:=h;simp only [List.nil_eq,List.append_eq_nil_iff]at hO;obtain ⟨rfl,rfl⟩:=hO;simp only [List.set_cons_zero,RepL];exact ⟨v,vs,[],[],rfl,rfl,hx,h2⟩
 |i+1,y::l,vals,x,v,h,hx=>by
  simp only [RepL]at h;obtain ⟨u,vs,O1,O2,rfl,hO,h1,h2⟩:=h;simp only [List.nil_eq,List.append_eq_nil_iff]at hO;obtain ⟨rfl,rfl⟩:=hO;simp only [List.set_cons_succ,RepL];exact ⟨u,_,[],[],rfl,rfl,h1,qt2 i h2 hx⟩
theorem qmQ:∀(ps:List Tmp) (args:List V) (vals:List Value) (env:List V) (tmps:Array Value),RepL w X env tmps.toList []->RepL w X args vals [] ->
  RepL w X (qeb env ps args) ((ps.zip vals).foldl (λtmps (t,a)=>tmps.setIfInBounds t a) tmps).toList []
 |[],args,vals,env,tmps,h,_=>by simpa [qeb]using h
 |t::ps,[],vals,env,tmps,h,ha=>by simp only [RepL]at ha;simpa [qeb,ha.1]using h
 |t::ps,x::args,vals,env,tmps,h,ha=>by
  simp only [RepL]at ha;obtain ⟨u,vs,O1,O2,rfl,hO,h1,h2⟩:=ha;simp only [List.nil_eq,List.append_eq_nil_iff]at hO;obtain ⟨rfl,rfl⟩:=hO;simp only [qeb,List.zip_cons_cons,List.foldl_cons];exact qmQ ps args vs (env.set t x) (tmps.setIfInBounds t u) (by rw [Array.toList_setIfInBounds];exact qt2 t h h1) h2
theorem qmD:∀(ps:List Tmp) (args env:List V) (r:Root),r∈ptrsL (qeb env ps args)->r∈ptrsL env\/r∈ptrsL args
 |[],args,env,r,h=>.inl (by simpa [qeb]using h)
 |t::ps,[],env,r,h=>.inl (by simpa [qeb]using h)
 |t::ps,x::args,env,r,h=>by
  rcases qmD ps args (env.set t x) r h with h1|h1
  ·rcases mem_set h1 with h2|h2
   ·exact .inl h2
   ·exact .inr (by simp [ptrsL,h2])
  ·exact .inr (by simp [ptrsL,h1])
theorem qy3{C:Orc}(hC:OrcOk P C){w0:World}{X0:Cx}{Md:Md}{n:Nat}{st:St}{tmps:Array Value}{O:Pl->List Nat}(h:Rel st tmps w X O)(hF:Fr w0 X0 Md n st w X O){r:Root}{args:List V}{vals:List Value}{z:V}{s:St}{b:Nat}
  (ha:RepL w X (args.map V.hand) vals []) (hpa:∀q∈ptrsL args,(st.box q).isSome=true) (hx:qjx C r args st=some (z,s)) (hb:X.β r=some b) :
  ∃lo:Loop,w.heap[b]?=some (.loop lo)/\vals.length=lo.params.size/\∀F:Fence,(F=Fence.wide\/∃l,F=Fence.wide.inRound l) ->
   RoundIn F 0 P b lo.fn ((lo.params.zip vals.toArray).foldl (λtmps (t,a)=>tmps.setIfInBounds t a) lo.tmps) lo.assign lo.body w fun
    |.returned v,w'=>∃X' O',Rel s tmps w' X' O'/\Fr w0 X0 Md n s w' X' O'/\Rep w' X' z v []/\z.qq=[]
    |_,_=>False:=by
 unfold qjx at hx;split at hx
 ·rename_i pe g env ps assign body hst;split at hx
  ·cases hx
  ·rename_i hlen;split at hx
   ·rename_i s2 hA;split at hx
    ·rename_i pe2 g2 env2 ps2 as2 bo2 hs2;split at hx
     ·rename_i e s3 hB;split at hx
      ·rename_i st3 pe3 g3 env3 ps3 as3 bo3 hs3;split at hx
       ·rename_i L B hsp;split at hx
        ·rename_i hll;obtain ⟨rfl,rfl⟩:=Prod.mk.inj (Option.some.inj hx);obtain ⟨lo,hw,hst1,hpe1,hps,has,hbo,henv,hnm,_⟩:=qtJ h hF hst hb;have hvl:vals.length=args.length:=by have:=qE _ _ _ ha;simpa using this.symm
         refine ⟨lo,hw,by rw [hvl,<- Array.length_toList,hps];exact Classical.not_not.1 hlen,λF hFF=>?_⟩;have hFn:F.fn lo.fn:=by rcases hFF with rfl|⟨l,rfl⟩<;>trivial
         have hFr:F.inRound b=Fence.wide.inRound b:=by rcases hFF with rfl|⟨l,rfl⟩<;>rfl
         have hzip:(lo.params.zip vals.toArray).foldl (λtmps (t,a)=>tmps.setIfInBounds t a) lo.tmps=(ps.zip vals).foldl (λtmps (t,a)=>tmps.setIfInBounds t a) lo.tmps:=by
          rw [<- Array.foldl_toList,Array.toList_zip,hps]
         rw [hzip];refine roundIn_of_wpIn hFn ?_;rw [hFr,has,hbo];have hlive:∀q,(st.box q).isSome=(qa9 (st.L++[st.B]) q).isSome:=λq=>by rw [qbq]
         obtain ⟨hR1,hF1⟩:=qrt hF.now h.qCc (E:=qeb env ps (args.map V.hand)) (tmps:=(ps.zip vals).foldl (λtmps (t,a)=>tmps.setIfInBounds t a) lo.tmps) (qmQ ps _ vals env lo.tmps henv ha) (λq hq=>by
          rw [<- hlive];rcases qmD _ _ _ _ hq with h1|h1
          ·exact h.ptrB r _ hst q (by simpa [ptrsL,V.qq]using h1)
          ·rw [show args.map V.hand=reflagL qgv args from (qG _ _).symm,ptrsL_reflag]at h1;exact hpa q h1)
         have hbl:qa9 (st.L++[st.B]) r=some [.lp .ready pe g env ps assign body]:=by rw [<- qbq];exact hst
         have hrl:r.lvl<(st.L++[st.B]).length:=qr7 (by rw [hbl];rfl);have hFO:FOk (Fence.wide.inRound b) X (Mod (st.L++[st.B]) X λq=>O (.box q)) (st.L++[st.B]).length :=
          ⟨.inr ⟨r,b,rfl,hrl,hb,by show (qa9 (st.L++[st.B]) r).map q3=some true;rw [hbl];rfl⟩,λh0=>by simp at h0⟩
         refine wpIn_mono (hC.code _ _ _ _ _ _ hA _ w X _ _ {tmps:=_,defers:=[]} w hFO ⟨X,_,hR1,hF1,[],rfl,.nil,by simp⟩).wp ?_;rintro e1 a1 w1 ⟨rfl,X1,O1,hR2,hF2,hM2⟩;have hb2:X1.β r=some b:=by rw [hF2.β r hrl,hb]
         obtain ⟨lo2,hw2,hs2s,hs2p,hs2ps,hs2a,hs2b,hs2e,hnm2,hset2⟩:=qtJ hR2 hF2 hs2 hb2;refine ⟨_,run_beginRound hw2 hs2s,?_⟩;obtain ⟨hR3,hF3⟩:=hset2 .busy pe2;rw [show (w1.putObj b (.loop {lo2 with state:=.busy}))=w1.putObj b (.loop {lo2 with state:=.busy,pending:=pe2})from by rw [<- hs2p]];refine wpIn_mono (hC.code _ _ _ _ _ _ hB _ w X _ _ a1 _ hFO ⟨X1,_,hR3,hF3,hM2.of λk hk _ _=>⟨World.putObj_heap_other (hnm2 k hk),rfl⟩⟩).wp ?_;rintro e2 a2 w3 ⟨rfl,X3,O3,hR4,hF4,hM4⟩;have hb3:X3.β r=some b:=by rw [hF4.β r hrl,hb]
         obtain ⟨lo3,hw3,_,_,_,_,_,_,_,hset3⟩:=qtJ hR4 hF4 hs3 hb3;obtain ⟨hR5,hF5⟩:=hset3 (if e.code.isNone then .ready else .done) e.code;obtain ⟨hlr,hlen',hkind⟩:=qmK hR5 hF5;have hsp':=qe4 hsp;have haft:=qzB hF5 (ow:=λb=>∃q,b∈qh7 (st.L++[st.B]).length (qp3 O3 r []) q) (λb ⟨q,hq⟩=>⟨.box q,qn2 hq⟩);obtain ⟨hR6,hF6⟩:=qqn h hF hlr hlen' hkind (λq b hb=>⟨q,hb⟩) haft hsp';have hfin:∃v w',(Instr.endRound b e.code).run P w3=.ok v w'/\∃X' O',Rel {st with L:=L,B:=B} tmps w' X' O'/\Fr w0 X0 Md n {st with L:=L,B:=B} w' X' O'/\Rep w' X' (.val (.bool e.code.isNone)) v []/\(V.val (.bool e.code.isNone)).qq=[] :=
          ⟨_,_,run_endRound _ hw3,X3,_,hR6,hF6,by simp [Rep],rfl⟩
         cases e<;>exact hfin
        ·cases hx
       ·cases hx
      ·cases hx
     ·cases hx
    ·cases hx
   ·cases hx
 ·cases hx
end
section
variable {P:Program} {H:Hints} {f:FuncId} {w:World} {X:Cx}
theorem qiO{d:TypeDesc}{k:Value}:∀{l l':List MapEntry} (i:Nat),l.map kv=l'.map kv->Instr.findNow d k l i=Instr.findNow d k l' i
 |[],[],_,_=>rfl
 |[],_::_,_,h=>by simp at h
 |_::_,[],_,h=>by simp at h
 |e::l,e'::l',i,h=>by
  simp only [qh,List.cons.injEq,kv,Prod.mk.injEq]at h;simp only [Instr.findNow,h.1.1,h.1.2,qiO (i+1) h.2]
theorem qgt{t:TypeId}{k:Value}:∀{l l':List MapEntry} (i:Nat),l.map kv=l'.map kv->Instr.findAsking t k l i=Instr.findAsking t k l' i
 |[],[],_,_=>rfl
 |[],_::_,_,h=>by simp at h
 |_::_,[],_,h=>by simp at h
 |e::l,e'::l',i,h=>by
  simp only [qh,List.cons.injEq,kv,Prod.mk.injEq]at h;simp only [Instr.findAsking,h.1.1,h.1.2,qgt (i+1) h.2]
theorem qiN{t:TypeId}{k:Value}{l l':List MapEntry}(h:l.map kv=l'.map kv):Instr.findKey t k l=Instr.findKey t k l':=by
 unfold Instr.findKey;simp only [qgt 0 h,qiO 0 h]
theorem qqZ(es:List (Value×Value)):(qe2 es).map kv=es:=by
 simp [qe2,kv,Function.comp_def]
theorem qnk.map{b:Nat}{es:List (Value×Value)}{O:List Nat}(h:qnk w X b [.mp es] O):∃ents ck,w.heap[b]?=some (.map ents ck)/\ents.toList.map kv=es/\O=[]:=by
 rcases h with ⟨cs,t,_,h⟩|⟨s,pe,g,env,ps,asg,body,lo,hc,_⟩|⟨es',ents,ck,hc,h1,h2,h3⟩
 ·simp only [RepL,Rep]at h;obtain ⟨_,_,_,_,_,_,h,_⟩:=h;exact h.elim
 ·simp at hc
 ·simp only [List.cons.injEq,V.mp.injEq,and_true]at hc;subst hc;exact ⟨ents,ck,h1,h2,h3⟩
theorem Rel.qrj{st:St}{tmps:Array Value}{O:Pl->List Nat}(h:Rel st tmps w X O){d b:Nat}{es:List (Value×Value)}{ents:Array MapEntry}{ck:Nat}(hnb:qy st.B d=none)(hb:b<w.heap.size)(hωb:X.ω b=none)
  (hw:w.heap[b]?=some (.map ents ck)) (hes:ents.toList.map kv=es) (hno:∀r,(st.box r).isSome=true->X.β r≠some b) :
  Rel {st with B:=qb2 d [.mp es] st.B} tmps w (X.setβ ⟨st.L.length,d⟩ b) O:=by
 have hr0:st.box ⟨st.L.length,d⟩=none:=by simp [St.box,hnb]
 have hnotin:∀l:List Root,(∀r∈l,(st.box r).isSome=true)->(⟨st.L.length,d⟩:Root)∉l:=λl hl hm=>by have:=hl _ hm;rw [hr0]at this;simp at this
 have hext:∀{x:V} {u:Value} {A:List Nat},(∀r∈x.qq,(st.box r).isSome=true)->Rep w X x u A->Rep w (X.setβ ⟨st.L.length,d⟩ b) x u A:=λhx hr =>
  Rep.ext (ext_setβ (w':=w) (hnotin _ hx) h.dom (λ_ _=>rfl)) _ _ _ (λ_ h=>h) (by simp) hr
 have hextL:∀{l:List V} {us:List Value} {A:List Nat},(∀r∈ptrsL l,(st.box r).isSome=true)->RepL w X l us A->RepL w (X.setβ ⟨st.L.length,d⟩ b) l us A:=λhx hr =>
  RepL.ext (ext_setβ (w':=w) (hnotin _ hx) h.dom (λ_ _=>rfl)) _ _ _ (λ_ h=>h) (by simp) hr
 have hbox:∀r,({st with B:=qb2 d [.mp es] st.B}:St).box r=if r=⟨st.L.length,d⟩then some [.mp es]else st.box r:=λr=>qfV st d _ hnb r;have hlive:∀r,(st.box r).isSome=true->(({st with B:=qb2 d [.mp es] st.B}:St).box r).isSome=true:=λr hr=>by
  rw [hbox];split
  ·rfl
  ·exact hr
 have hO0:O (.box ⟨st.L.length,d⟩)=[]:=h.boxD _ hr0;refine {size:=h.size,env:=?_,envD:=h.envD,box:=?_,boxD:=?_,inj:=?_,lin:=h.lin,dis:=h.dis,ptrE:=λr hr=>hlive r (h.ptrE r hr),ptrB:=?_,up:=?_,dom:=h.dom}
 ·intro s x hx;obtain ⟨v,hv,hr⟩:=h.env s x hx;exact ⟨v,hv,hext (λr hr=>h.ptrE r (qD.2 ⟨x,List.mem_of_getElem? hx,hr⟩)) hr⟩
 ·intro r c1 hr;rw [hbox]at hr;by_cases e:r=⟨st.L.length,d⟩
  ·subst e;rw [if_pos rfl]at hr;cases hr;exact ⟨b,by simp [Cx.setβ],hb,hωb,.inr (.inr ⟨es,ents,ck,rfl,hw,hes,hO0⟩)⟩
  ·rw [if_neg e]at hr;obtain ⟨k,hkb,hlt,hω,hbx⟩:=h.box r c1 hr;exact ⟨k,by simp [Cx.setβ,e,hkb],hlt,hω,hbx.qgM rfl (λl vals A hl _ hr'=>hextL (λr' hr'=>h.ptrB r c1 hr r' (hl r' hr')) hr')⟩
 ·intro r hr;rw [hbox]at hr;split at hr
  ·cases hr
  ·exact h.boxD r hr
 ·intro r r' k h1 h2 h3 h4;rw [hbox]at h1 h2;simp only [Cx.setβ]at h3 h4;split at h3
  ·rename_i e1;split at h4
   ·rename_i e2;rw [e1,e2]
   ·rename_i e2;rw [if_neg e2]at h2;cases h3;exact absurd h4 (hno r' h2)
  ·rename_i e1;rw [if_neg e1]at h1;split at h4
   ·cases h4;exact absurd h3 (hno r h1)
   ·rename_i e2;rw [if_neg e2]at h2;exact h.inj r r' k h1 h2 h3 h4
 ·intro r c1 hr r' hr';rw [hbox]at hr;split at hr
  ·cases hr;simp [ptrsL,V.qq]at hr'
  ·exact hlive r' (h.ptrB r c1 hr r' hr')
 ·intro r c1 hr r' hr';rw [hbox]at hr;split at hr
  ·cases hr;simp [ptrsL,V.qq]at hr'
  ·exact h.up r c1 hr r' hr'
theorem Fr.qrj{w0:World}{X0:Cx}{M:Md}{n:Nat}{st:St}{tmps:Array Value}{O:Pl->List Nat}(h:Rel st tmps w X O)(hF:Fr w0 X0 M n st w X O){d b:Nat}{es:List (Value×Value)}(hnb:qy st.B d=none)(hb0:w0.heap.size<=b) :
  Fr w0 X0 M n {st with B:=qb2 d [.mp es] st.B} w (X.setβ ⟨st.L.length,d⟩ b) O where
 size:=hF.size
 kept:=hF.kept
 grew:=hF.grew
 β:=λr hr=>by
  have hl:=hF.lev;simp only [Cx.setβ];rw [if_neg (λe=>by rw [e]at hr;simp at hr;omega)];exact hF.β r hr
 own:=hF.own
 boxM:=λr b' hr hb=>by
  rw [show ({st with B:=qb2 d [.mp es] st.B}:St).box r=if r=⟨st.L.length,d⟩then some [.mp es]else st.box r from qfV st d _ hnb r]at hr;simp only [Cx.setβ]at hb;split at hb
  ·cases hb;exact .inl hb0
  ·rename_i e;rw [if_neg e]at hr;exact hF.boxM r b' hr hb
 lev:=hF.lev
 live:=λr hr=>by
  have hl:=hF.lev;rw [show ({st with B:=qb2 d [.mp es] st.B}:St).box r=if r=⟨st.L.length,d⟩then some [.mp es]else st.box r from qfV st d _ hnb r,if_neg (λe=>by rw [e]at hr;simp at hr;omega)];exact hF.live r hr
 os:=hF.os
 out:=hF.out
 tape:=hF.tape
 gl:=hF.gl
 gm:=hF.gm
def qBZ(P:Program)(w0:World)(X0:Cx)(M:Md)(n:Nat)(a:Act)(o:Oper)(w:World)(s:St):Prop :=
 ∃v w' r,(execOp a.eval o).run P w=.ok r w'/\(r=.value v\/(r=.skip/\v=undef))/\(qdj o.op=true->r=.value v/\w'=w)/\Sim w0 X0 M n s (a.put o.dst v).tmps w'
theorem qlf{st:St}{tmps:Array Value}{O:Pl->List Nat}(h:Rel st tmps w X O){r:Root}{v:Value}{Oin:List Nat}{es:List (Value×Value)}(hr:Rep w X (.mref r) v Oin)(hb:st.box r=some [.mp es]) :
  ∃b ents ck,v=.map (some b)/\X.β r=some b/\w.heap[b]?=some (.map ents ck)/\ents.toList.map kv=es:=by
 simp only [Rep]at hr;obtain ⟨_,b,hβ,rfl⟩:=hr;obtain ⟨b',hb',_,_,hbx⟩:=h.box r _ hb;obtain rfl:b=b':=by rw [hβ]at hb';exact Option.some.inj hb'
 obtain ⟨ents,ck,h1,h2,_⟩:=hbx.map;exact ⟨b,ents,ck,rfl,hβ,h1,h2⟩
theorem qxm{x y:V}{l:List Value}{O:List Nat}(h:RepL w X [x,y] l O):∃u v O1 O2,l=[u,v]/\O=O1++O2/\Rep w X x u O1/\Rep w X y v O2:=by
 simp only [RepL]at h;obtain ⟨u,vs,O1,O2,rfl,rfl,h1,v,vs2,O3,O4,rfl,rfl,h2,rfl,rfl⟩:=h;exact ⟨u,v,O1,O3,rfl,by simp,h1,h2⟩
theorem qmO{x y z:V}{l:List Value}{O:List Nat}(h:RepL w X [x,y,z] l O):∃u v s O1 O2 O3,l=[u,v,s]/\O=O1++(O2++O3)/\Rep w X x u O1/\Rep w X y v O2/\Rep w X z s O3:=by
 simp only [RepL]at h;obtain ⟨u,vs,O1,O2,rfl,rfl,h1,v,vs2,O3,O4,rfl,rfl,h2,s,vs3,O5,O6,rfl,rfl,h3,rfl,rfl⟩:=h;exact ⟨u,v,s,O1,O3,O5,rfl,by simp,h1,h2,h3⟩
theorem qq8{b:Nat}{ents:Array MapEntry}{ck:Nat}(hb:w.heap[b]?=some (.map ents ck)):(getObj b).run P w=.ok (.map ents ck) w:=by
 simp [getObj,Sem.run,hb]
theorem qzH{b:Nat}{ents:Array MapEntry}{ck:Nat}(o:Obj)(hb:w.heap[b]?=some (.map ents ck)):(setObj b o).run P w=.ok () {w with heap:=w.heap.setIfInBounds b o}:=by
 simp [setObj,Sem.run,hb]
theorem qgT{b:Nat}{o o':Obj}(hb:w.heap[b]?=some o):(w.heap.setIfInBounds b o')[b]?=some o'/\∀k,k≠b->(w.heap.setIfInBounds b o')[k]?=w.heap[k]?:=by
 have hlt:b<w.heap.size:=(Array.getElem?_eq_some_iff.1 hb).1;exact ⟨by simp [hlt],λk hne=>by simp [Ne.symm hne]⟩
theorem qvy{t:TypeId}{es:List (Value×Value)}{k z:V}{ok:Bool}{v:Value}{O1:List Nat}{b:Nat}{ents:Array MapEntry}{ck:Nat}(hz:qkp P H f t es k ok=some z)(hk:Rep w X k v O1)
  (hw:w.heap[b]?=some (.map ents ck)) (hes:ents.toList.map kv=es):∃u,(Instr.lookup t (.map (some b)) v ok).run P w=.ok u w/\Rep w X z u []/\z.qq=[]:=by
 unfold qkp at hz;split at hz
 ·rename_i kt vt a hu hka;obtain ⟨rfl,_⟩:=rep_toVal _ _ _ _ hka hk;have hemp:es.isEmpty=ents.isEmpty:=by
   rw [<- hes];cases hl:ents.toList with
   |nil =>
        have:ents=#[]:=by apply Array.ext';simpa using hl
        subst this;rfl
   |cons x l =>
          have:ents≠#[]:=λe=>by rw [e]at hl;simp at hl
          simp [this]
  have hfk:∀r,valOf P (Instr.findKey kt v (qe2 es))=some r->(Instr.findKey kt v ents.toList).run P w=.ok r w:=λr hr=>by
   rw [<- qiN (l:=qe2 es) (by rw [qqZ,hes])];exact qcD hr
  split at hz
  ·rename_i u1 i v1 hc hf;simp only [qb]at hz;subst hz;have h1:=qcD (w:=w) hc;rw [hemp]at h1;refine ⟨if ok then .tuple #[v1,.bool true]else v1,?_,?_,?_⟩
   ·simp only [Instr.lookup,Sem.run_bind,run_underlying hu,Result.andThen_ok,qq8 hw,Sem.run_pure,h1,hfk _ hf]
   ·cases ok with
    |true=>simp only [if_true,Rep];exact ⟨[v1,.bool true],rfl,by simp only [RepL];exact ⟨v1,_,[],[],rfl,rfl,qfK v1,_,[],[],[],rfl,rfl,by simp [Rep],rfl,rfl⟩⟩
    |false=>exact qfK v1
   ·cases ok with
    |true=>simp [V.qq,ptrsL,qj6]
    |false=>exact qj6 v1
  ·rename_i u1 u2 hc hf hzo;rename_i zo;simp only [qb]at hz;subst hz;have h1:=qcD (w:=w) hc;rw [hemp]at h1;obtain ⟨i,u,hi,hu0,rfl⟩:=qdk hzo;have hzv:(zeroValue vt).run P w=.ok u w:=by simp only [zeroValue,typeInfo,Sem.run_bind,run_program,Result.andThen_ok,hi,hu0,Sem.run_pure]
   refine ⟨if ok then .tuple #[u,.bool false]else u,?_,?_,?_⟩
   ·simp only [Instr.lookup,Sem.run_bind,run_underlying hu,Result.andThen_ok,qq8 hw,Sem.run_pure,h1,hfk _ hf,hzv]
   ·cases ok with
    |true=>simp only [if_true,Rep];exact ⟨[u,.bool false],rfl,by simp only [RepL];exact ⟨u,_,[],[],rfl,rfl,qeS _ u,_,[],[],[],rfl,rfl,by simp [Rep],rfl,rfl⟩⟩
    |false=>exact qeS _ u
   ·cases ok with
    |true=>simp [V.qq,ptrsL,qce]
    |false=>exact qce _ u
  ·cases hz
 ·cases hz
theorem qox{t:TypeId}{es es':List (Value×Value)}{k x:V}{v u:Value}{O1 O2:List Nat}{b:Nat}{ents:Array MapEntry}{ck:Nat}(hz:qiB P t es k x=some es')(hk:Rep w X k v O1)(hx:Rep w X x u O2)
  (hw:w.heap[b]?=some (.map ents ck)) (hes:ents.toList.map kv=es):∃ents' ck',(Instr.mapUpdate t (.map (some b)) v u).run P w=.ok () {w with heap:=w.heap.setIfInBounds b (.map ents' ck')}/\ents'.toList.map kv=es':=by
 unfold qiB at hz;split at hz
 ·rename_i kt vt a y hu hka hxy;obtain ⟨rfl,_⟩:=rep_toVal _ _ _ _ hka hk;obtain ⟨rfl,_⟩:=rep_toVal _ _ _ _ hxy hx;have hfk:∀r,valOf P (Instr.findKey kt v (qe2 es))=some r->(Instr.findKey kt v ents.toList).run P w=.ok r w:=λr hr=>by
   rw [<- qiN (l:=qe2 es) (by rw [qqZ,hes])];exact qcD hr
  split at hz
  ·rename_i u1 i v1 hc hf;split at hz
   ·rename_i e he;split at hz
    ·rename_i hsb;simp only [qb]at hz;subst hz;have hei:(ents.toList.map kv)[i]?=some e:=by rw [hes];exact he
     rw [List.getElem?_map]at hei;obtain ⟨me,hme,rfl⟩:=qc.1 hei;have hme':ents[i]?=some me:=by simpa using hme
     have hst:(Instr.keyThatStays (((ents[i]?).map (·.key)).getD v) v).run P w=.ok v w:=by
      simp only [hme',qi,Option.getD_some,Instr.keyThatStays];rw [if_pos hsb];rfl
     refine ⟨ents.modify i λe=>{e with key:=v,val:=u},ck,?_,?_⟩
     ·simp only [Instr.mapUpdate,Sem.run_bind,run_underlying hu,Result.andThen_ok,qq8 hw,qcD hc,hfk _ hf,hst,qzH _ hw]
     ·rw [Array.toList_modify,<- hes];apply List.ext_getElem?;intro j;simp only [List.getElem?_map,List.getElem?_modify,List.getElem?_set,List.length_map];by_cases hj:i=j
      ·subst hj;have hlt:i<ents.toList.length:=(qm.1 hme).1;simp only [hme,if_true,qi,hlt];rfl
      ·simp [hj]
    ·cases hz
   ·cases hz
  ·rename_i u1 hc hf;simp only [qb]at hz;subst hz;refine ⟨ents.push {key:=v,val:=u,born:=ck},ck+1,?_,?_⟩
   ·simp only [Instr.mapUpdate,Sem.run_bind,run_underlying hu,Result.andThen_ok,qq8 hw,qcD hc,hfk _ hf,qzH _ hw]
   ·simp [<- hes,kv]
  ·cases hz
 ·cases hz
theorem qnY{w0:World}{X0:Cx}{M:Md}{n:Nat}{st s:St}{a:Act}{O:Pl->List Nat}{o:Oper}{xs:List V}{z:V}{fp:Fp}{Oin:List Nat}(h:Rel st a.tmps w X O)(hF:Fr w0 X0 M n st w X O)
  (hrep:RepL w X xs (o.op.operands.toList.map a.eval) Oin) (hx:mapStep P H f o xs st=some (z,s,fp)):qBZ P w0 X0 M n a o w (s.put o.dst z):=by
 unfold mapStep at hx;split at hx
 ·-- make
  rename_i t ro hop;split at hx
  ·rename_i d kt vt hd hu;split at hx
   ·rename_i hc;obtain ⟨hnb,hci⟩:=hc;simp only [qb,Prod.mk.injEq]at hx;obtain ⟨rfl,rfl,rfl⟩:=hx;have hnb':qy st.B (q4 d)=none:=by simpa using hnb
    have hrun:(execOp a.eval o).run P w=.ok (.value (.map (some w.heap.size))) (w.alloc (.map #[] 0)):=by
     have h1:(Instr.makeMap t (ro.map a.eval)).run P w=.ok (.map (some w.heap.size)) (w.alloc (.map #[] 0)):=by
      cases ro with
      |none=>rfl
      |some x =>
       have hops:o.op.operands.toList=[x]:=by rw [hop];rfl
       rw [hops]at hrep;simp only [qh,List.map_nil]at hrep;have hx1:∃k m,a.eval x=.int k m:=by
        unfold qjN at hci;split at hci
        ·simp [RepL]at hrep
        ·simp only [RepL,Rep]at hrep;obtain ⟨u,vs,O1,O2,hu,_,⟨h2,_⟩,_⟩:=hrep;simp only [List.cons.injEq]at hu;exact ⟨_,_,by rw [hu.1,h2]⟩
        ·cases hci
       obtain ⟨k,m,hxe⟩:=hx1;simp only [qi,Instr.makeMap,Sem.run_bind,run_underlying hu,Result.andThen_ok,hxe,asInt,Sem.run_pure];rfl
     simp only [execOp,hop,Sem.run_bind,h1,Result.andThen_ok,Sem.run_pure]
    refine ⟨_,_,_,hrun,.inl rfl,λht=>by rw [hop]at ht;simp [qdj]at ht,?_⟩;have heff:Eff w X (w.alloc (.map #[] 0)) X [] :=
     ⟨by simp,λb hb _=>heap_alloc_old w _ hb,λ_ _ _=>rfl,by simp,rfl,λb e fz hb=>by have:=h.dom b e fz hb;simp;omega,rfl,rfl,rfl⟩
    have h1:=h.put (T:=[]) (Oin:=[]) (O':=[]) (z:=.undef) (v:=undef) none (by simp) heff (by simp [Rep]) Lin.nil (by simp) (by simp [V.qq]);have hF1:=Fr.put (z:=.undef) h hF (T:=[]) (Oin:=[]) (O':=[]) none (by simp) heff (by simp);change Rel st a.tmps _ X _ at h1
    change Fr w0 X0 M n st _ X _ at hF1
    have hωn:X.ω w.heap.size=none:=by
     cases hω:X.ω w.heap.size with
     |none=>rfl
     |some p=>have:=h.dom w.heap.size p.1 p.2 hω;omega
    have h2:=h1.qrj (d:=q4 d) (b:=w.heap.size) (es:=[]) hnb' (by simp) hωn (heap_alloc_new w _) rfl (λr hr e=>by
     obtain ⟨c,hc⟩:=Option.isSome_iff_exists.1 hr;obtain ⟨b',hb',hlt,_⟩:=h.box r c hc;rw [e]at hb';cases hb';omega)
    have hF2:=Fr.qrj (es:=[]) (d:=q4 d) (b:=w.heap.size) h1 hF1 hnb' hF.size;rw [hd,qbV];exact ⟨_,_,h2.qin (some d) (z:=.mref ⟨st.L.length,q4 d⟩) (v:=.map (some w.heap.size)) (O':=[]) (by simp only [Rep];exact ⟨trivial,_,by simp [Cx.setβ],rfl⟩) Lin.nil (by simp) (λr hr=>by
     simp only [V.qq,List.mem_singleton]at hr;subst hr;rw [qfV st (q4 d) _ hnb'];simp),hF2.qin (some d) (by simp)⟩
   ·cases hx
  ·cases hx
 ·-- look up
  rename_i t mo ko ok hop;split at hx
  ·rename_i r k;split at hx
   ·rename_i es hes;obtain ⟨v,hv,he⟩:=qc.1 hx;obtain ⟨rfl,rfl,rfl⟩:=Prod.mk.inj he |>.imp id Prod.mk.inj
    have hops:o.op.operands.toList=[mo,ko]:=by rw [hop];rfl
    rw [hops]at hrep;obtain ⟨u1,u2,O1,O2,hu,rfl,h1,h2⟩:=qxm hrep;simp only [qh,List.map_nil,List.cons.injEq,and_true]at hu;obtain ⟨rfl,rfl⟩:=hu;obtain ⟨b,ents,ck,hvm,_,hw,hes'⟩:=qlf h h1 hes;obtain ⟨u,hrun,hru,hpu⟩:=qvy hv h2 hw hes';refine ⟨u,w,.value u,?_,.inl rfl,λ_=>⟨rfl,rfl⟩,X,qg1 O [] o.dst st.E.length [],?_⟩
    ·simp only [execOp,hop,Sem.run_bind,hvm,hrun,Result.andThen_ok,Sem.run_pure]
    ·rw [qbV];exact ⟨h.qin o.dst hru Lin.nil (by simp) (by rw [hpu];simp),hF.qin o.dst (by simp)⟩
   ·cases hx
  ·cases hx
 ·-- update
  rename_i t mo ko xo hop;split at hx
  ·rename_i r k x;split at hx
   ·rename_i es hes;obtain ⟨es',hv,he⟩:=qc.1 hx;obtain ⟨rfl,rfl,rfl⟩:=Prod.mk.inj he |>.imp id Prod.mk.inj
    have hops:o.op.operands.toList=[mo,ko,xo]:=by rw [hop];rfl
    rw [hops]at hrep;obtain ⟨u1,u2,u3,O1,O2,O3,hu,rfl,h1,h2,h3⟩:=qmO hrep;simp only [qh,List.map_nil,List.cons.injEq,and_true]at hu;obtain ⟨rfl,rfl,rfl⟩:=hu;obtain ⟨b,ents,ck,hvm,hβ,hw,hes'⟩:=qlf h h1 hes;obtain ⟨ents',ck',hrun,hes2⟩:=qox hv h2 h3 hw hes';have hset:=h.qo (c':=[.mp es']) (Ob:=[]) (w':={w with heap:=w.heap.setIfInBounds b (.map ents' ck')}) hes hβ (λk hk=>(qgT hw).2 k hk) (by simp) (.inr (.inr ⟨es',ents',ck',rfl,(qgT hw).1,hes2,rfl⟩)) Lin.nil (by simp) (by simp [ptrsL,V.qq]);have hsetF:=Fr.qo (c':=[.mp es']) (Ob:=[]) (w':={w with heap:=w.heap.setIfInBounds b (.map ents' ck')}) h hF hes hβ rfl (λk hk=>(qgT hw).2 k hk) (by simp) (by simp) rfl rfl rfl;refine ⟨undef,{w with heap:=w.heap.setIfInBounds b (.map ents' ck')},.skip,?_,.inr ⟨rfl,rfl⟩,λht=>by rw [hop]at ht;simp [qdj]at ht,X,qg1 (qp3 O r []) [] o.dst (st.qo r [.mp es']).E.length [],?_⟩
    ·simp only [execOp,hop,Sem.run_bind,hvm,hrun,Result.andThen_ok,Sem.run_pure]
    ·rw [qbV];exact ⟨hset.qin o.dst (z:=.undef) (v:=undef) (O':=[]) (by simp [Rep]) Lin.nil (by simp) (by simp [V.qq]),hsetF.qin o.dst (by simp)⟩
   ·cases hx
  ·cases hx
 ·-- insert
  rename_i t mo ko xo hop;split at hx
  ·rename_i r k x;split at hx
   ·rename_i es hes;obtain ⟨es',hv,he⟩:=qc.1 hx;obtain ⟨rfl,rfl,rfl⟩:=Prod.mk.inj he |>.imp id Prod.mk.inj
    have hops:o.op.operands.toList=[mo,ko,xo]:=by rw [hop];rfl
    rw [hops]at hrep;obtain ⟨u1,u2,u3,O1,O2,O3,hu,rfl,h1,h2,h3⟩:=qmO hrep;simp only [qh,List.map_nil,List.cons.injEq,and_true]at hu;obtain ⟨rfl,rfl,rfl⟩:=hu;obtain ⟨b,ents,ck,hvm,hβ,hw,hes'⟩:=qlf h h1 hes;obtain ⟨ents',ck',hrun,hes2⟩:=qox hv h2 h3 hw hes';have hset:=h.qo (c':=[.mp es']) (Ob:=[]) (w':={w with heap:=w.heap.setIfInBounds b (.map ents' ck')}) hes hβ (λk hk=>(qgT hw).2 k hk) (by simp) (.inr (.inr ⟨es',ents',ck',rfl,(qgT hw).1,hes2,rfl⟩)) Lin.nil (by simp) (by simp [ptrsL,V.qq]);have hsetF:=Fr.qo (c':=[.mp es']) (Ob:=[]) (w':={w with heap:=w.heap.setIfInBounds b (.map ents' ck')}) h hF hes hβ rfl (λk hk=>(qgT hw).2 k hk) (by simp) (by simp) rfl rfl rfl;refine ⟨undef,{w with heap:=w.heap.setIfInBounds b (.map ents' ck')},.skip,?_,.inr ⟨rfl,rfl⟩,λht=>by rw [hop]at ht;simp [qdj]at ht,X,qg1 (qp3 O r []) [] o.dst (st.qo r [.mp es']).E.length [],?_⟩
    ·simp only [execOp,hop,Sem.run_bind,hvm,hrun,Result.andThen_ok,Sem.run_pure]
    ·rw [qbV];exact ⟨hset.qin o.dst (z:=.undef) (v:=undef) (O':=[]) (by simp [Rep]) Lin.nil (by simp) (by simp [V.qq]),hsetF.qin o.dst (by simp)⟩
   ·cases hx
  ·cases hx
 ·-- len
  rename_i args argTypes hop;split at hx
  ·rename_i r;split at hx
   ·rename_i es hes;split at hx
    ·rename_i kt vt hat;split at hx
     ·obtain ⟨t,ht0,hu⟩:=qd.1 hat;simp only [qb,Prod.mk.injEq]at hx;obtain ⟨rfl,rfl,rfl⟩:=hx;have hops:o.op.operands.toList=args.toList:=by rw [hop];simp [Op.operands,Call.operands]
      rw [hops]at hrep;simp only [RepL]at hrep;obtain ⟨u1,vs,O1,O2,hu1,_,h1,rfl,_⟩:=hrep;obtain ⟨b,ents,ck,hvm,_,hw,hes'⟩:=qlf h h1 hes;have hargs:args.map a.eval=#[.map (some b)]:=by
       apply Array.ext';simp [hu1,hvm]
      have hrun:(Builtin.len_ argTypes o.type #[.map (some b)]).run P w=.ok (.int .i64 es.length) w:=by
       have hsz:ents.size=es.length:=by rw [<- hes'];simp
       simp [Builtin.len_,ht0,run_underlying hu,qq8 hw,goInt,hsz]
      refine ⟨.int .i64 es.length,w,.value (.int .i64 es.length),?_,.inl rfl,λ_=>⟨rfl,rfl⟩,X,qg1 O [] o.dst st.E.length [],?_⟩
      ·simp only [execOp,hop,resolve,Sem.run_bind,Sem.run_pure,Result.andThen_ok,invoke,hargs,builtin,hrun]
      ·rw [qbV];exact ⟨h.qin o.dst (O':=[]) (by simp [Rep]) Lin.nil (by simp) (by simp [V.qq]),hF.qin o.dst (by simp)⟩
     ·cases hx
    ·cases hx
   ·cases hx
  ·cases hx
 ·cases hx
mutual
theorem rep_adopt{X':Cx}{r q:Root}{b:Nat}(h1:X.β r=some b)(h2:X'.β q=some b)(hω:X'.ω=X.ω):∀(x:V) (v:Value) (O:List Nat),x.onlyMaps=true->(∀k∈x.qq,k=r)->Rep w X x v O->Rep w X' (x.adopt q) v O
 |.undef,_,_,_,_,hr=>by simpa only [V.adopt,Rep]using hr
 |.val _,_,_,_,_,hr=>by simpa only [V.adopt,Rep]using hr
 |.mref k,v,O,_,hp,hr=>by
  simp only [V.adopt,Rep]at hr ⊢;obtain ⟨h0,b',hb',hv⟩:=hr;rw [hp k (by simp [V.qq]),h1]at hb';cases hb'
  exact ⟨h0,b,h2,hv⟩
 |.iface t x,v,O,ho,hp,hr=>by
  cases x with
  |undef=>simpa only [V.adopt,Rep]using hr
  |_=>simp [V.onlyMaps]at ho
 |.ptr ..,_,_,ho,_,_|.yld _,_,_,ho,_,_|.bsl ..,_,_,ho,_,_|.lp ..,_,_,ho,_,_=>by simp [V.onlyMaps]at ho
 |.mp _,_,_,_,_,hr=>by simp only [Rep]at hr
 |.cptr f cs,v,O,ho,hp,hr=>by
  simp only [V.onlyMaps]at ho;simp only [V.adopt,Rep]at hr ⊢;obtain ⟨h0,b',off,vals,hv,hs,⟨e,fz,hω',hle,hsh⟩,hl,hno⟩:=hr;exact ⟨h0,b',off,vals,hv,hs,⟨e,fz,by rw [hω];exact hω',hle,hsh⟩,repL_adopt h1 h2 hω cs vals [] ho (λk hk=>hp k (by simpa [V.qq]using hk)) hl,hno⟩
 |.sl f c l,v,O,_,_,hr=>by
  have e:Ext [] w X w X' (λ_=>False):={β:=by simp,ω:=λb e fz h=>⟨e,fz,by rw [hω];exact h,Nat.le_refl _,id,λ_=>⟨rfl,rfl⟩⟩,cell:=λ_ _ _ _ _ _ _ h=>h,obj:=λb e fz c t _ _ h=>⟨c,h,rfl⟩}
  simp only [V.adopt];exact Rep.ext e _ _ _ (by simp [V.qq]) (by simp) hr
 |.room s n,v,O,_,_,hr=>by
  have e:Ext [] w X w X' (λ_=>False):={β:=by simp,ω:=λb e fz h=>⟨e,fz,by rw [hω];exact h,Nat.le_refl _,id,λ_=>⟨rfl,rfl⟩⟩,cell:=λ_ _ _ _ _ _ _ h=>h,obj:=λb e fz c t _ _ h=>⟨c,h,rfl⟩}
  simp only [V.adopt];exact Rep.ext e _ _ _ (by simp [V.qq]) (by simp) hr
 |.fn f a c,v,O,ho,hp,hr=>by
  simp only [V.onlyMaps,qe]at ho;simp only [V.adopt,Rep]at hr ⊢;obtain ⟨va,vc,O1,O2,hv,rfl,h3,h4⟩:=hr;exact ⟨va,vc,O1,O2,hv,rfl,repL_adopt h1 h2 hω a va O1 ho.1 (λk hk=>hp k (by simp [V.qq,hk])) h3,repL_adopt h1 h2 hω c vc O2 ho.2 (λk hk=>hp k (by simp [V.qq,hk])) h4⟩
 |.agg l,v,O,ho,hp,hr=>by
  simp only [V.onlyMaps]at ho;simp only [V.adopt,Rep]at hr ⊢;obtain ⟨vals,hv,h3⟩:=hr;exact ⟨vals,hv,repL_adopt h1 h2 hω l vals O ho (λk hk=>hp k (by simpa [V.qq]using hk)) h3⟩
 |.tuple l,v,O,ho,hp,hr=>by
  simp only [V.onlyMaps]at ho;simp only [V.adopt,Rep]at hr ⊢;obtain ⟨vals,hv,h3⟩:=hr;exact ⟨vals,hv,repL_adopt h1 h2 hω l vals O ho (λk hk=>hp k (by simpa [V.qq]using hk)) h3⟩
theorem repL_adopt{X':Cx}{r q:Root}{b:Nat}(h1:X.β r=some b)(h2:X'.β q=some b)(hω:X'.ω=X.ω):∀(l:List V) (vals:List Value) (O:List Nat),onlyMapsL l=true->(∀k∈ptrsL l,k=r)->RepL w X l vals O->RepL w X' (adoptL q l) vals O
 |[],_,_,_,_,hr=>by simpa only [adoptL,RepL]using hr
 |x::l,vals,O,ho,hp,hr=>by
  simp only [onlyMapsL,qe]at ho;simp only [adoptL,RepL]at hr ⊢;obtain ⟨u,vs,O1,O2,hv,rfl,h3,h4⟩:=hr;exact ⟨u,vs,O1,O2,hv,rfl,rep_adopt h1 h2 hω x u O1 ho.1 (λk hk=>hp k (by simp [ptrsL,hk])) h3,repL_adopt h1 h2 hω l vs O2 ho.2 (λk hk=>hp k (by simp [ptrsL,hk])) h4⟩
end
mutual
theorem adopt_ptrs(q:Root):∀(x:V),x.onlyMaps=true->∀k∈(x.adopt q).qq,k=q
 |.undef,_|.val _,_|.sl ..,_|.room ..,_|.mp _,_=>by simp [V.adopt,V.qq]
 |.mref _,_=>by simp [V.adopt,V.qq]
 |.iface t x,ho=>by
  cases x with
  |undef=>simp [V.adopt,V.qq]
  |_=>simp [V.onlyMaps]at ho
 |.ptr ..,ho|.yld _,ho|.bsl ..,ho|.lp ..,ho=>by simp [V.onlyMaps]at ho
 |.fn f a c,ho=>by
  simp only [V.onlyMaps,qe]at ho;simp only [V.adopt,V.qq,qj];rintro k (hk|hk)
  ·exact adoptL_ptrs q a ho.1 k hk
  ·exact adoptL_ptrs q c ho.2 k hk
 |.agg l,ho=>by
  simp only [V.onlyMaps]at ho;simp only [V.adopt,V.qq];exact adoptL_ptrs q l ho
 |.cptr _ l,ho=>by
  simp only [V.onlyMaps]at ho;simp only [V.adopt,V.qq];exact adoptL_ptrs q l ho
 |.tuple l,ho=>by
  simp only [V.onlyMaps]at ho;simp only [V.adopt,V.qq];exact adoptL_ptrs q l ho
theorem adoptL_ptrs(q:Root):∀(l:List V),onlyMapsL l=true->∀k∈ptrsL (adoptL q l),k=q
 |[],_=>by simp [adoptL,ptrsL]
 |x::l,ho=>by
  simp only [onlyMapsL,qe]at ho;simp only [adoptL,ptrsL,qj];rintro k (hk|hk)
  ·exact adopt_ptrs q x ho.1 k hk
  ·exact adoptL_ptrs q l ho.2 k hk
end
mutual
theorem rep_noowns:∀(x:V) (v:Value) (O:List Nat),x.owns=false->Rep w X x v O->O=[]
 |.undef,_,_,_,h=>by simp only [Rep]at h;exact h
 |.val _,_,_,_,h=>by simp only [Rep]at h;exact h.2
 |.ptr ..,_,_,_,h=>by simp only [Rep]at h;exact h.1
 |.yld _,_,_,_,h=>by simp only [Rep]at h;exact h.1
 |.mref _,_,_,_,h=>by simp only [Rep]at h;exact h.1
 |.bsl ..,_,_,_,h=>by simp only [Rep]at h;exact h.1
 |.cptr ..,_,_,_,h=>by simp only [Rep]at h;exact h.1
 |.room ..,_,_,ho,_=>by simp [V.owns]at ho
 |.sl f c l,v,O,ho,h=>by
  simp only [V.owns,Bool.or_eq_false_iff,decide_eq_false_iff_not]at ho;simp only [Rep]at h;obtain ⟨_,h⟩:=h;rcases h with ⟨_,h0,_⟩|⟨b,off,cap,s,vals,O',_,_,_,_,_,_,_,_,_,_,ho'⟩
  ·exact h0
  ·exact (ho' ho.1).1
 |.fn f a c,v,O,ho,h=>by
  simp only [V.owns,Bool.or_eq_false_iff]at ho;simp only [Rep]at h;obtain ⟨va,vc,O1,O2,_,rfl,h1,h2⟩:=h;rw [repL_noowns a va O1 ho.1 h1,repL_noowns c vc O2 ho.2 h2];rfl
 |.iface t x,v,O,ho,h=>by simp only [V.owns]at ho;simp only [Rep]at h;obtain ⟨u,_,h1⟩:=h;exact rep_noowns x u O ho h1
 |.agg l,v,O,ho,h=>by simp only [V.owns]at ho;simp only [Rep]at h;obtain ⟨vals,_,h1⟩:=h;exact repL_noowns l vals O ho h1
 |.tuple l,v,O,ho,h=>by simp only [V.owns]at ho;simp only [Rep]at h;obtain ⟨vals,_,h1⟩:=h;exact repL_noowns l vals O ho h1
 |.lp ..,_,_,_,h=>by simp only [Rep]at h
 |.mp _,_,_,_,h=>by simp only [Rep]at h
theorem repL_noowns:∀(l:List V) (vals:List Value) (O:List Nat),ownsL l=false->RepL w X l vals O->O=[]
 |[],_,_,_,h=>by simp only [RepL]at h;exact h.2
 |x::l,vals,O,ho,h=>by
  simp only [ownsL,Bool.or_eq_false_iff]at ho;simp only [RepL]at h;obtain ⟨u,vs,O1,O2,_,rfl,h1,h2⟩:=h;rw [rep_noowns x u O1 ho.1 h1,repL_noowns l vs O2 ho.2 h2];rfl
end
theorem qzp{C:Orc}(hC:∀g args r s es,C.born g args=some (r,s,es)->qvF P g args r s es){w0:World}{X0:Cx}{Md:Md}{n:Nat}{st:St}{tmps:Array Value}{O:Pl->List Nat}{g:FuncId}{first args cap:List V}{vals:List Value}{Oa:List Nat}{T:List Tmp}{z:V}{s:St}{d:Option Tmp}{fp:Fp}
  (h:Rel st tmps w X O) (hF:Fr w0 X0 Md n st w X O) (ha:RepL w X (first++args++cap) vals Oa) (hin:∀b∈Oa,∃t∈T,b∈O (.tmp t))
  (hx:qkY C d (.fn g first cap) args {st with E:=qA st.E T}=some (z,s,fp)) :
  qoA True P g vals.toArray w λv w'=>∃X' O',Rel (s.put d z) (qmG tmps d v) w' X' O'/\Fr w0 X0 Md n (s.put d z) w' X' O':=by
 unfold qkY at hx;cases d with
 |none=>cases hx
 |some d =>
 simp only at hx;split at hx
 rotate_left
 ·cases hx
 rename_i hc;simp only [qe,Bool.not_eq_true',List.isEmpty_iff,Option.isNone_iff_eq_none]at hc;obtain ⟨⟨hnp,hl⟩,hnb⟩:=hc;split at hx
 rotate_left
 ·cases hx
 rename_i r s0 es hr;obtain ⟨rfl,rfl,_⟩:=Prod.mk.inj (Option.some.inj hx) |>.imp id Prod.mk.inj
 obtain ⟨hom,hpr,hok⟩:=hC _ _ _ _ _ hr;have hOalt:=repL_dom h.dom _ vals Oa ha;have hok:=hok w ((X.freeze Oa).callee (looseL (first++args++cap)) λ_=>false) vals
  (by rw [show (first++args++cap).map V.share=reflagL qL (first++args++cap)from (qG _ _).symm];exact qoh ha (λ_ _=>rfl) (λ_ _=>rfl)) ((hF.now.freeze Oa).callee _ _)
  (λb e fz hω=>by
   simp only [Cx.callee,Cx.freeze,qf,if_false]at hω;by_cases hb:b∈Oa
   ·exact hOalt b hb
   ·rw [if_neg hb]at hω;obtain ⟨p,hp,_⟩:=qd.1 hω;exact h.dom b p.1 p.2 hp)
  (by rw [show (first++args++cap).map V.share=reflagL qL (first++args++cap)from (qG _ _).symm,ptrsL_reflag];exact hnp)
  (λb e fz hω=>by
   simp only [Cx.callee,qf,if_false]at hω;obtain ⟨p,_,hc⟩:=qd.1 hω;split at hc
   ·cases hc;rfl
   ·cases hc)
 refine hok.mono id ?_;rintro v w' ⟨X',b,ents,ck,hrep,hdom,hβ,hb1,hb2,hωb,hw,hes,haft⟩;have hnoM:∀b,¬ Mod [] ((X.freeze Oa).callee (looseL (first++args++cap)) λ_=>false) (λ_=>[]) b:=λb hb=>by
  rcases hb with ⟨q,h1,_⟩|⟨q,h1⟩
  ·simp [qa9]at h1
  ·simp at h1
 let X2:Cx:=(X.freeze Oa).back X' w.heap.size λ_=>false
 have hX2:∀b,X2.ω b=if b<w.heap.size then (X.freeze Oa).ω b else X'.ω b:=λb=>by simp [X2,Cx.back]
 have heff:Eff w X w' X2 Oa:={
  size:=haft.size
  kept:=λb hb _=>(haft.kept b hb (hnoM b)).1
  ωk:=λb hb hn=>by rw [hX2,if_pos hb];simp [Cx.freeze,hn]
  own:=λb hb e fz hω=>by
   have hlt:=hOalt b hb;refine ⟨e,true,by rw [hX2,if_pos hlt,frozen_ω hω];simp [hb],Nat.le_refl _,λ_=>rfl,λi v _ hc=>by rw [qC (haft.kept b hlt (hnoM b)).1];exact hc,λc t hc=>⟨c,by rw [(haft.kept b hlt (hnoM b)).1];exact hc,rfl⟩⟩
  β:=rfl
  dom:=λb e fz hω=>by
   rw [hX2]at hω;split at hω
   ·have:=haft.size;omega
   ·exact hdom b e fz hω
  os:=haft.os
  out:=haft.out
  tape:=haft.tape}
 have hold:∀b e fz,X'.ω b=some (e,fz)->b<w.heap.size->fz=true/\(X.freeze Oa).ω b=some (e,true):=λb e fz hω hlt=>by
  rw [(haft.kept b hlt (hnoM b)).2]at hω;simp only [Cx.callee,qf,if_false]at hω;obtain ⟨p,hp,hc⟩:=qd.1 hω;split at hc
  ·rename_i h1;cases hc;refine ⟨rfl,?_⟩;have:p.2=true:=by rw [hl]at h1;simpa using h1
   rw [hp,<- this]
  ·cases hc
 let X3:Cx:={β:=X'.β,ω:=X2.ω}
 have hrep3:Rep w' X3 r v []:=by
  refine Rep.ext (X:=X') (X':=X3) (w':=w') (R:=r.qq) (U:=λ_=>False) {β:=λ_ _=>rfl,ω:=λb e fz hω=>?_,cell:=λ_ _ _ _ _ _ _ h=>h,obj:=λb e fz c t _ _ h=>⟨c,h,rfl⟩} _ _ _ (λ_ h=>h) (by simp) hrep;refine ⟨e,fz,?_,Nat.le_refl _,id,λ_=>⟨rfl,rfl⟩⟩;show X2.ω b=_;rw [hX2];split
  ·rename_i hlt;obtain ⟨rfl,h1⟩:=hold b e fz hω hlt;exact h1
  ·exact hω
 have h1:=h.put (T:=T) (O':=[]) (z:=.undef) (v:=undef) none hin heff (by simp [Rep]) Lin.nil (by simp) (by simp [V.qq]);have hF1:=Fr.put (z:=.undef) h hF (T:=T) (O':=[]) none hin heff (by simp);change Rel {st with E:=qA st.E T} tmps w' X2 _ at h1
 change Fr w0 X0 Md n {st with E:=qA st.E T} w' X2 _ at hF1
 have hωb2:X2.ω b=none:=by rw [hX2,if_neg (by omega)];exact hωb
 have h2:=h1.qrj (d:=q4 d) (b:=b) (es:=es) hnb hb2 hωb2 hw hes (λr hr e=>by
  obtain ⟨c,hc⟩:=Option.isSome_iff_exists.1 (show (st.box r).isSome=true from hr);obtain ⟨b',hb',hlt,_⟩:=h.box r c hc;rw [show X2.β r=X.β r from rfl]at e;rw [e]at hb';cases hb';omega)
 have hF2:=Fr.qrj (es:=es) (d:=q4 d) (b:=b) h1 hF1 hnb (Nat.le_trans hF.size hb1);have hz:Rep w' (X2.setβ ⟨st.L.length,q4 d⟩ b) (r.adopt ⟨st.L.length,q4 d⟩) v [] :=
  rep_adopt (X:=X3) (X':=X2.setβ ⟨st.L.length,q4 d⟩ b) (r:=⟨0,s0⟩) (q:=⟨st.L.length,q4 d⟩) (b:=b) hβ (by simp [Cx.setβ]) rfl r v [] hom hpr hrep3
 exact ⟨_,_,h2.qin (some d) hz Lin.nil (by simp) (λq hq=>by
  rw [adopt_ptrs _ r hom q hq];rw [qfV {st with E:=qA st.E T} (q4 d) _ hnb];simp),hF2.qin (some d) (by simp)⟩
theorem qAS{C:Orc}(hC:∀g c,C.seq g=some c->qzZ P g c){w0:World}{X0:Cx}{Md:Md}{n:Nat}{st:St}{tmps:Array Value}{O:Pl->List Nat}{g:FuncId}{first args cap:List V}{vals:List Value}{Oa:List Nat}{T:List Tmp}{z:V}{s:St}{d:Option Tmp}{fp:Fp}
  (h:Rel st tmps w X O) (hF:Fr w0 X0 Md n st w X O) (ha:RepL w X (first++args++cap) vals Oa)
  (hx:qvE C d (.fn g first cap) args {st with E:=qA st.E T}=some (z,s,fp)) :
  qoA True P g vals.toArray w λv w'=>∃X' O',Rel (s.put d z) (qmG tmps d v) w' X' O'/\Fr w0 X0 Md n (s.put d z) w' X' O':=by
 unfold qvE at hx;cases d with
 |none=>cases hx
 |some d =>
 simp only at hx;split at hx
 rotate_left
 ·cases hx
 rename_i str sep hl;split at hx
 rotate_left
 ·cases hx
 rename_i clos hs;split at hx
 rotate_left
 ·cases hx
 rename_i hnb;rw [Option.isNone_iff_eq_none]at hnb;obtain ⟨rfl,rfl,_⟩:=Prod.mk.inj (Option.some.inj hx) |>.imp id Prod.mk.inj
 rw [hl]at ha;simp only [RepL,Rep]at ha;obtain ⟨_,_,_,_,rfl,_,⟨rfl,_⟩,_,_,_,_,rfl,_,⟨rfl,_⟩,rfl,_⟩:=ha;refine (hC g clos hs str sep w).mono id ?_;rintro v w' ⟨rfl,t,t2,t3,rfl⟩;have h1:=h.taken T;have hF1:=Fr.taken h hF T;have h2:=h1.qmi (d:=d) (c:=[.val (.string str)]) (arr:=#[.string str]) (t:=t) (Oc:=[]) hnb (by simp only [RepL,Rep];exact ⟨_,_,[],[],rfl,rfl,⟨rfl,rfl⟩,rfl,rfl⟩) Lin.nil (by simp) (by simp [ptrsL,V.qq]);have hF2:=Fr.qmi (d:=d) (c:=[.val (.string str)]) (arr:=#[.string str]) (t:=t) (Oc:=[]) h1 hF1 hnb (by simp);let w1:=w.alloc (.cells #[.string str] t)
 let w3:=(w1.alloc (.cells #[.string sep] t2)).alloc (.cells #[.int .i64 0] t3)
 have hs1:w1.heap.size=w.heap.size+1:=by simp [w1]
 have hs3:w3.heap.size=w.heap.size+3:=by simp [w3,hs1]
 let X1:Cx:=X.setβ ⟨st.L.length,d⟩ w.heap.size
 let X3:Cx:={β:=X1.β,ω:=λb=>if b=w.heap.size+1\/b=w.heap.size+2 then some (1,true)else X1.ω b}
 have hold:∀b,b<w1.heap.size->w3.heap[b]?=w1.heap[b]?:=λb hb=>by
  show ((w1.alloc (.cells #[.string sep] t2)).alloc (.cells #[.int .i64 0] t3)).heap[b]?=_;rw [heap_alloc_old _ _ (by simp;omega),heap_alloc_old _ _ hb]
 have heff:Eff w1 X1 w3 X3 []:={
  size:=by omega
  kept:=λb hb _=>hold b hb
  ωk:=λb hb _=>by show (if _ then _ else _)=_;rw [if_neg (by omega)]
  own:=by simp
  β:=rfl
  dom:=λb e fz hω=>by
   change (if b=w.heap.size+1\/b=w.heap.size+2 then some (1,true)else X1.ω b)=some (e,fz)at hω
   split at hω
   ·omega
   ·have:=h2.dom b e fz hω;change b<w1.heap.size at this
    omega
  os:=rfl
  out:=rfl
  tape:=rfl}
 have c1:w3.heap[w.heap.size+1]?=some (.cells #[.string sep] t2 (0,0)):=by
  show ((w1.alloc (.cells #[.string sep] t2)).alloc (.cells #[.int .i64 0] t3)).heap[_]?=_;rw [heap_alloc_old _ _ (by simp;omega),<- hs1];exact heap_alloc_new _ _
 have c2:w3.heap[w.heap.size+2]?=some (.cells #[.int .i64 0] t3 (0,0)):=by
  show ((w1.alloc (.cells #[.string sep] t2)).alloc (.cells #[.int .i64 0] t3)).heap[_]?=_;have:w.heap.size+2=(w1.alloc (.cells #[.string sep] t2)).heap.size:=by simp<;>omega
  rw [this];exact heap_alloc_new _ _
 have seg:∀(b:Nat) (u:Value) (ty:TypeId),w3.heap[b]?=some (.cells #[u] ty (0,0))->Seg w3 b 0 [u]:=λb u ty hb i v hi=>by
  cases i with
  |zero=>cases hi;simp [World.cell?,hb]
  |succ i=>simp at hi
 have hz:Rep w3 X3 (.fn clos [] [.cptr .shared [.val (.string sep)],.ptr ⟨st.L.length,d⟩ 0,.cptr .shared [.val (.int .i64 0)]])
   (.func (.func clos) #[] #[.pointer (some ⟨w.heap.size+1,0,none⟩),.pointer (some ⟨w.heap.size,0,none⟩),.pointer (some ⟨w.heap.size+2,0,none⟩)]) []:=by
  have r1:Rep w3 X3 (.cptr .shared [.val (.string sep)]) (.pointer (some ⟨w.heap.size+1,0,none⟩)) []:=by
   simp only [Rep,RepL];exact ⟨trivial,_,0,[.string sep],rfl,seg _ _ _ c1,⟨1,true,if_pos (.inl rfl),by simp,λ_=>rfl⟩,⟨_,_,[],[],rfl,rfl,⟨rfl,rfl⟩,rfl,rfl⟩,by simp⟩
  have r2:Rep w3 X3 (.ptr ⟨st.L.length,d⟩ 0) (.pointer (some ⟨w.heap.size,0,none⟩)) []:=by
   simp only [Rep];exact ⟨trivial,_,by show X1.β _=_;simp [X1,Cx.setβ],rfl⟩
  have r3:Rep w3 X3 (.cptr .shared [.val (.int .i64 0)]) (.pointer (some ⟨w.heap.size+2,0,none⟩)) []:=by
   simp only [Rep,RepL];exact ⟨trivial,_,0,[.int .i64 0],rfl,seg _ _ _ c2,⟨1,true,if_pos (.inr rfl),by simp,λ_=>rfl⟩,⟨_,_,[],[],rfl,rfl,⟨rfl,rfl⟩,rfl,rfl⟩,by simp⟩
  have:RepL w3 X3 [.cptr .shared [.val (.string sep)],.ptr ⟨st.L.length,d⟩ 0,.cptr .shared [.val (.int .i64 0)]] [.pointer (some ⟨w.heap.size+1,0,none⟩),.pointer (some ⟨w.heap.size,0,none⟩),.pointer (some ⟨w.heap.size+2,0,none⟩)] []:=by
   simp only [RepL];exact ⟨_,_,[],[],rfl,rfl,r1,_,_,[],[],rfl,rfl,r2,_,_,[],[],rfl,rfl,r3,rfl,rfl⟩
  simp only [Rep];exact ⟨[],_,[],[],rfl,rfl,by simp only [RepL];exact ⟨trivial,trivial⟩,this⟩
 have h3:=h2.put (T:=[]) (Oin:=[]) (O':=[]) (some d) (by simp) heff hz Lin.nil (by simp) (λq hq=>by
  simp only [V.qq,ptrsL,List.nil_append,List.append_nil,List.cons_append,List.mem_singleton]at hq;subst hq;have hb:=qfV {st with E:=qA st.E T} d [.val (.string str)] hnb ⟨st.L.length,d⟩;rw [if_pos rfl]at hb;exact Option.isSome_iff_exists.2 ⟨_,hb⟩)
 have hF3:=Fr.put (z:=.fn clos [] [.cptr .shared [.val (.string sep)],.ptr ⟨st.L.length,d⟩ 0,.cptr .shared [.val (.int .i64 0)]]) h2 hF2 (T:=[]) (Oin:=[]) (O':=[]) (some d) (by simp) heff (by simp);simp only [St.put,qmG,List.set_set,Array.setIfInBounds_setIfInBounds,qnJ]at h3 hF3;exact ⟨_,_,h3,hF3⟩
theorem qq5{g:FuncId}{first cap args:List V}{q:Root}(h:qgS (.fn g first cap) args=some q):∀r∈ptrsL (first++args++cap),r=q:=by
 unfold qgS at h;simp only at h;split at h
 ·rename_i q' rest hp;split at h
  ·rename_i hc;simp only [qb]at h;subst h;simp only [qe,List.all_eq_true,decide_eq_true_eq]at hc;intro r hr;rw [hp]at hr;rcases qk.1 hr with rfl|hr
   ·rfl
   ·exact hc.1 r hr
  ·cases h
 ·cases h
theorem qtA(n:Nat)(q:Root)(c:List V):(qjK n q c).length=n:=by simp [qjK]
theorem qyu{n:Nat}{q:Root}{c:List V}(hq:q.lvl<n)(r:Root):qa9 (qjK n q c) r=if r=q then some c else none:=by
 obtain ⟨l,s⟩:=r;obtain ⟨ql,qs⟩:=q;simp only at hq;unfold qa9 qjK;simp only [List.getElem?_map];by_cases hl:l<n
 ·rw [List.getElem?_range hl];simp only [qi];by_cases h1:l=ql
  ·subst h1;simp only [if_true,qy];by_cases h2:qs=s
   ·subst h2;simp
   ·rw [if_neg h2,if_neg (λe=>h2 (by cases e;rfl))]
  ·rw [if_neg h1,if_neg (λe=>h1 (by cases e;rfl))];rfl
 ·rw [List.getElem?_eq_none (by simp;omega)];rw [if_neg (λe=>by cases e;exact hl hq)];rfl
theorem qx1{C:Orc}(hC:∀g args M r M',C.call g args M=some (r,M')->qaS P g args M r M'){w0:World}{X0:Cx}{Md:Md}{n:Nat}{st:St}{tmps:Array Value}{O:Pl->List Nat}{g:FuncId}{args:List V}{vals:List Value}{Oa:List Nat}{T:List Tmp}{z:V}{s:St}{d:Option Tmp}{q:Root}
  (h:Rel st tmps w X O) (hF:Fr w0 X0 Md n st w X O) (ha:RepL w X args vals Oa) (hin:∀b∈Oa,∃t∈T,b∈O (.tmp t)) (hp:∀r∈ptrsL args,r=q)
  (hx:qfO C g args q {st with E:=qA st.E T}=some (z,s)) :
  qoA True P g vals.toArray w λv w'=>∃X' O',Rel (s.put d z) (qmG tmps d v) w' X' O'/\Fr w0 X0 Md n (s.put d z) w' X' O':=by
 unfold qfO at hx;split at hx
 rotate_left
 ·cases hx
 rename_i es hes0;have hes:st.box q=some [.mp es]:=hes0;split at hx
 rotate_left
 ·cases hx
 rename_i r M' hr;split at hx
 rotate_left
 ·cases hx
 rename_i hc;simp only [qe,List.isEmpty_iff,Bool.not_eq_true']at hc;obtain ⟨hrp,hro⟩:=hc;split at hx
 rotate_left
 ·cases hx
 rename_i es' hbM;obtain ⟨rfl,rfl⟩:=Prod.mk.inj (Option.some.inj hx);obtain ⟨b,hβ,hlt,hωb,hbx⟩:=h.box q _ hes;obtain ⟨ents,ck,hwb,hents,_⟩:=hbx.map;have hOaω:=repL_own args vals Oa ha;have hOalt:=repL_dom h.dom args vals Oa ha;have hql:q.lvl<st.L.length+1:=by have:=qql (st:=st) (r:=q) (by rw [hes];rfl);omega
 have hbh:=qyu (c:=[.mp es]) hql;have hL:LRel (qjK (st.L.length+1) q [.mp es]) w (X.freeze Oa) (λ_=>[]):={
  box:=λr c hc=>by
   rw [hbh]at hc;split at hc
   ·rename_i e;cases hc;subst e;exact ⟨b,hβ,hlt,by simp [Cx.freeze,hωb],.inr (.inr ⟨es,ents,ck,rfl,hwb,hents,rfl⟩)⟩
   ·cases hc
  boxD:=λ_ _=>rfl
  inj:=λr r' b h1 h2 _ _=>by
   rw [hbh]at h1 h2;split at h1
   ·split at h2
    ·rename_i e1 e2;rw [e1,e2]
    ·cases h2
   ·cases h1
  lin:=λ_=>Lin.nil
  dis:=λ_ _ _ _ h=>by simp at h
  ptrB:=λr c hc r' hr'=>by
   rw [hbh]at hc;split at hc
   ·cases hc;simp [ptrsL,V.qq]at hr'
   ·cases hc
  up:=λr c hc r' hr'=>by
   rw [hbh]at hc;split at hc
   ·cases hc;simp [ptrsL,V.qq]at hr'
   ·cases hc
  dom:=(qjG h.dom hOaω).dom}
 have hne:qjK (st.L.length+1) q [.mp es]≠[]:=λe=>by have:=qtA (st.L.length+1) q [.mp es];rw [e]at this;simp at this
 have hok:=hC _ _ _ _ _ hr w (X.freeze Oa) vals (λ_=>[]) (by rw [show args.map V.hand=reflagL qgv args from (qG _ _).symm];exact qmM ha) (hF.now.freeze Oa) hL
  (λr hr=>by
   rw [show args.map V.hand=reflagL qgv args from (qG _ _).symm,ptrsL_reflag]at hr;rw [hbh,if_pos (hp r hr)];rfl) (λe=>absurd e hne)
 refine hok.mono (λ_=>trivial) ?_;rintro v w' ⟨X',O',Or,hrep,hLR,_,_,_,hlen,_,haft⟩;have hOr:Or=[]:=rep_noowns r v Or hro hrep;subst hOr;have hnoM:∀k,k≠b->¬ Mod (qjK (st.L.length+1) q [.mp es]) (X.freeze Oa) (λ_=>[]) k:=by
  rintro k hk (⟨r',h1,h2⟩|⟨r',h1⟩)
  ·rw [hbh]at h1;split at h1
   ·rename_i e;subst e;rw [show (X.freeze Oa).β r'=X.β r' from rfl,hβ]at h2;cases h2;exact hk rfl
   ·cases h1
  ·simp at h1
 obtain ⟨b',hβ',hlt',hωb',hbx'⟩:=hLR.box q _ hbM;have hbb:b'=b:=by
  have h1:=haft.β q (by rw [qtA];exact hql);rw [hβ',show (X.freeze Oa).β q=X.β q from rfl,hβ]at h1;exact Option.some.inj h1
 subst hbb;obtain ⟨ents',ck',hwb',hents',_⟩:=hbx'.map;have hw1b:(w'.heap.setIfInBounds b' (.map ents ck))[b']?=some (.map ents ck):=(qgT hwb').1;have hw1k:∀k,k≠b'->(w'.heap.setIfInBounds b' (.map ents ck))[k]?=w'.heap[k]?:=(qgT hwb').2;have hωold:∀k,k<w.heap.size->X'.ω k=(X.freeze Oa).ω k:=λk hk=>by
  by_cases hkb:k=b'
  ·subst hkb;rw [hωb'];simp [Cx.freeze,hωb]
  ·exact (haft.kept k hk (hnoM k hkb)).2
 have heff:Eff w X {w' with heap:=w'.heap.setIfInBounds b' (.map ents ck)} {β:=X.β,ω:=X'.ω} Oa:={
  size:=by have:=haft.size;simpa using this
  kept:=λk hk _=>by
   by_cases hkb:k=b'
   ·subst hkb;rw [hw1b,hwb]
   ·rw [hw1k k hkb];exact (haft.kept k hk (hnoM k hkb)).1
  ωk:=λk hk hn=>by show X'.ω k=_;rw [hωold k hk];simp [Cx.freeze,hn]
  own:=λk hk e fz hω=>by
   have hkl:=hOalt k hk;have hkb:k≠b':=λe'=>by subst e';rw [hωb]at hω;cases hω
   refine ⟨e,true,by show X'.ω k=_;rw [hωold k hkl,frozen_ω hω];simp [hk],Nat.le_refl _,λ_=>rfl,λi v _ hc=>?_,λc t hc=>⟨c,?_,rfl⟩⟩
   ·rw [qC (w:=w) (w':={w' with heap:=w'.heap.setIfInBounds b' (.map ents ck)}) (by rw [hw1k k hkb];exact (haft.kept k hkl (hnoM k hkb)).1)];exact hc
   ·rw [hw1k k hkb,(haft.kept k hkl (hnoM k hkb)).1];exact hc
  β:=rfl
  dom:=λk e fz hω=>by have:=hLR.dom k e fz hω;simpa using this
  os:=haft.os
  out:=haft.out
  tape:=haft.tape}
 have h1:=h.put (T:=T) (O':=[]) (z:=.undef) (v:=undef) none hin heff (by simp [Rep]) Lin.nil (by simp) (by simp [V.qq]);have hF1:=Fr.put (z:=.undef) h hF (T:=T) (O':=[]) none hin heff (by simp);change Rel {st with E:=qA st.E T} tmps _ _ _ at h1
 change Fr w0 X0 Md n {st with E:=qA st.E T} _ _ _ at hF1
 have hes1:({st with E:=qA st.E T}:St).box q=some [.mp es]:=hes;have hset:=h1.qo (c':=[.mp es']) (Ob:=[]) (w':=w') hes1 hβ (λk hk=>(hw1k k hk).symm) (by simp) (.inr (.inr ⟨es',ents',ck',rfl,hwb',hents',rfl⟩)) Lin.nil (by simp) (by simp [ptrsL,V.qq]);have hsetF:=Fr.qo (c':=[.mp es']) (Ob:=[]) (w':=w') h1 hF1 hes1 hβ rfl (λk hk=>(hw1k k hk).symm) (by simp) (by simp) rfl rfl rfl;have hz:Rep w' {β:=X.β,ω:=X'.ω} r v [] :=
  Rep.ext (X:=X') (X':={β:=X.β,ω:=X'.ω}) (w':=w') (R:=[]) (U:=λ_=>False) {β:=by simp,ω:=λk e fz hω=>⟨e,fz,hω,Nat.le_refl _,id,λ_=>⟨rfl,rfl⟩⟩,cell:=λ_ _ _ _ _ _ _ h=>h,obj:=λb e fz c t _ _ h=>⟨c,h,rfl⟩} _ _ _ (by rw [hrp];simp) (by simp) hrep
 exact ⟨_,_,hset.qin d hz Lin.nil (by simp) (by rw [hrp];simp),hsetF.qin d (by simp)⟩
end
section
variable {P:Program} {H:Hints} {f:FuncId} {w:World} {X:Cx}
theorem qci{α β γ:Type}{a a':α}{b b':β}{c c':γ}(h:some (a,b,c)=some (a',b',c')):a=a'/\b=b'/\c=c':=by
 cases h;exact ⟨rfl,rfl,rfl⟩
theorem qm2{C:Orc}{o:Oper}{xs:List V}{st s:St}{z:V}{fp:Fp}(hx:qbp P H C f o xs st=some (z,s,fp)) :
  (∃t d z0,o.op=.alloc t/\o.dst=some d/\zeroOf P H f t=some z0/\qy st.B d=none/\z=.ptr ⟨st.L.length,d⟩ 0/\s={st with B:=qb2 d z0.cells st.B}/\fp=.fresh ⟨st.L.length,d⟩) \/
  (∃t a d x,o.op=.box t a/\o.dst=some d/\xs=[x]/\qy st.B d=none/\x.cells.length=P.cellsOf t/\x.oks=true/\z=.ptr ⟨st.L.length,d⟩ 0/\s={st with B:=qb2 d x.cells st.B}/\fp=.fresh ⟨st.L.length,d⟩) \/
  (∃c fo fv args,o.op=.call c/\c.callee=.value fo/\xs=fv::args/\qh5 H fv args=false/\qgA C fv args st=some (z,s)/\fp=(if qdb fv args then .none else if qb6 C fv then .looks else .all)) \/
  (rootOf o.op xs=none/\qaG P H f (q7 H f o) o.op o.type xs none=some (z,none)/\s=st/\fp=.none) \/
  (∃r,rootOf o.op xs=some r/\qaG P H f (q7 H f o) o.op o.type xs (st.box r)=some (z,none)/\s=st/\fp=.root r (qae P o.op xs).1 (qae P o.op xs).2 false) \/
  (∃r c,rootOf o.op xs=some r/\qaG P H f (q7 H f o) o.op o.type xs (st.box r)=some (z,some c)/\(qkZ o.op xs).all (λp=>decide (p.lvl<=r.lvl))=true/\s=st.qo r c/\fp=.root r (qae P o.op xs).1 (qae P o.op xs).2 true) \/
  (∃c fo fv args,o.op=.call c/\c.callee=.value fo/\xs=fv::args/\qh5 H fv args=true/\qh0 H C o.dst fv args st=some (z,s,fp)) \/
  (qcT o.op xs=true/\mapStep P H f o xs st=some (z,s,fp)):=by
 unfold qbp at hx;split at hx
 ·rename_i t hop;split at hx
  ·rename_i d z0 hd hz;split at hx
   ·rename_i hl;obtain ⟨rfl,rfl,rfl⟩:=qci hx;exact .inl ⟨t,d,z0,hop,hd,hz,by simpa using hl,rfl,rfl,rfl⟩
   ·cases hx
  ·cases hx
 ·rename_i t a hop;split at hx
  ·rename_i d x hd;split at hx
   ·rename_i hl;obtain ⟨rfl,rfl,rfl⟩:=qci hx;exact .inr (.inl ⟨t,a,d,x,hop,hd,rfl,by simpa using hl.1,hl.2.1,hl.2.2,rfl,rfl,rfl⟩)
   ·cases hx
  ·cases hx
 ·rename_i fo a1 a2 hop;split at hx
  ·rename_i fv args;split at hx
   ·rename_i hbn;exact .inr (.inr (.inr (.inr (.inr (.inr (.inl ⟨_,fo,fv,args,hop,rfl,rfl,hbn,hx⟩))))))
   ·rename_i hbn;obtain ⟨⟨v,s'⟩,h1,h2⟩:=qc.1 hx;obtain ⟨rfl,rfl,rfl⟩:=qci (congrArg some h2);exact .inr (.inr (.inl ⟨_,fo,fv,args,hop,rfl,rfl,by simpa using hbn,h1,rfl⟩))
  ·cases hx
 ·split at hx
  ·rename_i hmo;exact .inr (.inr (.inr (.inr (.inr (.inr (.inr ⟨hmo,hx⟩))))))
  split at hx
  ·rename_i hr;split at hx
   ·rename_i v hv;obtain ⟨rfl,rfl,rfl⟩:=qci hx;exact .inr (.inr (.inr (.inl ⟨hr,hv,rfl,rfl⟩)))
   ·cases hx
  ·rename_i r hr;split at hx
   ·rename_i v hv;obtain ⟨rfl,rfl,rfl⟩:=qci hx;exact .inr (.inr (.inr (.inr (.inl ⟨r,hr,hv,rfl,rfl⟩))))
   ·rename_i v c hv;split at hx
    ·rename_i hall;obtain ⟨rfl,rfl,rfl⟩:=qci hx;simp only [qe]at hall;exact .inr (.inr (.inr (.inr (.inr (.inl ⟨r,c,hr,hv,hall.1,rfl,rfl⟩)))))
    ·cases hx
   ·cases hx
theorem qbI{op:Op}{xs:List V}{r:Root}(h:rootOf op xs=some r):∃off rest,xs=.ptr r off::rest/\((∃t a,op=.load t a)\/∃t a x,op=.store t a x):=by
 unfold rootOf at h;split at h
 ·cases h;exact ⟨_,_,rfl,.inl ⟨_,_,rfl⟩⟩
 ·cases h;exact ⟨_,_,rfl,.inr ⟨_,_,_,rfl⟩⟩
 ·cases h
theorem qek{F:Fence}(hFF:F=Fence.wide\/∃l,F=Fence.wide.inRound l){o:Oper}{a:Act}{K:Act->World->Prop}{Q:Exit->Act->World->Prop}{g:FuncId}{args:Array Value}{w:World}
  {ext:Prop} (h:qoA ext P g args w λv w'=>K (a.put o.dst v) w'):o.uponIn F 0 P a K Q ((callFunc g args).run P w):=by
 rcases h with ⟨h1,h2⟩|⟨_,v,w',h1,h2⟩
 ·rw [h1,Oper.uponIn_enter];refine ⟨λhd=>by rcases hFF with rfl|⟨l,rfl⟩<;>simp [Fence.wide,Fence.inRound]at hd,?_⟩;have h3:CallsIn Fence.wide (0-1) P g args w fun
   |.returned v,w''=>K (a.put o.dst v) w''
   |.panicked chain,w''=>Q (.panic chain) a w''
   |.outgrown,_=>LetsOut Q:=callsIn_wide.2 (h2.mono λe w' ⟨v,he,hk⟩=>by subst he;exact hk)
  rcases hFF with rfl|⟨l,rfl⟩
  ·exact h3
  ·exact h3
 ·rw [h1,Oper.uponIn_value];exact h2
theorem qsf(E:List V):qA E []=E:=rfl
theorem qs5{C:Orc}(hC:OrcOk P C){F:Fence}(hFF:F=Fence.wide\/∃l,F=Fence.wide.inRound l){w0:World}{X0:Cx}{Md:Md}{n:Nat}{st st':St}{a:Act}{o:Oper}(hS:Sim w0 X0 Md n st a.tmps w)
  (hx:qjt P H C f o st=some st') {K:Act->World->Prop} {Q:Exit->Act->World->Prop} (hK:∀v w',Sim w0 X0 Md n st' (a.put o.dst v).tmps w'->K (a.put o.dst v) w'):o.wpIn F 0 P a w K Q:=by
 obtain ⟨X,O,h,hF⟩:=hS;unfold qjt qd9 at hx;obtain ⟨⟨st2,fp⟩,hx1,hx2⟩:=qc.1 hx;clear hx;simp only at hx2;subst hx2;split at hx1
 ·cases hx1
 ·rename_i hn0;have hn:q7 H f o=true->qcb (tmpsOf o)=true:=λht=>by simpa [ht]using hn0
  obtain ⟨⟨z,s,fp'⟩,hm,he⟩:=qc.1 hx1;obtain ⟨rfl,rfl⟩:=Prod.mk.inj he;clear hx1 he;have hab:∀g,o.about P w a.eval=some g->F.fn g:=λg _=>by rcases hFF with rfl|⟨l,rfl⟩<;>trivial
  refine ⟨hab,?_⟩;obtain ⟨Oin,hrep,hs,hlin⟩:=qbj (H:=H) (f:=f) h o _ hn;have hin:∀b∈Oin,∃t∈tmpsOf o,b∈O (.tmp t):=λb hb=>(hs b hb).2;have hnil:q7 H f o=false->Oin=[]:=λht=>by
   cases Oin with
   |nil=>rfl
   |cons b l=>have:=(hs b (by simp)).1;rw [ht]at this;cases this
  have hst1:(if q7 H f o=true then {st with E:=qA st.E (tmpsOf o)}else st)={st with E:=qA st.E (if q7 H f o=true then tmpsOf o else [])}:=by split<;>rfl
  rw [hst1]at hm;generalize hT:(if q7 H f o=true then tmpsOf o else [])=T at hm;have hin':∀b∈Oin,∃t∈T,b∈O (.tmp t):=λb hb=>by
   have h1:=(hs b hb).1;rw [if_pos h1]at hT;subst hT;exact hin b hb
  rcases qm2 hm with ⟨t,d,z0,hop,hd,hz,hlb,rfl,rfl,rfl⟩|⟨t,ao,d,x,hop,hd,hxs,hlb,hxl,hok,rfl,rfl,rfl⟩|⟨c,fo,fv,args,hop,hcal,hxs,_,hv,_⟩|⟨hr,hsem,rfl,_⟩|⟨r,hr,hsem,rfl,_⟩|⟨r,c,hr,hsem,hall,rfl,_⟩|⟨c,fo,fv,args,hop,hcal,hxs,_,hv⟩|⟨hmo,hmp⟩
  ·-- alloc
   rw [Oper.semAt_eq _ _ _ (by intro c hc;rw [hop]at hc;cases hc)];obtain ⟨i,u,hi,hu,rfl⟩:=qdk hz;have hrun:(execOp a.eval o).run P w=.ok (.value (.pointer (some ⟨w.heap.size,0,none⟩))) (w.alloc (.cells u.cells t)):=by
    simp only [execOp,hop,Instr.alloc,Sem.run_bind,zeroValue,typeInfo,run_program,Result.andThen_ok,hi,hu,Sem.run_pure,newVar,newRow,run_newObj_alloc]
   rw [hrun,Oper.uponIn_value];refine hK _ _ ⟨X.setβ ⟨st.L.length,d⟩ w.heap.size,qrY (qg1 O T none st.E.length []) ⟨st.L.length,d⟩ d [],?_⟩;rw [qbV,hd];have h1:=h.taken T;have hF1:=Fr.taken h hF T;exact ⟨h1.qmi hlb (qdK _ _) Lin.nil (by simp) (λr hr=>by
     obtain ⟨y,hy,hr⟩:=qD.1 hr;have:=qce (H.precise f) u;exact absurd hr (by
      intro hr;have h2:r∈ptrsL (ofConst (H.precise f) u).cells:=qD.2 ⟨y,hy,hr⟩;have h3:=qeL h2;rw [this]at h3;simp at h3)),Fr.qmi h1 hF1 hlb (by simp)⟩
  ·-- box
   rw [Oper.semAt_eq _ _ _ (by intro c hc;rw [hop]at hc;cases hc)];have hops:o.op.operands.toList=[ao]:=by rw [hop];rfl
   rw [hops]at hrep hxs;simp only [qh,List.map_nil,List.cons.injEq,and_true]at hxs;subst hxs;simp only [qh,List.map_nil,RepL]at hrep;obtain ⟨u,vs,O1,O2,hu,rfl,hr1,rfl,rfl⟩:=hrep;simp only [List.cons.injEq,and_true]at hu;subst hu;have hrun:(execOp a.eval o).run P w=.ok (.value (.pointer (some ⟨w.heap.size,0,none⟩))) (w.alloc (.cells (a.eval ao).cells t)):=by
    simp only [execOp,hop,Instr.box,Sem.run_bind,Result.andThen_ok,Sem.run_pure,newVar,newRow,run_newObj_alloc]
   rw [hrun,Oper.uponIn_value];refine hK _ _ ⟨X.setβ ⟨st.L.length,d⟩ w.heap.size,qrY (qg1 O T none st.E.length []) ⟨st.L.length,d⟩ d O1,?_⟩;rw [qbV,hd];have h1:=h.taken T;have hF1:=Fr.taken h hF T;have hfree:=h.free (T:=T) (Oin:=O1++[]) (O':=O1) hin' (λb hb=>.inl (by simpa using hb));refine ⟨h1.qmi hlb (qcg hok hr1).1 (by simpa using hlin) (λk hk q hq hkq=>?_) (λr hr=>?_),Fr.qmi h1 hF1 hlb (λk hk=>?_)⟩
   ·cases q with
    |tmp s =>
     simp only [qg1]at hkq;rw [if_neg (by simp)]at hkq;split at hkq
     ·simp at hkq
     ·rename_i hns;exact hfree k hk (.tmp s) (λt ht e=>hns (by cases e;exact ht)) hkq
    |box r=>exact hfree k hk (.box r) (λt _ e=>by cases e) hkq
   ·have h2:=qeL hr;exact h.ptrE r (qmI h2)
   ·obtain ⟨t',_,hkt⟩:=hin' k (by simpa using hk);exact hF.own _ k hkt
  ·-- a call
   rw [Oper.semAt_eq _ _ _ (by intro c hc;rw [hop]at hc;cases hc)];have hops:o.op.operands.toList=fo::c.args.toList:=by rw [hop];simp [Op.operands,Call.operands,hcal]
   rw [hops]at hrep hxs;simp only [qh,List.cons.injEq]at hxs;obtain ⟨hfv,hargs⟩:=hxs;simp only [qh,RepL]at hrep;obtain ⟨u,vs,O1,O2,hu,rfl,hr1,hr2⟩:=hrep;rw [hfv]at hr1;rw [hargs]at hr2;simp only [List.cons.injEq]at hu;obtain ⟨rfl,rfl⟩:=hu;have hpE:∀q,q∈fv.qq\/q∈ptrsL args->(st.box q).isSome=true:=λq hq=>by
    refine h.ptrE q ?_;rcases hq with hq|hq
    ·rw [<- hfv]at hq;exact qmI hq
    ·rw [<- hargs]at hq;exact qtX hq
   have hexec:execOp a.eval o=(do let d <- resolve a.eval c o.type;invoke d.target d.args):=by simp only [execOp,hop]
   have hres:resolve a.eval c o.type=Deferred.ofValue (a.eval fo) (c.args.map a.eval):=by simp only [resolve,hcal]
   rw [hexec,hres];cases fv with
   |fn g first cap =>
    simp only [Rep]at hr1;obtain ⟨va,vc,A1,A2,hv1,rfl,ha1,ha2⟩:=hr1;rw [hv1];have hrun:(Deferred.ofValue (.func (.func g) va.toArray vc.toArray) (c.args.map a.eval) >>= λd=>invoke d.target d.args).run P w=(callFunc g (va++c.args.toList.map a.eval++vc).toArray).run P w:=by
     simp only [Deferred.ofValue,Sem.run_bind,Sem.run_pure,Result.andThen_ok,invoke];congr 2
     apply Array.ext';simp
    have hall:RepL w X (first++args++cap) (va++c.args.toList.map a.eval++vc) (A1++O2++A2):=qaq (qaq ha1 hr2) ha2;have hcount:∀b,(A1++O2++A2).count b=(A1++A2++O2).count b:=λb=>by simp only [List.count_append]<;>omega
    have hv':qeX C g (first++args++cap) {st with E:=qA st.E T}=some (z,s):=hv;have hcall:=qv8 (d:=o.dst) hC.call h hF (T:=T) rfl hall (λb hb=>hin' b (by
      have:=hcount b;have h1:=List.count_pos_iff.2 hb;exact List.count_pos_iff.1 (by omega))) (λb=>by rw [hcount];exact hlin b) (λq hq=>by
      rw [q9,q9]at hq;simp only [qj]at hq;refine hpE q ?_;rcases hq with (hq|hq)|hq
      ·exact .inl (by simp [V.qq,hq])
      ·exact .inr hq
      ·exact .inl (by simp [V.qq,hq])) hv'
    rw [hrun];exact qek hFF (hcall.mono id λv w' ⟨X',O',h1,h2,_⟩=>hK v w' (by rw [qbV];exact ⟨X',O',h1,h2⟩))
   |yld r =>
    simp only [Rep]at hr1;obtain ⟨rfl,b,hb,hv1⟩:=hr1;rw [hv1];obtain ⟨h1,hF1,hhand⟩:=qkx (T:=T) h hF (args:=args) (Oa:=O2) (by simpa using hr2) (λb hb=>hin' b (by simpa using hb));have hv':qjx C r args {st with E:=qA st.E T}=some (z,s):=hv;obtain ⟨lo,hlo,hlen,hround⟩:=qy3 hC h1 hF1 hhand (λq hq=>hpE q (.inr hq)) hv' (b:=b) hb;have hsz:(c.args.map a.eval).size=lo.params.size:=by rw [<- hlen];simp
    have hrun:(Deferred.ofValue (.func (.yield b) #[] #[]) (c.args.map a.eval) >>= λd=>invoke d.target d.args).run P w=.ok (.round b lo.fn ((lo.params.zip (c.args.map a.eval)).foldl (λtmps (t,a)=>tmps.setIfInBounds t a) lo.tmps) lo.assign lo.body) w:=by
     simp only [Deferred.ofValue,Sem.run_bind,Sem.run_pure,Result.andThen_ok,invoke,Array.empty_append];exact run_yield hlo hsz
    rw [hrun,Oper.uponIn_round];refine ⟨λhd=>by rcases hFF with rfl|⟨l,rfl⟩<;>simp [Fence.wide,Fence.inRound]at hd,?_⟩;have harr:(c.args.toList.map a.eval).toArray=c.args.map a.eval:=by apply Array.ext';simp
    have h3:=hround F hFF;rw [harr]at h3;refine RoundIn.mono h3 ?_;intro e w' he;cases e with
    |returned v =>
     obtain ⟨X',O',hR',hF',hz',hzp⟩:=he;refine hK v w' ⟨X',qg1 O' [] o.dst s.E.length [],?_⟩;rw [qbV];exact ⟨hR'.qin o.dst hz' Lin.nil (by simp) (by simp [hzp]),hF'.qin o.dst (by simp)⟩
    |panicked ch=>exact he.elim
    |outgrown=>exact he.elim
   |_=>simp [qgA]at hv
  ·-- a value
   have hnd:∀c,o.op≠.defer c:=by intro c hc;rw [hc]at hsem;simp [qaG]at hsem
   rw [Oper.semAt_eq _ _ _ hnd];obtain ⟨v,w',hrun,hSim⟩:=qvn h hF hn hsem;rw [hrun,Oper.uponIn_value];refine hK v w' ?_;rw [hst1,hT]at hSim;exact hSim
  ·-- a load that leaves the box asz it is
   obtain ⟨off,rest,hxs,hop⟩:=qbI hr;rcases hop with ⟨t,ao,hop⟩|⟨t,ao,xo,hop⟩
   ·rw [Oper.semAt_eq _ _ _ (by intro c hc;rw [hop]at hc;cases hc)];have hops:o.op.operands.toList=[ao]:=by rw [hop];rfl
    rw [hops]at hrep hxs;simp only [qh,List.map_nil,List.cons.injEq]at hxs;obtain ⟨hx1,rfl⟩:=hxs;simp only [qh,List.map_nil,RepL]at hrep;obtain ⟨u,vs,O1,O2,hu,rfl,hr1,rfl,rfl⟩:=hrep;simp only [List.cons.injEq,and_true]at hu;subst hu;rw [hx1]at hr1;have hbx:∃cs,({st with E:=qA st.E T}:St).box r=some cs:=by
     cases hh:({st with E:=qA st.E T}:St).box r with
     |some cs=>exact ⟨cs,rfl⟩
     |none=>rw [hops,qh,List.map_nil,hx1,hop,hh]at hsem;simp [qaG]at hsem
    obtain ⟨cs,hcs⟩:=hbx;rw [hops,qh,List.map_nil,hx1,hop,hcs]at hsem;simp only [qaG]at hsem;obtain ⟨v,hrun,hSim⟩:=qhc (dst:=o.dst) (h.taken T) (Fr.taken h hF T) hr1 hcs hsem;have hrun':(execOp a.eval o).run P w=.ok (.value v) w:=by simp only [execOp,hop,Sem.run_bind,hrun,Result.andThen_ok,Sem.run_pure]
    rw [hrun',Oper.uponIn_value];exact hK v w hSim
   ·have hops:o.op.operands.toList=[ao,xo]:=by rw [hop];rfl
    rw [hops]at hxs hsem;simp only [qh,List.map_nil,List.cons.injEq]at hxs;obtain ⟨hx1,rfl⟩:=hxs;rw [qh,qh,List.map_nil,hx1,hop]at hsem;simp only [qaG]at hsem;split at hsem
    ·split at hsem<;>simp at hsem
    ·cases hsem
  ·obtain ⟨off,rest,hxs,hop⟩:=qbI hr;rcases hop with ⟨t,ao,hop⟩|⟨t,ao,xo,hop⟩
   ·-- a load that q7
    rw [Oper.semAt_eq _ _ _ (by intro c hc;rw [hop]at hc;cases hc)];have hops:o.op.operands.toList=[ao]:=by rw [hop];rfl
    rw [hops]at hrep hxs;simp only [qh,List.map_nil,List.cons.injEq]at hxs;obtain ⟨hx1,rfl⟩:=hxs;simp only [qh,List.map_nil,RepL]at hrep;obtain ⟨u,vs,O1,O2,hu,rfl,hr1,rfl,rfl⟩:=hrep;simp only [List.cons.injEq,and_true]at hu;subst hu;rw [hx1]at hr1;have hbx:∃cs,({st with E:=qA st.E T}:St).box r=some cs:=by
     cases hh:({st with E:=qA st.E T}:St).box r with
     |some cs=>exact ⟨cs,rfl⟩
     |none=>rw [hops,qh,List.map_nil,hx1,hop,hh]at hsem;simp [qaG]at hsem
    obtain ⟨cs,hcs⟩:=hbx;rw [hops,qh,List.map_nil,hx1,hop,hcs]at hsem;simp only [qaG]at hsem;obtain ⟨v,hrun,hSim⟩:=qhc (dst:=o.dst) (h.taken T) (Fr.taken h hF T) hr1 hcs hsem;have hrun':(execOp a.eval o).run P w=.ok (.value v) w:=by simp only [execOp,hop,Sem.run_bind,hrun,Result.andThen_ok,Sem.run_pure]
    rw [hrun',Oper.uponIn_value];exact hK v w hSim
   ·-- a store
    rw [Oper.semAt_eq _ _ _ (by intro c hc;rw [hop]at hc;cases hc)];have htk:q7 H f o=true:=by simp [q7,hop,qm6]
    have hops:o.op.operands.toList=[ao,xo]:=by rw [hop];rfl
    rw [hops]at hrep hxs;simp only [qh,List.map_nil,List.cons.injEq]at hxs;obtain ⟨hx1,rfl⟩:=hxs;simp only [qh,List.map_nil,RepL]at hrep;obtain ⟨u,vs,O1,O2,hu,rfl,hr1,u2,vs2,O3,O4,hu2,rfl,hr2,rfl,rfl⟩:=hrep;simp only [List.cons.injEq]at hu;obtain ⟨rfl,rfl⟩:=hu;simp only [List.cons.injEq,and_true]at hu2;subst hu2;rw [hx1]at hr1;have hO1:O1=[]:=by simp only [Rep]at hr1;exact hr1.1
    subst hO1;rw [hops,qh,qh,List.map_nil,hx1,hop]at hsem;simp only [qaG]at hsem;split at hsem
    ·rename_i cs hcs;split at hsem
     ·rename_i hcond;simp only [qb,Prod.mk.injEq]at hsem;obtain ⟨rfl,rfl⟩:=hsem;obtain ⟨w',hrun,hSim⟩:=qvm (dst:=o.dst) (T:=T) h hF hr1 hr2 (λb hb=>hin' b (by simpa using hb)) (by simpa using hlin) hcs hcond (λr' hr'=>h.ptrE r' (qmI hr')) (λr' hr'=>by
       rcases qgf r' hr' with h2|h2
       ·exact h.up r cs hcs r' h2
       ·rw [hops,qh,qh,List.map_nil,hx1,hop]at hall;have:=List.all_eq_true.1 hall r' (qeL h2);simpa using this)
      have hrun':(execOp a.eval o).run P w=.ok .skip w':=by simp only [execOp,hop,Sem.run_bind,hrun,Result.andThen_ok,Sem.run_pure]
      rw [hrun',Oper.uponIn_skip];exact hK _ w' hSim
     ·cases hsem
    ·cases hsem
  ·-- a call that gives a new map
   rw [Oper.semAt_eq _ _ _ (by intro c hc;rw [hop]at hc;cases hc)];have hops:o.op.operands.toList=fo::c.args.toList:=by rw [hop];simp [Op.operands,Call.operands,hcal]
   rw [hops]at hrep hxs;simp only [qh,List.cons.injEq]at hxs;obtain ⟨hfv,hargs⟩:=hxs;simp only [qh,RepL]at hrep;obtain ⟨u,vs,O1,O2,hu,rfl,hr1,hr2⟩:=hrep;rw [hfv]at hr1;rw [hargs]at hr2;simp only [List.cons.injEq]at hu;obtain ⟨rfl,rfl⟩:=hu;have hexec:execOp a.eval o=(do let d <- resolve a.eval c o.type;invoke d.target d.args):=by simp only [execOp,hop]
   have hres:resolve a.eval c o.type=Deferred.ofValue (a.eval fo) (c.args.map a.eval):=by simp only [resolve,hcal]
   rw [hexec,hres];cases fv with
   |fn g first cap =>
    simp only [Rep]at hr1;obtain ⟨va,vc,A1,A2,hv1,rfl,ha1,ha2⟩:=hr1;rw [hv1];have hrun:(Deferred.ofValue (.func (.func g) va.toArray vc.toArray) (c.args.map a.eval) >>= λd=>invoke d.target d.args).run P w=(callFunc g (va++c.args.toList.map a.eval++vc).toArray).run P w:=by
     simp only [Deferred.ofValue,Sem.run_bind,Sem.run_pure,Result.andThen_ok,invoke];congr 2
     apply Array.ext';simp
    have hall:RepL w X (first++args++cap) (va++c.args.toList.map a.eval++vc) (A1++O2++A2):=qaq (qaq ha1 hr2) ha2;have hcount:∀b,(A1++O2++A2).count b=(A1++A2++O2).count b:=λb=>by simp only [List.count_append]<;>omega
    have hinall:∀b∈A1++O2++A2,∃t∈T,b∈O (.tmp t):=λb hb=>hin' b (by
      have:=hcount b;have h1:=List.count_pos_iff.2 hb;exact List.count_pos_iff.1 (by omega))
    have hcall:qoA True P g (va++c.args.toList.map a.eval++vc).toArray w λv w'=>∃X' O',Rel (s.put o.dst z) (qmG a.tmps o.dst v) w' X' O'/\Fr w0 X0 Md n (s.put o.dst z) w' X' O':=by
     unfold qh0 at hv;split at hv
     ·exact qzp hC.born h hF (T:=T) hall hinall hv
     ·split at hv
      ·exact qAS hC.seq h hF (T:=T) hall hv
      cases hq:qgS (.fn g first cap) args with
      |none=>rw [hq]at hv;cases hv
      |some q =>
       rw [hq]at hv;obtain ⟨⟨v1,s1⟩,h1,h2⟩:=qc.1 hv;obtain ⟨rfl,rfl,_⟩:=qci (congrArg some h2);exact qx1 hC.call h hF (T:=T) hall hinall (qq5 hq) h1
    rw [hrun];exact qek hFF (hcall.mono id λv w' ⟨X',O',h1,h2⟩=>hK v w' (by rw [qbV];exact ⟨X',O',h1,h2⟩))
   |_=>simp [qh0,qiT,qqV]at hv
  ·-- a map
   have hnd:∀c,o.op≠.defer c:=by intro c hc;rw [hc]at hmo;simp [qcT]at hmo
   rw [Oper.semAt_eq _ _ _ hnd];obtain ⟨T',hT'⟩:∃T',T'=T:=⟨_,rfl⟩
   have h1:=h.taken T;have hF1:=Fr.taken h hF T;obtain ⟨v,w',r,hrun,hr,_,hSim⟩:=qnY (st:={st with E:=qA st.E T}) h1 hF1 hrep hmp;rcases hr with rfl|⟨rfl,rfl⟩
   ·rw [hrun,Oper.uponIn_value];exact hK v w' hSim
   ·rw [hrun,Oper.uponIn_skip];exact hK undef w' hSim
end
section
variable {P:Program} {H:Hints} {f:FuncId} {C:Orc}
theorem qc1(st:St)(E:List V)(r:Root):({st with E:=E}:St).box r=st.box r:=rfl
theorem qur(st:St)(E:List V):({st with E:=E}:St).box=st.box:=rfl
theorem qha(st:St)(E:List V)(r:Root)(c:List V):({st with E:=E}:St).qo r c={st.qo r c with E:=E}:=by
 unfold St.qo;split<;>rfl
theorem qAQ(g:FuncId)(args:List V)(st:St)(E:List V):qeX C g args {st with E:=E}=(qeX C g args st).map λ(v,s)=>(v,{s with E:=E}):=by
 unfold qeX;simp only
 by_cases hp:(ptrsL args).isEmpty=true
 ·rw [if_pos hp,if_pos hp];split<;>rfl
 ·rw [if_neg hp,if_neg hp];by_cases hpk:C.qhw g=true
  ·rw [if_pos hpk,if_pos hpk,qur];cases peekL st.box args with
   |none=>rfl
   |some xs =>
    simp only
    split
    ·split
     ·split<;>rfl
     ·rfl
    ·rfl
  rw [if_neg hpk,if_neg hpk];cases C.call g (args.map V.hand) (st.L++[st.B])with
  |none=>rfl
  |some p =>
   obtain ⟨r,M⟩:=p;simp only
   cases qc5 M with
   |none=>rfl
   |some q =>
    obtain ⟨L,B⟩:=q;simp only
    split<;>rfl
theorem qzt(r:Root)(args:List V)(st:St)(E:List V):qjx C r args {st with E:=E}=(qjx C r args st).map λ(v,s)=>(v,{s with E:=E}):=by
 unfold qjx;rw [qc1];split
 ·split
  ·rfl
  ·simp only
   split
   ·split
    ·split
     ·split
      ·split
       ·split<;>rfl
       ·rfl
      ·rfl
     ·rfl
    ·rfl
   ·rfl
 ·rfl
theorem qzq(fv:V)(args:List V)(st:St)(E:List V):qgA C fv args {st with E:=E}=(qgA C fv args st).map λ(v,s)=>(v,{s with E:=E}):=by
 unfold qgA;split
 ·exact qAQ ..
 ·exact qzt ..
 ·rfl
def qdl(P:Program)(H:Hints)(f:FuncId)(o:Oper)(xs:List V)(st:St):Option (V×St×Fp) :=
 if qcT o.op xs then mapStep P H f o xs st else match rootOf o.op xs with
  |none=>match qaG P H f (q7 H f o) o.op o.type xs none with
   |some (v,none)=>some (v,st,.none)
   |_=>none
  |some r=>match qaG P H f (q7 H f o) o.op o.type xs (st.box r)with
   |some (v,none)=>some (v,st,.root r (qae P o.op xs).1 (qae P o.op xs).2 false)
   |some (v,some c)=>if (qkZ o.op xs).all (λp=>decide (p.lvl<=r.lvl))&&decide ((qae P o.op xs).1+(qae P o.op xs).2<=c.length)then some (v,st.qo r c,.root r (qae P o.op xs).1 (qae P o.op xs).2 true)else none
   |none=>none
def qh4:Op->Bool
 |.alloc _|.box .. | .call {callee:=.value _,..}=>false
 |_=>true
theorem qX{o:Oper}(h:qh4 o.op=true)(xs:List V)(st:St):qbp P H C f o xs st=qdl P H f o xs st:=by
 unfold qbp;split
 ·rename_i hop;rw [hop]at h;simp [qh4]at h
 ·rename_i hop;rw [hop]at h;simp [qh4]at h
 ·rename_i hop;rw [hop]at h;simp [qh4]at h
 ·rfl
theorem qe9(o:Op):(∃t,o=.alloc t)\/(∃t a,o=.box t a)\/(∃c fo,o=.call c/\c.callee=.value fo)\/qh4 o=true:=by
 cases o<;>first|exact .inr (.inr (.inr rfl))|exact .inl ⟨_,rfl⟩|exact .inr (.inl ⟨_,_,rfl⟩)|skip
 rename_i c;cases hc:c.callee with
 |value fo=>exact .inr (.inr (.inl ⟨c,fo,rfl,hc⟩))
 |_=>refine .inr (.inr (.inr ?_));cases c;simp only at hc;subst hc;rfl
theorem qbf{o:Oper}{c:Call}{fo:Operand}(hop:o.op=.call c)(hc:c.callee=.value fo)(xs:List V)(st:St) :
  qbp P H C f o xs st=match xs with
   |fv::args=>if qh5 H fv args then qh0 H C o.dst fv args st else (qgA C fv args st).map λ(v,s)=>(v,s,if qdb fv args then .none else if qb6 C fv then .looks else .all)
   |[]=>none:=by
 unfold qbp;obtain ⟨cal,a1,a2⟩:=c;simp only at hc;subst hc;simp only [hop];cases xs<;>rfl
theorem qAP(d:Option Tmp)(fv:V)(args:List V)(st:St)(E:List V):qkY C d fv args {st with E:=E}=(qkY C d fv args st).map λ(z,m,fp)=>(z,{m with E:=E},fp):=by
 unfold qkY;split
 ·split
  ·split<;>rfl
  ·rfl
 ·rfl
theorem qBN(d:Option Tmp)(fv:V)(args:List V)(st:St)(E:List V):qvE C d fv args {st with E:=E}=(qvE C d fv args st).map λ(z,m,fp)=>(z,{m with E:=E},fp):=by
 unfold qvE;split
 ·split
  ·split
   ·split<;>rfl
   ·rfl
  ·rfl
 ·rfl
theorem qwN(o:Oper)(xs:List V)(st:St)(E:List V):mapStep P H f o xs {st with E:=E}=(mapStep P H f o xs st).map λ(z,m,fp)=>(z,{m with E:=E},fp):=by
 unfold mapStep;simp only [qc1,qha];split
 ·split
  ·split<;>rfl
  ·rfl
 ·split
  ·split
   ·cases qkp P H f _ _ _ _<;>rfl
   ·rfl
  ·rfl
 ·split
  ·split
   ·cases qiB P _ _ _ _<;>rfl
   ·rfl
  ·rfl
 ·split
  ·split
   ·cases qiB P _ _ _ _<;>rfl
   ·rfl
  ·rfl
 ·split
  ·split
   ·split
    ·split<;>rfl
    ·rfl
   ·rfl
  ·rfl
 ·rfl
theorem qfF{o:Oper}{xs:List V}{st m:St}{z:V}{fp:Fp}(h:mapStep P H f o xs st=some (z,m,fp)):(fp=.looks/\m=st)\/(∃q es es',fp=.mapw q/\st.box q=some [.mp es]/\m=st.qo q [.mp es']/\∀st2:St,st2.box q=some [.mp es]->mapStep P H f o xs st2=some (z,st2.qo q [.mp es'],fp)) \/
  (∃d,fp=.fresh ⟨st.L.length,d⟩/\qy st.B d=none/\m={st with B:=qb2 d [.mp []] st.B}/\∀st2:St,st2.L.length=st.L.length->qy st2.B d=none->mapStep P H f o xs st2=some (z,{st2 with B:=qb2 d [.mp []] st2.B},fp)):=by
 unfold mapStep at h;split at h
 ·rename_i hop;split at h
  ·rename_i d kt vt hd hu;split at h
   ·rename_i hc;obtain ⟨rfl,rfl,rfl⟩:=qci h;refine .inr (.inr ⟨q4 d,rfl,by simpa using hc.1,rfl,λst2 h1 h2=>?_⟩);unfold mapStep;simp only [hop,hd,hu,h1];rw [if_pos ⟨by rw [h2];rfl,hc.2⟩]
   ·cases h
  ·cases h
 ·split at h
  ·split at h
   ·obtain ⟨v,_,he⟩:=qc.1 h;obtain ⟨_,rfl,rfl⟩:=qci (congrArg some he);exact .inl ⟨rfl,rfl⟩
   ·cases h
  ·cases h
 ·rename_i hop;split at h
  ·split at h
   ·rename_i es hes;obtain ⟨v,hv,he⟩:=qc.1 h;obtain ⟨rfl,rfl,rfl⟩:=qci (congrArg some he);refine .inr (.inl ⟨_,es,v,rfl,hes,rfl,λst2 h2=>?_⟩);unfold mapStep;simp only [hop,h2,hv,qi]
   ·cases h
  ·cases h
 ·rename_i hop;split at h
  ·split at h
   ·rename_i es hes;obtain ⟨v,hv,he⟩:=qc.1 h;obtain ⟨rfl,rfl,rfl⟩:=qci (congrArg some he);refine .inr (.inl ⟨_,es,v,rfl,hes,rfl,λst2 h2=>?_⟩);unfold mapStep;simp only [hop,h2,hv,qi]
   ·cases h
  ·cases h
 ·split at h
  ·split at h
   ·split at h
    ·split at h
     ·obtain ⟨_,rfl,rfl⟩:=qci h;exact .inl ⟨rfl,rfl⟩
     ·cases h
    ·cases h
   ·cases h
  ·cases h
 ·cases h
theorem qzo{d:Option Tmp}{fv:V}{args:List V}{st m:St}{z:V}{fp:Fp}(h:qkY C d fv args st=some (z,m,fp)) :
  ∃d' c,fp=.fresh ⟨st.L.length,d'⟩/\qy st.B d'=none/\m={st with B:=qb2 d' c st.B}/\∀st2:St,st2.L.length=st.L.length->qy st2.B d'=none->qkY C d fv args st2=some (z,{st2 with B:=qb2 d' c st2.B},fp):=by
 unfold qkY at h;split at h
 ·rename_i g first cap d;split at h
  ·rename_i hc;split at h
   ·rename_i r s es hr;obtain ⟨rfl,rfl,rfl⟩:=qci h;simp only [qe,Option.isNone_iff_eq_none]at hc;refine ⟨q4 d,_,rfl,hc.2,rfl,λst2 h1 h2=>?_⟩;unfold qkY;simp only [hr,h1];rw [if_pos (by simp only [qe,Option.isNone_iff_eq_none];exact ⟨hc.1,h2⟩)]
   ·cases h
  ·cases h
 ·cases h
theorem qAR{d:Option Tmp}{fv:V}{args:List V}{st m:St}{z:V}{fp:Fp}(h:qvE C d fv args st=some (z,m,fp)) :
  ∃d' c,fp=.fresh ⟨st.L.length,d'⟩/\qy st.B d'=none/\m={st with B:=qb2 d' c st.B}/\∀st2:St,st2.L.length=st.L.length->qy st2.B d'=none->qvE C d fv args st2=some (z,{st2 with B:=qb2 d' c st2.B},fp):=by
 unfold qvE at h;split at h
 ·rename_i g first cap d;split at h
  ·rename_i s sep hl;split at h
   ·rename_i clos hs;split at h
    ·rename_i hc;obtain ⟨rfl,rfl,rfl⟩:=qci h;rw [Option.isNone_iff_eq_none]at hc;refine ⟨d,_,rfl,hc,rfl,λst2 h1 h2=>?_⟩;unfold qvE;simp only [hl,hs,h1];rw [if_pos (by rw [h2];rfl)]
    ·cases h
   ·cases h
  ·cases h
 ·cases h
theorem qtg{g:FuncId}{args:List V}{q:Root}{st m:St}{z:V}(h:qfO C g args q st=some (z,m)) :
  ∃es es',st.box q=some [.mp es]/\m=st.qo q [.mp es']/\∀st2:St,st2.L.length=st.L.length->st2.box q=some [.mp es]->qfO C g args q st2=some (z,st2.qo q [.mp es']):=by
 unfold qfO at h;split at h
 ·rename_i es hes;split at h
  ·rename_i r M hr;split at h
   ·rename_i hc;split at h
    ·rename_i es' hb;obtain ⟨rfl,rfl⟩:=Prod.mk.inj (Option.some.inj h);refine ⟨es,es',hes,rfl,λst2 h1 h2=>?_⟩;unfold qfO;simp only [h2,h1,hr];rw [if_pos hc,hb]
    ·cases h
   ·cases h
  ·cases h
 ·cases h
theorem qjy{d:Option Tmp}{fv:V}{args:List V}{st m:St}{z:V}{fp:Fp}(h:qh0 H C d fv args st=some (z,m,fp)) :
  (∃d' c,fp=.fresh ⟨st.L.length,d'⟩/\qy st.B d'=none/\m={st with B:=qb2 d' c st.B}/\∀st2:St,st2.L.length=st.L.length->qy st2.B d'=none->qh0 H C d fv args st2=some (z,{st2 with B:=qb2 d' c st2.B},fp)) \/
  (∃q es es',fp=.mapw q/\st.box q=some [.mp es]/\m=st.qo q [.mp es']/\∀st2:St,st2.L.length=st.L.length->st2.box q=some [.mp es]->qh0 H C d fv args st2=some (z,st2.qo q [.mp es'],fp)):=by
 unfold qh0 at h ⊢;by_cases hb:qiT H fv=true
 ·rw [if_pos hb]at h;simp only [hb,if_true];exact .inl (qzo h)
 ·rw [if_neg hb]at h;simp only [hb,qf,if_false];by_cases hb2:qqV H fv=true
  ·rw [if_pos hb2]at h;simp only [hb2,if_true];exact .inl (qAR h)
  rw [if_neg hb2]at h;simp only [hb2,qf,if_false];right
  split at h
  ·rename_i g first cap q hq;obtain ⟨⟨v,s⟩,h1,h2⟩:=qc.1 h;obtain ⟨rfl,rfl,rfl⟩:=qci (congrArg some h2);obtain ⟨es,es',h3,h4,h5⟩:=qtg h1;refine ⟨q,es,es',rfl,h3,h4,λst2 h6 h7=>?_⟩;rw [h5 st2 h6 h7];rfl
  ·cases h
theorem qzs(g:FuncId)(args:List V)(q:Root)(st:St)(E:List V):qfO C g args q {st with E:=E}=(qfO C g args q st).map λ(v,s)=>(v,{s with E:=E}):=by
 unfold qfO;simp only [qc1,qha];split
 ·split
  ·split
   ·split<;>rfl
   ·rfl
  ·rfl
 ·rfl
theorem qAT(d:Option Tmp)(fv:V)(args:List V)(st:St)(E:List V):qh0 H C d fv args {st with E:=E}=(qh0 H C d fv args st).map λ(z,m,fp)=>(z,{m with E:=E},fp):=by
 unfold qh0;split
 ·exact qAP ..
 split
 ·exact qBN ..
 ·split
  ·rw [qzs];cases qfO C _ _ _ st<;>rfl
  ·rfl
theorem qs4(o:Oper)(xs:List V)(st:St)(E:List V):qbp P H C f o xs {st with E:=E}=(qbp P H C f o xs st).map λ(z,m,fp)=>(z,{m with E:=E},fp):=by
 rcases qe9 o.op with ⟨t,hop⟩|⟨t,a,hop⟩|⟨c,fo,hop,hc⟩|hd
 ·unfold qbp;simp only [hop];split
  ·split<;>rfl
  ·rfl
 ·unfold qbp;simp only [hop];split
  ·split<;>rfl
  ·rfl
 ·rw [qbf hop hc,qbf hop hc];split
  ·split
   ·exact qAT ..
   ·rw [qzq];cases qgA C _ _ st<;>rfl
  ·rfl
 ·rw [qX hd,qX hd];unfold qdl;split
  ·exact qwN ..
  simp only [qc1,qha];split
  ·split<;>rfl
  ·split
   ·rfl
   ·split<;>rfl
   ·rfl
theorem qeu{o:Oper}{xs:List V}{st m:St}{z:V}(h:qbp P H C f o xs st=some (z,m,.none)):m=st/\∀st2,qbp P H C f o xs st2=some (z,st2,.none):=by
 rcases qe9 o.op with ⟨t,hop⟩|⟨t,a,hop⟩|⟨c,fo,hop,hc⟩|hd
 ·unfold qbp at h;simp only [hop]at h;split at h
  ·split at h<;>simp at h
  ·cases h
 ·unfold qbp at h;simp only [hop]at h;split at h
  ·split at h<;>simp at h
  ·cases h
 ·rw [qbf hop hc]at h;cases xs with
  |nil=>cases h
  |cons fv args =>
   simp only at h;split at h
   ·rcases qjy h with ⟨_,_,hp,_⟩|⟨_,_,_,hp,_⟩<;>cases hp
   rename_i hbn;obtain ⟨⟨v,s⟩,h1,h2⟩:=qc.1 h;obtain ⟨rfl,rfl,hp⟩:=qci (congrArg some h2);have hp':qdb fv args=true:=by
    by_cases hpc:qdb fv args=true
    ·exact hpc
    ·rw [if_neg hpc]at hp;split at hp<;>cases hp
   cases fv with
   |fn g first cap =>
    have hp2:(ptrsL (first++args++cap)).isEmpty=true:=hp';have h1':qeX C g (first++args++cap) st=some (v,s):=h1;unfold qeX at h1';rw [if_pos hp2]at h1';split at h1'
    ·rename_i r hr;obtain ⟨rfl,rfl⟩:=Prod.mk.inj (Option.some.inj h1');refine ⟨rfl,λst2=>?_⟩;rw [qbf hop hc];have h3:qgA C (.fn g first cap) args st2=some (if looseL (first++args++cap)=true then r.qba else r,st2):=by
      show qeX C g (first++args++cap) st2=_;unfold qeX;rw [if_pos hp2,hr]
     simp only [h3,qi,hp',if_true,hbn,qf,if_false]
    ·cases h1'
   |_=>simp [qdb]at hp'
 ·rw [qX hd]at h;unfold qdl at h;split at h
  ·rcases qfF h with ⟨h1,_⟩|⟨_,_,_,h1,_⟩|⟨_,h1,_⟩<;>cases h1
  rename_i hmo;split at h
  ·rename_i hr;split at h
   ·rename_i v hv;obtain ⟨rfl,rfl,_⟩:=qci h;refine ⟨rfl,λst2=>?_⟩;rw [qX hd];unfold qdl;rw [if_neg hmo,hr,hv]
   ·cases h
  ·split at h
   ·simp at h
   ·split at h<;>simp at h
   ·cases h
theorem qiv{o:Oper}{xs:List V}{st m:St}{z:V}(h:qbp P H C f o xs st=some (z,m,.looks)):m=st:=by
 rcases qe9 o.op with ⟨t,hop⟩|⟨t,a,hop⟩|⟨c,fo,hop,hc⟩|hd
 ·unfold qbp at h;simp only [hop]at h;split at h
  ·split at h<;>simp at h
  ·cases h
 ·unfold qbp at h;simp only [hop]at h;split at h
  ·split at h<;>simp at h
  ·cases h
 ·rw [qbf hop hc]at h;cases xs with
  |nil=>cases h
  |cons fv args =>
   simp only at h;split at h
   ·rcases qjy h with ⟨_,_,hp,_⟩|⟨_,_,_,hp,_⟩<;>cases hp
   rename_i hbn;obtain ⟨⟨v,s⟩,h1,h2⟩:=qc.1 h;obtain ⟨rfl,rfl,hp⟩:=qci (congrArg some h2);have hp':¬ qdb fv args=true:=λhpc=>by rw [if_pos hpc]at hp;cases hp
   rw [if_neg hp']at hp;have hlk:qb6 C fv=true:=by
    by_cases hl:qb6 C fv=true
    ·exact hl
    ·rw [if_neg hl]at hp;cases hp
   cases fv with
   |fn g first cap =>
    have hp2:¬ (ptrsL (first++args++cap)).isEmpty=true:=hp';have h1':qeX C g (first++args++cap) st=some (v,s):=h1;have hlk':C.qhw g=true:=hlk;unfold qeX at h1';rw [if_neg hp2,if_pos hlk']at h1';split at h1'
    ·split at h1'
     ·split at h1'
      ·split at h1'
       ·obtain ⟨_,rfl⟩:=Prod.mk.inj (Option.some.inj h1');rfl
       ·cases h1'
      ·cases h1'
     ·cases h1'
    ·cases h1'
   |_=>simp [qb6]at hlk
 ·rw [qX hd]at h;unfold qdl at h;split at h
  ·rcases qfF h with ⟨_,h1⟩|⟨_,_,_,h1,_⟩|⟨_,h1,_⟩
   ·exact h1
   ·cases h1
   ·cases h1
  split at h
  ·split at h<;>simp at h
  ·split at h
   ·simp at h
   ·split at h<;>simp at h
   ·cases h
theorem qeV{cs new:List V}{off:Nat}(h:off+new.length<=cs.length)(i:Nat):(qP cs off new)[i]?=if off<=i/\i<off+new.length then new[i-off]? else cs[i]?:=by
 unfold qP;have h1:(cs.take off).length=off:=by simp<;>omega
 by_cases hi:i<off
 ·rw [if_neg (by omega),List.append_assoc,qg (by omega),List.getElem?_take,if_pos hi]
 ·by_cases hj:i<off+new.length
  ·rw [if_pos ⟨by omega,hj⟩,qg (by simp;omega),List.getElem?_append_right (by omega),h1]
  ·rw [if_neg (by omega),List.getElem?_append_right (by simp;omega),List.getElem?_drop];congr 1
   simp<;>omega
theorem qbM{cs new:List V}{off:Nat}(h:off+new.length<=cs.length):(qP cs off new).length=cs.length:=by
 unfold qP;simp<;>omega
theorem qkH{cs new:List V}{off a n:Nat}(h:off+new.length<=cs.length)(hd:off+new.length<=a\/a+n<=off):((qP cs off new).drop a).take n=(cs.drop a).take n:=by
 apply List.ext_getElem?;intro i;rw [List.getElem?_take,List.getElem?_take];split
 ·rw [List.getElem?_drop,List.getElem?_drop,qeV h,if_neg (by omega)]
 ·rfl
theorem qs0{cs x y:List V}{a b:Nat}(hx:a+x.length<=cs.length)(hy:b+y.length<=cs.length)(hd:a+x.length<=b\/b+y.length<=a):qP (qP cs a x) b y=qP (qP cs b y) a x:=by
 apply List.ext_getElem?;intro i;rw [qeV (by rw [qbM hx];exact hy),qeV hx,qeV (by rw [qbM hy];exact hx),qeV hy];by_cases h1:a<=i/\i<a+x.length
 ·rw [if_pos h1,if_pos h1,if_neg (by omega)]
 ·rw [if_neg h1,if_neg h1]
theorem qlT{cs new:List V}{off:Nat}(h:off+new.length<=cs.length)(hc:qc3 cs=false)(hn:off=0->qc3 new=false):qc3 (qP cs off new)=false:=by
 have key:∀l l':List V,l[0]?=l'[0]?->qc3 l'=false->qc3 l=false:=λl l' e hl=>by
  cases l with
  |nil=>rfl
  |cons x l=>cases l' with
   |nil=>simp at e
   |cons y l' =>
    simp only [List.getElem?_cons_zero,qb]at e;subst e;cases x<;>first|rfl|(simp [qc3]at hl)
 by_cases h0:off=0/\0<new.length
 ·exact key _ new (by rw [qeV h,if_pos (by omega),h0.1]) (hn h0.1)
 ·exact key _ cs (by rw [qeV h,if_neg (by omega)]) hc
theorem qmZ(s:Nat)(c c':List V):∀B:Level,qdZ (qdZ B s c) s c'=qdZ B s c'
 |[]=>rfl
 |(k,d)::B=>by
  simp only [qdZ];by_cases h1:k=s
  ·simp [qdZ,h1]
  ·simp [qdZ,h1,qmZ s c c' B]
theorem qpL(st:St)(r:Root)(c c':List V):(st.qo r c).qo r c'=st.qo r c':=by
 obtain ⟨l,s⟩:=r;unfold St.qo;by_cases h1:l=st.L.length
 ·simp only [h1,if_true,qmZ]
 ·simp only [h1,if_false,List.length_modify];congr 1
  apply List.ext_getElem?;intro i;simp only [List.getElem?_modify];by_cases h3:l=i
  ·subst h3;cases st.L[l]? with
   |none=>rfl
   |some B=>simp [qmZ]
  ·simp [h3]
theorem qpq{t:TypeId}{cs cs2:List V}{off:Nat}(hl:cs2.length=cs.length)(h:(cs2.drop off).take (if qO P t then P.cellsOf t else 1)=(cs.drop off).take (if qO P t then P.cellsOf t else 1)) :
  q8 P t (cs2.drop off)=q8 P t (cs.drop off):=by
 unfold q8;cases P.underlying t with
 |none=>rfl
 |some d =>
  simp only
  by_cases ha:qO P t=true
  ·simp only [ha,if_true]at h ⊢;rw [h];simp only [List.length_drop,hl]
  ·have ha':qO P t=false:=by simpa using ha
   simp only [ha',qf,if_false]at h ⊢;have:∀l:List V,l.head?=(l.take 1).head?:=λl=>by cases l<;>rfl
   rw [this,h,<- this]
theorem qso{g:Fl->Fl}{l:List V}(h:qc3 l=false):qc3 (reflagL g l)=false:=by
 cases l with
 |nil=>rfl
 |cons x l=>cases x with
  |lp=>simp [qc3]at h
  |mp=>simp [qc3]at h
  |room s n =>
   simp only [reflagL,V.reflag];by_cases h1:g .own=.own
   ·rw [if_pos h1];rfl
   ·rw [if_neg h1];by_cases h2:n=0
    ·rw [if_pos h2];rfl
    ·rw [if_neg h2];rfl
  |_=>rfl
theorem qw1{x:V}(h:x.oks=true):qc3 x.cells=false:=by
 unfold V.oks at h;cases hc:x.cells with
 |nil=>rfl
 |cons y l =>
  rw [hc]at h;simp only [List.all_cons,qe]at h;cases y<;>first|rfl|(simp [V.one]at h)
theorem qop{cs new:List V}{off:Nat}(h:new.length<=(cs.drop off).length):(qP cs off new).length=cs.length:=by
 unfold qP;simp only [List.length_drop]at h;simp<;>omega
def qoB(P:Program)(H:Hints)(f:FuncId)(o:Oper)(xs:List V)(st m:St)(z:V)(r:Root)(off len:Nat)(wr:Bool):Prop :=
 ∃new cs,st.box r=some cs/\qc3 cs=false/\(wr=true->new.length=len/\off+len<=cs.length/\(off=0->qc3 new=false))/\m=(if wr then st.qo r (qP cs off new)else st) /\
   ∀(st2:St) cs2,st2.box r=some cs2->qc3 cs2=false->cs2.length=cs.length->(cs2.drop off).take len=(cs.drop off).take len->qdl P H f o xs st2=some (z,if wr then st2.qo r (qP cs2 off new)else st2,.root r off len wr)
theorem qwA{l:List V}{n:Nat}(h:qc3 l=false):qc3 (l.take n)=false:=by
 cases l with
 |nil=>simp [qc3]
 |cons x l=>cases n with
  |zero=>rfl
  |succ n=>cases x<;>first|rfl|(simp [qc3]at h)
theorem qwJ{o:Oper}{t:TypeId}{ao:Operand}(hop:o.op=.load t ao){xs:List V}{st m:St}{z:V}{r:Root}{off len:Nat}{wr:Bool}(h:qdl P H f o xs st=some (z,m,.root r off len wr)):qoB P H f o xs st m z r off len wr:=by
 have hun:∀st xs,qdl P H f o xs st=match rootOf (.load t ao) xs with
   |none=>(match qaG P H f (q7 H f o) (.load t ao) o.type xs none with
    |some (v,none)=>some (v,st,.none)
    |_=>none)
   |some r=>match qaG P H f (q7 H f o) (.load t ao) o.type xs (st.box r)with
    |some (v,none)=>some (v,st,.root r (qae P (.load t ao) xs).1 (qae P (.load t ao) xs).2 false)
    |some (v,some c)=>if (qkZ (.load t ao) xs).all (λp=>decide (p.lvl<=r.lvl))&&decide ((qae P (.load t ao) xs).1+(qae P (.load t ao) xs).2<=c.length)then some (v,st.qo r c,.root r (qae P (.load t ao) xs).1 (qae P (.load t ao) xs).2 true)else none
    |none=>none:=λst xs=>by unfold qdl;rw [hop,if_neg (by simp [qcT])]
 rw [hun]at h;have hx:∃r' off',xs=[.ptr r' off']:=by
  split at h
  ·split at h
   ·simp at h
   ·cases h
  ·rename_i r' hr;obtain ⟨off',rest,rfl,_⟩:=qbI hr;cases rest with
   |nil=>exact ⟨_,_,rfl⟩
   |cons y l=>simp [qaG]at h
 obtain ⟨r',off',rfl⟩:=hx;simp only [rootOf]at h;cases hbx:st.box r' with
 |none=>rw [hbx]at h;simp [qaG]at h
 |some cs =>
  rw [hbx]at h;simp only [qaG,qae,qkZ,List.all_nil,Bool.true_and]at h;have hrange:∀cs2:List V,cs2.length=cs.length->(cs2.drop off').take (if qO P t then P.cellsOf t else 1)=(cs.drop off').take (if qO P t then P.cellsOf t else 1)->q8 P t (cs2.drop off')=q8 P t (cs.drop off'):=λcs2 hl heq=>qpq hl heq;have hun2:∀(st2:St) cs2,st2.box r'=some cs2->qc3 cs2=false->qdl P H f o [.ptr r' off'] st2=match (if q7 H f o then (q8 P t (cs2.drop off')).map λx=>(x,some (qP cs2 off' (reflagL qW ((cs2.drop off').take (if qO P t then P.cellsOf t else 1)))))
    else ((q8 P t (cs2.drop off')).map V.q5).map λx=>(x,none))with
   |some (v,none)=>some (v,st2,.root r' off' (if qO P t then P.cellsOf t else 1) false)
   |some (v,some c)=>if decide (off'+(if qO P t then P.cellsOf t else 1)<=c.length)=true then some (v,st2.qo r' c,.root r' off' (if qO P t then P.cellsOf t else 1) true)else none
   |none=>none:=λst2 cs2 hb2 hlp2=>by
    rw [hun];simp only [rootOf,hb2,qaG,qae,qkZ,List.all_nil,Bool.true_and,hlp2,qf,if_false];rfl
  obtain ⟨n,hn⟩:∃n,(if qO P t=true then P.cellsOf t else 1)=n:=⟨_,rfl⟩
  simp only [hn]at h hrange hun2;cases hlp:qc3 cs with
  |true=>rw [hlp]at h;simp at h
  |false =>
   rw [hlp]at h;simp only [qf,if_false]at h;cases htk:q7 H f o with
   |true =>
    simp only [htk,if_true]at h hun2;cases hof:q8 P t (cs.drop off')with
    |none=>rw [hof]at h;simp at h
    |some y =>
     rw [hof]at h;simp only [qi]at h;split at h
     ·rename_i hle;simp only [decide_eq_true_eq]at hle;rw [qop (by rw [qR];simp;omega)]at hle;simp only [qb,Prod.mk.injEq,Fp.root.injEq]at h;obtain ⟨h1,h2,h3,h4,h5,h6⟩:=h;subst h1;subst h2;subst h3;subst h4;subst h5;subst h6;refine ⟨reflagL qW ((cs.drop off').take n),cs,hbx,hlp,λ_=>⟨by rw [qR,List.length_take,List.length_drop];omega,hle,λh0=>?_⟩,rfl,?_⟩
      ·subst h0;exact qso (qwA (by simpa using hlp))
      ·intro st2 cs2 hb2 hlp2 hl2 heq;rw [hun2 st2 cs2 hb2 hlp2,hrange cs2 hl2 heq,hof,heq];simp only [qi];rw [if_pos]
       ·rfl
       ·simp only [decide_eq_true_eq];rw [qop (by rw [qR,<- heq];simp;omega)];omega
     ·cases h
   |false =>
    simp only [htk,qf,if_false]at h hun2;cases hof:q8 P t (cs.drop off')with
    |none=>rw [hof]at h;simp at h
    |some y =>
     rw [hof]at h;simp only [qi,qb,Prod.mk.injEq,Fp.root.injEq]at h;obtain ⟨h1,h2,h3,h4,h5,h6⟩:=h;subst h1;subst h2;subst h3;subst h4;subst h5;subst h6;refine ⟨[],cs,hbx,hlp,(λh=>by simp at h),rfl,?_⟩;intro st2 cs2 hb2 hlp2 hl2 heq;rw [hun2 st2 cs2 hb2 hlp2,hrange cs2 hl2 heq,hof];rfl
theorem qvo{o:Oper}{t:TypeId}{ao xo:Operand}(hop:o.op=.store t ao xo){xs:List V}{st m:St}{z:V}{r:Root}{off len:Nat}{wr:Bool}(h:qdl P H f o xs st=some (z,m,.root r off len wr)):qoB P H f o xs st m z r off len wr:=by
 have hun:∀st xs,qdl P H f o xs st=match rootOf (.store t ao xo) xs with
   |none=>(match qaG P H f (q7 H f o) (.store t ao xo) o.type xs none with
    |some (v,none)=>some (v,st,.none)
    |_=>none)
   |some r=>match qaG P H f (q7 H f o) (.store t ao xo) o.type xs (st.box r)with
    |some (v,none)=>some (v,st,.root r (qae P (.store t ao xo) xs).1 (qae P (.store t ao xo) xs).2 false)
    |some (v,some c)=>if (qkZ (.store t ao xo) xs).all (λp=>decide (p.lvl<=r.lvl))&&decide ((qae P (.store t ao xo) xs).1+(qae P (.store t ao xo) xs).2<=c.length)then some (v,st.qo r c,.root r (qae P (.store t ao xo) xs).1 (qae P (.store t ao xo) xs).2 true)else none
    |none=>none:=λst xs=>by unfold qdl;rw [hop,if_neg (by simp [qcT])]
 rw [hun]at h;have hx:∃r' off' x,xs=[.ptr r' off',x]:=by
  split at h
  ·split at h
   ·simp at h
   ·cases h
  ·rename_i r' hr;obtain ⟨off',rest,rfl,_⟩:=qbI hr
   match rest with
   |[x]=>exact ⟨_,_,_,rfl⟩
   |[]=>simp [qaG]at h
   |_::_::_=>simp [qaG]at h
 obtain ⟨r',off',x,rfl⟩:=hx;simp only [rootOf]at h;cases hbx:st.box r' with
 |none=>rw [hbx]at h;simp [qaG]at h
 |some cs =>
  rw [hbx]at h;simp only [qaG,qae,qkZ]at h;by_cases hc:qc3 cs=false/\P.cellsOf t≠0/\x.cells.length=P.cellsOf t/\off'+x.cells.length<=cs.length/\x.oks=true
  ·rw [if_pos hc]at h;have h:(if ((x.qq.all λp=>decide (p.lvl<=r'.lvl))&&decide (off'+x.cells.length<=(qP cs off' x.cells).length))=true then some (V.undef,st.qo r' (qP cs off' x.cells),Fp.root r' off' x.cells.length true)else none)=some (z,m,Fp.root r off len wr):=h;by_cases hall:((x.qq.all λp=>decide (p.lvl<=r'.lvl))&&decide (off'+x.cells.length<=(qP cs off' x.cells).length))=true
   ·rw [if_pos hall]at h;simp only [qb,Prod.mk.injEq,Fp.root.injEq]at h;obtain ⟨h1,h2,h3,h4,h5,h6⟩:=h;subst h1;subst h2;subst h3;subst h4;subst h5;subst h6;refine ⟨x.cells,cs,hbx,hc.1,λ_=>⟨rfl,hc.2.2.2.1,λ_=>qw1 hc.2.2.2.2⟩,rfl,?_⟩;intro st2 cs2 hb2 hlp2 hl2 heq;rw [hun];simp only [rootOf,hb2,qaG,qae,qkZ];rw [if_pos ⟨hlp2,hc.2.1,hc.2.2.1,by rw [hl2];exact hc.2.2.2.1,hc.2.2.2.2⟩];show (if ((x.qq.all λp=>decide (p.lvl<=r'.lvl))&&decide (off'+x.cells.length<=(qP cs2 off' x.cells).length))=true then some (V.undef,st2.qo r' (qP cs2 off' x.cells),Fp.root r' off' x.cells.length true)else none)=_;have hall2:((x.qq.all λp=>decide (p.lvl<=r'.lvl))&&decide (off'+x.cells.length<=(qP cs2 off' x.cells).length))=true:=by
     simp only [qe,decide_eq_true_eq]at hall ⊢;refine ⟨hall.1,?_⟩;rw [qbM (by rw [hl2];exact hc.2.2.2.1),hl2];exact hc.2.2.2.1
    rw [if_pos hall2];rfl
   ·rw [if_neg hall]at h;cases h
  ·rw [if_neg hc]at h;cases h
theorem qcZ{o:Oper}{xs:List V}{st m:St}{z:V}{r:Root}{off len:Nat}{wr:Bool}(h:qbp P H C f o xs st=some (z,m,.root r off len wr)) :
  qh4 o.op=true/\qoB P H f o xs st m z r off len wr:=by
 rcases qe9 o.op with ⟨t,hop⟩|⟨t,a,hop⟩|⟨c,fo,hop,hc⟩|hd
 ·unfold qbp at h;simp only [hop]at h;split at h
  ·split at h<;>simp at h
  ·cases h
 ·unfold qbp at h;simp only [hop]at h;split at h
  ·split at h<;>simp at h
  ·cases h
 ·rw [qbf hop hc]at h;cases xs with
  |nil=>cases h
  |cons fv args =>
   simp only at h;split at h
   ·rcases qjy h with ⟨_,_,hp,_⟩|⟨_,_,_,hp,_⟩<;>cases hp
   rename_i hbn;obtain ⟨⟨v,s⟩,h1,h2⟩:=qc.1 h;obtain ⟨_,_,hp⟩:=qci (congrArg some h2);split at hp
   ·cases hp
   ·split at hp<;>cases hp
 ·rw [qX hd]at h;refine ⟨hd,?_⟩;have hmo:¬ qcT o.op xs=true:=λhm=>by
   unfold qdl at h;rw [if_pos hm]at h;rcases qfF h with ⟨h1,_⟩|⟨_,_,_,h1,_⟩|⟨_,h1,_⟩<;>cases h1
  cases hr:rootOf o.op xs with
  |none =>
   unfold qdl at h;rw [if_neg hmo,hr]at h;simp only at h;split at h
   ·simp at h
   ·cases h
  |some r' =>
   obtain ⟨_,_,_,hop⟩:=qbI hr;rcases hop with ⟨t,a,hop⟩|⟨t,a,x,hop⟩
   ·exact qwJ hop h
   ·exact qvo hop h
theorem qmY(s s':Nat)(hne:s≠s')(c c':List V):∀B:Level,qdZ (qdZ B s c) s' c'=qdZ (qdZ B s' c') s c
 |[]=>rfl
 |(k,d)::B=>by
  simp only [qdZ];by_cases h1:k=s
  ·subst h1;simp [qdZ,hne]
  ·by_cases h2:k=s'
   ·subst h2;simp [qdZ,h1]
   ·simp [qdZ,h1,h2,qmY s s' hne c c' B]
theorem qgn(st:St)(r r':Root)(hne:r≠r')(c c':List V):(st.qo r c).qo r' c'=(st.qo r' c').qo r c:=by
 obtain ⟨l,s⟩:=r;obtain ⟨l',s'⟩:=r';unfold St.qo;by_cases h1:l=st.L.length
 ·by_cases h2:l'=st.L.length
  ·subst h1;simp only [h2,if_true];congr 1
   exact qmY s s' (λe=>hne (by simp [e,h2])) c c' st.B
  ·simp only [h1,h2,if_true,if_false,List.length_modify]
 ·by_cases h2:l'=st.L.length
  ·simp only [h1,h2,if_true,if_false,List.length_modify]
  ·simp only [h1,h2,if_false,List.length_modify];congr 1
   apply List.ext_getElem?;intro i;simp only [List.getElem?_modify];by_cases h3:l'=i
   ·by_cases h4:l=i
    ·subst h3;subst h4;cases st.L[l]? with
     |none=>rfl
     |some B=>simp [qmY s s' (λe=>hne (by simp [e])) c c' B]
    ·simp [h3,h4]
   ·by_cases h4:l=i
    ·simp [h3,h4]
    ·simp [h3,h4]
theorem qgp{o:Oper}{xs:List V}{st m:St}{z:V}{r:Root}(h:qbp P H C f o xs st=some (z,m,.fresh r)) :
  ∃d c,r=⟨st.L.length,d⟩/\qy st.B d=none/\m={st with B:=qb2 d c st.B}/\∀st2:St,st2.L.length=st.L.length->qy st2.B d=none->qbp P H C f o xs st2=some (z,{st2 with B:=qb2 d c st2.B},.fresh r):=by
 rcases qe9 o.op with ⟨t,hop⟩|⟨t,a,hop⟩|⟨c,fo,hop,hc⟩|hd
 ·unfold qbp at h;simp only [hop]at h;split at h
  ·rename_i d z0 hd hz;split at h
   ·rename_i hl;obtain ⟨rfl,rfl,hf⟩:=qci h;cases hf;refine ⟨d,z0.cells,rfl,by simpa using hl,rfl,λst2 h1 h2=>?_⟩;unfold qbp;simp only [hop,hd,hz,h2,h1,Option.isNone_none,if_true]
   ·cases h
  ·cases h
 ·unfold qbp at h;simp only [hop]at h;split at h
  ·rename_i d x hd;split at h
   ·rename_i hl;obtain ⟨rfl,rfl,hf⟩:=qci h;cases hf;refine ⟨d,x.cells,rfl,by simpa using hl.1,rfl,λst2 h1 h2=>?_⟩;unfold qbp;simp only [hop,hd];rw [if_pos ⟨by rw [h2];rfl,hl.2⟩,h1]
   ·cases h
  ·cases h
 ·rw [qbf hop hc]at h;cases xs with
  |nil=>cases h
  |cons fv args =>
   simp only at h;split at h
   ·rename_i hbn;rcases qjy h with ⟨d',c',hf,h1,h2,h3⟩|⟨_,_,_,hf,_⟩
    rotate_left
    ·cases hf
    cases hf;refine ⟨d',c',rfl,h1,h2,λst2 h4 h5=>?_⟩;rw [qbf hop hc];simp only [hbn,if_true];exact h3 st2 h4 h5
   rename_i hbn;obtain ⟨⟨v,s⟩,h1,h2⟩:=qc.1 h;obtain ⟨_,_,hp⟩:=qci (congrArg some h2);split at hp
   ·cases hp
   ·split at hp<;>cases hp
 ·rw [qX hd]at h;unfold qdl at h;split at h
  ·rename_i hmo;rcases qfF h with ⟨h1,_⟩|⟨_,_,_,h1,_⟩|⟨d,h1,h2,h3,h4⟩
   ·cases h1
   ·cases h1
   ·cases h1;refine ⟨d,_,rfl,h2,h3,λst2 h5 h6=>?_⟩;rw [qX hd];unfold qdl;rw [if_pos hmo];exact h4 st2 h5 h6
  split at h
  ·split at h
   ·obtain ⟨_,_,hp⟩:=qci h;cases hp
   ·cases h
  ·split at h
   ·obtain ⟨_,_,hp⟩:=qci h;cases hp
   ·split at h
    ·obtain ⟨_,_,hp⟩:=qci h;cases hp
    ·cases h
   ·cases h
theorem qtU(st:St)(d:Nat)(c:List V)(r:Root)(hne:r≠⟨st.L.length,d⟩):({st with B:=qb2 d c st.B}:St).box r=st.box r:=by
 obtain ⟨l,s⟩:=r;unfold St.box;by_cases h:l=st.L.length
 ·subst h;have:d≠s:=λe=>hne (by rw [e]);simp only [if_true,qbF this]
 ·simp only [if_neg h]
theorem qmF(st:St)(d:Nat)(c:List V)(r:Root)(c':List V)(hne:r≠⟨st.L.length,d⟩):({st with B:=qb2 d c st.B}:St).qo r c'={st.qo r c' with B:=qb2 d c (st.qo r c').B}:=by
 obtain ⟨l,s⟩:=r;unfold St.qo;by_cases h:l=st.L.length
 ·subst h;have:d≠s:=λe=>hne (by rw [e]);simp only [if_true,qrF this]
 ·simp only [if_neg h]
theorem qgQ(s d:Nat)(c:List V):∀B:Level,(qy (qdZ B s c) d=none↔qy B d=none)
 |[]=>Iff.rfl
 |(k,e)::B=>by
  simp only [qdZ];by_cases h1:k=s
  ·rw [if_pos h1];by_cases h2:k=d
   ·simp only [qy,if_pos h2];simp
   ·simp only [qy,if_neg h2]
  ·rw [if_neg h1];by_cases h2:k=d
   ·simp only [qy,if_pos h2]
   ·simp only [qy,if_neg h2];exact qgQ s d c B
theorem qbB(st:St)(r:Root)(c:List V)(d:Nat):(qy (st.qo r c).B d=none↔qy st.B d=none)/\(st.qo r c).L.length=st.L.length:=by
 unfold St.qo;split
 ·exact ⟨qgQ _ _ _ _,rfl⟩
 ·exact ⟨Iff.rfl,by simp⟩
theorem qkh{o:Oper}{xs:List V}{st m:St}{z:V}{q:Root}(h:qbp P H C f o xs st=some (z,m,.mapw q)) :
  ∃es es',st.box q=some [.mp es]/\m=st.qo q [.mp es']/\∀st2:St,st2.L.length=st.L.length->st2.box q=some [.mp es]->qbp P H C f o xs st2=some (z,st2.qo q [.mp es'],.mapw q):=by
 rcases qe9 o.op with ⟨t,hop⟩|⟨t,a,hop⟩|⟨c,fo,hop,hc⟩|hd
 ·unfold qbp at h;simp only [hop]at h;split at h
  ·split at h<;>simp at h
  ·cases h
 ·unfold qbp at h;simp only [hop]at h;split at h
  ·split at h<;>simp at h
  ·cases h
 ·rw [qbf hop hc]at h;cases xs with
  |nil=>cases h
  |cons fv args =>
   simp only at h;split at h
   ·rename_i hbn;rcases qjy h with ⟨_,_,hf,_⟩|⟨q',es,es',hf,h1,h2,h3⟩
    ·cases hf
    cases hf;refine ⟨es,es',h1,h2,λst2 h4 h5=>?_⟩;rw [qbf hop hc];simp only [hbn,if_true];exact h3 st2 h4 h5
   obtain ⟨⟨v,s⟩,h1,h2⟩:=qc.1 h;obtain ⟨_,_,hp⟩:=qci (congrArg some h2);split at hp
   ·cases hp
   ·split at hp<;>cases hp
 ·rw [qX hd]at h;unfold qdl at h;split at h
  ·rename_i hmo;rcases qfF h with ⟨h1,_⟩|⟨q',es,es',h1,h2,h3,h4⟩|⟨d,h1,_⟩
   ·cases h1
   ·cases h1;refine ⟨es,es',h2,h3,λst2 _ h6=>?_⟩;rw [qX hd];unfold qdl;rw [if_pos hmo];exact h4 st2 h6
   ·cases h1
  split at h
  ·split at h
   ·obtain ⟨_,_,hp⟩:=qci h;cases hp
   ·cases h
  ·split at h
   ·obtain ⟨_,_,hp⟩:=qci h;cases hp
   ·split at h
    ·obtain ⟨_,_,hp⟩:=qci h;cases hp
    ·cases h
   ·cases h
theorem qvl{o o':Oper}{xs xs':List V}{st m m':St}{z z':V}{fp fp':Fp}(h:qbp P H C f o xs st=some (z,m,fp))(h':qbp P H C f o' xs' m=some (z',m',fp'))(hc:fp.conflict fp'=false) :
  ∃m1,qbp P H C f o' xs' st=some (z',m1,fp')/\qbp P H C f o xs m1=some (z,m',fp):=by
 cases fp with
 |none =>
  obtain ⟨rfl,h2⟩:=qeu h;exact ⟨m',h',h2 m'⟩
 |root r off len wr =>
  cases fp' with
  |none =>
   obtain ⟨rfl,h2⟩:=qeu h';exact ⟨st,h2 st,h⟩
  |root r' off' len' wr' =>
   obtain ⟨hd,new,cs,hb,hlp,hw,hm,hK⟩:=qcZ h;obtain ⟨hd',new',cs',hb',hlp',hw',hm',hK'⟩:=qcZ h';simp only [Fp.conflict,Bool.and_eq_false_iff,decide_eq_false_iff_not,Bool.or_eq_false_iff,Bool.not_eq_false',Bool.or_eq_true,decide_eq_true_eq]at hc;by_cases hr:r=r'
   ·subst hr;by_cases hww:wr=false/\wr'=false
    ·obtain ⟨rfl,rfl⟩:=hww;simp only [qf,if_false]at hm hm';subst hm;subst hm';exact ⟨_,h',h⟩
    ·have hdis:off+len<=off'\/off'+len'<=off:=by
      rcases hc with (hc|hc)|hc
      ·exact absurd rfl hc
      ·exact absurd hc hww
      ·exact hc
     have hmb:m.box r=some (if wr then qP cs off new else cs):=by
      rw [hm];cases wr<;>simp [qV,hb]
     have hcs':cs'=if wr then qP cs off new else cs:=by rw [hmb]at hb';exact (Option.some.inj hb').symm
     have hl:cs.length=cs'.length:=by
      rw [hcs'];cases wr with
      |false=>rfl
      |true=>obtain ⟨h1,h2,_⟩:=hw rfl;simp only [if_true];rw [qbM (by omega)]
     have hk:(cs.drop off').take len'=(cs'.drop off').take len':=by
      rw [hcs'];cases wr with
      |false=>rfl
      |true=>obtain ⟨h1,h2,_⟩:=hw rfl;simp only [if_true];rw [qkH (by omega) (by omega)]
     have s1:=hK' st cs hb hlp hl hk;have hm1b:(if wr' then st.qo r (qP cs off' new')else st).box r=some (if wr' then qP cs off' new' else cs):=by
      cases wr'<;>simp [qV,hb]
     have hlp1:qc3 (if wr' then qP cs off' new' else cs)=false:=by
      cases wr' with
      |false=>exact hlp
      |true=>obtain ⟨h1,h2,h3⟩:=hw' rfl;simp only [if_true];exact qlT (by omega) hlp h3
     have hl1:(if wr' then qP cs off' new' else cs).length=cs.length:=by
      cases wr' with
      |false=>rfl
      |true=>obtain ⟨h1,h2,h3⟩:=hw' rfl;simp only [if_true];exact qbM (by omega)
     have hk1:((if wr' then qP cs off' new' else cs).drop off).take len=(cs.drop off).take len:=by
      cases wr' with
      |false=>rfl
      |true=>obtain ⟨h1,h2,h3⟩:=hw' rfl;simp only [if_true];exact qkH (by omega) (by omega)
     have s2:=hK _ _ hm1b hlp1 hl1 hk1;refine ⟨_,by rw [qX hd'];exact s1,?_⟩;rw [qX hd,s2];congr 2
     rw [Prod.mk.injEq];refine ⟨?_,rfl⟩;rw [hm',hm,hcs'];cases wr<;>cases wr'<;>simp only [qf,if_false,if_true,qpL]
     obtain ⟨h1,h2,_⟩:=hw rfl;obtain ⟨h3,h4,_⟩:=hw' rfl;rw [qs0 (by omega) (by omega) (by omega)]
   ·have e1:∀(st:St) d,(st.qo r d).box r'=st.box r':=λst d=>by rw [qV,if_neg (Ne.symm hr)]
    have e2:∀(st:St) d,(st.qo r' d).box r=st.box r:=λst d=>by rw [qV,if_neg hr]
    have hbs:st.box r'=some cs':=by rw [<- hb',hm];cases wr<;>simp [e1]
    have s1:=hK' st cs' hbs hlp' rfl rfl;have s2:=hK (if wr' then st.qo r' (qP cs' off' new')else st) cs (by cases wr'<;>simp [e2,hb]) hlp rfl rfl;refine ⟨_,by rw [qX hd'];exact s1,?_⟩;rw [qX hd,s2,hm',hm];cases wr<;>cases wr'<;>simp [qgn _ _ _ hr]
  |fresh q =>
   simp only [Fp.conflict,decide_eq_false_iff_not]at hc;obtain ⟨hd,new,cs,hb,hlp,hw,hm,hK⟩:=qcZ h;obtain ⟨d,c,hq,hn,hm',hS⟩:=qgp h';have hLm:m.L.length=st.L.length:=by
    rw [hm];cases wr with
    |false=>rfl
    |true=>exact (qbB st r _ 0).2
   rw [hLm]at hq;have hne:r≠⟨st.L.length,d⟩:=λe=>hc (by rw [hq,e]);have hn0:qy st.B d=none:=by
    rw [hm]at hn;cases wr with
    |false=>exact hn
    |true=>exact (qbB st r _ d).1.1 hn
   refine ⟨_,hS st hLm.symm hn0,?_⟩;rw [qX hd,hK _ cs (by rw [qtU _ _ _ _ hne];exact hb) hlp rfl rfl,hm',hm];cases wr with
   |false=>rfl
   |true=>simp only [if_true];rw [qmF _ _ _ _ _ hne]
  |looks =>
   have hw:wr=false:=by simpa [Fp.conflict]using hc
   subst hw;obtain ⟨hd,new,cs,hb,hlp,hw,hm,hK⟩:=qcZ h;simp only [qf,if_false]at hm;subst hm;obtain rfl:=qiv h';exact ⟨_,h',h⟩
  |all=>simp [Fp.conflict]at hc
  |mapw q =>
   obtain ⟨hd,new,cs,hb,hlp,hw,hm,hK⟩:=qcZ h;obtain ⟨es,es',hq,hm',hS⟩:=qkh h';have hne:r≠q:=λe=>by
    subst e;rw [hm]at hq;cases wr with
    |false=>simp only [qf,if_false]at hq;rw [hb]at hq;cases hq;simp [qc3]at hlp
    |true =>
     obtain ⟨h1,h2,h3⟩:=hw rfl;simp only [if_true,qV,hb,qi,qb]at hq;have:=qlT (by omega) hlp h3;rw [hq]at this;simp [qc3]at this
   have hLm:m.L.length=st.L.length:=by
    rw [hm];cases wr with
    |false=>rfl
    |true=>exact (qbB st r _ 0).2
   have hq0:st.box q=some [.mp es]:=by
    rw [<- hq,hm];cases wr with
    |false=>rfl
    |true=>simp only [if_true];rw [qV,if_neg (Ne.symm hne)]
   refine ⟨_,hS st hLm.symm hq0,?_⟩;rw [qX hd,hK (st.qo q [.mp es']) cs (by rw [qV,if_neg hne];exact hb) hlp rfl rfl,hm',hm];cases wr<;>simp [qgn _ _ _ hne]
 |mapw q =>
  obtain ⟨es,es',hq,hm,hS⟩:=qkh h;cases fp' with
  |none =>
   obtain ⟨rfl,h2⟩:=qeu h';exact ⟨st,h2 st,h⟩
  |root r off len wr =>
   obtain ⟨hd,new,cs,hb,hlp,hw,hm',hK⟩:=qcZ h';have hne:r≠q:=λe=>by
    subst e;rw [hm,qV,if_pos rfl,hq]at hb;simp only [qi,qb]at hb;rw [<- hb]at hlp;simp [qc3]at hlp
   have hb0:st.box r=some cs:=by rw [<- hb,hm,qV,if_neg hne]
   have hLs:(if wr then st.qo r (qP cs off new)else st).L.length=st.L.length:=by
    cases wr with
    |false=>rfl
    |true=>exact (qbB st r _ 0).2
   refine ⟨_,by rw [qX hd];exact hK st cs hb0 hlp rfl rfl,?_⟩;rw [hS _ hLs (by cases wr with
    |false=>exact hq
    |true=>simp only [if_true];rw [qV,if_neg (Ne.symm hne)];exact hq),hm',hm]
   cases wr<;>simp [qgn _ _ _ hne]
  |mapw q' =>
   simp only [Fp.conflict,decide_eq_false_iff_not]at hc;obtain ⟨es2,es2',hq',hm',hS'⟩:=qkh h';have hLm:m.L.length=st.L.length:=by rw [hm];exact (qbB st q _ 0).2
   have hq0:st.box q'=some [.mp es2]:=by rw [<- hq',hm,qV,if_neg (Ne.symm hc)]
   refine ⟨_,hS' st hLm.symm hq0,?_⟩;rw [hS _ ((qbB st q' _ 0).2) (by rw [qV,if_neg hc];exact hq),hm',hm,qgn _ _ _ (Ne.symm hc)]
  |_=>simp [Fp.conflict]at hc
 |looks =>
  obtain rfl:=qiv h;cases fp' with
  |none =>
   obtain ⟨rfl,h2⟩:=qeu h';exact ⟨_,h2 _,h⟩
  |looks =>
   obtain rfl:=qiv h';exact ⟨_,h',h⟩
  |root r off len wr =>
   have hw:wr=false:=by simpa [Fp.conflict]using hc
   subst hw;obtain ⟨hd,new,cs,hb,hlp,hw,hm,hK⟩:=qcZ h';simp only [qf,if_false]at hm;subst hm;exact ⟨_,h',h⟩
  |_=>simp [Fp.conflict]at hc
 |fresh q =>
  cases fp' with
  |none =>
   obtain ⟨rfl,h2⟩:=qeu h';exact ⟨st,h2 st,h⟩
  |root r off len wr =>
   simp only [Fp.conflict,decide_eq_false_iff_not]at hc;obtain ⟨hd,new,cs,hb,hlp,hw,hm,hK⟩:=qcZ h';obtain ⟨d,c,hq,hn,hm',hS⟩:=qgp h;have hne:r≠⟨st.L.length,d⟩:=λe=>hc (by rw [hq,e]);have hb0:st.box r=some cs:=by rw [hm',qtU _ _ _ _ hne]at hb;exact hb
   refine ⟨_,by rw [qX hd];exact hK st cs hb0 hlp rfl rfl,?_⟩;have hS':=hS (if wr then st.qo r (qP cs off new)else st) (by
    cases wr with
    |false=>rfl
    |true=>exact (qbB st r _ 0).2) (by
    cases wr with
    |false=>exact hn
    |true=>exact (qbB st r _ d).1.2 hn)
   rw [hS',hm,hm'];cases wr with
   |false=>rfl
   |true=>simp only [if_true];rw [qmF _ _ _ _ _ hne]
  |fresh q' =>
   simp only [Fp.conflict,decide_eq_false_iff_not]at hc;obtain ⟨d,c,hq,hn,hm,hS⟩:=qgp h;obtain ⟨d',c',hq',hn',hm',hS'⟩:=qgp h';have hL:m.L.length=st.L.length:=by rw [hm]
   have hdd:d≠d':=λe=>hc (by rw [hq,hq',hL,e]);rw [hm]at hn';simp only [qbF hdd]at hn';refine ⟨{st with B:=qb2 d' c' st.B},hS' st hL.symm hn',?_⟩;rw [hS {st with B:=qb2 d' c' st.B} rfl (by simp only [qbF (Ne.symm hdd)];exact hn),hm',hm];simp only
   rw [qqP hdd]
  |_=>simp [Fp.conflict]at hc
 |all =>
  cases fp' with
  |none =>
   obtain ⟨rfl,h2⟩:=qeu h';exact ⟨st,h2 st,h⟩
  |_=>simp [Fp.conflict]at hc
end
section
variable {P:Program} {H:Hints} {f:FuncId} {C:Orc}
mutual
theorem dull_of_owns:∀x:V,x.owns=false->x.reflag qW=x
 |.room ..,h=>by simp [V.owns]at h
 |.undef,_|.val _,_|.ptr ..,_|.yld _,_|.mref _,_|.bsl ..,_|.mp _,_|.lp ..,_=>by simp [V.reflag]
 |.cptr f l,h=>by
  simp only [V.owns,Bool.or_eq_false_iff,decide_eq_false_iff_not]at h;simp only [V.reflag,dullL_of_owns l h.2];congr 1
  cases f<;>simp_all [qW]
 |.sl f c l,h=>by
  simp only [V.owns,Bool.or_eq_false_iff,decide_eq_false_iff_not]at h;simp only [V.reflag,dullL_of_owns l h.2];have:qW f=f:=by cases f<;>simp_all [qW]
  rw [this]
 |.fn g a b,h=>by
  simp only [V.owns,Bool.or_eq_false_iff]at h;simp only [V.reflag,dullL_of_owns a h.1,dullL_of_owns b h.2]
 |.iface t x,h=>by simp only [V.owns]at h;simp only [V.reflag,dull_of_owns x h]
 |.agg l,h=>by simp only [V.owns]at h;simp only [V.reflag,dullL_of_owns l h]
 |.tuple l,h=>by simp only [V.owns]at h;simp only [V.reflag,dullL_of_owns l h]
theorem dullL_of_owns:∀l:List V,ownsL l=false->reflagL qW l=l
 |[],_=>rfl
 |x::l,h=>by
  simp only [ownsL,Bool.or_eq_false_iff]at h;simp only [reflagL,dull_of_owns x h.1,dullL_of_owns l h.2]
end
mutual
theorem dull_dull:∀x:V,(x.reflag qW).reflag qW=x.reflag qW
 |.room s n=>by
  simp only [V.reflag,qW];by_cases h:n=0
  ·simp [h,V.reflag,qW,reflagL]
  ·simp [h,V.reflag]
 |.undef|.val _|.ptr .. | .yld _|.mref _|.bsl .. | .mp _|.lp ..=>by simp [V.reflag]
 |.cptr f l=>by
  simp only [V.reflag,dullL_dull l];congr 1
  cases f<;>rfl
 |.sl f c l=>by
  simp only [V.reflag,dullL_dull l];have:qW (qW f)=qW f:=by cases f<;>rfl
  rw [this]
 |.fn g a b=>by simp only [V.reflag,dullL_dull a,dullL_dull b]
 |.iface t x=>by simp only [V.reflag,dull_dull x]
 |.agg l=>by simp only [V.reflag,dullL_dull l]
 |.tuple l=>by simp only [V.reflag,dullL_dull l]
theorem dullL_dull:∀l:List V,reflagL qW (reflagL qW l)=reflagL qW l
 |[]=>rfl
 |x::l=>by simp only [reflagL,dull_dull x,dullL_dull l]
end
theorem qfu:∀(T:List Tmp) (E:List V) (t:Nat),(qA E T)[t]?=if t∈T then E[t]?.map V.q5 else E[t]?
 |[],E,t=>by simp [qA]
 |s::T,E,t=>by
  have h:(qA E (s::T))=qA (E.modify s V.q5) T:=rfl;rw [h,qfu T,List.getElem?_modify];by_cases hst:s=t
  ·subst hst;simp only [if_true,qk,true_or,Option.map_eq_map];by_cases hm:s∈T
   ·rw [if_pos hm];cases E[s]? with
    |none=>rfl
    |some x=>simp only [qi,qb];exact dull_dull x
   ·rw [if_neg hm]
  ·have:(t∈s::T)↔t∈T:=by simp [Ne.symm hst]
   simp only [hst,if_false,this,Option.map_eq_map];split<;>simp
def qsM(d:Option Tmp)(z:V)(E:List V):List V:=match d with
 |some d=>E.set d z
 |none=>E
def qgb(P:Program)(H:Hints)(C:Orc)(f:FuncId)(o:Oper)(b:Bool)(xs:List V)(st:St):Option (V×St×Fp):=if b then qbp P H C f o xs st else some (.val undef,st,.none)
def qbW(H:Hints)(f:FuncId)(o:Oper)(b:Bool):List Tmp:=if b&&q7 H f o then tmpsOf o else []
structure One (P:Program) (H:Hints) (C:Orc) (f:FuncId) (ops:Array Oper) (o:Oper) (st s:St) (ft:Foot) (b:Bool) (z:V) (m:St):Prop where
 wanted:qcx ops st.E o=some b
 nodup:b=true->q7 H f o=true->qcb (tmpsOf o)=true
 mem:qgb P H C f o b (o.op.operands.toList.map (rd H f o st.E)) st=some (z,m,ft.fp)
 res:s={m with E:=qsM o.dst z (qA st.E (qbW H f o b))}
 took:ft.took=if b then qff H f o st.E else []
 looks:ft.looks=qbv H f ops o
theorem put_eq(s:St)(d:Option Tmp)(z:V):s.put d z={s with E:=qsM d z s.E}:=by cases d<;>rfl
theorem qcK{ops:Array Oper}{i:Nat}{st s:St}{ft:Foot}:qfQ P H C f ops i st=some (s,ft)↔∃o,ops[i]?=some o/\∃b z m,One P H C f ops o st s ft b z m:=by
 unfold qfQ;constructor
 ·intro h;cases ho:ops[i]? with
  |none=>rw [ho]at h;cases h
  |some o =>
   rw [ho]at h;simp only at h;refine ⟨o,rfl,?_⟩;cases hw:qcx ops st.E o with
   |none=>rw [hw]at h;cases h
   |some b =>
    rw [hw]at h;cases b with
    |false =>
     simp only [qb,Prod.mk.injEq]at h;obtain ⟨rfl,rfl⟩:=h;exact ⟨false,.val undef,st,hw,(λhb=>nomatch hb),rfl,by rw [put_eq];rfl,rfl,rfl⟩
    |true =>
     simp only at h;obtain ⟨⟨s1,fp⟩,h1,h2⟩:=qc.1 h;simp only [Prod.mk.injEq]at h2;obtain ⟨rfl,rfl⟩:=h2;unfold qd9 at h1;split at h1
     ·cases h1
     ·rename_i hn;obtain ⟨⟨z,m,fp'⟩,h3,h4⟩:=qc.1 h1;simp only [Prod.mk.injEq]at h4;obtain ⟨rfl,rfl⟩:=h4;have hE:(if q7 H f o=true then {st with E:=qA st.E (tmpsOf o)}else st)={st with E:=qA st.E (qbW H f o true)}:=by
       unfold qbW;by_cases ht:q7 H f o=true<;>simp [ht,qA]
      rw [hE,qs4]at h3;obtain ⟨⟨z1,m1,fp1⟩,h5,h6⟩:=qc.1 h3;simp only [Prod.mk.injEq]at h6;obtain ⟨rfl,rfl,rfl⟩:=h6;exact ⟨true,z1,m1,hw,λ_ ht=>by simpa [ht]using hn,h5,by rw [put_eq],rfl,rfl⟩
 ·rintro ⟨o,ho,b,z,m,h⟩;rw [ho];simp only [h.wanted];cases b with
  |false =>
   obtain ⟨rfl,rfl,hfp⟩:=qci (h.mem);have h1:=h.res;have h2:=h.took;have h3:=h.looks;simp only [qb,Prod.mk.injEq];refine ⟨by rw [h1,put_eq];rfl,?_⟩;cases ft;simp_all
  |true =>
   have h0:=h.mem;simp only [qgb,if_true]at h0;have hE:(if q7 H f o=true then {st with E:=qA st.E (tmpsOf o)}else st)={st with E:=qA st.E (qbW H f o true)}:=by
    unfold qbW;by_cases ht:q7 H f o=true<;>simp [ht,qA]
   have h3:qd9 P H C f o st=some (s,ft.fp):=by
    unfold qd9;rw [if_neg (by intro hc;simp only [qe,Bool.not_eq_true']at hc;rw [h.nodup rfl hc.1]at hc;cases hc.2),hE,qs4,h0];simp only [qi,qb,Prod.mk.injEq,and_true];rw [put_eq,h.res]
   simp only [h3,qi,qb,Prod.mk.injEq,true_and];have h1:=h.took;have h2:=h.looks;cases ft;simp_all
theorem qq7{o o':Oper}{b b':Bool}{xs xs':List V}{st m m':St}{z z':V}{fp fp':Fp}(h:qgb P H C f o b xs st=some (z,m,fp))(h':qgb P H C f o' b' xs' m=some (z',m',fp'))(hc:fp.conflict fp'=false) :
  ∃m1,qgb P H C f o' b' xs' st=some (z',m1,fp')/\qgb P H C f o b xs m1=some (z,m',fp):=by
 cases b with
 |false =>
  obtain ⟨rfl,rfl,rfl⟩:=qci h;exact ⟨m',h',rfl⟩
 |true =>
  cases b' with
  |false =>
   obtain ⟨rfl,rfl,rfl⟩:=qci h';exact ⟨st,rfl,h⟩
  |true=>exact qvl h h' hc
theorem qq6(o:Oper)(b:Bool)(xs:List V)(st:St)(E:List V):qgb P H C f o b xs {st with E:=E}=(qgb P H C f o b xs st).map λ(z,m,fp)=>(z,{m with E:=E},fp):=by
 cases b
 ·rfl
 ·exact qs4 ..
theorem getD_congr{E E':List V}{t:Nat}(h:E'[t]?=E[t]?):E'.getD t .undef=E.getD t .undef:=by
 rw [List.getD_eq_getElem?_getD,List.getD_eq_getElem?_getD,h]
def qgC(E E':List V)(t:Tmp):Prop:=(E'[t]?).map V.q5=(E[t]?).map V.q5
theorem qgC.of{E E':List V}{t:Tmp}(h:E'[t]?=E[t]?):qgC E E' t:=by unfold qgC;rw [h]
theorem qgC.getD{E E':List V}{t:Tmp}(h:qgC E E' t):(E'.getD t .undef).q5=(E.getD t .undef).q5:=by
 unfold qgC at h;rw [List.getD_eq_getElem?_getD,List.getD_eq_getElem?_getD];cases h1:E'[t]?<;>cases h2:E[t]?<;>rw [h1,h2]at h<;>simp at h ⊢
 exact h
theorem qow{ops:Array Oper}{o:Oper}{E E':List V}(h:∀t∈qbv H f ops o,E'[t]?=E[t]?)(hd:∀t∈looksAt ops o,qgC E E' t) :
  qcx ops E' o=qcx ops E o/\o.op.operands.toList.map (rd H f o E')=o.op.operands.toList.map (rd H f o E)/\qff H f o E'=qff H f o E:=by
 have ht:q7 H f o=true->∀t∈tmpsOf o,E'[t]?=E[t]?:=λhk t ht=>h t (List.mem_append_left _ (by rw [if_pos hk];exact ht));refine ⟨?_,?_,?_⟩
 ·unfold qcx;cases hg:o.guard with
  |none=>rfl
  |some gw =>
   obtain ⟨g,want⟩:=gw;simp only
   cases hb:(ops[g]?).bind (·.dst)with
   |none=>rfl
   |some t =>
    simp only
    rw [h t (List.mem_append_right _ (by rw [hg];simp [hb]))]
 ·refine List.map_congr_left λx hx=>?_;cases x with
  |tmp t =>
   have hm:t∈tmpsOf o:=List.mem_filterMap.2 ⟨.tmp t,hx,rfl⟩;by_cases hk:q7 H f o=true
   ·have:E'.getD t .undef=E.getD t .undef:=getD_congr (ht hk t hm);simp only [rd,this]
   ·simp only [rd,hk,qf,if_false];exact (hd t (List.mem_append_left _ hm)).getD
  |_=>rfl
 ·unfold qff;split
  ·rename_i hk;refine List.filter_congr λt htm=>?_;rw [getD_congr (ht hk t htm)]
  ·rfl
theorem qiJ{ops:Array Oper}{x y:Oper}(h:qcl ops x y=true) :
  (∀d,x.dst=some d->d∉looksAt ops y)/\(∀d,x.dst=some d->y.dst≠some d)/\(∀d,y.dst=some d->d∉looksAt ops x):=by
 refine ⟨λd hd=>?_,λd hd=>?_,λd hd=>?_⟩<;>simp [qcl,hd]at h
 ·exact h.1.1
 ·exact h.1.2
 ·exact h.2
theorem qjY{ops:Array Oper}{o:Oper}{t:Tmp}(h:t∈qbv H f ops o):t∈looksAt ops o:=by
 unfold qbv at h;unfold looksAt;rcases qj.1 h with h|h
 ·split at h
  ·exact List.mem_append_left _ h
  ·simp at h
 ·exact List.mem_append_right _ h
theorem qb7{l l':List Tmp}(h:meets l l'=false):∀t∈l,t∉l':=by
 intro t ht ht';have:=List.any_eq_false.1 h t ht;simp [ht']at this
theorem qio(d:Option Tmp)(z:V)(E:List V)(t:Nat):(qsM d z E)[t]?=if d=some t/\t<E.length then some z else E[t]?:=by
 cases d with
 |none=>simp [qsM]
 |some d =>
  simp only [qsM,List.getElem?_set,qb];by_cases h:d=t
  ·subst h;by_cases h2:d<E.length
   ·simp [h2]
   ·simp [h2]
  ·simp [h]
theorem qjZ{ops:Array Oper}{o y:Oper}{st:St}{b:Bool}{z:V}{took:List Tmp}(hd:∀d,o.dst=some d->d∉looksAt ops y)(htk:took=if b then qff H f o st.E else [])(hm:∀t∈took,t∉qbv H f ops y) :
  (∀t∈qbv H f ops y,(qsM o.dst z (qA st.E (qbW H f o b)))[t]?=st.E[t]?)/\∀t∈looksAt ops y,qgC st.E (qsM o.dst z (qA st.E (qbW H f o b))) t:=by
 refine ⟨λt ht=>?_,λt ht=>?_⟩
 ·rw [qio,if_neg (λh=>hd t h.1 (qjY ht)),qfu];split
  ·rename_i hmem;unfold qbW at hmem;split at hmem
   ·rename_i hb;simp only [qe]at hb;have hnt:t∉took:=λh=>hm t h ht;rw [htk,if_pos hb.1]at hnt;unfold qff at hnt;rw [if_pos hb.2]at hnt;simp only [List.mem_filter,hmem,true_and,Bool.not_eq_true]at hnt;cases hE:st.E[t]? with
    |none=>rfl
    |some x =>
     rw [List.getD_eq_getElem?_getD,hE]at hnt;simp only [qi,qb];exact dull_of_owns x hnt
   ·simp at hmem
  ·rfl
 ·unfold qgC;rw [qio,if_neg (λh=>hd t h.1 ht),qfu];split
  ·cases st.E[t]? with
   |none=>rfl
   |some x=>simp only [qi,qb];exact dull_dull x
  ·rfl
theorem qhj(E:List V)(T:List Tmp):(qA E T).length=E.length:=qaN T E
theorem qlh(d:Option Tmp)(z:V)(E:List V):(qsM d z E).length=E.length:=by cases d<;>simp [qsM]
theorem qm5{ops:Array Oper}{o:Oper}{b:Bool}{t:Nat}(h:t∈qbW H f o b):t∈looksAt ops o:=by
 unfold qbW at h;split at h
 ·exact List.mem_append_left _ h
 ·simp at h
theorem qln{ops:Array Oper}{i j:Nat}{x y:Oper}{st s1 s2:St}{fx fy:Foot}(hx:ops[j]?=some x)(hy:ops[i]?=some y)(hap:qcl ops x y=true)(h1:qfQ P H C f ops j st=some (s1,fx))(h2:qfQ P H C f ops i s1=some (s2,fy))
  (hcl:fx.qfX fy=false):∃s1',qfQ P H C f ops i st=some (s1',fy)/\qfQ P H C f ops j s1'=some (s2,fx):=by
 obtain ⟨x',hx',b,z,m,A⟩:=qcK.1 h1;obtain ⟨y',hy',b',z',m',B⟩:=qcK.1 h2;rw [hx]at hx';rw [hy]at hy';cases hx';cases hy'
 obtain ⟨d1,d2,d3⟩:=qiJ hap;simp only [Foot.qfX,Bool.or_eq_false_iff]at hcl;obtain ⟨⟨hc,hm1⟩,hm2⟩:=hcl;have hm1':=qb7 hm1;have hm2':=qb7 hm2;rw [B.looks]at hm1';rw [A.looks]at hm2';have hk1:=qjZ (z:=z) d1 A.took hm1';have hE1:s1.E=qsM x.dst z (qA st.E (qbW H f x b)):=by rw [A.res]
 rw [<- hE1]at hk1;obtain ⟨v1,v2,v3⟩:=qow (H:=H) (f:=f) hk1.1 hk1.2;have hmem:=B.mem;rw [v2]at hmem;have hs1:s1={m with E:=s1.E}:=by rw [hE1];exact A.res
 rw [hs1,qq6]at hmem;obtain ⟨⟨z2,m2,fp2⟩,h3,h4⟩:=qc.1 hmem;simp only [Prod.mk.injEq]at h4;obtain ⟨rfl,hm'E,rfl⟩:=h4;obtain ⟨m1,h5,h6⟩:=qq7 A.mem h3 hc;have hBt:fy.took=if b' then qff H f y st.E else []:=by rw [B.took,v3]
 have hk2:=qjZ (z:=z2) d3 hBt hm2';obtain ⟨u1,u2,u3⟩:=qow (H:=H) (f:=f) hk2.1 hk2.2;let s1':St:={m1 with E:=qsM y.dst z2 (qA st.E (qbW H f y b'))}
 have e1:qfQ P H C f ops i st=some (s1',fy):=qcK.2 ⟨y,hy,b',z2,m1,by rw [<- v1];exact B.wanted,B.nodup,h5,rfl,hBt,B.looks⟩;refine ⟨s1',e1,qcK.2 ⟨x,hx,b,z,{m2 with E:=s1'.E},by rw [u1];exact A.wanted,A.nodup,?_,?_,by rw [A.took,u3],A.looks⟩⟩
 ·rw [u2];show qgb P H C f x b _ {m1 with E:=_}=_;rw [qq6,h6];rfl
 ·rw [B.res,<- hm'E];simp only [St.mk.injEq,and_true];apply List.ext_getElem?;intro t;have hs1E:s1'.E=qsM y.dst z2 (qA st.E (qbW H f y b')):=rfl;rw [hs1E,hE1];simp only [qio,qfu,qhj,qlh];by_cases c1:x.dst=some t
  ·have n1:y.dst≠some t:=d2 t c1;have n2:t∉qbW H f y b':=λh=>d1 t c1 (qm5 h);simp [c1,n1,n2]
  ·by_cases c2:y.dst=some t
   ·have n2:t∉qbW H f x b:=λh=>d3 t c2 (qm5 h);simp [c1,c2,n2]
   ·simp only [c1,c2,false_and,if_false];by_cases c3:t∈qbW H f x b<;>by_cases c4:t∈qbW H f y b'<;>simp [c3,c4]
theorem qcp{ops:Array Oper}{i:Nat}{l:List Nat}{st s:St}{fps:List (Nat×Foot)}:qf0 P H C f ops (i::l) st=some (s,fps)↔∃s1 ft fps',qfQ P H C f ops i st=some (s1,ft)/\qf0 P H C f ops l s1=some (s,fps')/\fps=(i,ft)::fps':=by
 simp only [qf0];cases h:qfQ P H C f ops i st with
 |none=>simp
 |some p =>
  obtain ⟨s1,ft⟩:=p;simp only [qc,Prod.exists,qb,Prod.mk.injEq];constructor
  ·rintro ⟨a,b,h1,rfl,rfl⟩;exact ⟨s1,ft,b,⟨rfl,rfl⟩,h1,rfl⟩
  ·rintro ⟨a,b,c,⟨rfl,rfl⟩,h1,rfl⟩;exact ⟨s,c,h1,rfl,rfl⟩
theorem qn4{ops:Array Oper}{i:Nat}{y:Oper}(hy:ops[i]?=some y){B:List Nat}:∀(A:List Nat) (st s:St) (fps:List (Nat×Foot)),qf0 P H C f ops (A++i::B) st=some (s,fps) ->
  (∀j∈A,∃x,ops[j]?=some x/\qcl ops x y=true/\∀fx fy,(j,fx)∈fps->(i,fy)∈fps->fx.qfX fy=false) ->
  ∃fps',qf0 P H C f ops (i::(A++B)) st=some (s,fps')/\∀p,p∈fps'↔p∈fps
 |[],st,s,fps,h,_=>⟨fps,h,λ_=>Iff.rfl⟩
 |j::A,st,s,fps,h,hA=>by
  rw [List.cons_append,qcp]at h;obtain ⟨s1,fj,fps1,h1,h2,rfl⟩:=h;obtain ⟨fps2,h3,h4⟩:=qn4 hy A s1 s fps1 h2 (λk hk=>by
   obtain ⟨x,hx,hd,hc⟩:=hA k (by simp [hk]);exact ⟨x,hx,hd,λfx fy h1 h2=>hc fx fy (by simp [h1]) (by simp [h2])⟩)
  rw [qcp]at h3;obtain ⟨s2,fi,fps3,h5,h6,rfl⟩:=h3;obtain ⟨x,hx,hd,hc⟩:=hA j (by simp);obtain ⟨s1',h7,h8⟩:=qln hx hy hd h1 h5 (hc fj fi (by simp) (by
   have:=(h4 (i,fi)).1 (by simp);simp [this]))
  refine ⟨(i,fi)::(j,fj)::fps3,?_,λp=>?_⟩
  ·rw [qcp];exact ⟨s1',fi,(j,fj)::fps3,h7,by rw [List.cons_append,qcp];exact ⟨s2,fj,fps3,h8,h6,rfl⟩,rfl⟩
  ·have:=h4 p;simp only [qk]at this ⊢;rw [<- this];constructor
   ·rintro (h|h|h)<;>simp [h]
   ·rintro (h|h|h)<;>simp [h]
theorem qqK{ops:Array Oper}{i:Nat}{y:Oper}{st s:St}{ft:Foot}(hy:ops[i]?=some y)(h:qfQ P H C f ops i st=some (s,ft)) :
  (qd5 H y.op=true->ft.fp=.none)/\(∀t∈ft.took,q7 H f y=true/\t∈tmpsOf y)/\ft.looks=qbv H f ops y:=by
 obtain ⟨o,ho,b,z,m,A⟩:=qcK.1 h;rw [hy]at ho;cases ho;refine ⟨λhs=>?_,λt ht=>?_,A.looks⟩
 ·have hm:=A.mem;cases b with
  |false=>exact (qci hm).2.2.symm
  |true =>
   have hm:qbp P H C f y _ st=some (z,m,ft.fp):=hm;rcases qe9 y.op with ⟨t,hop⟩|⟨t,a,hop⟩|⟨c,fo,hop,hc⟩|hd
   ·rw [hop]at hs;simp [qd5]at hs
   ·rw [hop]at hs;simp [qd5]at hs
   ·rw [hop]at hs;obtain ⟨cal,a1,a2⟩:=c;simp only at hc;subst hc;simp [qd5]at hs
   ·rw [qX hd]at hm;unfold qdl at hm;split at hm
    ·rename_i hmo;exfalso
     unfold mapStep at hm;split at hm
     ·rename_i hop;rw [hop]at hs;simp [qd5]at hs
     ·rename_i hop;rw [hop]at hs;simp [qd5]at hs
     ·rename_i hop;rw [hop]at hs;simp [qd5]at hs
     ·rename_i hop;rw [hop]at hs;simp [qd5]at hs
     ·rename_i hop;rw [hop]at hs;simp only [qd5,Bool.not_eq_true']at hs;split at hm
      ·split at hm
       ·split at hm
        ·rw [if_neg (by rw [hs];simp)]at hm;cases hm
        ·cases hm
       ·cases hm
      ·cases hm
     ·cases hm
    split at hm
    ·split at hm
     ·exact (qci hm).2.2.symm
     ·cases hm
    ·rename_i r hr;obtain ⟨_,_,_,⟨t,a,hop⟩|⟨t,a,x,hop⟩⟩:=qbI hr<;>rw [hop]at hs<;>simp [qd5]at hs
 ·rw [A.took]at ht;split at ht
  ·unfold qff at ht;split at ht
   ·rename_i htk;exact ⟨htk,(List.mem_filter.1 ht).1⟩
   ·simp at ht
  ·simp at ht
theorem qnE{ops:Array Oper}{i j:Nat}{x y:Oper}{s1 s1' s2 s2':St}{fx fy:Foot}(hx:ops[j]?=some x)(hy:ops[i]?=some y)(h:qfQ P H C f ops j s1=some (s1',fx))(h':qfQ P H C f ops i s2=some (s2',fy))
  (ht:qfN H f ops x y=true):fx.qfX fy=false:=by
 obtain ⟨a1,a2,a3⟩:=qqK hx h;obtain ⟨b1,b2,b3⟩:=qqK hy h';simp only [qfN,qe,Bool.or_eq_true,Bool.not_eq_true']at ht;obtain ⟨⟨h1,h2⟩,h3⟩:=ht;simp only [Foot.qfX,Bool.or_eq_false_iff];refine ⟨⟨?_,?_⟩,?_⟩
 ·rcases h1 with h1|h1
  ·rw [a1 h1];rfl
  ·rw [b1 h1];cases fx.fp<;>rfl
 ·rw [b3];refine List.any_eq_false.2 λt ht=>?_;obtain ⟨c1,c2⟩:=a2 t ht;rcases h2 with h2|h2|h2
  ·rw [c1]at h2;cases h2
  ·simpa using λh=>qb7 h2 t c2 (qjY h)
  ·simpa using qb7 h2 t c2
 ·rw [a3];refine List.any_eq_false.2 λt ht=>?_;obtain ⟨c1,c2⟩:=b2 t ht;rcases h3 with h3|h3|h3
  ·rw [c1]at h3;cases h3
  ·simpa using λh=>qb7 h3 t c2 (qjY h)
  ·simpa using qb7 h3 t c2
theorem qlD{ops:Array Oper}:∀(l:List Nat) (st s:St) (fps:List (Nat×Foot)),qf0 P H C f ops l st=some (s,fps)->∀k ft,(k,ft)∈fps->k∈l/\∃s1 s2,qfQ P H C f ops k s1=some (s2,ft)
 |[],st,s,fps,h,k,ft,hk=>by simp only [qf0,qb,Prod.mk.injEq]at h;rw [<- h.2]at hk;simp at hk
 |i::l,st,s,fps,h,k,ft,hk=>by
  obtain ⟨s1,fi,fps',h1,h2,rfl⟩:=qcp.1 h;rcases qk.1 hk with hk|hk
  ·cases hk;exact ⟨by simp,_,_,h1⟩
  ·obtain ⟨h3,h4⟩:=qlD l s1 s fps' h2 k ft hk;exact ⟨by simp [h3],h4⟩
end
section
variable {P:Program} {H:Hints} {f:FuncId} {C:Orc} {w:World}
theorem qrW{st:St}{tmps:Array Value}{X:Cx}{O:Pl->List Nat}(h:Rel st tmps w X O){ops:Array Oper}{o:Oper}{b:Bool}(hw:qcx ops st.E o=some b):Region.wanted o (yielded ops tmps)=b:=by
 unfold qcx at hw;unfold Region.wanted;cases hg:o.guard with
 |none=>rw [hg]at hw;simpa using hw
 |some gw =>
  obtain ⟨g,want⟩:=gw;rw [hg]at hw;simp only at hw ⊢;cases hb:(ops[g]?).bind (·.dst)with
  |none=>rw [hb]at hw;cases hw
  |some t =>
   rw [hb]at hw;simp only at hw;split at hw
   ·rename_i c hE;obtain ⟨v,hv,hr⟩:=h.env t _ hE;simp only [Rep]at hr;obtain ⟨rfl,_⟩:=hr;have:yielded ops tmps g=some c:=by unfold yielded;rw [hb];simp only [qa,hv]
    rw [this];simp only [qb]at hw;rw [<- hw];cases c<;>cases want<;>rfl
   ·rename_i vs hE;obtain ⟨v,hv,hr⟩:=h.env t _ hE;simp only [Rep]at hr;obtain ⟨rfl,_⟩:=hr;have:yielded ops tmps g=none:=by unfold yielded;rw [hb];simp only [qa,hv]
    rw [this];split at hw
    ·simp only [qb]at hw;rw [<- hw];cases want<;>rfl
    ·cases hw
   ·cases hw
theorem qf1{F:Fence}(hFF:F=Fence.wide\/∃l,F=Fence.wide.inRound l)(g:FuncId):F.fn g:=by rcases hFF with rfl|⟨l,rfl⟩<;>trivial
theorem qw2(hC:OrcOk P C){F:Fence}(hFF:F=Fence.wide\/∃l,F=Fence.wide.inRound l){w0:World}{X0:Cx}{Md:Md}{n:Nat}{ops:Array Oper}{i:Nat}{st st':St}{ft:Foot}{a:Act}(hS:Sim w0 X0 Md n st a.tmps w)
  (hx:qfQ P H C f ops i st=some (st',ft)) {K:Act->World->Prop} {Q:Exit->Act->World->Prop} (hK:∀a' w',a'.defers=a.defers->Sim w0 X0 Md n st' a'.tmps w'->K a' w'):wpOpIn F 0 P ops Q i K a w:=by
 have hS':=hS;obtain ⟨X,O,h,hF⟩:=hS';unfold qfQ at hx;unfold wpOpIn;cases ho:ops[i]? with
 |none=>rw [ho]at hx;cases hx
 |some o =>
  rw [ho]at hx;simp only at hx ⊢;cases hw:qcx ops st.E o with
  |none=>rw [hw]at hx;cases hx
  |some b =>
   rw [hw]at hx;rw [qrW h hw];have hdef:∀v,(a.put o.dst v).defers=a.defers:=λv=>by cases o.dst<;>rfl
   cases b with
   |false =>
    simp only [qb,Prod.mk.injEq]at hx;obtain ⟨rfl,_⟩:=hx;simp only [qf,if_false];refine ⟨λg _=>qf1 hFF g,hK _ _ (hdef _) ⟨X,qg1 O [] o.dst st.E.length [],?_⟩⟩;rw [qbV];exact ⟨h.qin o.dst (by simp [Rep]) Lin.nil (by simp) (by simp [V.qq]),hF.qin o.dst (by simp)⟩
   |true =>
    simp only [if_true];obtain ⟨⟨s1,fp⟩,h1,h2⟩:=qc.1 hx;simp only [Prod.mk.injEq]at h2;obtain ⟨rfl,_⟩:=h2;exact qs5 hC hFF hS (by unfold qjt;rw [h1];rfl) (λv w' hS'=>hK _ _ (hdef v) hS')
theorem qzM(hC:OrcOk P C){F:Fence}(hFF:F=Fence.wide\/∃l,F=Fence.wide.inRound l){w0:World}{X0:Cx}{Md:Md}{n:Nat}{ops:Array Oper}{Q:Exit->Act->World->Prop}:∀(l:List Nat) (st st':St) (fps:List (Nat×Foot)) (a:Act) (w:World),Sim w0 X0 Md n st a.tmps w ->
  qf0 P H C f ops l st=some (st',fps)->(∀a' w',a'.defers=a.defers->Sim w0 X0 Md n st' a'.tmps w'->Q .normal a' w')->wpOpsIn F 0 P ops Q l a w
 |[],st,st',fps,a,w,hS,hx,hK=>by
  simp only [qf0,qb,Prod.mk.injEq]at hx;obtain ⟨rfl,_⟩:=hx;exact hK a w rfl hS
 |i::l,st,st',fps,a,w,hS,hx,hK=>by
  obtain ⟨s1,ft,fps',h1,h2,_⟩:=qcp.1 hx;rw [wpOpsIn_cons];exact qw2 hC hFF hS h1 λa' w' hd hS'=>qzM hC hFF l s1 st' fps' a' w' hS' h2 λa2 w2 hd2=>hK a2 w2 (by rw [hd2,hd])
theorem qcI{ops:Array Oper}:∀(l:List Nat) (st s:St),qfj P H C f ops l st=some s->∃fps,qf0 P H C f ops l st=some (s,fps)
 |[],st,s,h=>by simp only [qfj,qb]at h;subst h;exact ⟨[],rfl⟩
 |i::l,st,s,h=>by
  simp only [qfj]at h;cases ho:ops[i]? with
  |none=>rw [ho]at h;cases h
  |some o =>
   rw [ho]at h;simp only at h;cases hw:qcx ops st.E o with
   |none=>rw [hw]at h;cases h
   |some b =>
    rw [hw]at h;cases b with
    |false =>
     simp only at h;obtain ⟨fps,h1⟩:=qcI l _ s h;exact ⟨_,qcp.2 ⟨st.put o.dst (.val undef),⟨.none,[],qbv H f ops o⟩,fps,by unfold qfQ;rw [ho];simp only [hw],h1,rfl⟩⟩
    |true =>
     simp only at h;cases hs:qjt P H C f o st with
     |none=>rw [hs]at h;cases h
     |some st' =>
      rw [hs]at h;simp only at h;obtain ⟨fps,h1⟩:=qcI l _ s h;unfold qjt at hs;obtain ⟨⟨s1,fp⟩,h2,rfl⟩:=qc.1 hs;exact ⟨_,qcp.2 ⟨s1,_,fps,by unfold qfQ;rw [ho];simp only [hw,h2];rfl,h1,rfl⟩⟩
theorem qer{j:Nat}:∀{l:List Nat},j∈qd7 l->j∈l
 |[],h=>h
 |x::l,h=>by
  simp only [qd7]at h;split at h
  ·exact List.mem_cons_of_mem _ (qer h)
  ·rcases qk.1 h with rfl|h
   ·exact List.mem_cons_self
   ·exact List.mem_cons_of_mem _ (qer h)
theorem qqe(l:List Oper)(o:Oper):qd0 (l++[o])=qd0 l++[qd7 ((qaC o).flatMap λj=>j::(qd0 l).getD j [])]:=by
 unfold qd0;rw [List.foldl_append];rfl
theorem qi9{α:Type}{p:List α->Prop}(h0:p [])(h1:∀l a,p l->p (l++[a])):∀l,p l:=by
 intro l;have:∀n (l:List α),l.length=n->p l:=by
  intro n;induction n with
  |zero=>intro l hl;rw [List.eq_nil_of_length_eq_zero hl];exact h0
  |succ n ih =>
   intro l hl;have hne:l≠[]:=λe=>by subst e;simp at hl
   rw [<- List.dropLast_concat_getLast hne];exact h1 _ _ (ih _ (by simp [hl]))
 exact this _ l rfl
theorem qfT:∀l:List Oper,(qd0 l).length=l.length:=qi9 rfl (λl a ih=>by rw [qqe];simp [ih])
theorem qiH:∀(l:List Oper) (i:Nat) (o:Oper),l[i]?=some o->(∀j∈qaC o,j<i)->(qd0 l).getD i []=qd7 ((qaC o).flatMap λj=>j::(qd0 l).getD j []):=by
 refine qi9 ?_ ?_
 ·intro i o h;simp at h
 ·intro l x ih i o h hb;rw [qqe];have hlt:i<(l++[x]).length:=(qm.1 h).1;simp only [List.length_append,List.length_singleton]at hlt;have hpre:∀j,j<i->(qd0 l++[qd7 ((qaC x).flatMap λj=>j::(qd0 l).getD j [])]).getD j []=(qd0 l).getD j []:=λj hj=>by
   rw [List.getD_eq_getElem?_getD,List.getD_eq_getElem?_getD,qg (by rw [qfT];omega)]
  have hfm:((qaC o).flatMap λj=>j::(qd0 l++[qd7 ((qaC x).flatMap λj=>j::(qd0 l).getD j [])]).getD j [])=(qaC o).flatMap λj=>j::(qd0 l).getD j []:=by
   generalize qd7 ((qaC x).flatMap λj=>j::(qd0 l).getD j [])=z at hpre ⊢;rw [List.flatMap_def,List.flatMap_def];congr 1
   refine List.map_congr_left λj hj=>?_;rw [hpre j (hb j hj)]
  rw [hfm];by_cases hi:i<l.length
  ·rw [qg hi]at h;rw [<- ih i o h hb,List.getD_eq_getElem?_getD,List.getD_eq_getElem?_getD,qg (by rw [qfT];exact hi)]
  ·have hi':i=l.length:=by omega
   subst hi';simp only [List.getElem?_append_right (Nat.le_refl _),Nat.sub_self,List.getElem?_cons_zero,qb]at h;subst h;rw [List.getD_eq_getElem?_getD,List.getElem?_append_right (by rw [qfT];exact Nat.le_refl _),qfT];simp
def Down(ops:Array Oper)(listed:Array Bool):Prop:=∀k o,ops[k]?=some o->listed.getD k true=true->∀j∈qaC o,listed.getD j true=true
theorem qen{o:Oper}{j:Nat}:j∈qaC o↔∃e∈o.after,Region.binds .any e=true/\e.on=j:=by
 unfold qaC;simp only [List.mem_map,List.mem_filter,Array.mem_toList_iff];constructor
 ·rintro ⟨e,⟨h1,h2⟩,h3⟩;exact ⟨e,h1,h2,h3⟩
 ·rintro ⟨e,h1,h2,h3⟩;exact ⟨e,⟨h1,h2⟩,h3⟩
theorem qfr{ops:Array Oper}{listed:Array Bool}(hsz:listed.size=ops.size)(hb:∀k o,ops[k]?=some o->∀j∈qaC o,j<k)(hd:Down ops listed):∀(k i:Nat) (o:Oper),i<=k->ops[i]?=some o->(∀j∈qaC o,listed.getD j true=true) ->
  ∀j∈(qd0 ops.toList).getD i [],listed.getD j true=true:=by
 intro k;induction k with
 |zero =>
  intro i o hi ho hall j hj;rw [qiH ops.toList i o (by simpa using ho) (hb i o ho)]at hj;obtain ⟨e,he,_⟩:=List.mem_flatMap.1 (qer hj);have:=hb i o ho e he;omega
 |succ k ih =>
  intro i o hi ho hall j hj;rw [qiH ops.toList i o (by simpa using ho) (hb i o ho)]at hj;obtain ⟨e,he,hj⟩:=List.mem_flatMap.1 (qer hj);rcases qk.1 hj with rfl|hj
  ·exact hall _ he
  ·have hei:=hb i o ho e he;have hilt:i<ops.size:=(Array.getElem?_eq_some_iff.1 ho).1;obtain ⟨oe,hoe⟩:∃oe,ops[e]?=some oe:=⟨ops[e]'(by omega),Array.getElem?_eq_getElem (by omega)⟩
   exact ih e oe (by omega) hoe (hd e oe hoe (hall e he)) j hj
theorem qmj{U:List (Nat×Nat)}{fps:List (Nat×Foot)}(h:qgU U fps=true):∀i j fi fj,(i,j)∈U->(i,fi)∈fps->(j,fj)∈fps->fi.qfX fj=false:=by
 intro i j fi fj hu hi hj;unfold qgU at h;have h1:=List.all_eq_true.1 h (i,j) hu;have h2:=List.all_eq_true.1 h1 (i,fi) hi;simp only [bne_self_eq_false,Bool.false_or]at h2;have h3:=List.all_eq_true.1 h2 (j,fj) hj;simpa using h3
theorem qu9(hC:OrcOk P C){F:Fence}(hFF:F=Fence.wide\/∃l,F=Fence.wide.inRound l){w0:World}{X0:Cx}{Md:Md}{n:Nat}{ops:Array Oper}{U:List (Nat×Nat)}(hreg:qej H f U ops=true){Q:Exit->Act->World->Prop} :
  ∀(fuel:Nat) (listed:Array Bool) (st st':St) (fps:List (Nat×Foot)) (a:Act) (w:World),listed.size=ops.size->Down ops listed->((List.range ops.size).filter λk=>!listed.getD k true).length<=fuel ->
   qf0 P H C f ops ((List.range ops.size).filter λk=>!listed.getD k true) st=some (st',fps)->(∀i j fi fj,(i,j)∈U->(i,fi)∈fps->(j,fj)∈fps->fi.qfX fj=false) ->
   Sim w0 X0 Md n st a.tmps w->(∀a' w',a'.defers=a.defers->Sim w0 X0 Md n st' a'.tmps w'->Q .normal a' w')->wpAnyIn F 0 P .any ops Q fuel listed a w:=by
 have hrow:∀i y,ops[i]?=some y->(∀j∈qaC y,j<i)/\∀j,j<i->j∈(qd0 ops.toList).getD i []\/∃x,ops[j]?=some x/\qcl ops x y=true/\(qfN H f ops x y=true\/(j,i)∈U):=by
  intro i y hy;have hilt:i<ops.size:=(Array.getElem?_eq_some_iff.1 hy).1;unfold qej at hreg;have h1:=List.all_eq_true.1 hreg i (List.mem_range.2 hilt);rw [hy]at h1;simp only [qe]at h1;refine ⟨λj hj=>by simpa using List.all_eq_true.1 h1.1 j hj,λj hj=>?_⟩;have h2:=List.all_eq_true.1 h1.2 j (List.mem_range.2 hj);simp only [Bool.or_eq_true]at h2;rcases h2 with h2|h2
  ·exact .inl (by simpa using h2)
  ·right
   cases hx:ops[j]? with
   |none=>rw [hx]at h2;cases h2
   |some x =>
    rw [hx]at h2;simp only [qe,Bool.or_eq_true]at h2;exact ⟨x,rfl,h2.1,h2.2.imp id (by simp)⟩
 have hempty:∀(listed:Array Bool),listed.size=ops.size->Down ops listed->Region.ready .any ops listed=[]->((List.range ops.size).filter λk=>!listed.getD k true)=[]:=by
  intro listed hsz hd hr;cases hR:(List.range ops.size).filter λk=>!listed.getD k true with
  |nil=>rfl
  |cons k R =>
   exfalso
   have hsorted:((List.range ops.size).filter λk=>!listed.getD k true).Pairwise (· < ·):=List.Pairwise.filter _ List.pairwise_lt_range;have hk:k∈(List.range ops.size).filter λk=>!listed.getD k true:=by rw [hR];simp
   rw [hR]at hsorted;obtain ⟨hklt,hkun⟩:=List.mem_filter.1 hk;have hklt:=List.mem_range.1 hklt;obtain ⟨o,ho⟩:∃o,ops[k]?=some o:=⟨ops[k],Array.getElem?_eq_getElem hklt⟩
   have:k∈Region.ready .any ops listed:=by
    rw [mem_ready];refine ⟨by simpa using hkun,o,ho,λe he hb=>?_⟩;have hek:=(hrow k o ho).1 e.on (qen.2 ⟨e,he,hb,rfl⟩);cases hc:listed.getD e.on true with
    |true =>
     have:e.on<listed.size:=by omega
     simp [Array.getD,this]at hc ⊢;exact hc
    |false =>
     have hmem:e.on∈(List.range ops.size).filter λk=>!listed.getD k true:=List.mem_filter.2 ⟨List.mem_range.2 (by omega),by simp [hc]⟩;rw [hR]at hmem;rcases qk.1 hmem with h1|h1
     ·omega
     ·have:=(List.pairwise_cons.1 hsorted).1 _ h1;omega
   rw [hr]at this;simp at this
 intro fuel;induction fuel with
 |zero =>
  intro listed st st' fps a w hsz hd hlen hx hconf hS hQ;have hnil:((List.range ops.size).filter λk=>!listed.getD k true)=[]:=List.eq_nil_of_length_eq_zero (by omega);rw [hnil]at hx;simp only [qf0,qb,Prod.mk.injEq]at hx;obtain ⟨rfl,_⟩:=hx;refine ⟨?_,hQ a w rfl hS⟩;cases hr:Region.ready .any ops listed with
  |nil=>rfl
  |cons i R =>
   have hi:i∈Region.ready .any ops listed:=by rw [hr];simp
   obtain ⟨h1,o,ho,_⟩:=mem_ready.1 hi;have:i∈(List.range ops.size).filter λk=>!listed.getD k true:=List.mem_filter.2 ⟨List.mem_range.2 (Array.getElem?_eq_some_iff.1 ho).1,by simp [h1]⟩;rw [hnil]at this;simp at this
 |succ fuel ih =>
  intro listed st st' fps a w hsz hd hlen hx hconf hS hQ;refine ⟨λhr=>?_,λi hi=>?_⟩
  ·have hnil:=hempty listed hsz hd hr;rw [hnil]at hx;simp only [qf0,qb,Prod.mk.injEq]at hx;obtain ⟨rfl,_⟩:=hx;exact hQ a w rfl hS
  ·obtain ⟨hun,y,hy,hall⟩:=mem_ready.1 hi;have hilt:i<ops.size:=(Array.getElem?_eq_some_iff.1 hy).1;have hiR:i∈(List.range ops.size).filter λk=>!listed.getD k true:=List.mem_filter.2 ⟨List.mem_range.2 hilt,by simp [hun]⟩;have hsorted:((List.range ops.size).filter λk=>!listed.getD k true).Pairwise (· < ·):=List.Pairwise.filter _ List.pairwise_lt_range;obtain ⟨A,B,hAB⟩:=List.append_of_mem hiR;rw [hAB]at hx hsorted;obtain ⟨_,hs2,hs3⟩:=List.pairwise_append.1 hsorted;have hAi:∀j∈A,j<i:=λj hj=>hs3 j hj i (by simp);have hiB:∀j∈B,i<j:=λj hj=>(List.pairwise_cons.1 hs2).1 j hj;have hlistedE:∀j∈qaC y,listed.getD j true=true:=λj hj=>by
    obtain ⟨e,he,hb,rfl⟩:=qen.1 hj;have h1:=hall e he hb;have hlt:=(hrow i y hy).1 e.on hj;have:e.on<listed.size:=by omega
    simp [Array.getD,this]at h1 ⊢;exact h1
   have hanc:=qfr hsz (λk o ho=>(hrow k o ho).1) hd i i y (Nat.le_refl _) hy hlistedE;obtain ⟨fps',h1,h2⟩:=qn4 hy A st st' fps hx (λj hj=>by
    have hjR:j∈(List.range ops.size).filter λk=>!listed.getD k true:=by rw [hAB];simp [hj]
    have hjun:listed.getD j true=false:=by simpa using (List.mem_filter.1 hjR).2
    rcases (hrow i y hy).2 j (hAi j hj)with h3|⟨x,hx1,hx2,hx3⟩
    ·have:=hanc j h3;rw [hjun]at this;cases this
    ·refine ⟨x,hx1,hx2,λfx fy h4 h5=>?_⟩;rcases hx3 with hx3|hx3
     ·obtain ⟨_,_,_,e1⟩:=qlD _ _ _ _ hx j fx h4;obtain ⟨_,_,_,e2⟩:=qlD _ _ _ _ hx i fy h5;exact qnE hx1 hy e1 e2 hx3
     ·exact hconf j i fx fy hx3 h4 h5)
   obtain ⟨s1,fi,fps2,h3,h4,rfl⟩:=qcp.1 h1;refine qw2 hC hFF hS h3 λa' w' hdf hS'=>?_;have hR':((List.range ops.size).filter λk=>!(listed.setIfInBounds i true).getD k true)=A++B:=by
    have e1:((List.range ops.size).filter λk=>!(listed.setIfInBounds i true).getD k true)=((List.range ops.size).filter λk=>!listed.getD k true).filter (λk=>decide (k≠i)):=by
     rw [List.filter_filter];refine List.filter_congr λk hk=>?_;have hklt:=List.mem_range.1 hk;by_cases hki:k=i
     ·subst hki;have:k<listed.size:=by omega
      simp [Array.getD,this]
     ·rw [getD_set_ne true (Ne.symm hki)];simp [hki]
    rw [e1,hAB,List.filter_append,List.filter_cons];simp only [ne_eq,not_true_eq_false,decide_false,qf,if_false];rw [List.filter_eq_self.2 (λj hj=>by have:=hAi j hj;simp;omega),List.filter_eq_self.2 (λj hj=>by have:=hiB j hj;simp;omega)]
   have hd':Down ops (listed.setIfInBounds i true):=by
    intro k o ho hk j hj;by_cases hji:j=i
    ·subst hji;have:j<listed.size:=by omega
     simp [Array.getD,this]
    ·rw [getD_set_ne true (Ne.symm hji)];by_cases hki:k=i
     ·subst hki;rw [hy]at ho;cases ho;exact hlistedE j hj
     ·rw [getD_set_ne true (Ne.symm hki)]at hk;exact hd k o ho hk j hj
   refine ih (listed.setIfInBounds i true) s1 st' fps2 a' w' (by simp [hsz]) hd' ?_ (by rw [hR'];exact h4) (λi' j' fi' fj' hu h5 h6=>hconf i' j' fi' fj' hu ((h2 _).1 (by simp [h5])) ((h2 _).1 (by simp [h6]))) hS' (λa2 w2 hd2=>hQ a2 w2 (by rw [hd2,hdf]));rw [hR'];rw [hAB]at hlen;simp only [List.length_append,List.length_cons]at hlen ⊢;omega
theorem qza{w0:World}{X0:Cx}{Md:Md}{n:Nat}{st:St}{tmps:Array Value}(hS:Sim w0 X0 Md n st tmps w):Sim w0 X0 Md n st tmps {w with drawn:=w.drawn+1}:=by
 obtain ⟨X,O,h,hF⟩:=hS;have heff:Eff w X {w with drawn:=w.drawn+1} X [] :=
  ⟨Nat.le_refl _,λ_ _ _=>rfl,λ_ _ _=>rfl,by simp,rfl,h.dom,rfl,rfl,rfl⟩
 have h1:=h.put (T:=[]) (Oin:=[]) (O':=[]) (z:=.undef) (v:=undef) none (by simp) heff (by simp [Rep]) Lin.nil (by simp) (by simp [V.qq]);have hF1:=Fr.put (z:=.undef) h hF (T:=[]) (Oin:=[]) (O':=[]) none (by simp) heff (by simp);exact ⟨X,_,h1,hF1⟩
theorem qeY(n:Nat):((List.range n).filter λk=>!(Array.replicate n false).getD k true)=List.range n:=by
 refine List.filter_eq_self.2 λk hk=>?_;have:=List.mem_range.1 hk;simp [Array.getD,this]
theorem qxk(hC:OrcOk P C)(hm:P.follows .mixedOrders=true){F:Fence}(hFF:F=Fence.wide\/∃l,F=Fence.wide.inRound l){w0:World}{X0:Cx}{Md:Md}{n:Nat}{bid id:Nat}{ops:Array Oper}{draw:Bool}{st st':St}{e:Ex}{a:Act}(hS:Sim w0 X0 Md n st a.tmps w)
  {st0:St} (hcl:st0.clear (H.pre f id)=some st) (hnt:qgy H ops draw=none) (hls:qsn H f ops=false) (hsp:H.sp f id=0) (hx:ex P H C f bid (.region id ops draw) st0=some (e,st')):(Code.region id ops draw).wpIn F 0 P (λe' a' w'=>e'=e.qoS/\a'.defers=a.defers/\Sim w0 X0 Md n st' a'.tmps w') a w:=by
 simp only [ex,hcl,hsp,hnt,hls,if_true,qf,if_false]at hx;cases draw with
 |false =>
  simp only [qf,if_false]at hx;obtain ⟨s,h1,h2⟩:=qc.1 hx;simp only [Prod.mk.injEq]at h2;obtain ⟨rfl,rfl⟩:=h2;obtain ⟨fps,h3⟩:=qcI _ _ _ h1;exact wpIn_region (qzM hC hFF _ st s fps a w hS h3 λa' w' hd hS'=>⟨rfl,hd,hS'⟩)
 |true =>
  simp only [if_true]at hx;split at hx
  ·rename_i hreg;have key:∀fps,qf0 P H C f ops (List.range ops.size) st=some (st',fps)->(∀i j fi fj,(i,j)∈H.pairs f id->(i,fi)∈fps->(j,fj)∈fps->fi.qfX fj=false)->e=.normal ->
     (Code.region id ops true).wpIn F 0 P (λe' a' w'=>e'=e.qoS/\a'.defers=a.defers/\Sim w0 X0 Md n st' a'.tmps w') a w:=λfps h3 hc he=>by
    subst he;refine wpIn_region_any hm (qu9 hC hFF hreg ops.size _ st st' fps a _ (by simp) (λk o ho hk=>?_) (by rw [qeY];simp) (by rw [qeY];exact h3) hc (qza hS) λa' w' hd hS'=>⟨rfl,hd,hS'⟩);have:=(Array.getElem?_eq_some_iff.1 ho).1;simp [Array.getD,this]at hk
   split at hx
   ·rename_i hU;obtain ⟨s,h1,h2⟩:=qc.1 hx;simp only [Prod.mk.injEq]at h2;obtain ⟨rfl,rfl⟩:=h2;obtain ⟨fps,h3⟩:=qcI _ _ _ h1;exact key fps h3 (by rw [hU];simp) rfl
   ·split at hx
    ·rename_i s fps h3;split at hx
     ·rename_i hc;simp only [qb,Prod.mk.injEq]at hx;obtain ⟨rfl,rfl⟩:=hx;exact key fps h3 (qmj hc) rfl
     ·cases hx
    ·cases hx
  ·cases hx
end
section
variable {P:Program} {H:Hints} {f:FuncId} {C:Orc} {w:World} {X:Cx}
def qr3(O:Pl->List Nat)(r0:Root)(Oc:List Nat):Pl->List Nat:=λp=>if p=.box r0 then Oc else O p
theorem Rel.qvO{st:St}{tmps:Array Value}{O:Pl->List Nat}(h:Rel st tmps w X O){d:Nat}{c:List V}{o:Obj}(hnb:qy st.B d=none)
  (hc:qnk (w.alloc o) (X.setβ ⟨st.L.length,d⟩ w.heap.size) w.heap.size c []) (hp:∀r∈ptrsL c,(st.box r).isSome=true) :
  Rel {st with B:=(d,c)::st.B} tmps (w.alloc o) (X.setβ ⟨st.L.length,d⟩ w.heap.size) (qr3 O ⟨st.L.length,d⟩ []):=by
 have hr0:st.box ⟨st.L.length,d⟩=none:=by simp [St.box,hnb]
 have hold:∀k,k<w.heap.size->(w.alloc o).heap[k]?=w.heap[k]?:=λk hk=>heap_alloc_old w _ hk;have hnotin:∀l:List Root,(∀r∈l,(st.box r).isSome=true)->(⟨st.L.length,d⟩:Root)∉l:=λl hl hm=>by have:=hl _ hm;rw [hr0]at this;simp at this
 have hext:∀{x:V} {u:Value} {A:List Nat},(∀r∈x.qq,(st.box r).isSome=true)->Rep w X x u A->Rep (w.alloc o) (X.setβ ⟨st.L.length,d⟩ w.heap.size) x u A:=λhx hr =>
  Rep.ext (ext_setβ (hnotin _ hx) h.dom hold) _ _ _ (λ_ h=>h) (by simp) hr
 have hextL:∀{l:List V} {us:List Value} {A:List Nat},(∀r∈ptrsL l,(st.box r).isSome=true)->RepL w X l us A->RepL (w.alloc o) (X.setβ ⟨st.L.length,d⟩ w.heap.size) l us A:=λhx hr =>
  RepL.ext (ext_setβ (hnotin _ hx) h.dom hold) _ _ _ (λ_ h=>h) (by simp) hr
 have hbox:∀r,({st with B:=(d,c)::st.B}:St).box r=if r=⟨st.L.length,d⟩then some c else st.box r:=λr=>qk2 st d c r;have hlive:∀r,(st.box r).isSome=true->(({st with B:=(d,c)::st.B}:St).box r).isSome=true:=λr hr=>by
  rw [hbox];split
  ·rfl
  ·exact hr
 refine {size:=h.size,env:=?_,envD:=?_,box:=?_,boxD:=?_,inj:=?_,lin:=?_,dis:=?_,ptrE:=λr hr=>hlive r (h.ptrE r hr),ptrB:=?_,up:=?_,dom:=?_}
 ·intro s x hx;obtain ⟨v,hv,hr⟩:=h.env s x hx;refine ⟨v,hv,?_⟩;have e:qr3 O ⟨st.L.length,d⟩ [] (.tmp s)=O (.tmp s):=by simp [qr3]
  rw [e];exact hext (λr hr=>h.ptrE r (qD.2 ⟨x,List.mem_of_getElem? hx,hr⟩)) hr
 ·intro s hs;simpa [qr3]using h.envD s hs
 ·intro r c1 hr;rw [hbox]at hr;by_cases e:r=⟨st.L.length,d⟩
  ·subst e;rw [if_pos rfl]at hr;cases hr;refine ⟨w.heap.size,by simp [Cx.setβ],by simp,?_,?_⟩
   ·cases hω:(X.setβ ⟨st.L.length,d⟩ w.heap.size).ω w.heap.size with
    |none=>rfl
    |some p=>have:=h.dom w.heap.size p.1 p.2 hω;omega
   ·rw [show qr3 O ⟨st.L.length,d⟩ [] (.box ⟨st.L.length,d⟩)=[]from by simp [qr3]];exact hc
  ·rw [if_neg e]at hr;obtain ⟨k,hkb,hlt,hω,hbx⟩:=h.box r c1 hr;refine ⟨k,by simp [Cx.setβ,e,hkb],by simp;omega,hω,?_⟩;rw [show qr3 O ⟨st.L.length,d⟩ [] (.box r)=O (.box r)from by simp [qr3,e]];exact hbx.qgM (hold k hlt) (λl vals A hl _ hr'=>hextL (λr' hr'=>h.ptrB r c1 hr r' (hl r' hr')) hr')
 ·intro r hr;rw [hbox]at hr;split at hr
  ·cases hr
  ·rename_i e;simp [qr3,e,h.boxD r hr]
 ·intro r r' k h1 h2 h3 h4;rw [hbox]at h1 h2;simp only [Cx.setβ]at h3 h4;have hltk:∀r'',(st.box r'').isSome=true->X.β r''=some k->k<w.heap.size:=λr'' hs hb=>by
   obtain ⟨c'',hc''⟩:=Option.isSome_iff_exists.1 hs;obtain ⟨k',hk',hlt',_⟩:=h.box r'' c'' hc'';rw [hb]at hk';cases hk';exact hlt'
  split at h3
  ·rename_i e1;split at h4
   ·rename_i e2;rw [e1,e2]
   ·rename_i e2;rw [if_neg e2]at h2;cases h3;have:=hltk r' h2 h4;omega
  ·rename_i e1;rw [if_neg e1]at h1;split at h4
   ·cases h4;have:=hltk r h1 h3;omega
   ·rename_i e2;rw [if_neg e2]at h2;exact h.inj r r' k h1 h2 h3 h4
 ·intro p;unfold qr3;split
  ·exact Lin.nil
  ·exact h.lin p
 ·intro p q hpq k hkp hkq;unfold qr3 at hkp hkq;split at hkp
  ·simp at hkp
  ·split at hkq
   ·simp at hkq
   ·exact h.dis p q hpq k hkp hkq
 ·intro r c1 hr r' hr';rw [hbox]at hr;split at hr
  ·cases hr;exact hlive r' (hp r' hr')
  ·exact hlive r' (h.ptrB r c1 hr r' hr')
 ·intro r c1 hr r' hr';rw [hbox]at hr;split at hr
  ·rename_i e;cases hr;subst e;have:=qql (hp r' hr');simp only<;>omega
  ·exact h.up r c1 hr r' hr'
 ·intro k e fz hk;have:=h.dom k e fz hk;simp<;>omega
theorem Fr.qvO{w0:World}{X0:Cx}{M:Md}{n:Nat}{st:St}{tmps:Array Value}{O:Pl->List Nat}(h:Rel st tmps w X O)(hF:Fr w0 X0 M n st w X O){d:Nat}{c:List V}{o:Obj}(hnb:qy st.B d=none) :
  Fr w0 X0 M n {st with B:=(d,c)::st.B} (w.alloc o) (X.setβ ⟨st.L.length,d⟩ w.heap.size) (qr3 O ⟨st.L.length,d⟩ []) where
 size:=by have:=hF.size;simp<;>omega
 kept:=λb hb hM=>by
  obtain ⟨h1,h2⟩:=hF.kept b hb hM;exact ⟨by rw [heap_alloc_old w _ (Nat.lt_of_lt_of_le hb hF.size),h1],h2⟩
 grew:=λb e fz hω=>by
  obtain ⟨e1,fz1,h1,h2,h3,h4⟩:=hF.grew b e fz hω;exact ⟨e1,fz1,h1,h2,h3,λi v hi hc=>by rw [qC (heap_alloc_old w _ (h.dom b e1 fz1 h1))];exact h4 i v hi hc⟩
 β:=λr hr=>by
  have hl:=hF.lev;simp only [Cx.setβ];rw [if_neg (λe=>by rw [e]at hr;simp at hr;omega)];exact hF.β r hr
 own:=λp b hb=>by
  unfold qr3 at hb;split at hb
  ·simp at hb
  ·exact hF.own p b hb
 boxM:=λr b hr hb=>by
  rw [show ({st with B:=(d,c)::st.B}:St).box r=if r=⟨st.L.length,d⟩then some c else st.box r from qk2 st d c r]at hr;simp only [Cx.setβ]at hb;split at hb
  ·cases hb;exact .inl hF.size
  ·rename_i e;rw [if_neg e]at hr;exact hF.boxM r b hr hb
 lev:=hF.lev
 live:=λr hr=>by
  have hl:=hF.lev;rw [show ({st with B:=(d,c)::st.B}:St).box r=if r=⟨st.L.length,d⟩then some c else st.box r from qk2 st d c r,if_neg (λe=>by rw [e]at hr;simp at hr;omega)];exact hF.live r hr
 os:=hF.os
 out:=hF.out
 tape:=hF.tape
 gl:=hF.gl
 gm:=hF.gm
theorem qaz(D:List Tmp)(s:Nat):∀B:Level,qy (qT D B) s=if D.contains s then none else qy B s
 |[]=>by simp [qT,qy]
 |(k,c)::B=>by
  simp only [qT,qy];by_cases hk:D.contains k=true
  ·rw [if_pos hk,qaz D s B];by_cases hs:D.contains s=true
   ·rw [if_pos hs,if_pos hs]
   ·rw [if_neg hs,if_neg hs,if_neg (λe=>hs (by rw [<- e];exact hk))]
  ·rw [if_neg hk];simp only [qy,qaz D s B];by_cases hks:k=s
   ·subst hks;rw [if_pos rfl,if_neg hk,if_pos rfl]
   ·rw [if_neg hks,if_neg hks]
theorem qwT{B:Level}{r:Root}{s:Nat}{c:List V}(hl:qy B s=some c)(hr:r∈ptrsL c):r∈qkW B:=by
 induction B with
 |nil=>simp [qy]at hl
 |cons p B ih =>
  obtain ⟨k,d⟩:=p;simp only [qy]at hl;simp only [qkW,qj];split at hl
  ·cases hl;exact .inl hr
  ·exact .inr (ih hl)
def qqx(O:Pl->List Nat)(lvl:Nat)(D:List Tmp):Pl->List Nat
 |.tmp t=>O (.tmp t)
 |.box r=>if r.lvl=lvl/\D.contains r.slot=true then []else O (.box r)
theorem qyd(st:St)(D:List Tmp)(r:Root):({st with B:=qT D st.B}:St).box r=if r.lvl=st.L.length/\D.contains r.slot=true then none else st.box r:=by
 unfold St.box;by_cases h:r.lvl=st.L.length
 ·simp only [h,if_true,true_and,qaz]
 ·simp only [h,if_false,false_and]
theorem qnI{w0:World}{X0:Cx}{M:Md}{n:Nat}{st:St}{tmps:Array Value}{O:Pl->List Nat}(h:Rel st tmps w X O)(hF:Fr w0 X0 M n st w X O){D:List Tmp}
  (hE:qcY st.L.length D (ptrsL st.E)=true) (hB:qcY st.L.length D (qkW (qT D st.B))=true) :
  Rel {st with B:=qT D st.B} tmps w X (qqx O st.L.length D)/\Fr w0 X0 M n {st with B:=qT D st.B} w X (qqx O st.L.length D):=by
 have hbox:=qyd st D;have hsome:∀r c,({st with B:=qT D st.B}:St).box r=some c->¬ (r.lvl=st.L.length/\D.contains r.slot=true)/\st.box r=some c:=λr c hr=>by
  rw [hbox]at hr;split at hr
  ·cases hr
  ·rename_i hn;exact ⟨hn,hr⟩
 have hsub:∀p k,k∈qqx O st.L.length D p->k∈O p:=λp k hk=>by
  cases p with
  |tmp t=>exact hk
  |box r =>
   simp only [qqx]at hk;split at hk
   ·simp at hk
   ·exact hk
 have hok:∀r,qcY st.L.length D [r]=true->(st.box r).isSome=true->(({st with B:=qT D st.B}:St).box r).isSome=true:=λr hr hs=>by
  rw [hbox,if_neg]
  ·exact hs
  ·rintro ⟨h1,h2⟩;simp only [qcY,List.all_cons,List.all_nil,Bool.and_true,h1,bne_self_eq_false,h2,Bool.false_or,Bool.not_true]at hr;cases hr
 have hall:∀rs r,qcY st.L.length D rs=true->r∈rs->qcY st.L.length D [r]=true:=λrs r hrs hr=>by
  have:=List.all_eq_true.1 hrs r hr;simp only [qcY,List.all_cons,List.all_nil,Bool.and_true];exact this
 constructor
 ·refine {size:=h.size,env:=h.env,envD:=h.envD,box:=?_,boxD:=?_,inj:=?_,lin:=?_,dis:=?_,ptrE:=?_,ptrB:=?_,up:=?_,dom:=h.dom}
  ·intro r c hr;obtain ⟨h1,h2⟩:=hsome r c hr;simpa only [qqx,if_neg h1]using h.box r c h2
  ·intro r hr;rw [hbox]at hr;simp only [qqx];split
   ·rfl
   ·rename_i hn;rw [if_neg hn]at hr;exact h.boxD r hr
  ·intro r r' b h1 h2;obtain ⟨c,hc⟩:=Option.isSome_iff_exists.1 h1;obtain ⟨c',hc'⟩:=Option.isSome_iff_exists.1 h2;exact h.inj r r' b (by simp [(hsome r c hc).2]) (by simp [(hsome r' c' hc').2])
  ·intro p;cases p with
   |tmp t=>exact h.lin _
   |box r =>
    simp only [qqx];split
    ·exact Lin.nil
    ·exact h.lin _
  ·exact λp q hpq k hkp hkq=>h.dis p q hpq k (hsub p k hkp) (hsub q k hkq)
  ·exact λr hr=>hok r (hall _ r hE hr) (h.ptrE r hr)
  ·intro r c hr r' hr';obtain ⟨h1,h2⟩:=hsome r c hr;have h3:=h.ptrB r c h2 r' hr';by_cases hl:r.lvl=st.L.length
   ·refine hok r' (hall _ r' hB ?_) h3;rw [hbox,if_neg h1]at hr;have hlk:qy (qT D st.B) r.slot=some c:=by
     rw [qaz,if_neg (λe=>h1 ⟨hl,e⟩)];unfold St.box at hr;rw [if_pos hl]at hr;exact hr
    exact qwT hlk hr'
   ·have h4:=h.up r c h2 r' hr';have h5:=qql (st:=st) (r:=r) (by simp [h2]);rw [hbox,if_neg (λe=>by omega)];exact h3
  ·intro r c hr;exact h.up r c (hsome r c hr).2
 ·exact {
   size:=hF.size
   kept:=hF.kept
   grew:=hF.grew
   β:=hF.β
   own:=λp b hb=>hF.own p b (hsub p b hb)
   boxM:=λr b hr hb=>by
    obtain ⟨c,hc⟩:=Option.isSome_iff_exists.1 hr;exact hF.boxM r b (by simp [(hsome r c hc).2]) hb
   lev:=hF.lev
   live:=λr hr=>by
    have:=hF.lev;rw [hbox,if_neg (λe=>by omega)];exact hF.live r hr
   os:=hF.os
   out:=hF.out
   tape:=hF.tape
   gl:=hF.gl
   gm:=hF.gm}
def qlV:Option V->Bool
 |some .undef=>true
 |_=>false
theorem qsq{x:Option V}:qlV x=true↔x=some .undef:=by
 constructor
 ·intro h;unfold qlV at h;split at h
  ·rfl
  ·cases h
 ·rintro rfl;rfl
def qgK(O:Pl->List Nat)(E':List V):Pl->List Nat
 |.tmp t=>if qlV E'[t]?=true then []else O (.tmp t)
 |.box r=>O (.box r)
theorem forget{w0:World}{X0:Cx}{M:Md}{n:Nat}{st:St}{tmps:Array Value}{O:Pl->List Nat}(h:Rel st tmps w X O)(hF:Fr w0 X0 M n st w X O){E':List V}(hlen:E'.length=st.E.length)(hE:∀t:Nat,E'[t]?=st.E[t]?\/E'[t]?=some .undef) :
  Rel {st with E:=E'} tmps w X (qgK O E')/\Fr w0 X0 M n {st with E:=E'} w X (qgK O E'):=by
 have hsub:∀p k,k∈qgK O E' p->k∈O p:=λp k hk=>by
  cases p with
  |tmp t =>
   simp only [qgK]at hk;split at hk
   ·simp at hk
   ·exact hk
  |box r=>exact hk
 constructor
 ·refine {size:=by rw [hlen];exact h.size,env:=?_,envD:=?_,box:=h.box,boxD:=h.boxD,inj:=h.inj,lin:=?_,dis:=λp q hpq k hkp hkq=>h.dis p q hpq k (hsub p k hkp) (hsub q k hkq),ptrE:=?_,ptrB:=h.ptrB,up:=h.up,dom:=h.dom}
  ·intro t x hx;have hx':E'[t]?=some x:=hx;have hlt:t<tmps.size:=by rw [h.size,<- hlen];exact (qm.1 hx').1
   by_cases hu:x=.undef
   ·subst hu;refine ⟨tmps[t],Array.getElem?_eq_getElem hlt,?_⟩;simp only [qgK,hx',qlV,if_true,Rep]
   ·have h1:st.E[t]?=some x:=by
     rcases hE t with h1|h1
     ·rw [<- h1];exact hx'
     ·rw [hx']at h1;exact absurd (Option.some.inj h1) hu
    have h2:¬ qlV E'[t]?=true:=λe=>by rw [qsq,hx']at e;exact hu (Option.some.inj e)
    simpa only [qgK,if_neg h2]using h.env t x h1
  ·intro t ht;simp only [qgK];split
   ·rfl
   ·exact h.envD t (by rw [<- hlen];exact ht)
  ·intro p;cases p with
   |tmp t =>
    simp only [qgK];split
    ·exact Lin.nil
    ·exact h.lin _
   |box r=>exact h.lin _
  ·intro r hr;obtain ⟨x,hx,hr⟩:=qD.1 hr;obtain ⟨t,ht,hx⟩:=List.mem_iff_getElem.1 hx;have hx':E'[t]?=some x:=by rw [List.getElem?_eq_getElem ht,hx]
   rcases hE t with h1|h1
   ·exact h.ptrE r (qD.2 ⟨x,List.mem_of_getElem? (by rw [<- h1];exact hx'),hr⟩)
   ·rw [hx']at h1;cases h1;simp [V.qq]at hr
 ·exact {gl:=hF.gl,gm:=hF.gm,size:=hF.size,kept:=hF.kept,grew:=hF.grew,β:=hF.β,own:=λp b hb=>hF.own p b (hsub p b hb),boxM:=hF.boxM,lev:=hF.lev,live:=hF.live,os:=hF.os,out:=hF.out,tape:=hF.tape}
theorem qlv:∀(D:List Tmp) (E:List V),(qdm D E).length=E.length/\∀t:Nat,(qdm D E)[t]?=E[t]?\/(qdm D E)[t]?=some .undef
 |[],E=>⟨rfl,λ_=>.inl rfl⟩
 |d::D,E=>by
  obtain ⟨h1,h2⟩:=qlv D (E.set d .undef);have e:qdm (d::D) E=qdm D (E.set d .undef):=rfl;rw [e];refine ⟨by rw [h1];simp,λt=>?_⟩;rcases h2 t with h3|h3
  ·rw [h3,List.getElem?_set];by_cases hdt:d=t
   ·subst hdt;by_cases hlt:d<E.length
    ·simp [hlt]
    ·simp [hlt]
   ·simp [hdt]
  ·exact .inr h3
theorem qfY(D:List Tmp):∀B:Level,(qT D B).length<=B.length/\((qT D B).length=B.length->qT D B=B)
 |[]=>⟨Nat.le_refl _,λ_=>rfl⟩
 |(k,c)::B=>by
  obtain ⟨h1,h2⟩:=qfY D B;simp only [qT];split
  ·exact ⟨by simp;omega,λh=>by simp at h;omega⟩
  ·exact ⟨by simpa using h1,λh=>by rw [h2 (by simpa using h)]⟩
theorem qhi{w0:World}{X0:Cx}{M:Md}{n:Nat}{st st':St}{D:List Tmp}{a:Act}(hS:qew w0 X0 M n st a w)(hx:st.clear D=some st'):qew w0 X0 M n st' a w:=by
 obtain ⟨X,O,h,hF,hM⟩:=hS;unfold St.clear at hx;simp only at hx;obtain ⟨hl,hE⟩:=qlv D st.E;obtain ⟨h1,hF1⟩:=forget h hF hl hE;split at hx
 ·rename_i hc;cases hx;by_cases hs:(qT D st.B).length=st.B.length
  ·rw [(qfY D st.B).2 hs];exact ⟨X,_,h1,hF1,hM⟩
  ·rcases hc with hc|hc
   ·exact absurd hc hs
   ·simp only [qe]at hc;obtain ⟨h2,hF2⟩:=qnI h1 hF1 (D:=D) hc.1 hc.2;exact ⟨X,_,h2,hF2,hM⟩
 ·cases hx
theorem qy2{st:St}{tmps:Array Value}{O:Pl->List Nat}(h:Rel st tmps w X O):RepL w X (st.E.map V.q5) tmps.toList []:=by
 have key:∀(E:List V) (vs:List Value),E.length=vs.length->(∀(t:Nat) x,E[t]?=some x->∃v A,vs[t]?=some v/\Rep w X x v A)->RepL w X (E.map V.q5) vs []:=by
  intro E;induction E with
  |nil=>intro vs hl _;simp only [List.map_nil,RepL];exact ⟨List.eq_nil_of_length_eq_zero (by simpa using hl.symm),trivial⟩
  |cons x E ih =>
   intro vs hl hv;cases vs with
   |nil=>simp at hl
   |cons v vs =>
    simp only [qh,RepL];obtain ⟨v',A,h1,h2⟩:=hv 0 x rfl;simp only [List.getElem?_cons_zero,qb]at h1;subst h1;exact ⟨v,vs,[],[],rfl,rfl,qgh h2,ih vs (by simpa using hl) λt y hy=>by simpa using hv (t+1) y (by simpa using hy)⟩
 refine key st.E tmps.toList (by simpa using h.size.symm) λt x hx=>?_;obtain ⟨v,hv,hr⟩:=h.env t x hx;exact ⟨v,_,by simpa using hv,hr⟩
theorem qn7{E:List V}{r:Root}(h:r∈ptrsL (E.map V.q5)):r∈ptrsL E:=by
 rw [show E.map V.q5=reflagL qW E from (qG _ _).symm,ptrsL_reflag]at h;exact h
theorem qn9{st:St}{a:Act}{O:Pl->List Nat}(h:Rel st a.tmps w X O)(x:Operand):Rep w X (rd H f default st.E x) (a.eval x) []:=by
 have htk:q7 H f (default:Oper)=false:=by rfl
 obtain ⟨Oin,hrep,hs,_⟩:=qbj (H:=H) (f:=f) h default [x] (λht=>by rw [htk]at ht;cases ht);have:Oin=[]:=by
  cases Oin with
  |nil=>rfl
  |cons b l=>have:=(hs b (by simp)).1;rw [htk]at this;cases this
 subst this;simp only [qh,List.map_nil,RepL]at hrep;obtain ⟨u,vs,O1,O2,hu,hO,h1,_⟩:=hrep;simp only [List.nil_eq,List.append_eq_nil_iff]at hO;simp only [List.cons.injEq]at hu;rw [hu.1];rw [hO.1]at h1;exact h1
end
section
variable {P:Program} {H:Hints} {f:FuncId} {C:Orc} {w:World} {X:Cx}
theorem FOk.qyo{F:Fence}{X0:Cx}{Md:Md}{n:Nat}(h:FOk F X0 Md n):F=Fence.wide\/∃l,F=Fence.wide.inRound l:=by
 rcases h.1 with h|⟨r,l,h,_⟩
 ·exact .inl h
 ·exact .inr ⟨l,h⟩
theorem qtf{g:FuncId}{args:List V}{st s:St}{z:V}(h:qeX C g args st=some (z,s)):s.E=st.E:=by
 unfold qeX at h;split at h
 ·split at h
  ·cases h;rfl
  ·cases h
 split at h
 ·split at h
  ·split at h
   ·split at h
    ·split at h
     ·cases h;rfl
     ·cases h
    ·cases h
   ·cases h
  ·cases h
 ·split at h
  ·split at h
   ·split at h
    ·cases h;rfl
    ·cases h
   ·cases h
  ·cases h
theorem qrl{bx:Root->Option (List V)}{x:V}(hx:peekV bx x=none):∀l:List V,x∈l->peekL bx l=none
 |[],h=>by simp at h
 |y::l,h=>by
  simp only [peekL];rcases qk.1 h with rfl|h
  ·rw [hx]
  ·rw [qrl hx l h];split<;>simp_all
theorem qw6{bx:Root->Option (List V)}{r:Root}(first cap:List V):peekL bx (first++[.yld r]++cap)=none :=
 qrl (x:=.yld r) (by simp [peekV]) _ (by simp)
theorem qyn{F:Fence}{w0:World}{X0:Cx}{Md:Md}{n:Nat}{st:St}{a:Act}(hF:FOk F X0 Md n)(hS:qew w0 X0 Md n st a w)(fn:FuncId){ps:Array Tmp}{t:Tmp}{ts:List Tmp}(hps:ps.toList=t::ts){asz bo:Code}(hnb:qy st.B t=none) :
  ∃l mark w1 X1 O1,(Instr.enterLoop fn a.tmps ps asz bo F.round).run P w=.ok (l,mark) w1/\Rel {st with B:=(t,[.lp .ready none f (st.E.map V.q5) (t::ts) asz bo])::st.B} a.tmps w1 X1 O1 /\
   Fr w0 X0 Md n {st with B:=(t,[.lp .ready none f (st.E.map V.q5) (t::ts) asz bo])::st.B} w1 X1 O1/\qbX w0 w1 X1 (mark++a.defers)/\X1.β ⟨st.L.length,t⟩=some l:=by
 obtain ⟨X,O,h,hFr,hM⟩:=hS
 have lay:∀(w':World) (O':Pl->List Nat) (df:Nat),Rel st a.tmps w' X O'->Fr w0 X0 Md n st w' X O' ->
   Rel {st with B:=(t,[.lp .ready none f (st.E.map V.q5) (t::ts) asz bo])::st.B} a.tmps (w'.alloc (.loop {state:=.ready,pending:=none,fn,tmps:=a.tmps,params:=ps,assign:=asz,body:=bo,defers:=df})) (X.setβ ⟨st.L.length,t⟩ w'.heap.size) (qr3 O' ⟨st.L.length,t⟩ []) /\
   Fr w0 X0 Md n {st with B:=(t,[.lp .ready none f (st.E.map V.q5) (t::ts) asz bo])::st.B} (w'.alloc (.loop {state:=.ready,pending:=none,fn,tmps:=a.tmps,params:=ps,assign:=asz,body:=bo,defers:=df})) (X.setβ ⟨st.L.length,t⟩ w'.heap.size) (qr3 O' ⟨st.L.length,t⟩ []):=by
  intro w' O' df h' hFr';have hptr:∀r∈ptrsL [V.lp .ready none f (st.E.map V.q5) (t::ts) asz bo],(st.box r).isSome=true:=λr hr=>by
   have:r∈ptrsL (st.E.map V.q5):=by simpa [ptrsL,V.qq]using hr
   exact h'.ptrE r (qn7 this)
  refine ⟨h'.qvO hnb (.inr (.inl ⟨.ready,none,f,st.E.map V.q5,t::ts,asz,bo,_,rfl,heap_alloc_new w' _,rfl,rfl,rfl,hps,rfl,rfl,?_,rfl⟩)) hptr,Fr.qvO h' hFr' hnb⟩;refine RepL.ext (ext_setβ (R:=ptrsL (st.E.map V.q5)) (λhm=>?_) h'.dom (λk hk=>heap_alloc_old w' _ hk)) _ _ _ (λ_ h=>h) (by simp) (qy2 h');have:=h'.ptrE _ (qn7 hm);simp [St.box,hnb]at this
 have mk:∀(w':World) (D:List Deferred) (o:Obj),qbX w0 w' X D->qbX w0 (w'.alloc o) (X.setβ ⟨st.L.length,t⟩ w'.heap.size) D:=λw' D o hM' =>
  hM'.of λk hk _ _=>⟨heap_alloc_old w' _ (Array.getElem?_eq_some_iff.1 hk).1,rfl⟩
 rcases hF.1 with rfl|⟨r,l,rfl,hrl,hβ,hkd⟩
 ·-- outermost
  have heff:Eff w X (w.alloc (.deferred (some []))) X [] :=
   ⟨by simp,λb hb _=>heap_alloc_old w _ hb,λ_ _ _=>rfl,by simp,rfl,λb e fz hb=>by have:=h.dom b e fz hb;simp;omega,rfl,rfl,rfl⟩
  have h1:=h.put (T:=[]) (Oin:=[]) (O':=[]) (z:=.undef) (v:=undef) none (by simp) heff (by simp [Rep]) Lin.nil (by simp) (by simp [V.qq]);have hF1:=Fr.put (z:=.undef) h hFr (T:=[]) (Oin:=[]) (O':=[]) none (by simp) heff (by simp);change Rel st a.tmps _ X _ at h1
  change Fr w0 X0 Md n st _ X _ at hF1
  obtain ⟨h2,hF2⟩:=lay _ _ w.heap.size h1 hF1;refine ⟨_,_,_,_,_,run_enterLoop_outer fn a.tmps ps asz bo,h2,hF2,mk _ _ _ ?_,by simp [Cx.setβ]⟩;obtain ⟨ks,hD,hnd,hks⟩:=hM;refine ⟨w.heap.size::ks,by rw [hD];rfl,?_,λk hk=>?_⟩
  ·refine List.nodup_cons.2 ⟨λhm=>?_,hnd⟩;have:=(Array.getElem?_eq_some_iff.1 (hks _ hm).2.1).1;omega
  ·rcases qk.1 hk with rfl|hk
   ·refine ⟨hFr.size,heap_alloc_new w _,?_⟩;cases hω:X.ω w.heap.size with
    |none=>rfl
    |some p=>have:=h.dom w.heap.size p.1 p.2 hω;omega
   ·obtain ⟨h3,h4,h5⟩:=hks k hk;exact ⟨h3,by rw [heap_alloc_old w _ (Array.getElem?_eq_some_iff.1 h4).1];exact h4,h5⟩
 ·-- within a round
  have hb:X.β r=some l:=by rw [hFr.β r hrl,hβ]
  have hk:=hFr.live r hrl;rw [hkd]at hk;obtain ⟨c,hc,hlp⟩:=qc.1 hk;obtain ⟨b,hb',_,_,hbx⟩:=h.box r c hc;rw [hb]at hb';cases hb';have hlo:∃lo,w.heap[l]?=some (.loop lo):=by
   rcases hbx with ⟨cs,t,_,h2⟩|⟨s,pe,g,env,ps,asg,body,lo,_,h1,_⟩|⟨es,ents,ck,rfl,_⟩
   ·rw [qjO h2]at hlp;cases hlp
   ·exact ⟨lo,h1⟩
   ·cases hlp
  obtain ⟨lo,hlo⟩:=hlo;obtain ⟨h2,hF2⟩:=lay w O lo.defers h hFr;exact ⟨_,_,_,_,_,run_enterLoop_inner hlo fn a.tmps ps asz bo,h2,hF2,mk _ _ _ hM,by simp [Cx.setβ]⟩
theorem qrr(hC:OrcOk P C){bid:Nat}{g:Operand}{ps:Array Tmp}{asz bo:Code}{st st':St}{e:Ex}(hx:ex P H C f bid (.rangeFunc g ps asz bo) st=some (e,st')):qvH P (.rangeFunc g ps asz bo) st e st':=by
 intro F w0 X0 Md n a w hFO hS;show (Code.rangeFunc g ps asz bo).wpIn F 0 P _ a w;simp only [ex]at hx;split at hx
 ·rename_i h first cap t ts hfv hps;split at hx
  ·rename_i hnb;have hnb:qy st.B t=none:=by simpa using hnb
   split at hx
   ·rename_i z s hcall;split at hx
    ·rename_i hok;refine wpIn_rangeFunc λfn hfn=>?_;obtain ⟨l,mark,w1,X1,O1,hent,hR1,hF1,hM1,hβ1⟩:=qyn (P:=P) (f:=f) hFO hS fn hps (asz:=asz) (bo:=bo) hnb;obtain ⟨X,O,hR,hFr,_⟩:=hS
     have hg:=qn9 (H:=H) (f:=f) hR1 g;have hE1:({st with B:=(t,[.lp .ready none f (st.E.map V.q5) (t::ts) asz bo])::st.B}:St).E=st.E:=rfl;rw [hE1,hfv]at hg;simp only [Rep]at hg;obtain ⟨va,vc,A1,A2,hgv,hA,ha1,ha2⟩:=hg;simp only [List.nil_eq,List.append_eq_nil_iff]at hA;obtain ⟨rfl,rfl⟩:=hA
     obtain ⟨Md2,hF3,_,lift⟩:=qxh (df:=mark++a.defers) hR1 hF1 hM1;have hlen:st.L.length=n:=hFr.lev;have hr0:st.box ⟨st.L.length,t⟩=none:=by simp [St.box,hnb]
     have hyl:({st with B:=(t,[.lp .ready none f (st.E.map V.q5) (t::ts) asz bo])::st.B}:St).box ⟨st.L.length,t⟩=some [.lp .ready none f (st.E.map V.q5) (t::ts) asz bo]:=by
      rw [qk2,if_pos rfl]
     have hargs:RepL w1 X1 (first++[.yld ⟨st.L.length,t⟩]++cap) (va++[.func (.yield l) #[] #[]]++vc) []:=by
      have h2:RepL w1 X1 [.yld ⟨st.L.length,t⟩] [.func (.yield l) #[] #[]] []:=by
       simp only [RepL,Rep];exact ⟨_,_,[],[],rfl,rfl,⟨rfl,l,hβ1,rfl⟩,rfl,rfl⟩
      exact qaq (qaq ha1 h2) ha2
     have hcall':qeX C h (first++[.yld ⟨st.L.length,t⟩]++cap) {st with B:=(t,[.lp .ready none f (st.E.map V.q5) (t::ts) asz bo])::st.B}=some (z,s):=hcall;have hdoes:=qv8 (d:=none) hC.call hR1 hF3 (T:=[]) rfl hargs (by simp) Lin.nil (λq hq=>by
      rw [q9,q9]at hq;simp only [qj]at hq;have hin:∀q,q∈(rd H f default st.E g).qq->(({st with B:=(t,[.lp .ready none f (st.E.map V.q5) (t::ts) asz bo])::st.B}:St).box q).isSome=true:=λq hq=>hR1.ptrE q (qmI (E:=st.E) hq);rcases hq with (hq|hq)|hq
      ·exact hin q (by rw [hfv];simp [V.qq,hq])
      ·simp only [ptrsL,V.qq,List.append_nil,List.mem_singleton]at hq;subst hq;rw [hyl];rfl
      ·exact hin q (by rw [hfv];simp [V.qq,hq])) hcall'
     rcases hdoes with ⟨hent2,hcalls⟩|⟨hno,_⟩
     ·have hres:(resolve a.eval (rangeCall g l) 0).run P w1=.ok {target:=.fn (.func h) vc.toArray,args:=va.toArray++#[.func (.yield l) #[] #[]]} w1:=by
       simp only [resolve,hgv,Deferred.ofValue,Sem.run_pure];congr 3
       simp [Act.eval]
      have harr:(va++[Value.func (.yield l) #[] #[]]++vc).toArray=va.toArray++#[Value.func (.yield l) #[] #[]]++vc.toArray:=by apply Array.ext';simp
      rw [harr]at hent2 hcalls;refine ⟨l,mark,w1,_,w1,h,_,w1,hent,hres,λ_ _=>qf1 hFO.qyo _,hent2,λhd=>by rcases hFO.qyo with rfl|⟨l,rfl⟩<;>simp [Fence.wide,Fence.inRound]at hd,?_⟩;have hpost:CallsIn Fence.wide (0-1) P h (va.toArray++#[.func (.yield l) #[] #[]]++vc.toArray) w1 (rangePost F 0 P l (λe' a' w'=>e'=e.qoS/\qew w0 X0 Md n st' a' w') {a with defers:=mark++a.defers}):=by
       refine callsIn_wide.2 (hcalls.mono ?_);rintro e1 w3 ⟨v,rfl,X4,O4,hR4,hF4,hβ4⟩;change Rel s a.tmps w3 X4 O4 at hR4
       change Fr w1 X1 Md2 n s w3 X4 O4 at hF4
       have hsE:s.E=st.E:=(qtf hcall' :)
       have hsL:s.L.length=st.L.length:=by rw [hF4.lev,hlen]
       have hb4:X4.β ⟨st.L.length,t⟩=some l:=by rw [hβ4 _ (Nat.le_refl _),hβ1]
       have key:∀s0 pe g0 env0 ps0 as0 bo0,qy s.B t=some [.lp s0 pe g0 env0 ps0 as0 bo0]->s0≠.busy ->
         ∃w4,(Instr.endLoop l).run P w3=.ok pe w4/\qew w0 X0 Md n {st with L:=s.L,B:=qT [t] s.B} {a with defers:=mark++a.defers} w4:=by
        intro s0 pe g0 env0 ps0 as0 bo0 hl0 hnbusy;have hbx:s.box ⟨st.L.length,t⟩=some [.lp s0 pe g0 env0 ps0 as0 bo0]:=by
         unfold St.box;rw [if_pos hsL.symm];exact hl0
        obtain ⟨lo,hw,hst0,hpe0,_,_,_,_,_,hset⟩:=qtJ hR4 hF4 hbx hb4;obtain ⟨hR5,hF5⟩:=hset .exhausted pe;have hrun:=run_endLoop (P:=P) hw (by rw [hst0];exact hnbusy);have hs':s.qo ⟨st.L.length,t⟩ [.lp .exhausted pe g0 env0 ps0 as0 bo0]={s with B:=qdZ s.B t [.lp .exhausted pe g0 env0 ps0 as0 bo0]}:=by
         unfold St.qo;rw [if_pos hsL.symm]
        rw [hs']at hR5 hF5;have hcl:∀(B:Level) c,qT [t] (qdZ B t c)=qT [t] B:=by
         intro B c;induction B with
         |nil=>rfl
         |cons p B ih =>
          obtain ⟨k,d⟩:=p;simp only [qdZ];by_cases hk:k=t
          ·subst hk;simp [qT]
          ·simp only [hk,if_false,qT,ih]
        obtain ⟨hR6,hF6⟩:=qnI hR5 hF5 (D:=[t]) (by
          show qcY s.L.length [t] (ptrsL s.E)=true;rw [hsE,hsL];refine List.all_eq_true.2 λr hr=>?_;have h1:=hR.ptrE r hr;by_cases h2:r.lvl=st.L.length
          ·have h3:r.slot≠t:=λe=>by
            have:r=⟨st.L.length,t⟩:=by cases r;simp_all
            rw [this,hr0]at h1;cases h1
           simp [h3]
          ·simp [h2]) (by
          show qcY s.L.length [t] (qkW (qT [t] (qdZ s.B t _)))=true;rw [hcl,hsL];exact hok)
        refine ⟨_,by rw [hrun,hpe0],?_⟩;refine lift _ a.tmps _ ⟨X4,qqx (qp3 O4 ⟨st.L.length,t⟩ []) s.L.length [t],?_⟩;have hfin:({st with L:=s.L,B:=qT [t] s.B}:St)={s with B:=qT [t] (qdZ s.B t [.lp .exhausted pe g0 env0 ps0 as0 bo0])}:=by rw [hcl,<- hsE]
        rw [hfin];exact ⟨hR6,hF6⟩
       show ∃jump w4,(Instr.endLoop l).run P w3=.ok jump w4/\_;split at hx
       ·rename_i g0 env0 ps0 as0 bo0 hl0;simp only [qb,Prod.mk.injEq]at hx;obtain ⟨rfl,rfl⟩:=hx;obtain ⟨w4,h1,h2⟩:=key _ _ _ _ _ _ _ hl0 (by simp);exact ⟨none,w4,h1,rfl,h2⟩
       ·rename_i g0 env0 ps0 as0 bo0 hl0;simp only [qb,Prod.mk.injEq]at hx;obtain ⟨rfl,rfl⟩:=hx;obtain ⟨w4,h1,h2⟩:=key _ _ _ _ _ _ _ hl0 (by simp);exact ⟨some .ret,w4,h1,wpIn_ret ⟨rfl,h2⟩⟩
       ·rename_i id g0 env0 ps0 as0 bo0 hl0;simp only [qb,Prod.mk.injEq]at hx;obtain ⟨rfl,rfl⟩:=hx;obtain ⟨w4,h1,h2⟩:=key _ _ _ _ _ _ _ hl0 (by simp);exact ⟨some (.exit id),w4,h1,wpIn_exit ⟨rfl,h2⟩⟩
       ·cases hx
      rcases hFO.qyo with rfl|⟨l',rfl⟩
      ·exact hpost
      ·exact hpost
     ·rcases hno with hno|hno
      ·rw [q9,q9]at hno;simp [ptrsL,V.qq]at hno
      ·have:=qw6 (bx:=({st with B:=(t,[.lp .ready none f (st.E.map V.q5) (t::ts) asz bo])::st.B}:St).box) (r:=⟨st.L.length,t⟩) first cap;rw [this]at hno;cases hno
    ·cases hx
   ·cases hx
  ·cases hx
 ·cases hx
end
end Go.Ab
end
