/-
  ONE LAW OF A CHAPTER: its program side is run by an interpreter that is proved sound; what it computes is shown to be what the law says. No conditions. Part 9 of 9.
-/
import Derived.Test.YteiciemjanhdcaaGreatDoorMsth
import Derived.Test.YteiciemjanhdcaaGreatDoorTie
import Derived.Test.YteiciemjanhdcaaGreatDoorCards
import Derived.Lay
import Derived.SevenTiedAt
set_option linter.unusedSimpArgs false
set_option linter.unusedVariables false
set_option linter.unnecessarySimpa false
section
namespace Go.Proofs.YteiciemjanhdcaaGreatDoor
open Go Go.Ab Go.Tx Go.Dec Go.Proofs.YteiciemjanhdcaaGreatDoor.Mat
def qz7 (z:G):List UInt8:=Lib.itoa z.1 ++ [44] ++ Lib.itoa z.2.1
def qC3 (l:List G):List UInt8:=Lib.join (l.map qz7) [32]
theorem qBb {z:G} (h:inG z):(qz7 z).length<=43:=by
 have h1:=qng h.1;have h2:=qng h.2;unfold qz7;simp only [List.length_append,List.length_singleton] <;> omega
theorem qvQ {l:List G} (h:∀ z ∈ l,inG z):(qC3 l).length<=l.length * 44:=by
 have:=qwv [32] (B:=43) (l.map qz7) (λw hw=>by
  obtain ⟨n,hn,rfl⟩:=List.mem_map.1 hw;exact qBb (h n hn))
 simpa [qC3] using this
theorem qpt {l:List G} (hl:l.length<=1000) (h:∀ z ∈ l,inG z):qcW l = some (qC3 l):=by
 unfold qcW;rw [qAW l qz7 ?_ ?_]
 ·simp only [qb];have:=qvQ h;unfold strings_Join;unfold qC3 at this;rw [if_pos ⟨by rw [List.length_map]; omega,by omega⟩];rfl
 ·intro i z out hz ho;have hlt:=qik hz;have h0:decide ((i:Int) < (l.length:Int)) = true:=by simp <;> omega
  have hin:=h z (List.mem_of_getElem? hz);simp only [h0,cond_true,qaB hz,qb];have h1:=qng hin.1;have h2:=qng hin.2;rw [quA hin.1];simp only [qb];rw [qdZ (by omega)];simp only [qb];rw [quA hin.2];simp only [qb];rw [qyE (by simp; omega)];simp only [qb];rw [qdZ (by omega)];simp only [qb];rw [wid (by omega) (by omega)];rfl
 ·intro out ho;have h0:decide ((l.length:Int) < (l.length:Int)) = false:=by simp
  simp only [h0,cond_false]
def pdR (s:List UInt8):List G × Int:=match prs 5 s with
 | none=>([],7)
 | some l=>if 3 < l.length then ([],8) else if l.any (qi4 10000) then ([],2) else (l,0)
theorem qpP {l:List G} (h:l.length<=1000000000):qa0 l (l.length:Int) = some (if l.any (qi4 10000) then 2 else 0):=by
 unfold qa0;have hc:qw l = some (l.any (qi4 10000)):=by
  unfold qw qF;refine qu7 l qbR (qi4 10000) (λx _=>?_) h;unfold qbR;rw [qdg _ _ (by omega) (by omega)]; rfl
 rw [hc];simp only [qb,qdG,decide_true];rw [qf0 _ (by simp)];cases l.any (qi4 10000) <;> rfl
theorem qrY {s:List UInt8} (hs:s.length<=60000):qde s = some (pdR s):=by
 unfold qde;have h0:decide ((s.length:Int) > 60000) = false:=by simp <;> omega
 simp only [h0,cond_false];have:=qDX 5 (s:=s) (by omega);rw [show ((5:Nat):Int) = 5 from rfl] at this;rw [this];unfold pdR;cases hn:prs 5 s with
 | none =>
  simp only [qFS,qb,qdG];rw [qpP (by simp)];simp only [qb];rw [qf0 _ (by simp)];rfl
 | some l =>
  have hl:=qDG hn;simp only [qFS,qb,qdG];rw [qpP (by omega)];simp only [qb];rw [qf0 _ (by simp)];simp only [qb,if_true];by_cases c:3 < l.length
  ·have c':¬ ((l.length:Int)<=3):=by omega
   simp [c,c',qsl]
  ·have c':(l.length:Int)<=3:=by omega
   cases l.any (qi4 10000) <;> simp [c,c',qsl]
theorem qEk {c:UInt8} (h1:c ≠ 45) (h2:¬ isD c) (h3:c ≠ 44) (z:G):c ∉ qz7 z:=by
 unfold qz7;simp only [qo,List.mem_singleton,not_or];exact ⟨⟨qnM h1 h2,h3⟩,qnM h1 h2⟩
theorem qEn (d:Nat) (z:G):pt d (qz7 z) = (num d (Lib.itoa z.1)).bind λa=>(num d (Lib.itoa z.2.1)).map λb=>(a,b,()):=by
 have e:qz7 z = Lib.itoa z.1 ++ 44 :: Lib.itoa z.2.1:=by unfold qz7; simp
 unfold pt;rw [e,qcd (qnM (by decide) (by decide)),qdr (qnM (by decide) (by decide))]
theorem qBV (d:Nat) {l:List G} (h0:l ≠ []):prs d (qC3 l) = qur (λz=>pt d (qz7 z)) l:=by
 unfold prs qC3;rw [qqB (by simpa using h0)]
 ·induction l with
  | nil=>rfl
  | cons a l ih =>
   simp only [qm,qur];cases l with
   | nil=>rfl
   | cons b l'=>rw [ih (by simp)]
 ·intro w hw;obtain ⟨z,hz,rfl⟩:=List.mem_map.1 hw;exact qEk (by decide) (by decide) (by decide) z
end Go.Proofs.YteiciemjanhdcaaGreatDoor
end
section
namespace Go.Proofs.YteiciemjanhdcaaGreatDoor.Mat
open Go Go.Ab Go.Tx Go.Dec Go.Proofs.YteiciemjanhdcaaGreatDoor
theorem qso (r:Rg) (t:List G):∀ {k:Nat} {d:List G} {L:List (List G)},qjS r t k d = some L->∀ (i:Nat) (a:List G),L[i]? = some a->a = qiM r t ((d :: L).getD i [])/\qfO a r.2.1.length = 0
 | 0,d,L,h,i,a,ha=>by cases h; cases ha
 | k + 1,d,L,h,i,a,ha=>by
  rw [qiT] at h;by_cases c:qfO (qiM r t d) r.2.1.length = 0
  case neg=>rw [if_neg c] at h; cases h
  rw [if_pos c] at h;obtain ⟨L',h1,rfl⟩:=qf.1 h;cases i with
  | zero=>cases ha; exact ⟨rfl,c⟩
  | succ j=>exact qso r t h1 j a ha
def iter (r:Rg) (t:List G):Nat->List G->List G
 | 0,d=>d
 | i + 1,d=>iter r t i (qiM r t d)
theorem qqW (r:Rg) (t:List G):∀ {k:Nat} {d:List G} {L:List (List G)},qjS r t k d = some L->∀ i,i<=k->(d :: L).getD i [] = iter r t i d
 | 0,d,L,h,i,hi=>by
  obtain rfl:i = 0:=by omega
  rfl
 | k + 1,d,L,h,i,hi=>by
  rw [qiT] at h;by_cases c:qfO (qiM r t d) r.2.1.length = 0
  case neg=>rw [if_neg c] at h; cases h
  rw [if_pos c] at h;obtain ⟨L',h1,rfl⟩:=qf.1 h;cases i with
  | zero=>rfl
  | succ j=>exact qqW r t h1 j (by omega)
theorem qqN (r:Rg) (t:List G) (most:Int):∀ (f:Nat) (d:List G),f<=20->(qhO r t most f d).2 = 12\/(qhO r t most f d).2 = 22\/∃ j,j<=f/\qhO r t most f d = (((20 - f + j:Nat):Int),0)/\∀ i,i<=j->inF r t (iter r t i d) most = decide (i = j)
 | 0,d,hf=>by
  rw [qos];by_cases c:inF r t d most = true
  ·rw [if_pos c];refine .inr (.inr ⟨0,by omega,rfl,λi hi=>?_⟩);obtain rfl:i = 0:=by omega
   exact c
  ·rw [if_neg c]; exact .inl rfl
 | f + 1,d,hf=>by
  rw [qnW];by_cases c:inF r t d most = true
  ·rw [if_pos c];refine .inr (.inr ⟨0,by omega,rfl,λi hi=>?_⟩);obtain rfl:i = 0:=by omega
   exact c
  ·rw [if_neg c];by_cases c2:qfO (qiM r t d) r.2.1.length = 0
   ·rw [if_pos c2];rcases qqN r t most f (qiM r t d) (by omega) with h | h | ⟨j,h1,h2,h3⟩
    ·exact .inl h
    ·exact .inr (.inl h)
    ·refine .inr (.inr ⟨j + 1,by omega,?_,λi hi=>?_⟩)
     ·rw [h2,show 20 - f + j = 20 - (f + 1) + (j + 1) by omega]
     ·cases i with
      | zero =>
       rw [show decide (0 = j + 1) = false from decide_eq_false (by omega)];cases h:inF r t d most with
       | true=>exact absurd h c
       | false=>exact h
      | succ i =>
       have:=h3 i (by omega);rw [show decide (i + 1 = j + 1) = decide (i = j) by simp];exact this
   ·rw [if_neg c2]; exact .inr (.inl rfl)
theorem qCV {r:Rg} {t d:List G} (h:RdB r t d) {k:Nat} (hk:k < r.2.1.length):∃ c:G,(-r.2.2.2.2.1<=c.1/\c.1<=r.2.2.2.2.1)/\(-r.2.2.2.2.1<=c.2.1/\c.2.1<=r.2.2.2.2.1)/\(qiM r t d).getD k g0 = qpz c (d.getD k g0):=by
 have hs:=qrt h.rig;refine ⟨qBo r (λk=>t.getD k g0) (λk=>d.getD k g0) k,qCz hs _,qCz hs _,?_⟩;unfold qiM;rw [qrq _ _ hk]; rfl
theorem qAd {n:Nat} {d:List G} (h:qfO d n = 0) (h1:1<=n) (h3:n<=3):(∀ z ∈ d,inG z)/\pdR (qC3 d) = (d,0):=by
 obtain ⟨dl,dB⟩:=qd7 h;have hin:∀ z ∈ d,inG z:=λz hz=>by
  have:=dB z hz;unfold Bd at this;unfold inG qFt; omega
 refine ⟨hin,?_⟩;have h0:d ≠ []:=by intro e; subst e; simp at dl; omega
 have e:prs 5 (qC3 d) = some d:=by
  rw [qBV 5 h0];have e:d.map (λz=>z) = d:=by simp
  conv=>lhs; rw [<- e]
  refine qAX (g:=λz=>z) λz hz=>?_;rw [qEn];have hz':=dB z hz;unfold Bd at hz';rw [qwK (by omega) (by omega) (by omega),qwK (by omega) (by omega) (by omega)];rfl
 unfold pdR;rw [e];simp only
 unfold qfO at h;rw [if_pos dl] at h;rw [if_neg (by omega)];cases hb:d.any (qi4 10000) with
 | true=>rw [hb] at h; cases h
 | false=>rfl
theorem qxE {r:Rg} {t u:List G} (h:RdB r t u) {most:Int} (h0:0<=most/\most<=10000):qiO r t u most = some (inF r t u most):=by
 obtain ⟨hC,e1,e2⟩:=h.cor;have hr:=qnS h.rig;obtain ⟨m1,m3,mR,mB⟩:=qmH hr.1;have hpl:r.1.length<=1000000000:=by omega
 have hpr:∀ x ∈ r.1,x.length<=1000000000:=λx hx=>by have:=mR.2 x hx; omega
 have ul:=(qd7 h.dz).1;have tl:=(qd7 h.tz).1;have hrl:=hr.2.2.1;unfold qiO;rw [qhg hpl hpr,qb,qcj (by omega),qb,qrJ hpl hpr (by omega),qb];have hE:qDe r.1 u = 0:=by unfold qDe; rw [if_pos hr.1,hrl]; exact h.dz
 simp only [hE,if_true,decide_true,Bool.not_true,cond_false];have hlen:(qDs r.1 u).length = r.2.1.length:=by unfold qDs; rw [qad,hrl]
 have hat:∀ i,i < r.2.1.length->(qDs r.1 u)[i]? = some (qfK r.2.1.length (ent r.1) (λk=>u.getD k g0) i):=λi hi=>by
  unfold qDs;rw [hrl];exact qbb _ hi
 rw [hlen,tl];simp only [decide_true,Bool.not_true,qb,cond_false];have key:qab (λ(s6:Int) =>
    bif decide (s6 < (r.2.1.length:Int)) then
     ((idx (qDs r.1 u) s6).bind λx7 =>
      (idx t s6).bind λx8 =>
      (idx t s6).bind λx9 =>
      (qar x7.1 (w64 (x8.1 - most)) (w64 (x9.1 + most))).bind λx10 =>
      bif !x10 then
       some true
      else
       (idx (qDs r.1 u) s6).bind λx11 =>
       (idx t s6).bind λx12 =>
       (idx t s6).bind λx13 =>
       (qar x11.2.1 (w64 (x12.2.1 - most)) (w64 (x13.2.1 + most))).bind λx14 =>
       some (!x14)).bind λ(p15:Bool) =>
     bif p15 then
      some (.inr (.inr false))
     else
      some (.inl (w64 (s6 + 1)))
    else
     some (.inr (.inl ()))) 0 = some (if inF r t u most = true then (.inl ():Unit ⊕ Bool) else .inr false):=by
  refine Ok.eq (qbc r.2.1.length (λi (s:Int)=>s = (i:Int)/\∀ j,j < i->Bd most (qgZ r.2.1.length (ent r.1) (λk=>t.getD k g0) (λk=>u.getD k g0) j)) _ ⟨rfl,λj hj=>by omega⟩ ?_);rintro i s hi ⟨rfl,hb⟩;by_cases hlt:i < r.2.1.length
  ·have e0:decide ((i:Int) < (r.2.1.length:Int)) = true:=decide_eq_true (by omega);have ht:idx t (i:Int) = some (t.getD i g0):=qaB (qgi g0 (by omega));have tB:=hC.tB i hlt;unfold Bd at tB;simp only [e0,cond_true];rw [qaB (hat i hlt),ht];simp only [qb,qc8];rw [wid (n:=(t.getD i g0).1 - most) (by omega) (by omega),wid (n:=(t.getD i g0).1 + most) (by omega) (by omega),wid (n:=(t.getD i g0).2.1 - most) (by omega) (by omega),wid (n:=(t.getD i g0).2.1 + most) (by omega) (by omega)];by_cases c:Bd most (qgZ r.2.1.length (ent r.1) (λk=>t.getD k g0) (λk=>u.getD k g0) i)
   ·have c':=c;unfold Bd qgZ qrN at c';simp only at c';have q1:decide ((t.getD i g0).1 - most<=(qfK r.2.1.length (ent r.1) (λk=>u.getD k g0) i).1/\(qfK r.2.1.length (ent r.1) (λk=>u.getD k g0) i).1<=(t.getD i g0).1 + most) = true:=decide_eq_true (by omega);have q2:decide ((t.getD i g0).2.1 - most<=(qfK r.2.1.length (ent r.1) (λk=>u.getD k g0) i).2.1/\(qfK r.2.1.length (ent r.1) (λk=>u.getD k g0) i).2.1<=(t.getD i g0).2.1 + most) = true:=decide_eq_true (by omega);simp only [q1,q2,Bool.not_true,cond_false,qb];rw [wid (by omega) (by omega),qaE];refine ⟨hlt,by omega,λj hj=>?_⟩;by_cases e:j = i
    ·subst e; exact c
    ·exact hb j (by omega)
   ·have c':=c;unfold Bd qgZ qrN at c';simp only at c';have hf:inF r t u most = false:=decide_eq_false λhh=>c (hh i hlt);rw [hf,if_neg (by simp)];by_cases q1:(t.getD i g0).1 - most<=(qfK r.2.1.length (ent r.1) (λk=>u.getD k g0) i).1/\(qfK r.2.1.length (ent r.1) (λk=>u.getD k g0) i).1<=(t.getD i g0).1 + most
    ·have q2:decide ((t.getD i g0).2.1 - most<=(qfK r.2.1.length (ent r.1) (λk=>u.getD k g0) i).2.1/\(qfK r.2.1.length (ent r.1) (λk=>u.getD k g0) i).2.1<=(t.getD i g0).2.1 + most) = false:=decide_eq_false (by omega);simp only [decide_eq_true q1,q2,Bool.not_true,Bool.not_false,cond_false,cond_true,qb];rw [qaq]
    ·simp only [decide_eq_false q1,Bool.not_false,cond_true,qb];rw [qaq]
  ·have:i = r.2.1.length:=by omega
   subst this;have e0:decide ((r.2.1.length:Int) < (r.2.1.length:Int)) = false:=by simp
   simp only [e0,cond_false];have hf:inF r t u most = true:=decide_eq_true hb;rw [qaq,hf,if_pos rfl]
 rw [key];cases inF r t u most <;> rfl
end Go.Proofs.YteiciemjanhdcaaGreatDoor.Mat
end
section
namespace Go.Proofs.YteiciemjanhdcaaGreatDoor.Mat
open Go Go.Ab Go.Tx Go.Dec Go.Proofs.YteiciemjanhdcaaGreatDoor
structure SqB (r:Rg) (t d0 cur:List G) (i:Nat):Prop where
 rd:RdB r t cur
 off:∀ k,k < r.2.1.length->(-(r.2.2.2.2.1 * (i:Int))<=(cur.getD k g0).1 - (d0.getD k g0).1/\(cur.getD k g0).1 - (d0.getD k g0).1<=r.2.2.2.2.1 * (i:Int))/\(-(r.2.2.2.2.1 * (i:Int))<=(cur.getD k g0).2.1 - (d0.getD k g0).2.1/\(cur.getD k g0).2.1 - (d0.getD k g0).2.1<=r.2.2.2.2.1 * (i:Int))
theorem SqB.next {r:Rg} {t d0 cur:List G} {i:Nat} (h:SqB r t d0 cur i) (hz:qfO (qiM r t cur) r.2.1.length = 0):SqB r t d0 (qiM r t cur) (i + 1):=by
 refine ⟨⟨h.rd.rig,h.rd.tz,hz⟩,λk hk=>?_⟩;obtain ⟨c,c1,c2,e⟩:=qCV h.rd hk;have ho:=h.off k hk;rw [e];unfold qpz;simp only
 have hm:r.2.2.2.2.1 * ((i + 1:Nat):Int) = r.2.2.2.2.1 * (i:Int) + r.2.2.2.2.1:=by rw [Int.natCast_add,Int.mul_add]; simp
 rw [hm];omega
theorem qyw {a:Int} (h : -9223372036854775807<=a/\a<=9223372036854775807):qdR a = some (a.natAbs:Int):=by
 unfold qdR;rw [wid (by omega) (by omega)];congr 1
 omega
theorem qx4 (r:Rg) (l:List G × List G × Unit) (x:Int × Int × Unit) (hd:r.2.2.2.1<=9223372036854775807):qdk r l x = some true:=by
 unfold qdk;rw [show qgf = some true from rfl,qb,Bool.not_true,cond_false];by_cases c1:(r.1.length:Int) > 3
 ·rw [decide_eq_true c1,cond_true,qb,cond_true]
 rw [decide_eq_false c1,cond_false,qAF hd,qb];by_cases hE:qrK r l.1 l.2.1 = 0
 case neg=>rw [decide_eq_false hE,Bool.not_false,cond_true,qb,cond_true]
 rw [decide_eq_true hE,Bool.not_true,cond_false,qc8,qb];by_cases c2:0<=x.1/\x.1<=6
 case neg=>rw [decide_eq_false c2,Bool.not_false,cond_true,qb,cond_true]
 rw [decide_eq_true c2,Bool.not_true,cond_false,qc8,qb];by_cases c3:0<=x.2.1/\x.2.1<=10000
 case neg=>rw [decide_eq_false c3,Bool.not_false,qb,cond_true]
 rw [decide_eq_true c3,Bool.not_true,qb,cond_false];have hB:=RdB.of hE;have hr:=qnS hB.rig;obtain ⟨m1,m3,mR,mB⟩:=qmH hr.1;have hnl:=hr.2.2.1;have hp:r.1.length<=1000000000:=by omega
 have hpr:∀ y ∈ r.1,y.length<=1000000000:=λy hy=>by have:=mR.2 y hy; omega
 have hM2:=(qmH (qws hr.2.1).1)
 have hm:r.2.1.length<=1000000000:=by omega
 have hmr:∀ y ∈ r.2.1,y.length<=1000000000:=λy hy=>by have:=hM2.2.2.1.2 y hy; omega
 have tl:=(qd7 hB.tz).1;have dl:=(qd7 hB.dz).1;have hst:=qrt hB.rig;have hcp:qb6 r = some r:=qxA hp hpr hm hmr;have hct:qO l.1 = some l.1:=qcj (by omega);have hcd:qO l.2.1 = some l.2.1:=qcj (by omega);rw [hcp,qb,hct,qb,hcd,qb,qpZ hp hpr hm hmr hd (by omega) (by omega),qb,if_pos hE,if_pos (show 0<=x.1/\x.1<=20 by omega)];obtain ⟨k,hk⟩:∃ k:Nat,x.1 = (k:Int):=⟨x.1.toNat,by omega⟩
 rw [hk,Int.toNat_natCast];cases hM:qjS r l.1 k l.2.1 with
 | none=>rfl
 | some L =>
 obtain ⟨hLl,hLb⟩:=qzP (by omega) hM;simp only [decide_true,Bool.not_true,cond_false];rw [decide_eq_true (show (L.length:Int) = (k:Int) by omega),Bool.not_true,cond_false,qb];have hseq:∀ i,i < k->∃ a,L[i]? = some a/\a = qiM r l.1 ((l.2.1 :: L).getD i [])/\qfO a r.2.1.length = 0/\(l.2.1 :: L).getD (i + 1) [] = a:=λi hi=>by
  have ha:L[i]? = some L[i]:=by simp [hLl,hi]
  obtain ⟨e1,e2⟩:=qso r l.1 hM i _ ha;exact ⟨_,ha,e1,e2,by simp [hLl,hi]⟩
 have sq0:SqB r l.1 l.2.1 l.2.1 0:=⟨hB,λk hk=>by simp⟩
 have main:∀ (K:List G × Int->Option ((List G × Int) ⊕ (Unit ⊕ Bool))),
   (∀ (i:Nat) cur a,i < k->SqB r l.1 l.2.1 cur i->L[i]? = some a->a = qiM r l.1 cur->qfO a r.2.1.length = 0->K (cur,(i:Int)) = some (.inl (a,((i + 1:Nat):Int)))) ->
   (∀ cur,K (cur,(k:Int)) = some (.inr (.inl ())))->qab K (l.2.1,0) = some (.inl ()):=by
  intro K h1 h2;refine Ok.eq (qbc k (λi (s:List G × Int)=>s = ((l.2.1 :: L).getD i [],(i:Int))/\SqB r l.1 l.2.1 ((l.2.1 :: L).getD i []) i) _ ⟨rfl,sq0⟩ ?_);rintro i s hi ⟨rfl,hs⟩;by_cases hlt:i < k
  ·obtain ⟨a,ha,e1,e2,e3⟩:=hseq i hlt;rw [h1 i _ a hlt hs ha e1 e2,qaE,e3];refine ⟨hlt,rfl,?_⟩;rw [e1] at e2 ⊢;exact hs.next e2
  ·obtain rfl:i = k:=by omega
   rw [h2,qaq]
 rw [main _ (λi cur a hi hs ha ea hz=>?_) (λcur=>?_)]
 ·rw [qb,Sum.elim_inl,qb,qb,qb,qsD hp hpr hm hmr hd (by omega) (by omega),qb,if_pos hE,if_pos c3];rcases qqN r l.1 x.2.1 20 l.2.1 (by omega) with h | h | ⟨j,h1,h2,h3⟩
  ·rw [h]; rfl
  ·rw [h]; rfl
  ·rw [h2];simp only [decide_true,Bool.not_true,cond_false];rw [qc8,decide_eq_true (show (0:Int)<=((20 - 20 + j:Nat):Int)/\((20 - 20 + j:Nat):Int)<=20 by omega),qb,Bool.not_true,cond_false];have hiter:∀ i,i<=k->qfO (iter r l.1 i l.2.1) r.2.1.length = 0:=λi hi=>by
    rw [<- qqW r l.1 hM i hi];cases i with
    | zero=>exact hB.dz
    | succ i =>
     obtain ⟨a,_,_,e2,e3⟩:=hseq i (by omega);rw [e3]; exact e2
   have fin:∀ (K:Int->Option (Int ⊕ (Unit ⊕ Bool))),(∀ i:Nat,i<=j->i<=k->K (i:Int) = some (.inl ((i:Int) + 1)))->(∀ i:Nat,¬ (i<=j/\i<=k)->K (i:Int) = some (.inr (.inl ())))->qab K 0 = some (.inl ()):=by
    intro K g1 g2;refine Ok.eq (qbc (min j k + 1) (λi (s:Int)=>s = (i:Int)) _ rfl ?_);rintro i s hi rfl;by_cases hlt:i<=j/\i<=k
    ·rw [g1 i hlt.1 hlt.2,qaE];exact ⟨by omega,by omega⟩
    ·rw [g2 i hlt,qaq]
   rw [fin _ (λi i1 i2=>?_) (λi hi=>?_)]
   ·rfl
   ·rw [decide_eq_true (show (i:Int)<=((20 - 20 + j:Nat):Int) by omega),cond_true,decide_eq_true (show (i:Int)<=(k:Int) by omega),qb,cond_true];have hu:(bif decide ((i:Int) > 0) then (idx L (w64 ((i:Int) - 1))).bind λx55=>some x55 else some l.2.1) = some (iter r l.1 i l.2.1):=by
     rw [<- qqW r l.1 hM i i2];cases i with
     | zero=>rfl
     | succ i =>
      obtain ⟨a,e1,_,_,e3⟩:=hseq i (by omega);rw [decide_eq_true (show ((i + 1:Nat):Int) > 0 by omega),cond_true,wid (by omega) (by omega),show ((i + 1:Nat):Int) - 1 = ((i:Nat):Int) by omega,qaB e1,e3]; rfl
    rw [hu,qb,qxE ⟨hB.rig,hB.tz,hiter i i2⟩ c3,qb,h3 i i1];have e:decide (i = j) = decide ((i:Int) = ((20 - 20 + j:Nat):Int)):=by
     by_cases c:i = j
     ·rw [decide_eq_true c,decide_eq_true (by omega)]
     ·rw [decide_eq_false c,decide_eq_false (by omega)]
    rw [e];rw [show ((decide ((i:Int) = ((20 - 20 + j:Nat):Int)) == decide ((i:Int) = ((20 - 20 + j:Nat):Int)))) = true by simp,Bool.not_true,cond_false,wid (by omega) (by omega)]
   ·by_cases c:(i:Int)<=((20 - 20 + j:Nat):Int)
    ·rw [decide_eq_true c,cond_true,decide_eq_false (show ¬ (i:Int)<=(k:Int) by omega)]; rfl
    ·rw [decide_eq_false c]; rfl
 ·have e0:decide ((i:Int) < (L.length:Int)) = true:=decide_eq_true (by omega);obtain ⟨v1,v2⟩:=qAd hs.rd.dz (by omega) (by omega);have cl:=(qd7 hs.rd.dz).1;have al:=(qd7 hz).1;have hlen:=qvQ v1;have hcc:qO cur = some cur:=qcj (by omega);have hR:qci r l.1 cur 1 = some ([a],0):=by
   have hE2:qrK r l.1 cur = 0:=by
    unfold qrK;rw [if_pos hB.rig,hnl,if_pos hB.tz]; exact hs.rd.dz
   have:=qpZ (t:=l.1) (d:=cur) hp hpr hm hmr hd (by omega) (by omega) 1;rw [if_pos hE2,if_pos (by omega)] at this;rw [this,show Int.toNat 1 = 0 + 1 from rfl,qiT,<- ea,if_pos hz]; rfl
  simp only [e0,cond_true];rw [hcc,qb,qpt (by omega) v1,qb,qrY (by omega),v2,qb];simp only [decide_true,Bool.not_true,cond_false];rw [qpO (by omega),qb];simp only [decide_true,Bool.not_true,qb,cond_false];rw [hR];simp only [qb,decide_true,Bool.not_true,cond_false,List.length_singleton,show decide (((1:Nat):Int) = 1) = true from rfl];rw [show idx [a] 0 = some a by simp [idx],qb,qaB ha,qb,qpO (by omega),qb];simp only [decide_true,Bool.not_true,cond_false,qb];rw [qjG (by omega),qb,dl,hz];simp only [decide_true,Bool.not_true,cond_false,qb];have inner:∀ (K:Int->Option (Int ⊕ (Unit ⊕ ((List G × Int) ⊕ (Unit ⊕ Bool))))),(∀ q:Nat,q < r.2.1.length->K (q:Int) = some (.inl ((q:Int) + 1)))->K ((r.2.1.length:Nat):Int) = some (.inr (.inl ()))->qab K 0 = some (.inl ()):=by
   intro K g1 g2;refine Ok.eq (qbc r.2.1.length (λi (s:Int)=>s = (i:Int)) _ rfl ?_);rintro q s hq rfl;by_cases hlt:q < r.2.1.length
   ·rw [g1 q hlt,qaE];exact ⟨hlt,by omega⟩
   ·obtain rfl:q = r.2.1.length:=by omega
    rw [g2,qaq]
  rw [inner _ (λq hq=>?_) ?_]
  ·rw [qb,Sum.elim_inl,qcj (by omega),qb,wid (by omega) (by omega)];rfl
  ·have e1:decide (((r.2.1.length:Nat):Int) < (cur.length:Int)) = false:=decide_eq_false (by omega);simp only [e1,cond_false]
  ·have e1:decide ((q:Int) < (cur.length:Int)) = true:=decide_eq_true (by omega);have qa:idx a (q:Int) = some (a.getD q g0):=qaB (qgi g0 (by omega));have qc:idx cur (q:Int) = some (cur.getD q g0):=qaB (qgi g0 (by omega));have qd:idx l.2.1 (q:Int) = some (l.2.1.getD q g0):=qaB (qgi g0 (by omega));obtain ⟨c,b1,b2,e⟩:=qCV hs.rd hq;rw [<- ea] at e;have hn:=(hs.next (by rw [<- ea]; exact hz)).off q hq;rw [<- ea] at hn;have hbd:=(qd7 hz).2 _ (qbj (d:=g0) (i:=q) (l:=a) (by omega));have hbc:=(qd7 hs.rd.dz).2 _ (qbj (d:=g0) (i:=q) (l:=cur) (by omega));have hbl:=(qd7 hB.dz).2 _ (qbj (d:=g0) (i:=q) (l:=l.2.1) (by omega));unfold Bd at hbd hbc hbl;have ea1:(a.getD q g0).1 = c.1 + (cur.getD q g0).1:=by rw [e]; rfl
   have ea2:(a.getD q g0).2.1 = c.2.1 + (cur.getD q g0).2.1:=by rw [e]; rfl
   have hmul:0<=r.2.2.2.2.1 * ((i + 1:Nat):Int)/\r.2.2.2.2.1 * ((i + 1:Nat):Int)<=1000 * 7:=⟨Int.mul_nonneg hst.1 (by omega),Int.mul_le_mul hst.2 (by omega) (by omega) (by omega)⟩
   have hw:w64 (w64 ((i:Int) + 1) * r.2.2.2.2.1) = r.2.2.2.2.1 * ((i + 1:Nat):Int):=by
    rw [wid (n:=(i:Int) + 1) (by omega) (by omega),show ((i:Int) + 1) * r.2.2.2.2.1 = r.2.2.2.2.1 * ((i + 1:Nat):Int) by rw [Int.mul_comm]; rfl,wid (by omega) (by omega)]
   simp only [e1,cond_true,qa,qc,qd,qb];unfold qfq;simp only [qb,hw];rw [wid (n:=(a.getD q g0).1 - (cur.getD q g0).1) (by omega) (by omega),wid (n:=(a.getD q g0).2.1 - (cur.getD q g0).2.1) (by omega) (by omega),wid (n:=(a.getD q g0).1 - (l.2.1.getD q g0).1) (by omega) (by omega),wid (n:=(a.getD q g0).2.1 - (l.2.1.getD q g0).2.1) (by omega) (by omega),wid (n:=0 - r.2.2.2.2.1) (by omega) (by omega)];rw [qc8,decide_eq_true (show 0 - r.2.2.2.2.1<=(a.getD q g0).1 - (cur.getD q g0).1/\(a.getD q g0).1 - (cur.getD q g0).1<=r.2.2.2.2.1 by omega),qb,Bool.not_true,cond_false,
    qc8,decide_eq_true (show 0 - r.2.2.2.2.1<=(a.getD q g0).2.1 - (cur.getD q g0).2.1/\(a.getD q g0).2.1 - (cur.getD q g0).2.1<=r.2.2.2.2.1 by omega),qb,Bool.not_true,cond_false,
    qyw (by omega),qb,decide_eq_false (show ¬ ((((a.getD q g0).1 - (l.2.1.getD q g0).1).natAbs:Int) > r.2.2.2.2.1 * ((i + 1:Nat):Int)) by omega),cond_false,
    qyw (by omega),qb,decide_eq_false (show ¬ ((((a.getD q g0).2.1 - (l.2.1.getD q g0).2.1).natAbs:Int) > r.2.2.2.2.1 * ((i + 1:Nat):Int)) by omega),qb,cond_false,wid (by omega) (by omega)]
 ·have e0:decide ((k:Int) < (L.length:Int)) = false:=decide_eq_false (by omega);simp only [e0,cond_false]
end Go.Proofs.YteiciemjanhdcaaGreatDoor.Mat
end
section
namespace Go.Proofs.YteiciemjanhdcaaGreatDoor.topDriveBounded
open Go Go.Ab Go.Tx Go.ChangeShapes Go.WideShapes Go.ChangeAt Go.RowKit
theorem true_ (x:denP ([(.pair (.sl (.sl (.pair I (.pair I .unit)))) (.pair (.sl (.sl (.pair I (.pair I .unit)))) (.pair I (.pair I (.pair I .unit))))),(.pair (.sl (.pair I (.pair I .unit))) (.pair (.sl (.pair I (.pair I .unit))) .unit)),(.pair I (.pair I .unit))].map Pm.ty)) (hx:qE0 maxLen [(.pair (.sl (.sl (.pair I (.pair I .unit)))) (.pair (.sl (.sl (.pair I (.pair I .unit)))) (.pair I (.pair I (.pair I .unit))))),(.pair (.sl (.pair I (.pair I .unit))) (.pair (.sl (.pair I (.pair I .unit))) .unit)),(.pair I (.pair I .unit))] x):qbw.F x = some true:=Mat.qx4 x.1 x.2.1 x.2.2 hx.1.2.2.2.1.2
set_option maxRecDepth 100000 in
theorem contract (H:Type) (enc:TypeId × Value->H) (W:World) (base:Nat) (args:Array Value) (ds gs:List (DataW H)) (before:List MemPlace)
  (hval:∀ (j:Nat) t v,Tryz.f3.params[j]? = some t->args[j]? = some v->Value.okWide Tryz.prog W .any base t v)
  (hW:DataW.Whole enc Tryz.prog Tryz.f3.params.toList Rows.topDriveBoundedSpec.vars false W args.toList ds gs before) (hgl:qh5 W (cx0 W)) :
  Calls Tryz.prog 3 args W λe W'=>∃ v,e = .returned v/\Rows.topDriveBoundedSpec.post enc Tryz.prog Tryz.f3 false true false false W args v W' :=
 qt4 (τs:=[(.pair (.sl (.sl (.pair I (.pair I .unit)))) (.pair (.sl (.sl (.pair I (.pair I .unit)))) (.pair I (.pair I (.pair I .unit))))),(.pair (.sl (.pair I (.pair I .unit))) (.pair (.sl (.pair I (.pair I .unit))) .unit)),(.pair I (.pair I .unit))]) (ts:=[26,29,30]) (tb:=4) (F:=qbw.F) follows qdC qya qA7 Tryz.func3 (by kernel_rfl) (by kernel_rfl) (by kernel_rfl) (by kernel_rfl) (by kernel_rfl) (by kernel_rfl) Tryz.underlying4 qhI true_ rfl
  (λH ds h=>by
   match ds,h with
   | [d1,d2,d3],_=>rfl) H enc W base args ds gs before hval hW hgl
set_option maxRecDepth 100000 in
theorem lifted (os:Os) (started:os.Started) (H:Type) (enc:TypeId × Value->H) :
  ReturnsInHanded {} Tryz.checked os 3 .any (λw args=>(Rows.topDriveBoundedSpec.pre enc Tryz.prog Tryz.f3 Rows.topDriveBoundedRow.domain false w args/\laidMetH Tryz.prog qmR w)/\sizedMet enc Tryz.prog Tryz.f3 (OpenSpec.ofChange Rows.topDriveBoundedSpec) false w args)
   (Rows.topDriveBoundedSpec.post enc Tryz.prog Tryz.f3 false true false false):=by
 refine qeN (C:=Tryz.checked) (X:=λw _=>laidMetH Tryz.prog qmR w) (λ_ _ _ hh h=>h.of_heap hh) own started (by kernel_rfl) Tryz.func3
  (ChangeSpec.witness_shaped (enc:=enc) (C:=Tryz.checked) (os:=os) (X:=λw _=>laidMetH Tryz.prog qmR w) false (World.laidAll Tryz.prog os qmR) #[.agg #[.slice none 0 0,.slice none 0 0,.int .i64 0,.int .i64 0,.int .i64 0],.agg #[.slice none 0 0,.slice none 0 0],.agg #[.int .i64 0,.int .i64 0]] 8 (World.laidAll_os _ _ _)
   (World.shaped_of_ZipB (by kernel_rfl) (by kernel_rfl)) (by kernel_rfl) (by kernel_rfl) (by kernel_rfl)
   (by rw [MakeChecks.laidMetH_plain _ _ _ (by kernel_rfl)]; exact laidMet_laidAll _ (by kernel_rfl) (by kernel_rfl))) ?_
 intro W base args ds gs before hval hW hS hL;exact contract H enc W base args ds gs before hval hW (qD3 hS hL)
theorem said:Rows.TopDriveBoundedSaid :=
 OpenClaim.holds_of_wide 3 Tryz.f3 rfl rfl rfl rfl rfl rfl rfl ⟨rfl,rfl,rfl,rfl,rfl⟩ rfl rfl rfl rfl rfl (by kernel_rfl) Tryz.func3 (by kernel_rfl)
  (of_decide_eq_true (by kernel_rfl)) (by unfold Func.isWrapper; first | (rw [if_pos (by decide +kernel)]; kernel_rfl) | (rw [if_neg (by decide +kernel)]; exact ⟨rfl,rfl⟩))
  (λos started H enc _=>lifted os started H enc)
theorem proved:Rows.TopDriveBoundedCardSaid :=
 Claim7.holds_tied_plain_at .later [] [.data, .data, .data, .data, .sentinel, .sentinel, .pinned] true (true, "b047576e82b3618035bcd12881f37f9051199a02151335b10545a8d28bc60f06") true
  said (λ_ h=>by cases h) (by kernel_rfl) (λ_ h=>by cases h) topDriveBounded_row_tie rfl ⟨rfl,rfl⟩ (by kernel_rfl) rfl
  (λf fn hf hfn=>by
   obtain rfl : f = 3 := Option.some.inj ((show Tryz.prog.funcNamed "ductility/ductilitytop.TopDriveBounded" = some 3 by kernel_rfl).symm.trans hf) |>.symm
   obtain rfl:fn = Tryz.f3:=(Option.some.inj (Tryz.func3.symm.trans hfn)).symm;exact ⟨by kernel_rfl,λj t ht=>by
    have hp:Tryz.f3.params = #[26,29,30]:=by kernel_rfl
    rw [hp] at ht;rcases j with _ | _ | _ | j
    ·simp at ht; subst ht; exact (show Tryz.prog.wantsStandIn 26 = false by kernel_rfl)
    ·simp at ht; subst ht; exact (show Tryz.prog.wantsStandIn 29 = false by kernel_rfl)
    ·simp at ht; subst ht; exact (show Tryz.prog.wantsStandIn 30 = false by kernel_rfl)
    ·simp at ht⟩)
  (by kernel_rfl)
end Go.Proofs.YteiciemjanhdcaaGreatDoor.topDriveBounded
end
