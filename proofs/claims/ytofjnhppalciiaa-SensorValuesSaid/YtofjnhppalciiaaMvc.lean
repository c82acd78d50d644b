/-
  ONE LAW OF A CHAPTER: its program side is run by an interpreter that is proved sound; what it computes is shown to be what the law says. No conditions. Part 3 of 8.
-/
import Derived.Test.YtofjnhppalciiaaMvb
set_option linter.unusedSimpArgs false
set_option linter.unusedVariables false
set_option linter.unnecessarySimpa false
section
namespace Go.Ab
open Go
section
variable {P:Program} {w w':World} {X:Cx}
structure Wrote (w:World) (X:Cx) (w':World) (b:Nat):Prop where
 ω:∃e,X.ω b=some (e,false)
 kept:∀k,k≠b->w'.heap[k]?=w.heap[k]?
mutual
theorem Rep.other{b:Nat}(h:Wrote w X w' b):∀(x:V) (v:Value) (O:List Nat),x.soft=false->b∉O->Rep w X x v O->Rep w' X x v O
 |.undef,_,_,_,_,hr=>by simpa only [Rep]using hr
 |.val _,_,_,_,_,hr=>by simpa only [Rep]using hr
 |.ptr ..,_,_,_,_,hr=>by simpa only [Rep]using hr
 |.yld _,_,_,_,_,hr=>by simpa only [Rep]using hr
 |.mref _,_,_,_,_,hr=>by simpa only [Rep]using hr
 |.bsl ..,_,_,_,_,hr=>by simpa only [Rep]using hr
 |.room s n,v,O,hs,hb,hr=>by
  simp only [Rep]at hr ⊢;obtain ⟨b1,cap,hv,hn,hs0,rfl,hω,c,t,hc,hsz⟩:=hr;exact ⟨b1,cap,hv,hn,hs0,rfl,hω,c,t,by rw [h.kept b1 (λe=>hb (by simp [e]))];exact hc,hsz⟩
 |.cptr f cs,v,O,hs,hb,hr=>by
  simp only [V.soft,Bool.or_eq_false_iff,decide_eq_false_iff_not]at hs;obtain ⟨hs1,hs2⟩:=hs;simp only [Rep]at hr ⊢;obtain ⟨h0,b1,off,vals,hv,hsg,⟨e,fz,hω,hle,hsh⟩,hl,hno⟩:=hr;have hf:f=.shared:=by cases f<;>simp_all
  have hne:b1≠b:=λe'=>by
   obtain ⟨e0,hω0⟩:=h.ω;rw [e',hω0]at hω;cases hω;exact absurd (hsh hf) (by simp)
  refine ⟨h0,b1,off,vals,hv,λi u hi=>?_,⟨e,fz,hω,hle,hsh⟩,RepL.other h cs vals [] hs2 (by simp) hl,hno⟩;rw [qC (h.kept b1 hne)];exact hsg i u hi
 |.sl f c l,v,O,hs,hb,hr=>by
  simp only [V.soft,Bool.or_eq_false_iff]at hs;obtain ⟨hs1,hs2⟩:=hs;simp only [Rep]at hr ⊢;obtain ⟨hnp,hr⟩:=hr;refine ⟨hnp,?_⟩;rcases hr with hr|⟨b1,off,cap,s,vals,O',hv,hcap,hc,hlen,hs0,hxs,hsg,hf,he,ho,ho'⟩
  ·exact .inl hr
  ·have hne:l≠[]\/f=.own->b1≠b:=by
    intro hor e;subst e;obtain ⟨e0,hω0⟩:=h.ω;obtain ⟨e1,fz,hω1,_,hm⟩:=hf;rw [hω0]at hω1;cases hω1;cases f with
    |own=>exact hb (by rw [ho rfl];simp)
    |shared=>cases hm
    |q5 =>
     rcases hor with hl|hl
     ·cases l with
      |nil=>exact hl rfl
      |cons a l=>simp at hs1
     ·cases hl
   refine .inr ⟨b1,off,cap,s,vals,O',hv,hcap,hc,hlen,hs0,hxs,?_,?_,RepE.other h s l vals O' hs2 ?_ he,ho,ho'⟩
   ·intro i u hi;cases l with
    |nil =>
     have:vals=[]:=List.eq_nil_of_length_eq_zero (by simpa using hlen);subst this;simp at hi
    |cons a l =>
     have:=hne (.inl (by simp));rw [qC (h.kept b1 this)];exact hsg i u hi
   ·obtain ⟨e1,fz,hω1,hle,hm⟩:=hf;refine ⟨e1,fz,hω1,hle,?_⟩;cases f with
    |own =>
     obtain ⟨h1,h2,⟨c',t,h3,h4⟩,h5⟩:=hm;exact ⟨h1,h2,⟨c',t,by rw [h.kept b1 (hne (.inr rfl))];exact h3,h4⟩,h5⟩
    |q5=>trivial
    |shared=>exact hm
   ·intro hb';by_cases hown:f=.own
    ·exact hb (by rw [ho hown];simp [hb'])
    ·rw [(ho' hown).2]at hb';simp at hb'
 |.fn f a c,v,O,hs,hb,hr=>by
  simp only [V.soft,Bool.or_eq_false_iff]at hs;simp only [Rep]at hr ⊢;obtain ⟨va,vc,O1,O2,hv,rfl,h1,h2⟩:=hr;simp only [qj,not_or]at hb;exact ⟨va,vc,O1,O2,hv,rfl,RepL.other h a va O1 hs.1 hb.1 h1,RepL.other h c vc O2 hs.2 hb.2 h2⟩
 |.iface t x,v,O,hs,hb,hr=>by
  simp only [V.soft]at hs;simp only [Rep]at hr ⊢;obtain ⟨u,hv,h1⟩:=hr;exact ⟨u,hv,Rep.other h x u O hs hb h1⟩
 |.agg l,v,O,hs,hb,hr=>by
  simp only [V.soft]at hs;simp only [Rep]at hr ⊢;obtain ⟨vals,hv,h1⟩:=hr;exact ⟨vals,hv,RepL.other h l vals O hs hb h1⟩
 |.tuple l,v,O,hs,hb,hr=>by
  simp only [V.soft]at hs;simp only [Rep]at hr ⊢;obtain ⟨vals,hv,h1⟩:=hr;exact ⟨vals,hv,RepL.other h l vals O hs hb h1⟩
 |.lp ..,_,_,_,_,hr=>by simp only [Rep]at hr
 |.mp _,_,_,_,_,hr=>by simp only [Rep]at hr
theorem RepL.other{b:Nat}(h:Wrote w X w' b):∀(l:List V) (vals:List Value) (O:List Nat),softL l=false->b∉O->RepL w X l vals O->RepL w' X l vals O
 |[],_,_,_,_,hr=>by simpa only [RepL]using hr
 |x::l,vals,O,hs,hb,hr=>by
  simp only [softL,Bool.or_eq_false_iff]at hs;simp only [RepL]at hr ⊢;obtain ⟨u,vs,O1,O2,hv,rfl,h1,h2⟩:=hr;simp only [qj,not_or]at hb;exact ⟨u,vs,O1,O2,hv,rfl,Rep.other h x u O1 hs.1 hb.1 h1,RepL.other h l vs O2 hs.2 hb.2 h2⟩
theorem RepE.other{b:Nat}(h:Wrote w X w' b)(s:Nat):∀(l:List V) (vals:List Value) (O:List Nat),softL l=false->b∉O->RepE w X s l vals O->RepE w' X s l vals O
 |[],_,_,_,_,hr=>by simpa only [RepE]using hr
 |x::l,vals,O,hs,hb,hr=>by
  simp only [softL,Bool.or_eq_false_iff]at hs;simp only [RepE]at hr ⊢;obtain ⟨u,vs,O1,O2,hv,hsz,rfl,h1,h2⟩:=hr;simp only [qj,not_or]at hb;exact ⟨u,vs,O1,O2,hv,hsz,rfl,Rep.other h x u O1 hs.1 hb.1 h1,RepE.other h s l vs O2 hs.2 hb.2 h2⟩
end
theorem qjr{l:List V}(h:softL l=false):∀x∈l,x.soft=false:=by
 induction l with
 |nil=>simp
 |cons a l ih =>
  simp only [softL,Bool.or_eq_false_iff]at h;intro x hx;rcases qk.1 hx with rfl|hx
  ·exact h.1
  ·exact ih h.2 x hx
theorem qt8{l:List V}(h:∀x∈l,x.soft=false):softL l=false:=by
 induction l with
 |nil=>rfl
 |cons a l ih =>
  simp only [softL,Bool.or_eq_false_iff];exact ⟨h a (by simp),ih λx hx=>h x (by simp [hx])⟩
theorem RepE.hole{s:Nat}:∀{l:List V} {vals:List Value} {O:List Nat} (j:Nat) {e:V},RepE w X s l vals O->l[j]?=some e ->
  ∃u O1 Oe O2,O=O1++Oe++O2/\Rep w X e u Oe/\u.cells.size=s/\(∀i,i<s->vals[j*s+i]?=u.cells.toList[i]?)/\j*s+s<=vals.length /\
   ∀(w':World) (b:Nat) (e':V) (u':Value) (Oe':List Nat),Wrote w X w' b->b∉O1->b∉O2->softL (l.set j e')=false->Rep w' X e' u' Oe'->u'.cells.size=s ->
    ∃vals',RepE w' X s (l.set j e') vals' (O1++Oe'++O2)/\vals'.length=vals.length/\∀i,vals'[i]?=if j*s<=i/\i<j*s+s then u'.cells.toList[i-j*s]? else vals[i]?
 |[],vals,O,j,e,h,hj=>by simp at hj
 |y::l,vals,O,0,e,h,hj=>by
  simp only [RepE]at h;obtain ⟨u,vs,A,B,rfl,hsz,rfl,h1,h2⟩:=h;simp at hj;subst hj;have hl:u.cells.toList.length=s:=by simpa using hsz
  refine ⟨u,[],A,B,by simp,h1,hsz,λi hi=>?_,by simp [hsz],λw' b e' u' Oe' hw hb1 hb2 hs hr hsz'=>?_⟩
  ·rw [Nat.zero_mul,Nat.zero_add,qg (by omega)]
  ·simp only [List.set_cons_zero,softL,Bool.or_eq_false_iff]at hs;have hl':u'.cells.toList.length=s:=by simpa using hsz'
   refine ⟨u'.cells.toList++vs,?_,by simp [hsz,hsz'],λi=>?_⟩
   ·simp only [List.set_cons_zero,RepE,List.nil_append];exact ⟨u',vs,Oe',B,rfl,hsz',rfl,hr,RepE.other hw s l vs B hs.2 hb2 h2⟩
   ·simp only [Nat.zero_mul,Nat.zero_add,Nat.zero_le,true_and,Nat.sub_zero];split
    ·rw [qg (by omega)]
    ·rw [List.getElem?_append_right (by omega),List.getElem?_append_right (by omega),hl,hl']
 |y::l,vals,O,j+1,e,h,hj=>by
  simp only [RepE]at h;obtain ⟨u0,vs,A,B,rfl,hsz0,rfl,h1,h2⟩:=h;obtain ⟨u,O1,Oe,O2,rfl,hr,hsz,hc,hle,hk⟩:=RepE.hole (j:=j) h2 (by simpa using hj);have hl:u0.cells.toList.length=s:=by simpa using hsz0
  refine ⟨u,A++O1,Oe,O2,by simp,hr,hsz,λi hi=>?_,by rw [List.length_append,hl,Nat.succ_mul];omega,λw' b e' u' Oe' hw hb1 hb2 hs hr' hsz'=>?_⟩
  ·rw [show (j+1)*s+i=s+(j*s+i) by rw [Nat.succ_mul];omega,List.getElem?_append_right (by omega),hl,Nat.add_sub_cancel_left];exact hc i hi
  ·simp only [List.set_cons_succ,softL,Bool.or_eq_false_iff]at hs;simp only [qj,not_or]at hb1;obtain ⟨vals',h3,h4,h5⟩:=hk w' b e' u' Oe' hw hb1.2 hb2 hs.2 hr' hsz';refine ⟨u0.cells.toList++vals',?_,by simp [h4],λi=>?_⟩
   ·simp only [List.set_cons_succ,RepE];exact ⟨u0,vals',A,O1++Oe'++O2,rfl,hsz0,by simp,Rep.other hw y u0 A hs.1 hb1.1 h1,h3⟩
   ·rw [Nat.succ_mul];by_cases hi:i<s
    ·rw [if_neg (by omega),qg (by omega),qg (by omega)]
    ·rw [List.getElem?_append_right (by omega),List.getElem?_append_right (by omega),h5 (i-u0.cells.toList.length),hl];by_cases h6:j*s<=i-s/\i-s<j*s+s
     ·rw [if_pos h6,if_pos (by omega)];congr 1;omega
     ·rw [if_neg h6,if_neg (by omega)]
theorem RepL.hole:∀{l:List V} {vals:List Value} {O:List Nat} (j:Nat) {z:V},RepL w X l vals O->l[j]?=some z ->
  ∃u O1 Oz O2,O=O1++Oz++O2/\Rep w X z u Oz/\vals[j]?=some u /\
   ∀(w':World) (b:Nat) (z':V) (Oz':List Nat),Wrote w X w' b->b∉O1->b∉O2->softL (l.set j z')=false->Rep w' X z' u Oz'->RepL w' X (l.set j z') vals (O1++Oz'++O2)
 |[],vals,O,j,z,h,hj=>by simp at hj
 |y::l,vals,O,0,z,h,hj=>by
  simp only [RepL]at h;obtain ⟨u,vs,A,B,rfl,rfl,h1,h2⟩:=h;simp at hj;subst hj;refine ⟨u,[],A,B,by simp,h1,by simp,λw' b z' Oz' hw hb1 hb2 hs hr=>?_⟩;simp only [List.set_cons_zero,softL,Bool.or_eq_false_iff]at hs;simp only [List.set_cons_zero,RepL,List.nil_append];exact ⟨u,vs,Oz',B,rfl,rfl,hr,RepL.other hw l vs B hs.2 hb2 h2⟩
 |y::l,vals,O,j+1,z,h,hj=>by
  simp only [RepL]at h;obtain ⟨u0,vs,A,B,rfl,rfl,h1,h2⟩:=h;obtain ⟨u,O1,Oz,O2,rfl,hr,hv,hk⟩:=RepL.hole (j:=j) h2 (by simpa using hj);refine ⟨u,A++O1,Oz,O2,by simp,hr,by simpa using hv,λw' b z' Oz' hw hb1 hb2 hs hr'=>?_⟩;simp only [List.set_cons_succ,softL,Bool.or_eq_false_iff]at hs;simp only [qj,not_or]at hb1;simp only [List.set_cons_succ,RepL];exact ⟨u0,vs,A,O1++Oz'++O2,rfl,by simp,Rep.other hw y u0 A hs.1 hb1.1 h1,hk w' b z' Oz' hw hb1.2 hb2 hs.2 hr'⟩
theorem qrd{c:V}(h:c.one=true):c.cells=[c]:=by cases c<;>first|rfl|(simp [V.one]at h)
theorem qj8{e:V}{cs:List V}(h:∃l,e=.agg l):qdn e cs=.agg cs:=by obtain ⟨l,rfl⟩:=h;rfl
theorem qoa{e:V}{cs:List V}(h:∀l,e≠.agg l):qdn e cs=cs.headD .undef:=by cases e<;>first|rfl|exact absurd rfl (h _)
theorem qka{e:V}{cs:List V}{vals:List Value}{O:List Nat}(hlen:cs.length=e.cells.length)(hone:cs.all V.one=true)(h:RepL w X cs vals O) :
  ∃u,Rep w X (qdn e cs) u O/\u.cells.toList=vals/\(qdn e cs).cells=cs/\(qdn e cs).soft=softL cs/\(qdn e cs).qq=ptrsL cs/\(qdn e cs).oks=true:=by
 by_cases hx:∃l,e=.agg l
 ·rw [qj8 hx];refine ⟨.agg vals.toArray,?_,by simp [Value.cells],rfl,by simp [V.soft],by simp [V.qq],by simpa [V.oks,V.cells]using hone⟩;simp only [Rep];exact ⟨vals,rfl,h⟩
 ·have hx':∀l,e≠.agg l:=λl e'=>hx ⟨l,e'⟩;rw [qbb hx']at hlen;rw [qoa hx']
  match cs,hlen with
  |[c],_ =>
   simp only [List.all_cons,List.all_nil,Bool.and_true]at hone;simp only [RepL]at h;obtain ⟨u,vs,O1,O2,rfl,rfl,h1,rfl,rfl⟩:=h;refine ⟨u,by simpa using h1,by rw [qb3 (qis hone h1)],qrd hone,by simp [softL],by simp [ptrsL],?_⟩;show c.oks=true;unfold V.oks;rw [qrd hone];simp [hone]
def SlF(w:World):Value->Path->Value->Prop
 |v,[],u=>u=v
 |v,(j,o,s)::p,u=>∃b off len cap z,v=.slice (some ⟨b,off,none⟩) len cap/\j<len/\w.cell? ⟨b,off+j*s+o,none⟩=some z/\SlF w z p u
theorem SlF.snoc{j o s:Nat}{z:Value}{b off len cap:Nat}:∀{p:Path} {v:Value},SlF w v p (.slice (some ⟨b,off,none⟩) len cap)->j<len->w.cell? ⟨b,off+j*s+o,none⟩=some z->SlF w v (p++[(j,o,s)]) z
 |[],v,h,hj,hc=>by
  simp only [SlF]at h;subst h;exact ⟨b,off,len,cap,z,rfl,hj,hc,rfl⟩
 |(j1,o1,s1)::p,v,h,hj,hc=>by
  simp only [SlF]at h;obtain ⟨b1,off1,len1,cap1,z1,h1,h2,h3,h4⟩:=h;exact ⟨b1,off1,len1,cap1,z1,h1,h2,h3,SlF.snoc h4 hj hc⟩
theorem qkf{α:Type}{cs new:List α}{off:Nat}(h:off+new.length<=cs.length)(i:Nat):(cs.take off++new++cs.drop (off+new.length))[i]?=if off<=i/\i<off+new.length then new[i-off]? else cs[i]?:=by
 have h1:(cs.take off).length=off:=by simp<;>omega
 by_cases hi:i<off
 ·rw [if_neg (by omega),List.append_assoc,qg (by omega),List.getElem?_take,if_pos hi]
 ·by_cases hj:i<off+new.length
  ·rw [if_pos ⟨by omega,hj⟩,qg (by simp;omega),List.getElem?_append_right (by omega),h1]
  ·rw [if_neg (by omega),List.getElem?_append_right (by simp;omega),List.getElem?_drop];congr 1
   simp<;>omega
theorem qpv{c:Bool}{l:List V}{v:Value}{O:List Nat}{j s:Nat}{e:V}(h:Rep w X (.sl .own c l) v O)(he:l[j]?=some e)(hs:e.cells.length=s) :
  ∃b off cap vals O',v=.slice (some ⟨b,off,none⟩) l.length cap/\O=b::O'/\l.length<=cap/\(c=true->cap=l.length)/\vals.length=l.length*s/\0<s/\(∀x∈l,x.cells.length=s)/\Seg w b off vals /\
   X.ω b=some (off+vals.length,false)/\qx5 w b off cap s/\(vals.length=0->cap=0)/\RepE w X s l vals O'/\ptrsL l=[]:=by
 simp only [Rep]at h;obtain ⟨hnp,h⟩:=h;rcases h with ⟨rfl,_⟩|⟨b,off,cap,s',vals,O',hv,hcap,hc,hlen,hs0,hxs,hsg,⟨e1,fz,hω,hle,h1,h2,h3,h4⟩,hE,ho,_⟩
 ·simp at he
 ·have:s'=s:=by rw [<- hs];exact (hxs e (List.mem_of_getElem? he)).symm
  subst this;subst h1;exact ⟨b,off,cap,vals,O',hv,ho trivial,hcap,hc,hlen,hs0,hxs,hsg,by rw [hω,h2],h3,h4,hE,hnp⟩
theorem qmr{c:Bool}{l:List V}{j s b off cap:Nat}{e':V}{vals vals':List Value}{O'':List Nat}(hcap:l.length<=cap)(hc:c=true->cap=l.length)(hlen:vals.length=l.length*s)(hs0:0<s)(hxs:∀x∈l,x.cells.length=s)
  (hω:X.ω b=some (off+vals.length,false)) (h0:vals.length=0->cap=0) (hnp:ptrsL l=[]) (he:e'.cells.length=s) (hep:e'.qq=[]) (hlen':vals'.length=vals.length) (hsg:Seg w' b off vals') (hsp:qx5 w' b off cap s) (hE:RepE w' X s (l.set j e') vals' O'') :
  Rep w' X (.sl .own c (l.set j e')) (.slice (some ⟨b,off,none⟩) l.length cap) (b::O''):=by
 simp only [Rep,List.length_set];refine ⟨?_,.inr ⟨b,off,cap,s,vals',O'',rfl,hcap,hc,by rw [hlen',hlen],hs0,?_,hsg,⟨off+vals.length,false,hω,by omega,rfl,by omega,hsp,λh=>h0 (by omega)⟩,hE,λ_=>rfl,λh=>absurd rfl h⟩⟩
 ·rw [List.eq_nil_iff_forall_not_mem];intro r hr;obtain ⟨x,hx,hr1⟩:=qD.1 hr;rcases List.mem_or_eq_of_mem_set hx with hx|rfl
  ·have:r∈ptrsL l:=qD.2 ⟨x,hx,hr1⟩;rw [hnp]at this;simp at this
  ·rw [hep]at hr1;simp at hr1
 ·intro x hx;rcases List.mem_or_eq_of_mem_set hx with hx|rfl
  ·exact hxs x hx
  ·exact he
theorem qdA{l:List V}(h:ptrsL l=[]){e:V}(he:e∈l):e.qq=[]:=by
 rw [List.eq_nil_iff_forall_not_mem];intro r hr;have:r∈ptrsL l:=qD.2 ⟨e,he,hr⟩;rw [h]at this;simp at this
theorem qkE{l:List V}(h:∀x∈l,x.qq=[]):ptrsL l=[]:=by
 rw [List.eq_nil_iff_forall_not_mem];intro r hr;obtain ⟨x,hx,hr⟩:=qD.1 hr;rw [h x hx]at hr;simp at hr
theorem qeo{e:V}(h:e.qq=[]):ptrsL e.cells=[]:=by
 cases e<;>simp_all [V.cells,V.qq,ptrsL]
theorem qrS{ys:List V}{yv:List Value}{Oy:List Nat}(hyr:RepL w X ys yv Oy)(hyone:ys.all V.one=true)(hyp:ptrsL ys=[]){j o s:Nat}:∀(p:Path) (x y:V) (v:Value) (O:List Nat) {b off len cap:Nat},
  qp4 ys (p++[(j,o,s)]) x=some y->y.soft=false->Rep w X x v O->Lin (O++Oy)->SlF w v p (.slice (some ⟨b,off,none⟩) len cap) ->
  b∈O/\j<len/\(∃e,X.ω b=some (e,false))/\(∃arr ty,w.heap[b]?=some (.cells arr ty (0,0))/\off+j*s+o+ys.length<=arr.size)/\y.one=true/\y.qq=[] /\
  ∀w',Wrote w X w' b->(∀i,w'.cell? ⟨b,i,none⟩=if off+j*s+o<=i/\i<off+j*s+o+ys.length then yv[i-(off+j*s+o)]? else w.cell? ⟨b,i,none⟩) ->
   (∀c t,w.heap[b]?=some (.cells c t (0,0))->∃c',w'.heap[b]?=some (.cells c' t (0,0))/\c'.size=c.size)->∃O',Rep w' X y v O'/\∀k,O'.count k<=O.count k+Oy.count k
 |[],x,y,v,O,b,off,len,cap,hu,hsoft,hr,hlin,hsl=>by
  simp only [List.nil_append]at hu;simp only [SlF]at hsl;unfold qp4 at hu;split at hu
  ·rename_i heq;cases heq
  ·rename_i j' o' s' p' c l heq;simp only [List.cons.injEq,Prod.mk.injEq]at heq;obtain ⟨⟨rfl,rfl,rfl⟩,rfl⟩:=heq;split at hu
   ·rename_i e he;split at hu
    ·rename_i hck;obtain ⟨hes,hok⟩:=hck;simp only at hu;split at hu
     ·rename_i hle;simp only [qb]at hu;subst hu;obtain ⟨b1,off1,cap1,vals,O1,rfl,rfl,hcap,hc,hlen,hs0,hxs,hsg,hω,hsp,h0,hE,hnp⟩:=qpv hr he hes;cases hsl;obtain ⟨u,A,Oe,B,rfl,hre,husz,hval,hjle,hclose⟩:=RepE.hole j hE he;obtain ⟨hcells,_⟩:=qcg hok hre;have hjl:j<l.length:=(qm.1 he).1;have hul:u.cells.toList.length=s:=by simpa using husz
      have hyl:yv.length=ys.length:=(qE _ _ _ hyr).symm;have hbig:off+j*s+o+ys.length<=off+cap*s:=by
       have:(j+1)*s<=cap*s:=Nat.mul_le_mul_right s (by omega);rw [Nat.succ_mul]at this;omega
      obtain ⟨arr,ty,harr,hsize⟩:=hsp;have hone:(qP e.cells o ys).all V.one=true:=by
       rw [List.all_eq_true];intro z hz;unfold qP at hz;simp only [qj]at hz;have hok':∀z∈e.cells,z.one=true:=List.all_eq_true.1 hok;rcases hz with (hz|hz)|hz
       ·exact hok' z (List.mem_of_mem_take hz)
       ·exact List.all_eq_true.1 hyone z hz
       ·exact hok' z (List.mem_of_mem_drop hz)
      have hlen2:(qP e.cells o ys).length=e.cells.length:=qbM (by omega);have hep:∀z∈qP e.cells o ys,z.qq=[]:=by
       intro z hz;have hecp:=qeo (qdA hnp (List.mem_of_getElem? he));unfold qP at hz;simp only [qj]at hz;rcases hz with (hz|hz)|hz
       ·exact qdA hecp (List.mem_of_mem_take hz)
       ·exact qdA hyp hz
       ·exact qdA hecp (List.mem_of_mem_drop hz)
      refine ⟨by simp,hjl,⟨_,hω⟩,⟨arr,ty,harr,by omega⟩,rfl,by simp [V.qq],λw' hw hcell hobj=>?_⟩;obtain ⟨Ob,hspl,hcnt⟩:=qir (off:=o) hcells hyr;have hsoft2:softL (l.set j (qdn e (qP e.cells o ys)))=false:=by
       simp only [V.soft,Bool.or_eq_false_iff]at hsoft;exact hsoft.2
      have hlt:j<(l.set j (qdn e (qP e.cells o ys))).length:=by simpa using hjl
      have hbO:∀k,(b::(A++Oe++B)++Oy).count k<=1:=hlin;have hb1:=hbO b;simp only [List.cons_append,List.count_cons_self,List.count_append]at hb1;have hbOb:b∉Ob:=λhm=>by
       have:=hcnt b;have:=List.count_pos_iff.2 hm;omega
      obtain ⟨u0,hu0,_,_,hsf,_⟩:=qka (e:=e) hlen2 hone hspl;have hcs:softL (qP e.cells o ys)=false:=by
       rw [<- hsf];exact qjr hsoft2 _ (List.mem_of_getElem? (by rw [List.getElem?_set_self hjl]))
      have hspl':=RepL.other hw _ _ _ hcs hbOb hspl;obtain ⟨u',hu',hu'c,hrc,_,hrp,_⟩:=qka (e:=e) hlen2 hone hspl';obtain ⟨vals',hE',hl',hget⟩:=hclose w' b _ u' Ob hw (λhm=>by have:=List.count_pos_iff.2 hm;omega) (λhm=>by have:=List.count_pos_iff.2 hm;omega) hsoft2 hu' (by
       have:u'.cells.toList.length=s:=by rw [hu'c];simp<;>omega
       simpa using this)
      refine ⟨b::(A++Ob++B),qmr hcap hc hlen hs0 hxs hω h0 hnp (by rw [hrc,hlen2,hes]) (by rw [hrp];exact qkE hep) hl' ?_ ?_ hE',λk=>?_⟩
      ·intro i z hz;rw [hget i]at hz;rw [hcell (off+i)];by_cases hi:j*s<=i/\i<j*s+s
       ·rw [if_pos hi,hu'c,qkf (by omega)]at hz;by_cases hi2:o<=i-j*s/\i-j*s<o+yv.length
        ·rw [if_pos hi2]at hz;rw [if_pos (by omega)];rw [<- hz];congr 1;omega
        ·rw [if_neg hi2]at hz;rw [if_neg (by omega)];refine hsg i z ?_;have:=hval (i-j*s) (by omega);rw [show j*s+(i-j*s)=i by omega]at this;rw [this];exact hz
       ·rw [if_neg hi]at hz;rw [if_neg (by omega)];exact hsg i z hz
      ·obtain ⟨c',hc1,hc2⟩:=hobj arr ty harr;exact ⟨c',ty,hc1,by omega⟩
      ·have:=hcnt k;simp only [List.count_cons,List.count_append]at this ⊢;omega
     ·cases hu
    ·cases hu
   ·cases hu
  ·cases hu
 |(j1,o1,s1)::p,x,y,v,O,b,off,len,cap,hu,hsoft,hr,hlin,hsl=>by
  obtain ⟨q,qs,hq⟩:∃q qs,p++[(j,o,s)]=q::qs:=by
   cases p with
   |nil=>exact ⟨_,_,rfl⟩
   |cons a p=>exact ⟨_,_,rfl⟩
  simp only [List.cons_append]at hu;unfold qp4 at hu;split at hu
  ·rename_i heq;cases heq
  ·rename_i j' o' s' p' c l heq;simp only [List.cons.injEq,Prod.mk.injEq]at heq;obtain ⟨⟨rfl,rfl,rfl⟩,rfl⟩:=heq;split at hu
   ·rename_i e he;split at hu
    ·rename_i hck;obtain ⟨hes,hok⟩:=hck;split at hu
     ·rename_i hnil;rw [hq]at hnil;cases hnil
     ·split at hu
      ·rename_i z hz;obtain ⟨z',hz',rfl⟩:=qc.1 hu;obtain ⟨b1,off1,cap1,vals,O1,rfl,rfl,hcap,hc,hlen,hs0,hxs,hsg,hω,hsp,h0,hE,hnp⟩:=qpv hr he hes;obtain ⟨u,A,Oe,B,rfl,hre,husz,hval,hjle,hclose⟩:=RepE.hole j1 hE he;obtain ⟨hcells,_⟩:=qcg hok hre;have hjl:j1<l.length:=(qm.1 he).1;have hul:u.cells.toList.length=s1:=by simpa using husz
       obtain ⟨uz,A2,Oz,B2,rfl,hrz,huz,hclose2⟩:=RepL.hole o1 hcells hz;have ho1:o1<s1:=by rw [<- hul];exact (qm.1 huz).1
       simp only [SlF]at hsl;obtain ⟨b2,off2,len2,cap2,zz,heq,hj2,hc2,hsl2⟩:=hsl;cases heq;have hcell1:w.cell? ⟨b1,off1+j1*s1+o1,none⟩=some uz:=by
        rw [Nat.add_assoc];exact hsg _ _ (by rw [hval o1 ho1];exact huz)
       rw [hcell1]at hc2;cases hc2;have hsoft2:softL (l.set j1 (qdn e (e.cells.set o1 z')))=false:=by
        simp only [V.soft,Bool.or_eq_false_iff]at hsoft;exact hsoft.2
       have hbO:∀k,(b1::(A++(A2++Oz++B2)++B)++Oy).count k<=1:=hlin;have hoz:o1<e.cells.length:=(qm.1 hz).1
       have hstep:∀(hz's:z'.soft=false),_:=λhz's=>qrS hyr hyone hyp p z z' uz Oz (b:=b) (off:=off) (len:=len) (cap:=cap) hz' hz's hrz (λk=>by
        have:=hbO k;simp only [List.cons_append,List.count_cons,List.count_append]at this ⊢;omega) hsl2
       have hz's:z'.soft=false:=by
        have h1:(qdn e (e.cells.set o1 z')).soft=false:=qjr hsoft2 _ (List.mem_of_getElem? (by rw [List.getElem?_set_self hjl]));have hm:z'∈e.cells.set o1 z':=List.mem_of_getElem? (i:=o1) (by rw [List.getElem?_set_self hoz]);by_cases hx:∃l0,e=.agg l0
        ·rw [qj8 hx]at h1;simp only [V.soft]at h1;exact qjr h1 _ hm
        ·have hx':∀l0,e≠.agg l0:=λl0 e'=>hx ⟨l0,e'⟩;rw [qoa hx']at h1;rw [qbb hx']at h1 hoz;have:o1=0:=by simpa using hoz
         subst this;simpa using h1
       obtain ⟨hbz,hjlen,hωb,harr,hone',hptr',hk⟩:=hstep hz's;have hbc:=hbO b;have hbpos:=List.count_pos_iff.2 hbz;simp only [List.cons_append,List.count_cons,List.count_append]at hbc;have hbne:b≠b1:=λe'=>by subst e';simp at hbc;omega
       refine ⟨by simp [hbz],hjlen,hωb,harr,rfl,by simp [V.qq],λw' hw hcell hobj=>?_⟩;obtain ⟨Oz',hrz',hcnt⟩:=hk w' hw hcell hobj;have hone:(e.cells.set o1 z').all V.one=true:=by
        rw [List.all_eq_true];intro y hy;rcases List.mem_or_eq_of_mem_set hy with hy|rfl
        ·exact List.all_eq_true.1 hok y hy
        ·exact hone'
       have hcs:softL (e.cells.set o1 z')=false:=by
        have h1:(qdn e (e.cells.set o1 z')).soft=false:=qjr hsoft2 _ (List.mem_of_getElem? (by rw [List.getElem?_set_self hjl]));by_cases hx:∃l0,e=.agg l0
        ·rw [qj8 hx]at h1;simpa only [V.soft]using h1
        ·have hx':∀l0,e≠.agg l0:=λl0 e'=>hx ⟨l0,e'⟩;rw [qbb hx']at hoz ⊢;have:o1=0:=by simpa using hoz
         subst this;simp [softL,hz's]
       have hcl:=hclose2 w' b z' Oz' hw (λhm=>by have:=List.count_pos_iff.2 hm;omega) (λhm=>by have:=List.count_pos_iff.2 hm;omega) hcs hrz';obtain ⟨u',hu',hu'c,hrc,_,hrp,_⟩:=qka (e:=e) (by simp) hone hcl;obtain ⟨vals',hE',hl',hget⟩:=hclose w' b _ u' _ hw (λhm=>by have:=List.count_pos_iff.2 hm;omega) (λhm=>by have:=List.count_pos_iff.2 hm;omega) hsoft2 hu' (by
        have:u'.cells.toList.length=s1:=by rw [hu'c];exact hul
        simpa using this)
       have hvals:∀i:Nat,vals'[i]?=vals[i]?:=λi=>by
        rw [hget i];split
        ·rename_i hi;rw [hu'c];have:=hval (i-j1*s1) (by omega);rw [show j1*s1+(i-j1*s1)=i by omega]at this;exact this.symm
        ·rfl
       have hepc:=qeo (qdA hnp (List.mem_of_getElem? he));refine ⟨b1::(A++(A2++Oz'++B2)++B),qmr hcap hc hlen hs0 hxs hω h0 hnp (by rw [hrc];simpa using hes) (by
        rw [hrp];refine qkE λy hy=>?_;rcases List.mem_or_eq_of_mem_set hy with hy|rfl
        ·exact qdA hepc hy
        ·exact hptr') hl' ?_ ?_ hE',λk=>?_⟩
       ·intro i y hy;rw [hvals i]at hy;rw [qC (hw.kept b1 (Ne.symm hbne))];exact hsg i y hy
       ·obtain ⟨arr1,ty1,ha1,ha2⟩:=hsp;exact ⟨arr1,ty1,by rw [hw.kept b1 (Ne.symm hbne)];exact ha1,ha2⟩
       ·have:=hcnt k;simp only [List.count_cons,List.count_append]at this ⊢;omega
      ·cases hu
    ·cases hu
   ·cases hu
  ·cases hu
end
section
variable {P:Program} {H:Hints} {f:FuncId} {w w':World} {X:Cx}
theorem qob{st':St}{tmps:Array Value}{Ob:Pl->List Nat}(hsize:tmps.size=st'.E.length)
  (henv:∀t x,st'.E[t]?=some x->∃v,tmps[t]?=some v/\∃A,Rep w' X x v A/\∀k,A.count k<=(Ob (.tmp t)).count k)
  (hbox:∀r c,st'.box r=some c->∃b,X.β r=some b/\b<w'.heap.size/\X.ω b=none/\∃A,qnk w' X b c A/\∀k,A.count k<=(Ob (.box r)).count k)
  (inj:∀r r' b,(st'.box r).isSome=true->(st'.box r').isSome=true->X.β r=some b->X.β r'=some b->r=r') (hlin:∀p,Lin (Ob p)) (hdis:∀p q,p≠q->∀b∈Ob p,b∉Ob q)
  (ptrE:∀r∈ptrsL st'.E,(st'.box r).isSome=true) (ptrB:∀r c,st'.box r=some c->∀r'∈ptrsL c,(st'.box r').isSome=true) (up:∀r c,st'.box r=some c->∀r'∈ptrsL c,r'.lvl<=r.lvl) (dom:Dom w' X) :
  ∃O',Rel st' tmps w' X O'/\∀p k,(O' p).count k<=(Ob p).count k:=by
 have key:∀p:Pl,∃A:List Nat,(∀k,A.count k<=(Ob p).count k)/\(match p with
   |.tmp t=>(∀x,st'.E[t]?=some x->∃v,tmps[t]?=some v/\Rep w' X x v A)/\(st'.E[t]?=none->A=[])
   |.box r=>(∀c,st'.box r=some c->∃b,X.β r=some b/\b<w'.heap.size/\X.ω b=none/\qnk w' X b c A)/\(st'.box r=none->A=[])):=by
  intro p;cases p with
  |tmp t =>
   cases hx:st'.E[t]? with
   |none=>exact ⟨[],by simp,And.intro (λx hx'=>by rw [hx]at hx';cases hx') (λ_=>rfl)⟩
   |some x =>
    obtain ⟨v,hv,A,hr,hc⟩:=henv t x hx;exact ⟨A,hc,And.intro (λy hy=>by rw [hx]at hy;cases hy;exact ⟨v,hv,hr⟩) (λh=>by rw [hx]at h;cases h)⟩
  |box r =>
   cases hx:st'.box r with
   |none=>exact ⟨[],by simp,And.intro (λx hx'=>by rw [hx]at hx';cases hx') (λ_=>rfl)⟩
   |some c =>
    obtain ⟨b,h1,h2,h3,A,h4,hc⟩:=hbox r c hx;exact ⟨A,hc,And.intro (λy hy=>by rw [hx]at hy;cases hy;exact ⟨b,h1,h2,h3,h4⟩) (λh=>by rw [hx]at h;cases h)⟩
 obtain ⟨O',hO'⟩:=Classical.axiomOfChoice key;have hR:Rel st' tmps w' X O':={
  size:=hsize
  env:=λt x hx=>(hO' (.tmp t)).2.1 x hx
  envD:=λt ht=>(hO' (.tmp t)).2.2 (List.getElem?_eq_none ht)
  box:=λr c hr=>(hO' (.box r)).2.1 c hr
  boxD:=λr hr=>(hO' (.box r)).2.2 hr
  inj:=inj
  lin:=λp k=>Nat.le_trans ((hO' p).1 k) (hlin p k)
  dis:=λp q hpq b hb hq=>hdis p q hpq b (List.count_pos_iff.1 (Nat.lt_of_lt_of_le (List.count_pos_iff.2 hb) ((hO' p).1 b))) (List.count_pos_iff.1 (Nat.lt_of_lt_of_le (List.count_pos_iff.2 hq) ((hO' q).1 b)))
  ptrE:=ptrE
  ptrB:=ptrB
  up:=up
  dom:=dom}
 exact ⟨O',hR,λp k=>(hO' p).1 k⟩
theorem qpF{b:Nat}(h:Wrote w X w' b){x:V}{v:Value}{O:List Nat}(hb:b∉O)(hr:Rep w X x v O):∃A,Rep w' X x.qbx v A/\∀k,A.count k<=O.count k:=by
 unfold V.qbx;cases hs:x.soft with
 |true=>exact ⟨[],by simp [Rep],by simp⟩
 |false=>exact ⟨O,by simpa using Rep.other h x v O hs hb hr,λ_=>Nat.le_refl _⟩
theorem qmN{b:Nat}(h:Wrote w X w' b):∀{l:List V} {vals:List Value} {O:List Nat},b∉O->RepL w X l vals O->∃A,RepL w' X (l.map V.qbx) vals A/\∀k,A.count k<=O.count k
 |[],vals,O,hb,hr=>⟨[],by simp only [RepL]at hr;simp [RepL,hr.1],by simp⟩
 |x::l,vals,O,hb,hr=>by
  simp only [RepL]at hr;obtain ⟨u,vs,O1,O2,rfl,rfl,h1,h2⟩:=hr;simp only [qj,not_or]at hb;obtain ⟨A,h3,h4⟩:=qpF h hb.1 h1;obtain ⟨B,h5,h6⟩:=qmN h hb.2 h2;refine ⟨A++B,by simp only [qh,RepL];exact ⟨u,vs,A,B,rfl,rfl,h3,h5⟩,λk=>?_⟩;have:=h4 k;have:=h6 k;simp only [List.count_append]<;>omega
theorem qgg:∀{l:List V} {vals:List Value} {O:List Nat} (j:Nat) {z:V},RepL w X l vals O->l[j]?=some z ->
  ∃u O1 Oz O2,O=O1++Oz++O2/\Rep w X z u Oz/\vals[j]?=some u /\
   ∀(w':World) (b:Nat) (z':V) (Oz':List Nat),Wrote w X w' b->b∉O1->b∉O2->Rep w' X z' u Oz'->∃A,RepL w' X ((l.map V.qbx).set j z') vals A/\∀k,A.count k<=O1.count k+Oz'.count k+O2.count k
 |[],vals,O,j,z,h,hj=>by simp at hj
 |y::l,vals,O,0,z,h,hj=>by
  simp only [RepL]at h;obtain ⟨u,vs,A,B,rfl,rfl,h1,h2⟩:=h;simp at hj;subst hj;refine ⟨u,[],A,B,by simp,h1,by simp,λw' b z' Oz' hw hb1 hb2 hr=>?_⟩;obtain ⟨C,h3,h4⟩:=qmN hw hb2 h2;refine ⟨Oz'++C,by simp only [qh,List.set_cons_zero,RepL];exact ⟨u,vs,Oz',C,rfl,rfl,hr,h3⟩,λk=>?_⟩;have:=h4 k;simp only [List.count_append,List.count_nil]<;>omega
 |y::l,vals,O,j+1,z,h,hj=>by
  simp only [RepL]at h;obtain ⟨u0,vs,A,B,rfl,rfl,h1,h2⟩:=h;obtain ⟨u,O1,Oz,O2,rfl,hr,hv,hk⟩:=qgg (j:=j) h2 (by simpa using hj);refine ⟨u,A++O1,Oz,O2,by simp,hr,by simpa using hv,λw' b z' Oz' hw hb1 hb2 hr'=>?_⟩;simp only [qj,not_or]at hb1;obtain ⟨C,h3,h4⟩:=hk w' b z' Oz' hw hb1.2 hb2 hr';obtain ⟨D,h5,h6⟩:=qpF hw hb1.1 h1;refine ⟨D++C,by simp only [qh,List.set_cons_succ,RepL];exact ⟨u0,vs,D,C,rfl,rfl,h5,h3⟩,λk=>?_⟩;have:=h4 k;have:=h6 k;simp only [List.count_append]<;>omega
theorem qlN{x:V}{r:Root}(h:r∈x.qbx.qq):r∈x.qq:=by
 unfold V.qbx at h;split at h
 ·simp [V.qq]at h
 ·exact h
theorem qfw{l:List V}{r:Root}(h:r∈ptrsL (l.map V.qbx)):r∈ptrsL l:=by
 obtain ⟨x,hx,hr⟩:=qD.1 h;obtain ⟨y,hy,rfl⟩:=List.mem_map.1 hx;exact qD.2 ⟨y,hy,qlN hr⟩
theorem qbT(s:Nat):∀B:Level,qy (qbN B) s=(qy B s).map (List.map V.qbx)
 |[]=>rfl
 |(k,c)::B=>by
  simp only [qbN,qh,qy];split
  ·rfl
  ·exact qbT s B
theorem qjX{s:Nat}{c:List V}:∀{B:Level},qrb B=true->qy B s=some c->qc3 c=false
 |[],_,h=>by simp [qy]at h
 |(k,c')::B,hn,h=>by
  simp only [qrb,List.all_cons,qe,Bool.not_eq_true']at hn;simp only [qy]at h;split at h
  ·cases h;exact hn.1
  ·exact qjX hn.2 h
def qfS(w:World)(X:Cx)(tmps:Array Value):Rt->Value->Prop
 |.tmp r,v=>tmps.getD r undef=v
 |.box q off,v=>∃b,X.β q=some b/\w.cell? ⟨b,off,none⟩=some v
def qA3(w:World)(v0:Value):Path->Nat->Nat->Prop
 |[],_,_=>False
 |(j,o,s)::p,b,k=>∃off len cap,SlF w v0 p.reverse (.slice (some ⟨b,off,none⟩) len cap)/\j<len/\k=off+j*s+o
def rowAt(arr:Array Value)(k:Nat)(yv:List Value):Array Value:=(arr.toList.take k++yv++arr.toList.drop (k+yv.length)).toArray
theorem qni{b k:Nat}{arr:Array Value}{ty:TypeId}{yv:List Value}(hω:∃e,X.ω b=some (e,false))(ha:w.heap[b]?=some (.cells arr ty (0,0)))(hle:k+yv.length<=arr.size) :
  Wrote w X (w.setRow b (rowAt arr k yv)) b/\(∀i,(w.setRow b (rowAt arr k yv)).cell? ⟨b,i,none⟩=if k<=i/\i<k+yv.length then yv[i-k]? else w.cell? ⟨b,i,none⟩) /\
   (∀c t,w.heap[b]?=some (.cells c t (0,0))->∃c',(w.setRow b (rowAt arr k yv)).heap[b]?=some (.cells c' t (0,0))/\c'.size=c.size):=by
 have hset:=setRow_heap w b arr (rowAt arr k yv) ty (0,0) ha;refine ⟨⟨hω,λk' hk'=>setRow_other w b k' _ hk'⟩,λi=>?_,λc t hc=>?_⟩
 ·simp only [World.cell?,hset,ha];have h1:(rowAt arr k yv)[i]?=(rowAt arr k yv).toList[i]?:=by simp
  have h2:arr[i]?=arr.toList[i]?:=by simp
  simp only [h1,h2];unfold rowAt;exact qkf (by simpa using hle) i
 ·rw [ha]at hc;cases hc;refine ⟨_,hset,?_⟩;unfold rowAt;simp<;>omega
theorem qdV{a:Nat×Nat×Nat}{p:Path}:(a::p).reverse=p.reverse++[a]:=by simp
theorem qyG{w0:World}{X0:Cx}{Md:Md}{n:Nat}{st st':St}{D:List Deferred}{tmps:Array Value}{O:Pl->List Nat}(h:Rel st tmps w X O)(hF:Fr w0 X0 Md n st w X O)(hz:n=0->∀b e fz,X0.ω b=some (e,fz)->fz=true)(hM:qbX w0 w X D)(hL:st.L=[]){b:Nat}
  (hw:Wrote w X w' b) (hbO:∃p,b∈O p) (hsz:w'.heap.size=w.heap.size) (hos:w'.os=w.os) (hout:w'.output=w.output) (htape:w'.tape=w.tape)
  {Ob:Pl->List Nat} (hOb:∀p k,k∈Ob p->∃q,k∈O q) {O':Pl->List Nat} (hO':∀p k,(O' p).count k<=(Ob p).count k) (hL':st'.L=[]) (hlive:∀r,(st'.box r).map q3=(st.box r).map q3) :
  Fr w0 X0 Md n st' w' X O'/\qbX w0 w' X D:=by
 obtain ⟨p0,hp0⟩:=hbO;obtain ⟨e0,hω⟩:=hw.ω;have hn:n=0:=by rw [<- hF.lev,hL];rfl
 refine ⟨{gl:=hF.gl,gm:=hF.gm,size:=by rw [hsz];exact hF.size,kept:=?_,grew:=?_,β:=hF.β,own:=?_,boxM:=?_,lev:=by rw [hL',hn];rfl,live:=?_,os:=by rw [hos,hF.os],out:=by rw [hout,hF.out],tape:=by rw [htape,hF.tape]},?_⟩
 ·intro k hk hMk;obtain ⟨h1,h2⟩:=hF.kept k hk hMk;refine ⟨?_,h2⟩;by_cases hkb:k=b
  ·subst hkb;rcases hF.own p0 k hp0 with h3|h3
   ·omega
   ·exact absurd h3 hMk
  ·rw [hw.kept k hkb,h1]
 ·intro k e fz hω0;obtain ⟨e1,fz1,h1,h2,h3,h4⟩:=hF.grew k e fz hω0;refine ⟨e1,fz1,h1,h2,h3,λi v hi hc=>?_⟩;by_cases hkb:k=b
  ·subst hkb;have:=h3 (hz hn _ _ _ hω0);rw [hω]at h1;cases h1;cases this
  ·rw [qC (hw.kept k hkb)];exact h4 i v hi hc
 ·intro p k hk;obtain ⟨q,hq⟩:=hOb p k (List.count_pos_iff.1 (Nat.lt_of_lt_of_le (List.count_pos_iff.2 hk) (hO' p k)));exact hF.own q k hq
 ·intro r k hr hb;refine hF.boxM r k ?_ hb;have:=congrArg Option.isSome (hlive r);simpa [hr]using this.symm
 ·intro r hr;rw [hlive];exact hF.live r hr
 ·exact hM.of λk hk hωk _=>⟨hw.kept k (λe=>by subst e;rw [hω]at hωk;cases hωk),rfl⟩
theorem qcV{st:St}(hL:st.L=[])(r:Root):st.box r=if r.lvl=0 then qy st.B r.slot else none:=by
 unfold St.box;simp [hL]
theorem qdu(s s':Nat)(c:List V):∀B:Level,qy (qdZ B s c) s'=if s'=s then (qy B s).map (λ_=>c)else qy B s'
 |[]=>by simp [qdZ,qy]
 |(k,d)::B=>by
  simp only [qdZ];by_cases h1:k=s
  ·subst h1;simp only [if_true,qy];by_cases h2:s'=k
   ·simp [h2]
   ·simp [h2,Ne.symm h2]
  ·simp only [h1,if_false,qy];rw [qdu s s' c B];by_cases h2:s'=s
   ·subst h2;simp [h1]
   ·by_cases h3:k=s'
    ·simp [h3,h2]
    ·simp [h3,h2]
theorem qkz{c:List V}(h:q3 c=false):q3 (c.map V.qbx)=false:=by
 match c with
 |[]=>rfl
 |x::l =>
  simp only [qh];unfold V.qbx;split
  ·rfl
  ·cases x<;>first|rfl|(simp [q3]at h)
theorem qgP{s:Nat}{c:List V}:∀{B:Level},qca B=true->qy B s=some c->q3 c=false
 |[],_,h=>by simp [qy]at h
 |(k,c')::B,hn,h=>by
  simp only [qca,List.all_cons,qe,Bool.not_eq_true']at hn;simp only [qy]at h;split at h
  ·cases h;exact hn.1
  ·exact qgP hn.2 h
theorem qra{B:Level}(h:qrb B=true):qca B=true:=by
 unfold qrb at h;unfold qca;rw [List.all_eq_true]at h ⊢;intro p hp;have:=h p hp;simp only [Bool.not_eq_true']at this ⊢;exact qgL this
theorem qpk{w0:World}{X0:Cx}{Md:Md}{n:Nat}{st st':St}{D:List Deferred}{tmps:Array Value}{O:Pl->List Nat}(h:Rel st tmps w X O)(hF:Fr w0 X0 Md n st w X O)(hz:n=0->∀b e fz,X0.ω b=some (e,fz)->fz=true)(hM:qbX w0 w X D)(hL:st.L=[])(hnl:qca st.B=true)
  {b:Nat} (hw:Wrote w X w' b) (hsz:w'.heap.size=w.heap.size) (hos:w'.os=w.os) (hout:w'.output=w.output) (htape:w'.tape=w.tape)
  {T:List Tmp} {Ox:List Nat} (hin:∀k∈Ox,∃t∈T,k∈O (.tmp t)) (hlx:Lin Ox) {pl:Pl} (hpl:∀t∈T,pl≠.tmp t) (hb:b∈O pl) (hlen:st'.E.length=st.E.length) (hL':st'.L=[])
  (henv:∀t x',st'.E[t]?=some x'->(pl≠.tmp t/\∃x0,(qA st.E T)[t]?=some x0/\x'=x0.qbx)\/(pl=.tmp t/\x'.qq=[]/\∃v,tmps[t]?=some v/\∃A,Rep w' X x' v A/\∀k,A.count k<=(O pl).count k+Ox.count k))
  (hbs:∀q,(st'.box q).isSome=(st.box q).isSome)
  (hbox:∀q c',st'.box q=some c'->∃c,st.box q=some c/\((pl≠.box q/\c'=c.map V.qbx)\/(pl=.box q/\(qc3 c=false/\qc3 c'=false)/\(∀r∈ptrsL c',r∈ptrsL c)/\∀arr:List Value,RepL w X c arr (O (.box q))->(∀bq,X.β q=some bq->∀i,w.cell? ⟨bq,i,none⟩=arr[i]?)->∃A,RepL w' X c' arr A/\∀k,A.count k<=(O pl).count k+Ox.count k))) :
  ∃O',Rel st' tmps w' X O'/\Fr w0 X0 Md n st' w' X O'/\qbX w0 w' X D:=by
 have h1:=h.taken T;generalize hO1:qg1 O T none st.E.length []=O1 at h1;have hO1':∀p k,k∈O1 p->k∈O p/\∀t∈T,p≠.tmp t:=λp k hk=>by
  rw [<- hO1]at hk;cases p with
  |tmp t =>
   simp only [qg1]at hk;rw [if_neg (by simp)]at hk;split at hk
   ·simp at hk
   ·rename_i hn;exact ⟨hk,λt' ht' e=>hn (by cases e;exact ht')⟩
  |box r=>exact ⟨hk,λt' _ e=>by cases e⟩
 have hO1c:∀p k,(O1 p).count k<=(O p).count k:=λp k=>by
  rw [<- hO1];cases p with
  |tmp t =>
   simp only [qg1];rw [if_neg (by simp)];split
   ·simp
   ·exact Nat.le_refl _
  |box r=>exact Nat.le_refl _
 have hbn:∀p,p≠pl->b∉O1 p:=λp hp hk=>h.dis p pl hp b (hO1' p b hk).1 hb;have hxpl:∀k∈Ox,k∉O pl:=λk hk hkp=>by
  obtain ⟨t,ht,hkt⟩:=hin k hk;exact h.dis pl (.tmp t) (hpl t ht) k hkp hkt
 have hx1:∀k∈Ox,∀p,k∉O1 p:=λk hk p hkp=>by
  obtain ⟨t,ht,hkt⟩:=hin k hk;obtain ⟨h2,h3⟩:=hO1' p k hkp;exact h.dis p (.tmp t) (h3 t ht) k h2 hkt
 have hlpB:∀q c,st.box q=some c->q3 c=false:=λq c hq=>by
  rw [qcV hL]at hq;split at hq
  ·exact qgP hnl hq
  ·cases hq
 have hrel:=qob (w':=w') (X:=X) (tmps:=tmps) (st':=st') (Ob:=λp=>if p=pl then O pl++Ox else O1 p) (by rw [hlen];exact h.size) ?_ ?_ ?_ ?_ ?_ ?_ ?_ ?_ ?_
 ·obtain ⟨O',hR,hc⟩:=hrel;obtain ⟨hF',hM'⟩:=qyG (st':=st') (O':=O') h hF hz hM hL hw ⟨pl,hb⟩ hsz hos hout htape (Ob:=λp=>if p=pl then O pl++Ox else O1 p) (λp k hk=>by
   by_cases hp:p=pl
   ·simp only [hp,if_true,qj]at hk;rcases hk with hk|hk
    ·exact ⟨pl,hk⟩
    ·obtain ⟨t,_,hkt⟩:=hin k hk;exact ⟨_,hkt⟩
   ·simp only [hp,if_false]at hk;exact ⟨p,(hO1' p k hk).1⟩) hc hL' (λq=>by
   cases hq:st.box q with
   |none =>
    have:=hbs q;rw [hq]at this;cases hq':st'.box q with
    |none=>rfl
    |some c=>rw [hq']at this;simp at this
   |some c =>
    have:=hbs q;rw [hq]at this;obtain ⟨c',hc'⟩:=Option.isSome_iff_exists.1 (by simpa using this:(st'.box q).isSome=true);obtain ⟨c2,h2,h3⟩:=hbox q c' hc';rw [hq]at h2;cases h2;rw [hc',qi,qi,hlpB q c hq];rcases h3 with ⟨_,rfl⟩|⟨_,h3,_⟩
    ·rw [qkz (hlpB q c hq)]
    ·rw [qgL h3.2])
  exact ⟨O',hR,hF',hM'⟩
 ·intro t x' hx';rcases henv t x' hx' with ⟨hne,x0,h2,rfl⟩|⟨rfl,_,v,hv,A,hr,hA⟩
  ·obtain ⟨v,hv,hr⟩:=h1.env t x0 h2;obtain ⟨A,h3,h4⟩:=qpF hw (hbn _ (Ne.symm hne)) hr;exact ⟨v,hv,A,h3,by simpa [Ne.symm hne]using h4⟩
  ·exact ⟨v,hv,A,hr,λk=>by have:=hA k;simp only [if_true,List.count_append];exact this⟩
 ·intro q c' hq;obtain ⟨c,hc,hcase⟩:=hbox q c' hq;obtain ⟨bq,hβ,hlt,hω,hbx⟩:=h.box q c hc;obtain ⟨e0,hω0⟩:=hw.ω;have hne:bq≠b:=λe=>by subst e;rw [hω0]at hω;cases hω
  refine ⟨bq,hβ,by omega,hω,?_⟩;rcases hcase with ⟨hp,rfl⟩|⟨rfl,hlps,_,hk⟩
  ·rcases hbx with ⟨arr,ty,harr,hl⟩|⟨s,pe,g,env,ps,asg,body,lo,rfl,_⟩|⟨es,ents,clock,rfl,hm1,hm2,hm3⟩
   rotate_left
   ·have:=hlpB q _ hc;simp [q3]at this
   ·exact ⟨[],.inr (.inr ⟨es,ents,clock,rfl,by rw [hw.kept bq hne];exact hm1,hm2,rfl⟩),by simp⟩
   obtain ⟨A,h3,h4⟩:=qmN hw (λhm=>h.dis (.box q) pl (Ne.symm hp) b hm hb) hl;refine ⟨A,.inl ⟨arr,ty,by rw [hw.kept bq hne];exact harr,h3⟩,λk=>?_⟩;rw [if_neg (Ne.symm hp),<- hO1];exact h4 k
  ·obtain ⟨arr,ty,harr,hl⟩:=hbx.cells hlps.1;obtain ⟨A,h3,h4⟩:=hk arr.toList hl (λbq' hβ' i=>by rw [hβ]at hβ';cases hβ';simp [World.cell?,harr]);refine ⟨A,.inl ⟨arr,ty,by rw [hw.kept bq hne];exact harr,h3⟩,λk=>?_⟩;have:=h4 k;simp only [if_true,List.count_append];exact this
 ·intro r r' k h2 h3 h4 h5;rw [hbs]at h2 h3;exact h.inj r r' k h2 h3 h4 h5
 ·intro p k;by_cases hp:p=pl
  ·simp only [hp,if_true,List.count_append];have h2:=h.lin pl k;have h3:=hlx k;by_cases hk:k∈Ox
   ·have:=List.count_eq_zero.2 (hxpl k hk);omega
   ·have:=List.count_eq_zero.2 hk;omega
  ·simp only [hp,if_false];exact Nat.le_trans (hO1c p k) (h.lin p k)
 ·intro p q hpq k hkp hkq;by_cases hp:p=pl
  ·have hq:q≠pl:=λe=>hpq (by rw [hp,e]);simp only [hp,if_true,qj]at hkp;simp only [hq,if_false]at hkq;rcases hkp with hkp|hkp
   ·exact h.dis pl q (Ne.symm hq) k hkp (hO1' q k hkq).1
   ·exact hx1 k hkp q hkq
  ·simp only [hp,if_false]at hkp;by_cases hq:q=pl
   ·simp only [hq,if_true,qj]at hkq;rcases hkq with hkq|hkq
    ·exact h.dis p pl hp k (hO1' p k hkp).1 hkq
    ·exact hx1 k hkq p hkp
   ·simp only [hq,if_false]at hkq;exact h.dis p q hpq k (hO1' p k hkp).1 (hO1' q k hkq).1
 ·intro r hr;rw [hbs];obtain ⟨x',hx',hr'⟩:=qD.1 hr;obtain ⟨t,ht⟩:=List.mem_iff_getElem?.1 hx';rcases henv t x' ht with ⟨_,x0,h2,rfl⟩|⟨_,h2,_⟩
  ·exact h1.ptrE r (qD.2 ⟨x0,List.mem_of_getElem? h2,qlN hr'⟩)
  ·rw [h2]at hr';simp at hr'
 ·intro q c' hq r' hr';rw [hbs];obtain ⟨c,hc,⟨_,rfl⟩|⟨_,_,hp,_⟩⟩:=hbox q c' hq
  ·exact h.ptrB q c hc r' (qfw hr')
  ·exact h.ptrB q c hc r' (hp r' hr')
 ·intro q c' hq r' hr';obtain ⟨c,hc,⟨_,rfl⟩|⟨_,_,hp,_⟩⟩:=hbox q c' hq
  ·exact h.up q c hc r' (qfw hr')
  ·exact h.up q c hc r' (hp r' hr')
 ·intro k e fz hk;rw [hsz];exact h.dom k e fz hk
end
section
variable {P:Program} {H:Hints} {f:FuncId} {w w':World} {X:Cx}
theorem qzT{ys:List V}{p:Path}{E:List V}{r:Nat}{y:V}(h:qp4 ys p (E.getD r .undef)=some y):E[r]?=some (E.getD r .undef):=by
 rw [List.getD_eq_getElem?_getD]at h ⊢;cases hr:E[r]? with
 |some x=>rfl
 |none =>
  rw [hr]at h;simp only [Option.getD_none]at h;cases p with
  |nil=>simp [qp4]at h
  |cons a p=>obtain ⟨j,o,s⟩:=a;simp [qp4]at h
theorem run_store{a:Act}{t:TypeId}{d:Tmp}{xo:Operand}{b k:Nat}{arr:Array Value}{ty:TypeId}(hs0:P.cellsOf t≠0)(hd:a.tmps.getD d undef=.pointer (some ⟨b,k,none⟩))(ha:w.heap[b]?=some (.cells arr ty (0,0)))
  (hl:(a.eval xo).cells.toList.length=P.cellsOf t) (hle:k+(a.eval xo).cells.toList.length<=arr.size) (hones:∀c∈(a.eval xo).cells.toList,c.oneCell'=true) :
  (Instr.storeAt t (a.eval (.tmp d)) (a.eval xo)).run P w=.ok () (w.setRow b (rowAt arr k (a.eval xo).cells.toList)):=by
 have hv:a.eval (.tmp d)=.pointer (some ⟨b,k,none⟩):=hd;have hst:=run_storeCells_at (P:=P) b k ty (a.eval xo).cells.toList 0 arr w ha (by omega) hones;simp only [Nat.add_zero]at hst;rw [hv];have:¬ ((a.eval xo).cells.size≠P.cellsOf t):=by rw [<- hl];simp
 simp only [Instr.storeAt,Instr.sureAddr,Sem.run_bind,Sem.run_pure,Result.andThen_ok,storeVar,qab hs0,if_neg this];exact hst
theorem qh8{st:St}{q:Root}{c c':List V}{E:List V}(hL:st.L=[])(hq:st.box q=some c)(q':Root) :
  ({st with E:=E,B:=qdZ (qbN st.B) q.slot c'}:St).box q'=if q'=q then some c' else (st.box q').map (List.map V.qbx):=by
 have hq0:q.lvl=0/\qy st.B q.slot=some c:=by
  rw [qcV hL]at hq;split at hq
  ·rename_i h0;exact ⟨h0,hq⟩
  ·cases hq
 rw [qcV (st:=({st with E:=E,B:=qdZ (qbN st.B) q.slot c'}:St)) hL,qcV hL];simp only [qdu,qbT];by_cases h0:q'.lvl=0
 ·rw [if_pos h0,if_pos h0];by_cases hs:q'.slot=q.slot
  ·have:q'=q:=by
    obtain ⟨l,s⟩:=q';obtain ⟨l',s'⟩:=q;simp only at h0 hs hq0;rw [h0,hs,hq0.1]
   rw [if_pos hs,if_pos this,hq0.2];rfl
  ·rw [if_neg hs,if_neg (λe=>hs (by rw [e]))]
 ·rw [if_neg h0,if_neg h0,if_neg (λe=>h0 (by rw [e];exact hq0.1))];rfl
theorem qCe{w0:World}{X0:Cx}{Md:Md}{n:Nat}{ops:Array Oper}{s:Nat}{o:Oper}{st st':St}{a:Act}{O:Pl->List Nat}(h:Rel st a.tmps w X O)(hF:Fr w0 X0 Md n st w X O)(hz:n=0->∀b e fz,X0.ω b=some (e,fz)->fz=true)(hM:qbX w0 w X a.defers)
  {t:TypeId} {d:Tmp} {xo:Operand} (hop:o.op=.store t (.tmp d) xo)
  (hpath:∀rt p,qbo P H f ops st.E ops.size s d=some (rt,p,true)->∃v0 b k,qfS w X a.tmps rt v0/\a.tmps.getD d undef=.pointer (some ⟨b,k,none⟩)/\qA3 w v0 p b k)
  (hx:qgw P H f ops s o st=some st') :
  o.dst=none/\o.guard=none/\∃w' b,(Instr.storeAt t (a.eval (.tmp d)) (a.eval xo)).run P w=.ok () w'/\Wrote w X w' b/\w'.heap.size=w.heap.size/\∃O',Rel st' a.tmps w' X O'/\Fr w0 X0 Md n st' w' X O'/\qbX w0 w' X a.defers:=by
 unfold qgw at hx;rw [hop]at hx;simp only at hx;split at hx
 ·rename_i hcond;simp only [qe,decide_eq_true_eq,List.isEmpty_iff,Option.isNone_iff_eq_none]at hcond;obtain ⟨⟨⟨⟨⟨⟨⟨⟨hL,hnl⟩,hdst⟩,hgd⟩,hnd⟩,hs0⟩,hxl⟩,hxo⟩,hxp⟩:=hcond;have htk:q7 H f o=true:=by simp [q7,hop,qm6]
  have hops:o.op.operands.toList=[.tmp d,xo]:=by rw [hop];rfl
  obtain ⟨Oin,hrep,hs,hlin⟩:=qbj (H:=H) (f:=f) h o o.op.operands.toList (λ_=>hnd);rw [hops]at hrep;simp only [qh,List.map_nil,RepL]at hrep;obtain ⟨u1,vs1,O1,O2,hu1,rfl,hr1,u,vs2,Ox,O4,hu2,rfl,hrx,rfl,rfl⟩:=hrep;simp only [List.cons.injEq]at hu1;obtain ⟨rfl,rfl⟩:=hu1;simp only [List.cons.injEq,and_true]at hu2;subst hu2;simp only [List.append_nil]at hs hlin;have hin:∀k∈Ox,∃t∈tmpsOf o,k∈O (.tmp t):=λk hk=>(hs k (by simp [hk])).2;have hlx:Lin Ox:=hlin.right;obtain ⟨hcells,hones⟩:=qcg hxo hrx;have hul:(a.eval xo).cells.toList.length=(rd H f o st.E xo).cells.length:=(qE _ _ _ hcells).symm;have hyp:ptrsL (rd H f o st.E xo).cells=[]:=qeo hxp;refine ⟨hdst,hgd,?_⟩;have hplx:∀pl:Pl,(∀t∈tmpsOf o,pl≠.tmp t)->Lin (O pl++Ox):=λpl hpl k=>by
   rw [List.count_append];have h2:=h.lin pl k;have h3:=hlx k;by_cases hk:k∈Ox
   ·have:(O pl).count k=0:=List.count_eq_zero.2 λhkp=>by
     obtain ⟨t',ht',hkt⟩:=hin k hk;exact h.dis pl (.tmp t') (hpl t' ht') k hkp hkt
    omega
   ·have:=List.count_eq_zero.2 hk;omega
  split at hx
  ·-- the owner is a temporary
   rename_i r p hlk;obtain ⟨v0,b,k,hroot,hptr,hpr⟩:=hpath _ _ hlk;split at hx
   ·cases hx
   ·rename_i hrT;have hrT':r∉tmpsOf o:=by simpa using hrT
    split at hx
    ·rename_i y hy;split at hx
     ·cases hx
     ·rename_i hsoft;have hsoft:y.soft=false:=by simpa using hsoft
      simp only [qb]at hx;subst hx;have hE:=qzT hy;obtain ⟨v1,hv1,hr0⟩:=h.env r _ hE;have:v1=v0:=by
       simp only [qfS]at hroot;rw [<- hroot,Array.getD_eq_getD_getElem?,hv1];rfl
      subst this;cases p with
      |nil=>exact hpr.elim
      |cons q p =>
       obtain ⟨j,o',s'⟩:=q;obtain ⟨off,len,cap,hsl,hj,rfl⟩:=hpr;rw [qdV]at hy;have hpl:∀t∈tmpsOf o,Pl.tmp r≠.tmp t:=λt' ht' e=>hrT' (by cases e;exact ht');obtain ⟨hbO,_,hω,⟨arr,ty,harr,hsize⟩,hy1,hyp',hk⟩:=qrS hcells hxo hyp _ _ _ _ _ hy hsoft hr0 (hplx _ hpl) hsl;obtain ⟨hW,hcell,hobj⟩:=qni (X:=X) (k:=off+j*s'+o') (yv:=(a.eval xo).cells.toList) hω harr (by rw [hul];exact hsize);obtain ⟨A,hA,hcnt⟩:=hk _ hW (by rw [<- hul];exact hcell) hobj;refine ⟨_,b,run_store hs0 hptr harr (by rw [hul];exact hxl) (by rw [hul];exact hsize) hones,hW,by simp,?_⟩;refine qpk h hF hz hM hL (qra hnl) hW (by simp) rfl rfl rfl hin hlx hpl hbO (by simp [qaN]) hL ?_ (λq=>?_) (λq c' hq=>?_)
       ·intro t' x' hx';simp only [List.getElem?_set]at hx';by_cases hrt:r=t'
        ·subst hrt;rw [if_pos rfl]at hx';split at hx'
         ·cases hx'
          exact .inr ⟨rfl,hyp',v1,hv1,A,hA,hcnt⟩
         ·cases hx'
        ·rw [if_neg hrt,List.getElem?_map]at hx';obtain ⟨x0,h2,rfl⟩:=qc.1 hx';exact .inl ⟨λe=>hrt (by cases e;rfl),x0,h2,rfl⟩
       ·rw [qcV (st:=({st with E:=_,B:=qbN st.B}:St)) hL,qcV hL];simp only [qbT];split
        ·simp
        ·rfl
       ·rw [qcV (st:=({st with E:=_,B:=qbN st.B}:St)) hL]at hq;rw [qcV hL];simp only [qbT]at hq;split at hq
        ·rename_i h0;obtain ⟨c,hc,rfl⟩:=qc.1 hq;exact ⟨c,by rw [if_pos h0];exact hc,.inl ⟨by simp,rfl⟩⟩
        ·cases hq
    ·cases hx
  ·-- the owner is in a box
   rename_i q off0 p hlk;obtain ⟨v0,b,k,⟨bq,hβ,hroot⟩,hptr,hpr⟩:=hpath _ _ hlk;split at hx
   ·rename_i cs hcs;split at hx
    ·rename_i z hz0;split at hx
     ·rename_i y hy;split at hx
      ·cases hx
      ·rename_i hsoft;have hsoft:y.soft=false:=by simpa using hsoft
       simp only [qb]at hx;subst hx;obtain ⟨bq',hβ',hlt,hωq,hbx⟩:=h.box q cs hcs;rw [hβ]at hβ';cases hβ';have hq0:q.lvl=0/\qy st.B q.slot=some cs:=by
        have:=hcs;rw [qcV hL]at this;split at this
        ·rename_i h0;exact ⟨h0,this⟩
        ·cases this
       have hlp:qc3 cs=false:=qjX hnl hq0.2;obtain ⟨arrq,tyq,harrq,hlq⟩:=hbx.cells hlp;obtain ⟨uz,A1,Oz,A2,hOq,hrz,huz,hclose⟩:=qgg off0 hlq hz0;have hv0:uz=v0:=by
        simp only [World.cell?,harrq]at hroot;have h2:arrq[off0]?=some uz:=by simpa using huz
        rw [h2]at hroot;exact Option.some.inj hroot
       subst hv0;cases p with
       |nil=>exact hpr.elim
       |cons e p =>
        obtain ⟨j,o',s'⟩:=e;obtain ⟨off,len,cap,hsl,hj,rfl⟩:=hpr;rw [qdV]at hy;have hpl:∀t∈tmpsOf o,Pl.box q≠.tmp t:=λt' ht' e=>by cases e
        have hlinz:Lin (Oz++Ox):=λk=>by
         have:=hplx (.box q) hpl k;rw [hOq]at this;simp only [List.count_append]at this ⊢;omega
        obtain ⟨hbO,_,hω,⟨arr,ty,harr,hsize⟩,hy1,hyp',hk⟩:=qrS hcells hxo hyp _ _ _ _ _ hy hsoft hrz hlinz hsl;obtain ⟨hW,hcell,hobj⟩:=qni (X:=X) (k:=off+j*s'+o') (yv:=(a.eval xo).cells.toList) hω harr (by rw [hul];exact hsize);obtain ⟨A,hA,hcnt⟩:=hk _ hW (by rw [<- hul];exact hcell) hobj;have hlq0:=h.lin (.box q) b;rw [hOq]at hlq0;simp only [List.count_append]at hlq0;have hbz:=List.count_pos_iff.2 hbO;obtain ⟨C,hC,hCc⟩:=hclose _ b y A hW (λhm=>by have:=List.count_pos_iff.2 hm;omega) (λhm=>by have:=List.count_pos_iff.2 hm;omega) hA;refine ⟨_,b,run_store hs0 hptr harr (by rw [hul];exact hxl) (by rw [hul];exact hsize) hones,hW,by simp,?_⟩;refine qpk (pl:=.box q) h hF hz hM hL (qra hnl) hW (by simp) rfl rfl rfl hin hlx hpl (by rw [hOq];simp [hbO]) (by simp [qaN]) hL ?_ (λq'=>?_) (λq' c' hq=>?_)
        ·intro t' x' hx';simp only [List.getElem?_map]at hx';obtain ⟨x0,h2,rfl⟩:=qc.1 hx';exact .inl ⟨by simp,x0,h2,rfl⟩
        ·rw [qh8 hL hcs];split
         ·rename_i e;rw [e,hcs];rfl
         ·simp
        ·rw [qh8 hL hcs]at hq;split at hq
         ·rename_i e;subst e;cases hq;refine ⟨cs,hcs,.inr ⟨rfl,?_,λr hr=>?_,λvals hvals hcellq=>?_⟩⟩
          ·exact ⟨hlp,qo3 hC⟩
          ·obtain ⟨x,hx,hr2⟩:=qD.1 hr;rcases List.mem_or_eq_of_mem_set hx with hx|rfl
           ·exact qfw (qD.2 ⟨x,hx,hr2⟩)
           ·rw [hyp']at hr2;simp at hr2
          ·have:vals=arrq.toList:=by
            apply List.ext_getElem?;intro i;have:=hcellq bq hβ i;simp only [World.cell?,harrq]at this;rw [<- this];simp
           subst this;refine ⟨C,hC,λk=>?_⟩;have:=hCc k;have:=hcnt k;rw [hOq];simp only [List.count_append]<;>omega
         ·rename_i hne;obtain ⟨c,hc,rfl⟩:=qc.1 hq;exact ⟨c,hc,.inl ⟨λe=>hne (by cases e;rfl),rfl⟩⟩
     ·cases hx
    ·cases hx
   ·cases hx
  ·cases hx
 ·cases hx
end
section
variable {P:Program} {H:Hints} {f:FuncId} {w w':World} {X X':Cx}
def tv(tmps:Array Value)(t:Tmp):Value:=tmps.getD t undef
def evT(tmps:Array Value):Operand->Value
 |.tmp t=>tv tmps t
 |.const v=>v
 |_=>undef
def qd6(P:Program)(H:Hints)(f:FuncId)(E:List V)(o:Oper)(tmps:Array Value)(w:World)(X:Cx):Prop :=
 match o.op,o.dst with
 |.move (.tmp a),some d=>tv tmps d=tv tmps a
 |.indexAddr t (.tmp a) i,some d=>∀elem,P.underlying t=some (.slice elem)->∃b off len cap k n,tv tmps a=.slice (some ⟨b,off,none⟩) len cap/\evT tmps i=.int k n/\0<=n/\n<(len:Int)/\tv tmps d=.pointer (some ⟨b,off+n.toNat*P.cellsOf elem,none⟩)
 |.fieldAddr t (.tmp a) fd,some d=>∀b off o',tv tmps a=.pointer (some ⟨b,off,none⟩)->qk5 P t fd=some o'->tv tmps d=.pointer (some ⟨b,off+o',none⟩)
 |.load t (.tmp a),some d=>qO P t=false->if H.link f a=true then (∃b off v,tv tmps a=.pointer (some ⟨b,off,none⟩)/\w.cell? ⟨b,off,none⟩=some v/\tv tmps d=v/\∃e fz,X.ω b=some (e,fz)/\off<e)
   else ∀r o',E[a]?=some (.ptr r o')->∃b v,tv tmps a=.pointer (some ⟨b,o',none⟩)/\w.cell? ⟨b,o',none⟩=some v/\tv tmps d=v
 |_,_=>True
theorem qa1{o:Oper}{x:Operand}{t:Tmp}(hx:x∈o.op.operands.toList)(e:x=.tmp t):t∈tmpsOf o:=by
 subst e;exact List.mem_filterMap.2 ⟨.tmp t,hx,rfl⟩
theorem qqB{tmps tmps':Array Value}{i:Operand}(h:∀t,i=.tmp t->tv tmps' t=tv tmps t):evT tmps' i=evT tmps i:=by
 cases i<;>first|rfl|exact h _ rfl
theorem qd6.qgM{E E':List V}{o:Oper}{tmps tmps':Array Value}(h:qd6 P H f E o tmps w X)(hd:∀d,o.dst=some d->tv tmps' d=tv tmps d)(ht:∀t∈tmpsOf o,tv tmps' t=tv tmps t)
  (hn:qht H f o=true->(∀b e fz,X.ω b=some (e,fz)->∃e' fz',X'.ω b=some (e',fz')/\e<=e')/\∀b e fz i v,X.ω b=some (e,fz)->i<e->w.cell? ⟨b,i,none⟩=some v->w'.cell? ⟨b,i,none⟩=some v)
  (hb:qlr H f o=true->∀a∈tmpsOf o,∀r o',E'[a]?=some (.ptr r o')->E[a]?=some (.ptr r o')/\∀b,tv tmps a=.pointer (some ⟨b,o',none⟩)->w'.cell? ⟨b,o',none⟩=w.cell? ⟨b,o',none⟩):qd6 P H f E' o tmps' w' X':=by
 unfold qd6 at h ⊢;split
 ·rename_i a d hop hdst;rw [hop,hdst]at h;rw [hd d hdst,ht a (qa1 (by rw [hop];exact List.mem_singleton.2 rfl) rfl)];exact h
 ·rename_i t a i d hop hdst;rw [hop,hdst]at h;intro elem hu;obtain ⟨b,off,len,cap,k,n,h1,h2,h3,h4,h5⟩:=h elem hu;refine ⟨b,off,len,cap,k,n,?_,?_,h3,h4,?_⟩
  ·rw [ht a (qa1 (x:=.tmp a) (by rw [hop];show _∈[Operand.tmp a,i];simp) rfl)];exact h1
  ·rw [qqB (λt' e=>ht t' (qa1 (by rw [hop];show i∈[Operand.tmp a,i];simp) e))];exact h2
  ·rw [hd d hdst];exact h5
 ·rename_i t a fd d hop hdst;rw [hop,hdst]at h;intro b off o' h1 h2;rw [ht a (qa1 (by rw [hop];exact List.mem_singleton.2 rfl) rfl)]at h1;rw [hd d hdst];exact h b off o' h1 h2
 ·rename_i t a d hop hdst;rw [hop,hdst]at h;have ha:a∈tmpsOf o:=qa1 (by rw [hop];exact List.mem_singleton.2 rfl) rfl;intro hag;have h:=h hag;by_cases hl:H.link f a=true
  ·rw [if_pos hl]at h ⊢;obtain ⟨b,off,v,h1,h2,h3,e,fz,h4,h5⟩:=h;obtain ⟨hω,hc⟩:=hn (by unfold qht;rw [hop];exact hl);obtain ⟨e',fz',h6,h7⟩:=hω b e fz h4;exact ⟨b,off,v,by rw [ht a ha];exact h1,hc b e fz off v h4 h5 h2,by rw [hd d hdst];exact h3,e',fz',h6,by omega⟩
  ·rw [if_neg hl]at h ⊢;intro r o' hE;have hbl:qlr H f o=true:=by unfold qlr;rw [hop];simpa using hl
   obtain ⟨h1,h2⟩:=hb hbl a ha r o' hE;obtain ⟨b,v,h3,h4,h5⟩:=h r o' h1;exact ⟨b,v,by rw [ht a ha];exact h3,by rw [h2 b h3];exact h4,by rw [hd d hdst];exact h5⟩
 ·trivial
theorem qnG{ops:Array Oper}{d:Tmp}:∀{k c:Nat},qnm ops k d=some c->c<k/\∃o,ops[c]?=some o/\o.dst=some d
 |0,c,h=>by simp [qnm]at h
 |k+1,c,h=>by
  simp only [qnm]at h;split at h
  ·rename_i hk;cases h;cases ho:ops[k]? with
   |none=>rw [ho]at hk;simp at hk
   |some o=>rw [ho]at hk;exact ⟨by omega,o,rfl,by simpa using hk⟩
  ·obtain ⟨h1,h2⟩:=qnG h;exact ⟨by omega,h2⟩
theorem qcS{tmps:Array Value}{t:Nat}{v:Value}(h:tmps[t]?=some v):tv tmps t=v:=by
 unfold tv;rw [Array.getD_eq_getD_getElem?,h];rfl
theorem qyv{st:St}{tmps:Array Value}{O:Pl->List Nat}(h:Rel st tmps w X O){i:Operand}{j:Nat}(hi:idxOf st.E i=some j){k:IntKind}{n:Int}(hv:evT tmps i=.int k n):n.toNat=j:=by
 have key:∀x:V,qjb x=some j->∀v O,Rep w X x v O->v=.int k n->n.toNat=j:=by
  intro x hx v O hr hv;unfold qjb at hx;split at hx
  ·simp only [Rep]at hr;rw [hr.1]at hv;cases hv;split at hx
   ·exact Option.some.inj hx
   ·cases hx
  ·cases hx
 cases i with
 |tmp t =>
  simp only [idxOf]at hi;cases hE:st.E[t]? with
  |none=>rw [List.getD_eq_getElem?_getD,hE]at hi;simp [qjb]at hi
  |some x =>
   obtain ⟨v,h1,h2⟩:=h.env t x hE;rw [List.getD_eq_getElem?_getD,hE]at hi;exact key x (by simpa using hi) v _ h2 (by rw [<- qcS h1];exact hv)
 |const u =>
  simp only [idxOf]at hi;exact key (.val u) hi u [] (by simp [Rep]) hv
 |_=>simp [idxOf]at hi
theorem qzG{ops:Array Oper}{st:St}{tmps:Array Value}{O:Pl->List Nat}(h:Rel st tmps w X O){s:Nat}{S:List Tmp}(hf:∀c oc,ops[c]?=some oc->qky H f oc=true->c<s->(∀d,oc.dst=some d->d∈S)->qd6 P H f st.E oc tmps w X) :
  ∀(n k:Nat) (d:Tmp) (rt:Rt) (p:Path) (ptr:Bool),k<=s->(∀t∈qcz H f ops n k d,t∈S)->qbo P H f ops st.E n k d=some (rt,p,ptr) ->
   ∃v0,qfS w X tmps rt v0/\(if ptr=true then ∃b k,tv tmps d=.pointer (some ⟨b,k,none⟩)/\qA3 w v0 p b k else SlF w v0 p.reverse (tv tmps d)):=by
 intro n;induction n with
 |zero=>intro k d rt p ptr _ _ hx;simp [qbo]at hx
 |succ n ih =>
  intro k d rt p ptr hks hS hx;simp only [qbo]at hx;simp only [qcz]at hS;split at hx
  ·simp only [qb,Prod.mk.injEq]at hx;obtain ⟨rfl,rfl,rfl⟩:=hx;exact ⟨tv tmps d,rfl,by simp [SlF]⟩
  ·rename_i hlk;have hlk:H.link f d=true:=by simpa using hlk
   split at hx
   ·cases hx
   ·rename_i c hc;obtain ⟨hck,oc,hoc,hdst⟩:=qnG hc;have hfact:=hf c oc hoc (by unfold qky;rw [hdst];exact hlk) (by omega) (λd' hd'=>by rw [hdst]at hd';cases hd';exact hS d (by simp));rw [hc]at hS;simp only [hlk,hoc,qi,Bool.true_eq_false,if_false]at hS;rw [hoc]at hx;simp only [qi]at hx;unfold qd6 at hfact;split at hx
    ·-- move
     rename_i a hop;rw [Option.some.inj hop,hdst]at hfact;simp only at hfact;obtain ⟨v0,h1,h2⟩:=ih c a rt p ptr (by omega) (λt ht=>hS t (by rw [Option.some.inj hop];simp [ht])) hx;exact ⟨v0,h1,by rw [hfact];exact h2⟩
    ·-- indexAddr
     rename_i t a i hop;have hS':∀x∈qcz H f ops n c a,x∈S:=λx hx=>hS x (by rw [Option.some.inj hop];simp [hx]);rw [Option.some.inj hop,hdst]at hfact;simp only at hfact;split at hx
     ·rename_i r q j elem hq hj hu;simp only [qb,Prod.mk.injEq]at hx;obtain ⟨rfl,rfl,rfl⟩:=hx;obtain ⟨v0,h1,h2⟩:=ih c a _ _ _ (by omega) hS' hq;simp only [qf,if_false]at h2;obtain ⟨b,off,len,cap,kk,m,h3,h4,h5,h6,h7⟩:=hfact elem hu;have hj':=qyv h hj h4;rw [h3]at h2;refine ⟨v0,h1,?_⟩;simp only [if_true];refine ⟨b,_,h7,off,len,cap,h2,by omega,by rw [hj'];omega⟩
     ·cases hx
    ·-- fieldAddr
     rename_i t a fd hop;have hS':∀x∈qcz H f ops n c a,x∈S:=λx hx=>hS x (by rw [Option.some.inj hop];simp [hx]);rw [Option.some.inj hop,hdst]at hfact;simp only at hfact;split at hx
     ·rename_i r j o sz q o' hq ho';simp only [qb,Prod.mk.injEq]at hx;obtain ⟨rfl,rfl,rfl⟩:=hx;obtain ⟨v0,h1,h2⟩:=ih c a _ _ _ (by omega) hS' hq;simp only [if_true]at h2 ⊢;obtain ⟨b,kk,h3,off,len,cap,h4,h5,rfl⟩:=h2;exact ⟨v0,h1,b,_,hfact b _ o' h3 ho',off,len,cap,h4,h5,by omega⟩
     ·cases hx
    ·-- load
     rename_i t a hop;rw [Option.some.inj hop,hdst]at hfact;simp only at hfact;split at hx
     ·cases hx
     ·rename_i hag;have hfact:=hfact (by simpa using hag);split at hx
      ·rename_i hla;rw [if_pos hla]at hfact;have hS':∀x∈qcz H f ops n c a,x∈S:=λx hx=>hS x (by rw [Option.some.inj hop];simp [hla,hx]);split at hx
       ·rename_i r q hq;simp only [qb,Prod.mk.injEq]at hx;obtain ⟨rfl,rfl,rfl⟩:=hx;obtain ⟨v0,h1,h2⟩:=ih c a _ _ _ (by omega) hS' hq;simp only [if_true]at h2;obtain ⟨b,kk,h3,hpr⟩:=h2;obtain ⟨b',off',v,h4,h5,h6,_⟩:=hfact;rw [h3]at h4;cases h4;refine ⟨v0,h1,?_⟩;simp only [qf,if_false];cases q with
        |nil=>exact hpr.elim
        |cons e q =>
         obtain ⟨j,o,sz⟩:=e;obtain ⟨off,len,cap,h7,h8,rfl⟩:=hpr;rw [qdV,h6];exact h7.snoc h8 h5
       ·cases hx
      ·rename_i hla;rw [if_neg hla]at hfact;split at hx
       ·rename_i r off hE;simp only [qb,Prod.mk.injEq]at hx;obtain ⟨rfl,rfl,rfl⟩:=hx;have hE':st.E[a]?=some (.ptr r off):=by
         rw [List.getD_eq_getElem?_getD]at hE;cases hh:st.E[a]? with
         |none=>rw [hh]at hE;simp at hE
         |some x=>rw [hh]at hE;simpa using hE
        obtain ⟨b,v,h3,h4,h5⟩:=hfact r off hE';obtain ⟨u,hu,hr⟩:=h.env a _ hE';simp only [Rep]at hr;obtain ⟨_,b',hb',rfl⟩:=hr;rw [qcS hu]at h3;cases h3;exact ⟨v,⟨b,hb',h4⟩,by simp [SlF,h5]⟩
       ·cases hx
    ·cases hx
theorem qBr{ops:Array Oper}{st:St}{tmps:Array Value}{O:Pl->List Nat}(h:Rel st tmps w X O){s:Nat}(hf:∀c oc,ops[c]?=some oc->qky H f oc=true->c<s->qd6 P H f st.E oc tmps w X) :
  ∀(n k:Nat) (d:Tmp) (rt:Rt) (p:Path) (ptr:Bool),k<=s->qbo P H f ops st.E n k d=some (rt,p,ptr) ->
   ∃v0,qfS w X tmps rt v0/\(if ptr=true then ∃b k,tv tmps d=.pointer (some ⟨b,k,none⟩)/\qA3 w v0 p b k else SlF w v0 p.reverse (tv tmps d)):=by
 intro n k d rt p ptr hks hx;exact qzG (S:=qcz H f ops n k d) h (s:=s) (λc oc hoc hl hc _=>hf c oc hoc hl hc) n k d rt p ptr hks (λ_ h=>h) hx
theorem qdT{ops:Array Oper}{E E':List V}:∀(n k:Nat) (d:Tmp),(∀t∈qcz H f ops n k d,E'[t]?=E[t]?)->qbo P H f ops E' n k d=qbo P H f ops E n k d
 |0,k,d,h=>rfl
 |n+1,k,d,h=>by
  simp only [qbo];simp only [qcz]at h;split
  ·rfl
  ·rename_i hlk;have hlk:H.link f d=true:=by simpa using hlk
   simp only [hlk,Bool.true_eq_false,if_false]at h;cases hc:qnm ops k d with
   |none=>rfl
   |some c =>
    rw [hc]at h;simp only at h ⊢;split
    ·rename_i a hop;rw [hop]at h;exact qdT n c a λt ht=>h t (by simp [ht])
    ·rename_i t a i hop;rw [hop]at h;have h1:qbo P H f ops E' n c a=qbo P H f ops E n c a:=qdT n c a λt ht=>h t (by simp [ht]);have h2:idxOf E' i=idxOf E i:=by
      cases i with
      |tmp x =>
       simp only [idxOf];rw [getD_congr (h x (by simp))]
      |_=>rfl
     rw [h1,h2]
    ·rename_i t a fd hop;rw [hop]at h;rw [qdT n c a λt ht=>h t (by simp [ht])]
    ·rename_i t a hop;rw [hop]at h;simp only at h;by_cases hla:H.link f a=true
     ·rw [if_pos hla,if_pos hla,qdT n c a λt ht=>h t (by simp [hla,ht])]
     ·rw [if_neg hla,if_neg hla,getD_congr (h a (by simp))]
    ·rfl
theorem qeI{ops:Array Oper}{E:List V}:∀(n k:Nat) (d r:Tmp) (p:Path) (b:Bool),qbo P H f ops E n k d=some (.tmp r,p,b)->r∈qcz H f ops n k d
 |0,k,d,r,p,b,hx=>by simp [qbo]at hx
 |n+1,k,d,r,p,b,hx=>by
  simp only [qbo]at hx;simp only [qcz];split at hx
  ·simp only [qb,Prod.mk.injEq,Rt.tmp.injEq]at hx;rw [hx.1];simp
  ·rename_i hlk;have hlk:H.link f d=true:=by simpa using hlk
   simp only [hlk,Bool.true_eq_false,if_false];cases hc:qnm ops k d with
   |none=>rw [hc]at hx;cases hx
   |some c =>
    rw [hc]at hx;simp only at hx ⊢;split at hx
    ·rename_i a hop;first|rw [hop]|skip
     simp [qeI n c a r p b hx]
    ·rename_i t a i hop;first|rw [hop]|skip
     split at hx
     ·rename_i r' p' j elem hq hj hu;simp only [qb,Prod.mk.injEq]at hx;obtain ⟨rfl,_,_⟩:=hx;simp [qeI n c a r _ _ hq]
     ·cases hx
    ·rename_i t a fd hop;first|rw [hop]|skip
     split at hx
     ·rename_i r' j o sz p' o' hq ho';simp only [qb,Prod.mk.injEq]at hx;obtain ⟨rfl,_,_⟩:=hx;simp [qeI n c a r _ _ hq]
     ·cases hx
    ·rename_i t a hop;first|rw [hop]|skip
     split at hx
     ·cases hx
     ·by_cases hla:H.link f a=true
      ·rw [if_pos hla]at hx;split at hx
       ·rename_i r' p' hq;simp only [qb,Prod.mk.injEq]at hx;obtain ⟨rfl,_,_⟩:=hx;simp [hla,qeI n c a r _ _ hq]
       ·cases hx
      ·rw [if_neg hla]at hx;split at hx<;>simp at hx
    ·cases hx
end
section
variable {P:Program} {H:Hints} {f:FuncId} {C:Orc} {w w':World} {X X':Cx}
theorem qjl{t:TypeId}{d:TypeDesc}{b off:Nat}{v:Value}(hu:P.underlying t=some d)(hag:qO P t=false)(hc:w.cell? ⟨b,off,none⟩=some v):(Instr.loadAt t (.pointer (some ⟨b,off,none⟩))).run P w=.ok v w:=by
 simp only [Instr.loadAt,Instr.sureAddr,Sem.run_bind,Sem.run_pure,Result.andThen_ok];refine qdX (vals:=[v]) hu (λi u hi=>?_) (by simp [hag]);cases i with
 |zero=>simp at hi;subst hi;simpa using hc
 |succ i=>simp at hi
theorem qBP{F:Fence}{o:Oper}{a:Act}{K:Act->World->Prop}{Q:Exit->Act->World->Prop}{v:Value}(hnd:∀c,o.op≠.defer c)(hrun:(execOp a.eval o).run P w=.ok (.value v) w') :
  o.wpIn F 0 P a w K Q↔(∀g,o.about P w a.eval=some g->F.fn g)/\K (a.put o.dst v) w':=by
 unfold Oper.wpIn;rw [Oper.semAt_eq _ _ _ hnd,hrun,Oper.uponIn_value]
theorem qrA(ρ:Operand->Value)(o:Oper){s:Sem Value}{v:Value}(h:execOp ρ o=(do pure (Next.value (<- s))))(hs:s.run P w=.ok v w'):(execOp ρ o).run P w=.ok (.value v) w':=by
 rw [h];exact qpK hs
theorem qkI{o:Oper}{st st':St}{fp:Fp}(hx:qd9 P H C f o st=some (st',fp)) :
  (q7 H f o=true->qcb (tmpsOf o)=true)/\∃z s,qbp P H C f o (o.op.operands.toList.map (rd H f o st.E)) {st with E:=qA st.E (if q7 H f o=true then tmpsOf o else [])}=some (z,s,fp)/\st'=s.put o.dst z:=by
 unfold qd9 at hx;split at hx
 ·cases hx
 ·rename_i hn0;obtain ⟨⟨z,s,fp'⟩,hm,he⟩:=qc.1 hx;obtain ⟨rfl,rfl⟩:=Prod.mk.inj he;refine ⟨λht=>by simpa [ht]using hn0,z,s,?_,rfl⟩;rw [<- hm];congr 1
  split<;>rfl
theorem qua{w0:World}{X0:Cx}{Md:Md}{n:Nat}{st st':St}{a:Act}{O:Pl->List Nat}{o:Oper}{fp:Fp}(h:Rel st a.tmps w X O)(hF:Fr w0 X0 Md n st w X O)(hx:qd9 P H C f o st=some (st',fp))(ht:qdj o.op=true) :
  (∀c,o.op≠.defer c)/\∃v w',(execOp a.eval o).run P w=.ok (.value v) w'/\∀b,b<w.heap.size->X.ω b=none->w'.heap[b]?=w.heap[b]?:=by
 obtain ⟨hn,z,s,hm,_⟩:=qkI hx;obtain ⟨Oin,hrep,hs,hlin⟩:=qbj (H:=H) (f:=f) h o _ hn;rcases qm2 hm with ⟨t,d,z0,hop,_⟩|⟨t,ao,d,x,hop,_⟩|⟨c,fo,fv,args,hop,hcal,_⟩|⟨hr,hsem,rfl,_⟩|⟨r,hr,hsem,rfl,_⟩|⟨r,c,hr,hsem,hall,rfl,_⟩|⟨c,fo,fv,args,hop,hcal,_⟩|⟨hmo,hmp⟩
 ·rw [hop]at ht;simp [qdj]at ht
 ·rw [hop]at ht;simp [qdj]at ht
 ·rw [hop]at ht;obtain ⟨cal,a1,a2⟩:=c;simp only at hcal;subst hcal;simp [qdj]at ht
 ·have hnd:∀c,o.op≠.defer c:=by intro c hc;rw [hc]at hsem;simp [qaG]at hsem
  obtain ⟨v,w',X',O',hrun,heff,_⟩:=qtO h.dom hlin hsem hrep;refine ⟨hnd,v,w',hrun,λb hb hω=>heff.kept b hb λhbO=>?_⟩;obtain ⟨e,he⟩:=repL_own _ _ _ hrep b hbO;rw [hω]at he;cases he
 ·obtain ⟨off,rest,hxs,hop⟩:=qbI hr;rcases hop with ⟨t,ao,hop⟩|⟨t,ao,xo,hop⟩
  ·have hops:o.op.operands.toList=[ao]:=by rw [hop];rfl
   rw [hops]at hrep hxs;simp only [qh,List.map_nil,List.cons.injEq]at hxs;obtain ⟨hx1,rfl⟩:=hxs;simp only [qh,List.map_nil,RepL]at hrep;obtain ⟨u,vs,O1,O2,hu,rfl,hr1,rfl,rfl⟩:=hrep;simp only [List.cons.injEq,and_true]at hu;subst hu;rw [hx1]at hr1;refine ⟨(by intro c hc;rw [hop]at hc;cases hc),?_⟩;have hbx:∃cs,st.box r=some cs:=by
    cases hh:st.box r with
    |some cs=>exact ⟨cs,rfl⟩
    |none=>rw [hops,qh,List.map_nil,hx1,hop,qc1,hh]at hsem;simp [qaG]at hsem
   obtain ⟨cs,hcs⟩:=hbx;rw [hops,qh,List.map_nil,hx1,hop,qc1,hcs]at hsem;simp only [qaG]at hsem;obtain ⟨v,hrun,_⟩:=qhc (dst:=o.dst) (tk:=q7 H f o) h hF hr1 hcs hsem;exact ⟨v,w,by simp only [execOp,hop,Sem.run_bind,hrun,Result.andThen_ok,Sem.run_pure],λ_ _ _=>rfl⟩
  ·rw [hop]at ht;simp [qdj]at ht
 ·obtain ⟨off,rest,hxs,hop⟩:=qbI hr;rcases hop with ⟨t,ao,hop⟩|⟨t,ao,xo,hop⟩
  ·have hops:o.op.operands.toList=[ao]:=by rw [hop];rfl
   rw [hops]at hrep hxs;simp only [qh,List.map_nil,List.cons.injEq]at hxs;obtain ⟨hx1,rfl⟩:=hxs;simp only [qh,List.map_nil,RepL]at hrep;obtain ⟨u,vs,O1,O2,hu,rfl,hr1,rfl,rfl⟩:=hrep;simp only [List.cons.injEq,and_true]at hu;subst hu;rw [hx1]at hr1;refine ⟨(by intro c hc;rw [hop]at hc;cases hc),?_⟩;have hbx:∃cs,st.box r=some cs:=by
    cases hh:st.box r with
    |some cs=>exact ⟨cs,rfl⟩
    |none=>rw [hops,qh,List.map_nil,hx1,hop,qc1,hh]at hsem;simp [qaG]at hsem
   obtain ⟨cs,hcs⟩:=hbx;rw [hops,qh,List.map_nil,hx1,hop,qc1,hcs]at hsem;simp only [qaG]at hsem;obtain ⟨v,hrun,_⟩:=qhc (dst:=o.dst) (tk:=q7 H f o) h hF hr1 hcs hsem;exact ⟨v,w,by simp only [execOp,hop,Sem.run_bind,hrun,Result.andThen_ok,Sem.run_pure],λ_ _ _=>rfl⟩
  ·rw [hop]at ht;simp [qdj]at ht
 ·rw [hop]at ht;obtain ⟨cal,a1,a2⟩:=c;simp only at hcal;subst hcal;simp [qdj]at ht
 ·obtain ⟨v,w',r,hrun,hr,hk,_⟩:=qnY (n:=n) (h.taken (if q7 H f o=true then tmpsOf o else [])) (Fr.taken h hF _) hrep hmp;obtain ⟨rfl,rfl⟩:=hk ht;exact ⟨λc hc=>(by rw [hc]at hmo;simp [qcT]at hmo),v,_,hrun,λ_ _ _=>rfl⟩
theorem qze(hC:OrcOk P C){F:Fence}(hFF:F=Fence.wide\/∃l,F=Fence.wide.inRound l){w0:World}{X0:Cx}{Md:Md}{n:Nat}{st st':St}{a:Act}{O:Pl->List Nat}{o:Oper}{fp:Fp}(h:Rel st a.tmps w X O)(hF:Fr w0 X0 Md n st w X O)
  (hx:qd9 P H C f o st=some (st',fp)) {K:Act->World->Prop} {Q:Exit->Act->World->Prop}
  (hK:∀v w',Sim w0 X0 Md n st' (a.put o.dst v).tmps w'->(qdj o.op=true->(∀b,b<w.heap.size->X.ω b=none->w'.heap[b]?=w.heap[b]?)/\∀v0,(execOp a.eval o).run P w=.ok (.value v0) w->v=v0/\w'=w)->K (a.put o.dst v) w'):o.wpIn F 0 P a w K Q:=by
 have hstep:qjt P H C f o st=some st':=by unfold qjt;rw [hx];rfl
 cases ht:qdj o.op with
 |false=>exact qs5 hC hFF ⟨X,O,h,hF⟩ hstep λv w' hS=>hK v w' hS λh=>by rw [ht]at h;cases h
 |true =>
  obtain ⟨hnd,v,w1,hrun,hkept⟩:=qua h hF hx ht;have h1:o.wpIn F 0 P a w (λa' w'=>Sim w0 X0 Md n st' a'.tmps w') Q:=qs5 hC hFF ⟨X,O,h,hF⟩ hstep λv w' hS=>hS;rw [qBP hnd hrun]at h1 ⊢;refine ⟨h1.1,hK v w1 h1.2 λ_=>⟨hkept,λv0 h0=>?_⟩⟩;rw [hrun]at h0;simp only [Result.ok.injEq,Next.value.injEq]at h0;exact h0
theorem qfg{a:Act}{d:Option Tmp}{v:Value}{t:Tmp}(h:d≠some t):tv (a.put d v).tmps t=tv a.tmps t:=by
 unfold tv Act.put;cases d with
 |none=>rfl
 |some d =>
  have:d≠t:=λe=>h (by rw [e]);simp [Array.getD_eq_getD_getElem?,this]
theorem qcj{a:Act}{d:Tmp}{v:Value}(h:d<a.tmps.size):tv (a.put (some d) v).tmps d=v:=by
 unfold tv Act.put;simp [Array.getD_eq_getD_getElem?,h]
theorem quv{w0:World}{X0:Cx}{Md:Md}{n:Nat}{st st':St}{a:Act}{O:Pl->List Nat}{o:Oper}{fp:Fp}(h:Rel st a.tmps w X O)(hF:Fr w0 X0 Md n st w X O)(hlk:qky H f o=true)(hself:∀d,o.dst=some d->d∉tmpsOf o)(hgate:qd8 H f o st.E=true)
  (hx:qd9 P H C f o st=some (st',fp)) :
  (∀E' tmps' w' X',qd6 P H f E' o tmps' w' X')\/(qdj o.op=true/\∃v,(execOp a.eval o).run P w=.ok (.value v) w/\∀(E':List V) (X':Cx),(∀b e fz,X.ω b=some (e,fz)->∃e' fz',X'.ω b=some (e',fz')/\e<=e') ->
   (∀t∈tmpsOf o,∀r o',E'[t]?=some (.ptr r o')->st.E[t]?=some (.ptr r o'))->qd6 P H f E' o (a.put o.dst v).tmps w X'):=by
 obtain ⟨hn,z,s,hm,_⟩:=qkI hx;obtain ⟨Oin,hrep,hs,hlin⟩:=qbj (H:=H) (f:=f) h o _ hn;obtain ⟨d,hdst⟩:∃d,o.dst=some d:=by
  cases hd:o.dst with
  |none=>unfold qky at hlk;rw [hd]at hlk;cases hlk
  |some d=>exact ⟨d,rfl⟩
 have hgate':=hgate;unfold qd8 at hgate';rw [hlk,hdst]at hgate';simp only [Bool.not_true,Bool.false_or,qe,decide_eq_true_eq]at hgate';obtain ⟨hdlt,hgl⟩:=hgate';have hdsz:d<a.tmps.size:=by rw [h.size];exact hdlt
 have hdn:=hself d hdst;have htv:∀t∈tmpsOf o,∀v,tv (a.put o.dst v).tmps t=tv a.tmps t:=λt ht v=>qfg (λe=>hdn (by rw [hdst]at e;cases e;exact ht));have htvd:∀v,tv (a.put o.dst v).tmps d=v:=λv=>by rw [hdst];exact qcj hdsz
 have hev:∀t,a.eval (.tmp t)=tv a.tmps t:=λt=>rfl;by_cases hkind:(∃a0,o.op=.move (.tmp a0))\/(∃t a0 i,o.op=.indexAddr t (.tmp a0) i)\/(∃t a0 fd,o.op=.fieldAddr t (.tmp a0) fd)\/(∃t a0,o.op=.load t (.tmp a0))
 case neg =>
  left
  intro E' tmps' w' X';unfold qd6;split
  ·rename_i a0 _ hop _;exact absurd (.inl ⟨a0,hop⟩) hkind
  ·rename_i t a0 i _ hop _;exact absurd (.inr (.inl ⟨t,a0,i,hop⟩)) hkind
  ·rename_i t a0 fd _ hop _;exact absurd (.inr (.inr (.inl ⟨t,a0,fd,hop⟩))) hkind
  ·rename_i t a0 _ hop _;exact absurd (.inr (.inr (.inr ⟨t,a0,hop⟩))) hkind
  ·trivial
 case pos =>
 right
 rcases hkind with ⟨a0,hop⟩|⟨t,a0,i,hop⟩|⟨t,a0,fd,hop⟩|⟨t,a0,hop⟩
 ·refine ⟨by rw [hop];rfl,a.eval (.tmp a0),by simp [execOp,hop],λE' X' _ _=>?_⟩;unfold qd6;rw [hop,hdst];simp only
  rw [<- hdst,htvd,htv a0 (qa1 (by rw [hop];exact List.mem_singleton.2 rfl) rfl)];exact hev a0
 ·have hops:o.op.operands.toList=[.tmp a0,i]:=by rw [hop];rfl
  rw [hops]at hrep hm;simp only [qh,List.map_nil,RepL]at hrep;obtain ⟨u,vs,O1,O2,hu,rfl,hr1,u2,vs2,O3,O4,hu2,rfl,hr2,rfl,rfl⟩:=hrep;simp only [List.cons.injEq]at hu;obtain ⟨rfl,rfl⟩:=hu;simp only [List.cons.injEq,and_true]at hu2;subst hu2;have hy:∃y,qbg P t (rd H f o st.E (.tmp a0)) (rd H f o st.E i)=some y:=by
   rw [qX (by rw [hop];rfl)]at hm;unfold qdl at hm;rw [hop,if_neg (by simp [qcT])]at hm;simp only [qh,List.map_nil,rootOf,qaG]at hm;cases hv:qbg P t (rd H f o st.E (.tmp a0)) (rd H f o st.E i)with
   |none=>rw [hv]at hm;simp at hm
   |some y=>exact ⟨y,rfl⟩
  obtain ⟨y,hy⟩:=hy;obtain ⟨v',hrun,_⟩:=qkD hy hr1 hr2;refine ⟨by rw [hop];rfl,v',qrA _ _ (by simp only [execOp,hop]) hrun,λE' X' _ _=>?_⟩;unfold qd6;rw [hop,hdst];simp only
  intro elem hul;rw [<- hdst,htvd,htv a0 (qa1 (x:=.tmp a0) (by rw [hops];simp) rfl)];have hev2:evT (a.put o.dst v').tmps i=evT a.tmps i:=qqB λt' e=>htv t' (qa1 (x:=i) (by rw [hops];simp) e) v';rw [hev2];have hy':=hy;unfold qbg at hy';split at hy'
  ·rename_i k m hi0;rw [hi0]at hr2;simp only [Rep]at hr2;obtain ⟨hiv,_⟩:=hr2;rw [hul]at hy';split at hy'
   ·rename_i hh _;cases hh
   ·rename_i hh _;cases hh
   ·rename_i el fl c l hh hx0;cases hh;split at hy'
    ·rename_i h0;split at hy'
     ·rename_i e he;split at hy'
      ·rename_i hc;obtain ⟨hlen,hok,hz0,_⟩:=hc;rw [hx0]at hr1;simp only [Rep]at hr1;obtain ⟨_,hr1⟩:=hr1;rcases hr1 with ⟨rfl,_⟩|⟨b,off,cap,sz,vals,O',hv1,hcap,_⟩
       ·simp at he
       ·have hlt:m<(l.length:Int):=by have:=(qm.1 he).1;omega
        have hrun2:(Instr.indexAt t (a.eval (.tmp a0)) (a.eval i)).run P w=.ok (.pointer (some ⟨b,off+m.toNat*P.cellsOf elem,none⟩)) w:=by
         rw [hv1,hiv];simp [Instr.indexAt,asIntOf,run_underlying hul,h0,hlt,qab hz0,Addr.add_lit]
        rw [hrun]at hrun2;simp only [Result.ok.injEq,and_true]at hrun2;refine ⟨b,off,l.length,cap,k,m,by rw [<- hev];exact hv1,?_,h0,hlt,hrun2⟩;cases i with
        |tmp t'=>exact hiv
        |const u=>exact hiv
        |_=>simp only [rd]at hi0;cases hi0
      ·cases hy'
     ·cases hy'
    ·cases hy'
   ·cases hy'
  ·cases hy'
 ·have hops:o.op.operands.toList=[.tmp a0]:=by rw [hop];rfl
  rw [hops]at hrep hm;simp only [qh,List.map_nil,RepL]at hrep;obtain ⟨u,vs,O1,O2,hu,rfl,hr1,rfl,rfl⟩:=hrep;simp only [List.cons.injEq,and_true]at hu;subst hu;have hy:∃y,qcv P t (rd H f o st.E (.tmp a0)) fd=some y:=by
   rw [qX (by rw [hop];rfl)]at hm;unfold qdl at hm;rw [hop,if_neg (by simp [qcT])]at hm;simp only [qh,List.map_nil,rootOf,qaG]at hm;cases hv:qcv P t (rd H f o st.E (.tmp a0)) fd with
   |none=>rw [hv]at hm;simp at hm
   |some y=>exact ⟨y,rfl⟩
  obtain ⟨y,hy⟩:=hy;obtain ⟨v',hrun,_⟩:=qkC hy hr1;refine ⟨by rw [hop];rfl,v',qrA _ _ (by simp only [execOp,hop]) hrun,λE' X' _ _=>?_⟩;unfold qd6;rw [hop,hdst];simp only
  intro b off o' hv1 ho';rw [<- hdst,htvd];rw [<- hdst,htv a0 (qa1 (x:=.tmp a0) (by rw [hops];simp) rfl)]at hv1;have hy':=hy;unfold qcv at hy';unfold qk5 at ho';cases hul:P.underlying t with
  |none=>rw [hul]at hy';cases hy'
  |some td =>
   rw [hul]at hy' ho';cases td with
   |struct fields =>
    simp only at hy' ho';cases hf:fields[fd]? with
    |none=>rw [hf]at ho';cases ho'
    |some g =>
     rw [hf]at hy' ho';simp only [qi,qb]at ho';subst ho';simp only at hy';by_cases hz0:P.cellsOf g.type=0
     ·rw [if_pos hz0]at hy';cases hy'
     ·have hrun2:(Instr.fieldAt t (a.eval (.tmp a0)) fd).run P w=.ok (.pointer (some ⟨b,off+g.offset,none⟩)) w:=by
       rw [hev,hv1];simp [Instr.fieldAt,run_underlying hul,hf,Instr.sureAddr,fieldPlace,qab hz0,hz0,Addr.add_lit]
      rw [hrun]at hrun2;simp only [Result.ok.injEq,and_true]at hrun2;exact hrun2
   |_=>cases ho'
 ·have hops:o.op.operands.toList=[.tmp a0]:=by rw [hop];rfl
  have htame:qdj o.op=true:=by rw [hop];rfl
  obtain ⟨_,v,w1,hrun0,_⟩:=qua h hF hx htame;rw [hops]at hrep hm;simp only [qh,List.map_nil,RepL]at hrep;obtain ⟨u,vs,O1,O2,hu,rfl,hr1,rfl,rfl⟩:=hrep;simp only [List.cons.injEq,and_true]at hu;subst hu;have hma:a0∈tmpsOf o:=qa1 (x:=.tmp a0) (by rw [hops];simp) rfl
  have hcase:∃td,P.underlying t=some td/\((∃fl cs,rd H f o st.E (.tmp a0)=.cptr fl cs/\∃y,q8 P t cs=some y)\/∃r off cs,rd H f o st.E (.tmp a0)=.ptr r off/\st.box r=some cs/\qc3 cs=false/\∃y,q8 P t (cs.drop off)=some y):=by
   rw [qX (by rw [hop];rfl)]at hm;unfold qdl at hm;rw [hop,if_neg (by simp [qcT])]at hm;simp only [qh,List.map_nil]at hm;have hu':∀cs y,q8 P t cs=some y->∃td,P.underlying t=some td:=λcs y hy=>by
    unfold q8 at hy;cases hul:P.underlying t with
    |none=>rw [hul]at hy;cases hy
    |some td=>exact ⟨td,rfl⟩
   cases hx0:rd H f o st.E (.tmp a0)with
   |cptr fl cs =>
    rw [hx0]at hm;simp only [rootOf,qaG]at hm;cases hy:q8 P t cs with
    |none=>rw [hy]at hm;simp at hm
    |some y=>obtain ⟨td,htd⟩:=hu' cs y hy;exact ⟨td,htd,.inl ⟨fl,cs,rfl,y,hy⟩⟩
   |ptr r off =>
    rw [hx0]at hm;simp only [rootOf,qaG,qc1]at hm;cases hbx:st.box r with
    |none=>rw [hbx]at hm;simp at hm
    |some cs =>
     rw [hbx]at hm;simp only at hm;cases hlp:qc3 cs with
     |true=>rw [hlp]at hm;simp at hm
     |false =>
      cases hy:q8 P t (cs.drop off)with
      |none=>rw [hlp,hy]at hm;simp at hm
      |some y=>obtain ⟨td,htd⟩:=hu' _ y hy;exact ⟨td,htd,.inr ⟨r,off,cs,rfl,hbx,hlp,y,hy⟩⟩
   |_=>rw [hx0]at hm;simp [rootOf,qaG]at hm
  obtain ⟨td,htd,hcase⟩:=hcase
  have hw1:w1=w:=by
   rcases hcase with ⟨fl,cs,hx0,y,hy⟩|⟨r,off,cs,hx0,hbx,hlp,y,hy⟩
   ·rw [hx0]at hr1;simp only [Rep]at hr1;obtain ⟨_,b,off,vals,hv1,hseg,_,hl,_⟩:=hr1;obtain ⟨v2,_,_,_,hvv,_⟩:=qgi hy hl;have:(execOp a.eval o).run P w=.ok (.value v2) w:=qrA (s:=Instr.loadAt t (a.eval (.tmp a0))) _ _ (by simp only [execOp,hop]) (by
     rw [hv1];simp only [Instr.loadAt,Instr.sureAddr,Sem.run_bind,Sem.run_pure,Result.andThen_ok];exact qdX htd hseg hvv)
    rw [hrun0]at this;cases this;rfl
   ·rw [hx0]at hr1;obtain ⟨v2,hrun2,_⟩:=qhc (tk:=false) (t:=t) (ao:=.tmp a0) (dst:=none) (z:=y.q5) (c:=none) h hF hr1 hbx (by rw [hlp,hy];rfl);have:(execOp a.eval o).run P w=.ok (.value v2) w:=qrA _ _ (by simp only [execOp,hop]) hrun2;rw [hrun0]at this;cases this;rfl
  subst hw1;refine ⟨htame,v,hrun0,λE' X' hω hE=>?_⟩;have hload:∀{b off:Nat} {v2:Value},qO P t=false->tv a.tmps a0=.pointer (some ⟨b,off,none⟩)->w1.cell? ⟨b,off,none⟩=some v2->v=v2:=λhag hp hc=>by
   have:=qjl htd hag hc;have h2:=qrA (P:=P) (w:=w1) a.eval o (s:=Instr.loadAt t (a.eval (.tmp a0))) (by simp only [execOp,hop]) (by rw [hev,hp];exact this);rw [hrun0]at h2;cases h2;rfl
  unfold qd6;rw [hop,hdst];simp only
  intro hag;rw [<- hdst,htvd];by_cases hla:H.link f a0=true
  ·rw [if_pos hla];rw [hop]at hgl;simp only [hla,Bool.not_true,Bool.false_or]at hgl;have hcp:∃fl cs,rd H f o st.E (.tmp a0)=.cptr fl cs/\∃y,q8 P t cs=some y:=by
    rcases hcase with h1|⟨r,off,cs,hx0,_⟩
    ·exact h1
    ·exfalso
     simp only [rd]at hx0;cases hE0:st.E.getD a0 .undef with
     |cptr fl l=>rw [hE0]at hx0;split at hx0<;>simp [V.q5,V.reflag]at hx0
     |_=>rw [hE0]at hgl;simp [qtB]at hgl
   obtain ⟨fl,cs,hx0,y,hy⟩:=hcp;rw [hx0]at hr1;simp only [Rep]at hr1;obtain ⟨_,b,off,vals,hv1,hseg,⟨e,fz,hωb,hle,_⟩,hl,_⟩:=hr1;have hy':=hy;unfold q8 at hy';rw [htd]at hy';simp only [hag,qf,if_false]at hy';cases cs with
   |nil=>simp at hy'
   |cons c0 cs =>
    have hl':=qE _ _ _ hl;cases vals with
    |nil=>simp at hl'
    |cons v2 vals =>
     have hc:=hseg 0 v2 rfl;simp only [Nat.add_zero]at hc;obtain ⟨e',fz',h1,h2⟩:=hω b e fz hωb;have hvv:=hload hag (by rw [<- hev];exact hv1) hc;refine ⟨b,off,v2,?_,hc,hvv,e',fz',h1,?_⟩
     ·rw [htv a0 hma,<- hev];exact hv1
     ·simp only [List.length_cons]at hle;omega
  ·rw [if_neg hla];intro r o' hE';have hE0:=hE a0 hma r o' hE';obtain ⟨u0,hu0,hr0⟩:=h.env a0 _ hE0;simp only [Rep]at hr0;obtain ⟨_,b,hb,rfl⟩:=hr0;have hrd:rd H f o st.E (.tmp a0)=.ptr r o':=by
    simp only [rd,List.getD_eq_getElem?_getD,hE0,Option.getD_some];split<;>rfl
   rcases hcase with ⟨fl,cs,hx0,_⟩|⟨r2,off,cs,hx0,hbx,hlp,y,hy⟩
   ·rw [hrd]at hx0;cases hx0
   ·rw [hrd]at hx0;cases hx0;obtain ⟨b',hb',_,_,hbr⟩:=h.box r cs hbx;rw [hb]at hb';cases hb';obtain ⟨arr,ty,harr,hl⟩:=hbr.cells hlp;have hy':=hy;unfold q8 at hy';rw [htd]at hy';simp only [hag,qf,if_false,List.head?_drop]at hy';obtain ⟨v2,Oi,hv2,_⟩:=qjj o' hl hy';have hc:w1.cell? ⟨b,o',none⟩=some v2:=by simp only [World.cell?,harr];simpa using hv2
    refine ⟨b,v2,?_,hc,hload hag (qcS hu0) hc⟩;rw [htv a0 hma];exact qcS hu0
end
section
variable {P:Program} {H:Hints} {f:FuncId} {C:Orc} {w w':World} {X X':Cx}
theorem RepE.swap{s:Nat}:∀{l:List V} {vals:List Value} {O:List Nat} (j:Nat) {e:V},RepE w X s l vals O->l[j]?=some e ->
  ∃u O1 Oe O2,O=O1++Oe++O2/\Rep w X e u Oe/\u.cells.size=s/\(∀i,i<s->vals[j*s+i]?=u.cells.toList[i]?) /\
   ∀(e':V) (Oe':List Nat),Rep w X e' u Oe'->RepE w X s (l.set j e') vals (O1++Oe'++O2)
 |[],vals,O,j,e,h,hj=>by simp at hj
 |y::l,vals,O,0,e,h,hj=>by
  simp only [RepE]at h;obtain ⟨u,vs,A,B,rfl,hsz,rfl,h1,h2⟩:=h;simp at hj;subst hj;have hl:u.cells.toList.length=s:=by simpa using hsz
  refine ⟨u,[],A,B,by simp,h1,hsz,λi hi=>?_,λe' Oe' hr=>?_⟩
  ·rw [Nat.zero_mul,Nat.zero_add,qg (by omega)]
  ·simp only [List.set_cons_zero,RepE,List.nil_append];exact ⟨u,vs,Oe',B,rfl,hsz,rfl,hr,h2⟩
 |y::l,vals,O,j+1,e,h,hj=>by
  simp only [RepE]at h;obtain ⟨u0,vs,A,B,rfl,hsz0,rfl,h1,h2⟩:=h;obtain ⟨u,O1,Oe,O2,rfl,hr,hsz,hc,hk⟩:=RepE.swap (j:=j) h2 (by simpa using hj);have hl:u0.cells.toList.length=s:=by simpa using hsz0
  refine ⟨u,A++O1,Oe,O2,by simp,hr,hsz,λi hi=>?_,λe' Oe' hr'=>?_⟩
  ·rw [show (j+1)*s+i=s+(j*s+i) by rw [Nat.succ_mul];omega,List.getElem?_append_right (by omega),hl,Nat.add_sub_cancel_left];exact hc i hi
  ·simp only [List.set_cons_succ,RepE];exact ⟨u0,vs,A,O1++Oe'++O2,rfl,hsz0,by simp,h1,hk e' Oe' hr'⟩
theorem qAJ{j o s:Nat}{x u y:V}{v:Value}{O:List Nat}(hx:qzh j o s x=some (u,y))(h:Rep w X x v O) :
  ∃uv A B,Rep w X u uv A/\Rep w X y v B/\(∀k,A.count k+B.count k<=O.count k)/\u.qq=[]/\y.qq=[]/\(∀z,SlF w v [(j,o,s)] z->z=uv):=by
 unfold qzh at hx;split at hx
 ·rename_i c l;split at hx
  ·rename_i c' l' he;split at hx
   ·rename_i hos;obtain ⟨rfl,rfl⟩:=hos;simp only [qb,Prod.mk.injEq]at hx;obtain ⟨rfl,rfl⟩:=hx;obtain ⟨b,off,cap,vals,O',rfl,rfl,hcap,hc,hlen,hs0,hxs,hsg,hω,hsp,h0,hE,hnp⟩:=qpv (s:=1) h he (by rfl);obtain ⟨uv,O1,Oe,O2,rfl,hr,hsz,hat,hk⟩:=RepE.swap j hE he;have hr2:=hk _ _ (qgh hr);refine ⟨uv,Oe,b::(O1++[]++O2),hr,qmr hcap hc hlen hs0 hxs hω h0 hnp (by rfl) (by simp [V.q5,V.reflag,V.qq]) rfl hsg hsp hr2,λk=>?_,by simp [V.qq],by simp [V.qq],?_⟩
    ·simp only [List.count_cons,List.count_append,List.append_nil]<;>omega
    ·rintro z ⟨b1,off1,len1,cap1,z1,hv,hj,hcell,hz⟩;simp only [SlF]at hz;subst hz;simp only [Value.slice.injEq,qb,Addr.mk.injEq]at hv;obtain ⟨⟨rfl,rfl,_⟩,rfl,rfl⟩:=hv;have h1:=hat 0 (by omega);have huc:uv.cells.toList=[uv]:=by rw [qb3 (qis (by rfl) hr)]
     rw [huc]at h1;have h2:=hsg (j*1+0) uv (by rw [h1];rfl);have h3:off+j*1+0=off+(j*1+0):=by omega
     rw [h3,h2]at hcell;cases hcell;rfl
   ·cases hx
  ·cases hx
 ·cases hx
theorem qvS{w0:World}{X0:Cx}{Md:Md}{n:Nat}{ops:Array Oper}{s:Nat}{o:Oper}{st st1:St}{tmps:Array Value}{O:Pl->List Nat}(h:Rel st tmps w X O)(hF:Fr w0 X0 Md n st w X O)
  (hpath:∀d rt p,qvA o=some d->qbo P H f ops st.E ops.size s d=some (rt,p,false)->∃v0,qfS w X tmps rt v0/\SlF w v0 p.reverse (tv tmps d)) (hx:qdP P H f ops s o st=some st1) :
  ∃O',Rel st1 tmps w X O'/\Fr w0 X0 Md n st1 w X O'/\∀(t:Nat) (r:Root) (off:Nat),st1.E[t]?=some (V.ptr r off)->st.E[t]?=some (V.ptr r off):=by
 have hap:∀{d:Tmp} {callee:Callee} {args:Array Operand} {argTypes:Array TypeId},o.op=.call {callee,args,argTypes}->(args[0]?:Option Operand)=some (.tmp d)->qvA o=some d:=λh1 h2=>by unfold qvA;rw [h1];simp only [h2]
 unfold qdP at hx;split at hx
 ·rename_i hop0;split at hx
  ·rename_i d hd0;split at hx
   ·rename_i r j c k hlk;split at hx
    ·cases hx
    ·rename_i hne;simp only [not_or,Nat.not_le]at hne;obtain ⟨hrd,hdl⟩:=hne;split at hx
     ·rename_i u y htk;simp only [qb]at hx;subst hx;obtain ⟨v0,hroot,hsl⟩:=hpath d _ _ (hap hop0 hd0) hlk;simp only [qfS]at hroot;have hr0:st.E[r]?=some (st.E.getD r .undef):=by
       cases hE:st.E[r]? with
       |none =>
        exfalso
        have:st.E.getD r .undef=.undef:=by simp [hE]
        rw [this]at htk;simp [qzh]at htk
       |some x=>simp [hE]
      obtain ⟨v,hv,hrep⟩:=h.env r _ hr0;have hv0:v0=v:=by rw [<- hroot];simp [hv]
      subst hv0;obtain ⟨uv,A,B,hu,hy,hcnt,hup,hyp,hz⟩:=qAJ htk hrep;have hrl : @LT.lt Nat _ r st.E.length:=(qm.1 hr0).1;have htd:tv tmps d=uv:=hz _ hsl;have hds:d<tmps.size:=by rw [h.size];exact hdl
      have htd':tmps[d]?=some uv:=by
       rw [<- htd];unfold tv;simp [hds]
      let O':Pl->List Nat:=λp=>match p with
       |.tmp t=>if t=d then A else if t=r then B else O (.tmp t)
       |q=>O q
      have hAO:∀b∈A,b∈O (.tmp r):=λb hb=>List.count_pos_iff.1 (by have:=hcnt b;have:=List.count_pos_iff.2 hb;omega);have hBO:∀b∈B,b∈O (.tmp r):=λb hb=>List.count_pos_iff.1 (by have:=hcnt b;have:=List.count_pos_iff.2 hb;omega);have hAB:∀b∈A,b∉B:=λb hb hb'=>by
       have:=hcnt b;have:=List.count_pos_iff.2 hb;have:=List.count_pos_iff.2 hb';have:=h.lin (.tmp r) b;omega
      have hO'd:O' (.tmp d)=A:=by simp [O']
      have hO'r:O' (.tmp r)=B:=by simp [O',hrd]
      have hO'o:∀p,p≠.tmp d->p≠.tmp r->O' p=O p:=λp h1 h2=>by
       cases p with
       |tmp t =>
        have e1:t≠d:=λe=>h1 (by rw [e]);have e2:t≠r:=λe=>h2 (by rw [e]);simp [O',e1,e2]
       |box q=>rfl
      have hsrc:∀p b,b∈O' p->b∈O (if p=.tmp d then .tmp r else p):=λp b hb=>by
       by_cases h1:p=.tmp d
       ·subst h1;rw [hO'd]at hb;rw [if_pos rfl];exact hAO b hb
       ·rw [if_neg h1];by_cases h2:p=.tmp r
        ·subst h2;rw [hO'r]at hb;exact hBO b hb
        ·rw [hO'o p h1 h2]at hb;exact hb
      have hE1:∀t:Nat,((st.E.set r y).set d u)[t]?=if t=d then some u else if t=r then some y else st.E[t]?:=λt=>by
       by_cases h1:t=d
       ·subst h1;rw [if_pos rfl,List.getElem?_set_self (by simpa using hdl)]
       ·rw [if_neg h1,List.getElem?_set_ne (λe=>h1 e.symm)];by_cases h2:t=r
        ·subst h2;rw [if_pos rfl,List.getElem?_set_self hrl]
        ·rw [if_neg h2,List.getElem?_set_ne (λe=>h2 e.symm)]
      have hptr:∀(t:Nat) (q:Root) (off:Nat),((st.E.set r y).set d u)[t]?=some (V.ptr q off)->st.E[t]?=some (V.ptr q off):=λt q off ht=>by
       rw [hE1]at ht;split at ht
       ·cases ht;simp [V.qq]at hup
       ·split at ht
        ·cases ht;simp [V.qq]at hyp
        ·exact ht
      refine ⟨O',?_,?_,hptr⟩
      ·exact {
        size:=by rw [h.size];simp
        env:=λt x hx=>by
         have hx':((st.E.set r y).set d u)[t]?=some x:=hx;rw [hE1]at hx';by_cases h1:t=d
         ·subst h1;rw [if_pos rfl]at hx';cases hx';exact ⟨uv,htd',by rw [hO'd];exact hu⟩
         ·rw [if_neg h1]at hx';by_cases h2:t=r
          ·subst h2;rw [if_pos rfl]at hx';cases hx';exact ⟨v0,hv,by rw [hO'r];exact hy⟩
          ·rw [if_neg h2]at hx';obtain ⟨v,h3,h4⟩:=h.env t x hx';have e:O' (.tmp t)=O (.tmp t):=hO'o (.tmp t) (λe=>h1 (by cases e;rfl)) (λe=>h2 (by cases e;rfl));exact ⟨v,h3,by rw [e];exact h4⟩
        envD:=λt ht=>by
         have ht':st.E.length<=t:=by have:((st.E.set r y).set d u).length<=t:=ht;simpa using this
         have e:O' (.tmp t)=O (.tmp t):=hO'o (.tmp t) (λe=>by cases e;omega) (λe=>by cases e;omega);rw [e];exact h.envD t ht'
        box:=λq c hq=>by
         have:O' (.box q)=O (.box q):=rfl;rw [this];exact h.box q c hq
        boxD:=λq hq=>h.boxD q hq
        inj:=h.inj
        lin:=λp k=>by
         by_cases h1:p=.tmp d
         ·subst h1;rw [hO'd];have:=hcnt k;have:=h.lin (.tmp r) k;omega
         ·by_cases h2:p=.tmp r
          ·subst h2;rw [hO'r];have:=hcnt k;have:=h.lin (.tmp r) k;omega
          ·rw [hO'o p h1 h2];exact h.lin p k
        dis:=λp q hpq b hb hq=>by
         by_cases h1:p=.tmp d
         ·subst h1;by_cases h2:q=.tmp r
          ·subst h2;rw [hO'd]at hb;rw [hO'r]at hq;exact hAB b hb hq
          ·have h3:=hsrc (.tmp d) b hb;have h4:=hsrc q b hq;rw [if_pos rfl]at h3;rw [if_neg (λe=>hpq e.symm)]at h4;exact h.dis _ _ (λe=>h2 e.symm) b h3 h4
         ·by_cases h2:q=.tmp d
          ·subst h2;by_cases h3:p=.tmp r
           ·subst h3;rw [hO'd]at hq;rw [hO'r]at hb;exact hAB b hq hb
           ·have h4:=hsrc p b hb;have h5:=hsrc (.tmp d) b hq;rw [if_pos rfl]at h5;rw [if_neg h1]at h4;exact h.dis _ _ h3 b h4 h5
          ·have h4:=hsrc p b hb;have h5:=hsrc q b hq;rw [if_neg h1]at h4;rw [if_neg h2]at h5;exact h.dis _ _ hpq b h4 h5
        ptrE:=λq hq=>by
         obtain ⟨x,hx,hqx⟩:=qD.1 hq;obtain ⟨t,ht⟩:=List.mem_iff_getElem?.1 hx;rw [hE1]at ht;split at ht
         ·cases ht;rw [hup]at hqx;simp at hqx
         ·split at ht
          ·cases ht;rw [hyp]at hqx;simp at hqx
          ·exact h.ptrE q (qD.2 ⟨x,List.mem_of_getElem? ht,hqx⟩)
        ptrB:=h.ptrB
        up:=h.up
        dom:=h.dom}
      ·exact {
        size:=hF.size
        kept:=hF.kept
        grew:=hF.grew
        β:=hF.β
        own:=λp b hb=>hF.own _ b (hsrc p b hb)
        boxM:=hF.boxM
        lev:=hF.lev
        live:=hF.live
        os:=hF.os
        out:=hF.out
        tape:=hF.tape
        gl:=hF.gl
        gm:=hF.gm}
     ·cases hx
   ·cases hx
  ·cases hx
 ·cases hx
end
section
variable {P:Program} {H:Hints} {f:FuncId} {C:Orc} {w w':World} {X X':Cx}
def Inv(P:Program)(H:Hints)(f:FuncId)(ops:Array Oper)(done:Nat->Prop)(E:List V)(tmps:Array Value)(w:World)(X:Cx):Prop :=
 (∃(s:Nat) (o:Oper),ops[s]?=some o/\qfx H f o=true/\¬ done s)->∀(c:Nat) (oc:Oper),ops[c]?=some oc->qky H f oc=true->done c->qd6 P H f E oc tmps w X
def qr2(P:Program)(H:Hints)(f:FuncId)(ops:Array Oper)(done:Nat->Prop)(w0:World)(X0:Cx)(Md:Md)(n:Nat)(st:St)(a:Act)(w:World):Prop :=
 ∃X O,Rel st a.tmps w X O/\Fr w0 X0 Md n st w X O/\qbX w0 w X a.defers/\Inv P H f ops done st.E a.tmps w X
theorem qr2.qBX{ops:Array Oper}{done:Nat->Prop}{w0:World}{X0:Cx}{Md:Md}{n:Nat}{st:St}{a:Act}(h:qr2 P H f ops done w0 X0 Md n st a w):qew w0 X0 Md n st a w:=by
 obtain ⟨X,O,h1,h2,h3,_⟩:=h;exact ⟨X,O,h1,h2,h3⟩
theorem qew.qCt{ops:Array Oper}{w0:World}{X0:Cx}{Md:Md}{n:Nat}{st:St}{a:Act}(h:qew w0 X0 Md n st a w):qr2 P H f ops (λ_=>False) w0 X0 Md n st a w:=by
 obtain ⟨X,O,h1,h2,h3⟩:=h;exact ⟨X,O,h1,h2,h3,λ_ c oc _ _ hd=>hd.elim⟩
theorem qr2.mono{ops:Array Oper}{done done':Nat->Prop}{w0:World}{X0:Cx}{Md:Md}{n:Nat}{st:St}{a:Act}(h:qr2 P H f ops done w0 X0 Md n st a w)(hd:∀i,i<ops.size->(done' i↔done i)):qr2 P H f ops done' w0 X0 Md n st a w:=by
 obtain ⟨X,O,h1,h2,h3,h4⟩:=h;have hlt:∀{i:Nat} {o:Oper},ops[i]?=some o->i<ops.size:=λh=>(Array.getElem?_eq_some_iff.1 h).1;refine ⟨X,O,h1,h2,h3,λ⟨s,o,ho,hls,hs⟩ c oc hoc hlk hc=>h4 ⟨s,o,ho,hls,λh=>hs ((hd s (hlt ho)).2 h)⟩ c oc hoc hlk ((hd c (hlt hoc)).1 hc)⟩
theorem qes{ops:Array Oper}{i:Nat}{st st':St}{ft:Foot}(hx:qhZ P H C f ops i st=some (st',ft)) :
  ∃o,ops[i]?=some o/\((qfx H f o=true/\qgw P H f ops i o st=some st')\/(qfx H f o=false/\qkL H f o=true/\qky H f o=false/\∃st1,qdP P H f ops i o st=some st1/\qfQ P H C f ops i st1=some (st',ft)) \/
   (qfx H f o=false/\qkL H f o=false/\qd8 H f o st.E=true/\qfQ P H C f ops i st=some (st',ft))):=by
 unfold qhZ at hx;cases ho:ops[i]? with
 |none=>rw [ho]at hx;cases hx
 |some o =>
  rw [ho]at hx;simp only at hx;refine ⟨o,rfl,?_⟩;cases hls:qfx H f o with
  |true =>
   rw [hls,if_pos rfl]at hx;obtain ⟨s,h1,h2⟩:=qc.1 hx;cases h2;exact .inl ⟨rfl,h1⟩
  |false =>
   rw [hls]at hx;simp only [qf,if_false]at hx;cases hap:qkL H f o with
   |true =>
    rw [hap]at hx;simp only [if_true]at hx;split at hx
    ·cases hx
    ·rename_i hk;obtain ⟨s1,h1,h2⟩:=qd.1 hx;exact .inr (.inl ⟨rfl,rfl,by simpa using hk,s1,h1,h2⟩)
   |false =>
    rw [hap]at hx;simp only [qf,if_false]at hx;split at hx
    ·rename_i hg;exact .inr (.inr ⟨rfl,rfl,hg,hx⟩)
    ·cases hx
theorem qsL{x:V}{r:Root}{o:Nat}(h:x.q5=.ptr r o):x=.ptr r o:=by
 cases x with
 |room s n =>
  simp only [V.q5,V.reflag,qW]at h;by_cases h2:n=0<;>simp [h2]at h
 |_=>simp_all [V.q5,V.reflag]
theorem qmz{x:V}{r:Root}{o:Nat}(h:x.qbx=.ptr r o):x=.ptr r o:=by
 unfold V.qbx at h;split at h
 ·cases h
 ·exact h
theorem qhy{E:List V}{T:List Tmp}{t:Nat}{r:Root}{o:Nat}(h:(qA E T)[t]?=some (.ptr r o)):E[t]?=some (.ptr r o):=by
 rw [qfu]at h;split at h
 ·obtain ⟨x,h1,h2⟩:=qc.1 h;rw [h1,qsL h2]
 ·exact h
theorem qte{ys:List V}{p:Path}{x y:V}(h:qp4 ys p x=some y):∃c l,y=.sl .own c l:=by
 unfold qp4 at h;split at h
 ·cases h
 ·split at h
  ·split at h
   ·split at h
    ·split at h
     ·cases h;exact ⟨_,_,rfl⟩
     ·cases h
    ·split at h
     ·obtain ⟨z,_,h2⟩:=qc.1 h;exact ⟨_,_,h2.symm⟩
     ·cases h
   ·cases h
  ·cases h
 ·cases h
theorem qCx{ops:Array Oper}{s:Nat}{o:Oper}{st st':St}(h:qgw P H f ops s o st=some st'){t:Nat}{r:Root}{off:Nat}(hE:st'.E[t]?=some (.ptr r off)):st.E[t]?=some (.ptr r off):=by
 unfold qgw at h;split at h
 ·simp only at h;split at h
  ·split at h
   ·rename_i r0 p hlk;split at h
    ·cases h
    ·split at h
     ·rename_i y hy;split at h
      ·cases h
      ·simp only [qb]at h;subst h;simp only [List.getElem?_set]at hE;split at hE
       ·split at hE
        ·obtain ⟨c,l,rfl⟩:=qte hy;cases hE
        ·cases hE
       ·rw [List.getElem?_map]at hE;obtain ⟨x,h1,h2⟩:=qc.1 hE;rw [qmz h2]at h1;exact qhy h1
     ·cases h
   ·split at h
    ·split at h
     ·split at h
      ·split at h
       ·cases h
       ·simp only [qb]at h;subst h;simp only [List.getElem?_map]at hE;obtain ⟨x,h1,h2⟩:=qc.1 hE;rw [qmz h2]at h1;exact qhy h1
      ·cases h
     ·cases h
    ·cases h
   ·cases h
  ·cases h
 ·cases h
structure Fits (H:Hints) (f:FuncId) (ops:Array Oper) (done:Nat->Prop) (i:Nat):Prop where
 new:¬ done i
 after:∀(c:Nat) (oc o:Oper),ops[c]?=some oc->ops[i]?=some o->qky H f oc=true->done c->qj5 H f oc o=true
 self:∀(o:Oper),ops[i]?=some o->qky H f o=true->o.guard=none/\∀d,o.dst=some d->d∉tmpsOf o
 ls:∀(o:Oper),ops[i]?=some o->qfx H f o=true->∀(c:Nat) (oc:Oper),ops[c]?=some oc->qky H f oc=true->c<i->done c
 apl:∀(o:Oper) (d:Tmp),ops[i]?=some o->qkL H f o=true->qvA o=some d->∀(c:Nat) (oc:Oper),ops[c]?=some oc->qky H f oc=true->c<i->(∀x,oc.dst=some x->x∈qcz H f ops ops.size i d)->done c
 ap:∀(o:Oper),ops[i]?=some o->qkL H f o=true->∃(s:Nat) (os:Oper),ops[s]?=some os/\qfx H f os=true/\¬ done s
 lone:∀(c:Nat) (oc:Oper),ops[c]?=some oc->qky H f oc=true->qht H f oc=true->∀(s s':Nat) (o o':Oper),ops[s]?=some o->ops[s']?=some o'->qfx H f o=true->qfx H f o'=true->s=s'
theorem qrc{oc oi:Oper}(h:qj5 H f oc oi=true):(∀d,oi.dst=some d->oc.dst≠some d/\d∉tmpsOf oc)/\(qlr H f oc=true->qdj oi.op=true\/qfx H f oi=true):=by
 unfold qj5 at h;simp only [qe,Bool.or_eq_true,Bool.not_eq_true']at h;refine ⟨λd hd=>?_,λhb=>?_⟩
 ·have h1:=h.1;rw [hd]at h1;simp at h1;exact ⟨h1.1,h1.2⟩
 ·rcases h.2 with (h2|h2)|h2
  ·rw [hb]at h2;cases h2
  ·exact .inl h2
  ·exact .inr h2
theorem qeG{F:Fence}{X0:Cx}{Md:Md}{n:Nat}(h:FOk F X0 Md n):F=Fence.wide\/∃l,F=Fence.wide.inRound l:=by
 rcases h.1 with h|⟨r,l,h,_⟩
 ·exact .inl h
 ·exact .inr ⟨l,h⟩
theorem qrh(hC:OrcOk P C){F:Fence}{w0:World}{X0:Cx}{Md:Md}{n:Nat}(hFO:FOk F X0 Md n){ops:Array Oper}{done:Nat->Prop}{i:Nat}{st st':St}{ft:Foot}{a:Act}(hS:qr2 P H f ops done w0 X0 Md n st a w)
  {o:Oper} (ho:ops[i]?=some o) (hls:qfx H f o=false) (hgate:qd8 H f o st.E=true) (hx:qfQ P H C f ops i st=some (st',ft)) (hfit:Fits H f ops done i) {K:Act->World->Prop} {Q:Exit->Act->World->Prop} (hK:∀a' w',qr2 P H f ops (λk=>done k\/k=i) w0 X0 Md n st' a' w'->K a' w'):wpOpIn F 0 P ops Q i K a w:=by
 have hFF:=qeG hFO;obtain ⟨X,O,h,hF,hM,hI⟩:=hS;obtain ⟨Md2,hFb,hkd,lift⟩:=qxi h hF hM;obtain ⟨o',ho',b,z,m,A⟩:=qcK.1 hx;rw [ho]at ho';cases ho';have hE':∀t,o.dst≠some t->∀r off,st'.E[t]?=some (.ptr r off)->st.E[t]?=some (.ptr r off):=λt ht r off hE=>by
  rw [A.res]at hE;simp only [qio]at hE;rw [if_neg (λhh=>ht hh.1)]at hE;exact qhy hE
 have key:∀(v:Value) (w':World),Sim w X Md2 n st' (a.put o.dst v).tmps w'->(qdj o.op=true->∀b,b<w.heap.size->X.ω b=none->w'.heap[b]?=w.heap[b]?) ->
   (qky H f o=true->∀X':Cx,(∀b e fz,X.ω b=some (e,fz)->∃e' fz',X'.ω b=some (e',fz')/\e<=e')->qd6 P H f st'.E o (a.put o.dst v).tmps w' X') ->
   qr2 P H f ops (λk=>done k\/k=i) w0 X0 Md n st' (a.put o.dst v) w':=by
  rintro v w' ⟨X',O',hR',hFr'⟩ htame hnew;obtain ⟨hF',hM'⟩:=lift _ _ _ _ hFr';have hdef:(a.put o.dst v).defers=a.defers:=by cases o.dst<;>rfl
  have hω:∀b e fz,X.ω b=some (e,fz)->∃e' fz',X'.ω b=some (e',fz')/\e<=e':=λb e fz hb=>by
   obtain ⟨e',fz',h1,h2,_⟩:=hFr'.grew b e fz hb;exact ⟨e',fz',h1,h2⟩
  refine ⟨X',O',hR',hF',by rw [hdef];exact hM',λ⟨s,os,hos,hlss,hs⟩ c oc hoc hlk hc=>?_⟩;have hfacts:=hI ⟨s,os,hos,hlss,λhd=>hs (.inl hd)⟩;rcases hc with hc|rfl
  ·obtain ⟨h1,h2⟩:=qrc (hfit.after c oc o hoc ho hlk hc);refine (hfacts c oc hoc hlk hc).qgM (λd hd=>qfg (λe=>(h1 d e).1 hd)) (λt ht=>qfg (λe=>(h1 t e).2 ht)) (λ_=>⟨hω,λb e fz k v hb hk hcell=>?_⟩) (λhbl t' ht' r o' hE=>?_)
   ·obtain ⟨e',fz',_,_,_,h4⟩:=hFr'.grew b e fz hb;exact h4 k v hk hcell
   ·have hE0:=hE' t' (λe=>(h1 t' e).2 ht') r o' hE;refine ⟨hE0,λb' hb'=>?_⟩;obtain ⟨u,hu,hr⟩:=h.env t' _ hE0;simp only [Rep]at hr;obtain ⟨_,b2,hb2,rfl⟩:=hr;rw [qcS hu]at hb';cases hb'
    have hlive:=h.ptrE r (qD.2 ⟨_,List.mem_of_getElem? hE0,by simp [V.qq]⟩);obtain ⟨cs,hcs⟩:=Option.isSome_iff_exists.1 hlive;obtain ⟨b3,hb3,hlt,hω0,_⟩:=h.box r cs hcs;rw [hb2]at hb3;cases hb3;have ht:qdj o.op=true:=by
     rcases h2 hbl with h2|h2
     ·exact h2
     ·rw [hls]at h2;cases h2
    exact qC (htame ht _ hlt hω0)
  ·rw [ho]at hoc;cases hoc;exact hnew hlk X' hω
 unfold wpOpIn;rw [ho];simp only
 rw [qrW h A.wanted];cases b with
 |false =>
  simp only [qf,if_false];refine ⟨λg _=>qf1 hFF g,hK _ _ (key undef w ?_ (λ_ _ _ _=>rfl) (λhlk=>?_))⟩
  ·obtain ⟨rfl,rfl,_⟩:=qci A.mem;refine ⟨X,qg1 O [] o.dst st.E.length [],?_⟩;have hst':st'=st.put o.dst (.val undef):=by rw [A.res,put_eq];rfl
   rw [hst',qbV];exact ⟨h.qin o.dst (by simp [Rep]) Lin.nil (by simp) (by simp [V.qq]),hFb.qin o.dst (by simp)⟩
  ·have:=(hfit.self o ho hlk).1;have hw:=A.wanted;unfold qcx at hw;rw [this]at hw;cases hw
 |true =>
  simp only [if_true];have hstep:qd9 P H C f o st=some (st',ft.fp):=by
   have h2:=hx;unfold qfQ at h2;rw [ho]at h2;simp only [A.wanted]at h2;obtain ⟨⟨s1,fp⟩,h3,h4⟩:=qc.1 h2;simp only [Prod.mk.injEq]at h4;obtain ⟨rfl,rfl⟩:=h4;exact h3
  refine qze hC hFF h hFb hstep λv w' hSim ht=>hK _ _ (key v w' hSim (λh1=>(ht h1).1) λhlk X' hω=>?_);obtain ⟨_,hself⟩:=hfit.self o ho hlk;rcases quv h hFb hlk hself hgate hstep with hall|⟨htm,v0,hrun,hfact⟩
  ·exact hall _ _ _ _
  ·obtain ⟨rfl,rfl⟩:=(ht htm).2 v0 hrun;exact hfact _ _ hω (λt ht' r o' hE=>hE' t (λe=>hself t e ht') r o' hE)
theorem qsF(hC:OrcOk P C){F:Fence}{w0:World}{X0:Cx}{Md:Md}{n:Nat}(hFO:FOk F X0 Md n){ops:Array Oper}{done:Nat->Prop}{i:Nat}{st st':St}{ft:Foot}{a:Act}(hS:qr2 P H f ops done w0 X0 Md n st a w)
  (hx:qhZ P H C f ops i st=some (st',ft)) (hfit:Fits H f ops done i) {K:Act->World->Prop} {Q:Exit->Act->World->Prop} (hK:∀a' w',qr2 P H f ops (λk=>done k\/k=i) w0 X0 Md n st' a' w'->K a' w'):wpOpIn F 0 P ops Q i K a w:=by
 have hFF:=qeG hFO;have hS0:=hS;obtain ⟨X,O,h,hF,hM,hI⟩:=hS;obtain ⟨o,ho,⟨hls,hx⟩|⟨hls,hap,hnk,st1,hx1,hx⟩|⟨hls,hap,hgate,hx⟩⟩:=qes hx
 ·-- the store
  obtain ⟨t,d,xo,hop,hld⟩:∃t d xo,o.op=.store t (.tmp d) xo/\H.link f d=true:=by
   unfold qfx at hls;split at hls
   ·rename_i t d xo hop;exact ⟨t,d,xo,hop,hls⟩
   ·cases hls
  have hpend:∃(s:Nat) (o:Oper),ops[s]?=some o/\qfx H f o=true/\¬ done s:=⟨i,o,ho,hls,hfit.new⟩
  have hfacts:=hI hpend;have hpath:∀rt p,qbo P H f ops st.E ops.size i d=some (rt,p,true)->∃v0 b k,qfS w X a.tmps rt v0/\a.tmps.getD d undef=.pointer (some ⟨b,k,none⟩)/\qA3 w v0 p b k:=λrt p hlk=>by
   obtain ⟨v0,h1,h2⟩:=qBr h (s:=i) (λc oc hoc hl hci=>hfacts c oc hoc hl (hfit.ls o ho hls c oc hoc hl hci)) ops.size i d rt p true (Nat.le_refl _) hlk;simp only [if_true]at h2;obtain ⟨b,k,h3,h4⟩:=h2;exact ⟨v0,b,k,h1,h3,h4⟩
  obtain ⟨hdst,hgd,w',b,hrun,hW,hsz,O',hR',hF',hM'⟩:=qCe h hF (λh0=>hFO.2 h0) hM hop hpath hx;unfold wpOpIn;rw [ho];have hwant:Region.wanted o (yielded ops a.tmps)=true:=by unfold Region.wanted;rw [hgd]
  simp only [hwant,if_true];refine ⟨λg _=>qf1 hFF g,?_⟩;rw [Oper.semAt_eq _ _ _ (by intro c hc;rw [hop]at hc;cases hc)];have hrun':(execOp a.eval o).run P w=.ok .skip w':=by simp only [execOp,hop,Sem.run_bind,hrun,Result.andThen_ok,Sem.run_pure]
  rw [hrun',Oper.uponIn_skip];refine hK _ _ ?_;have hput:a.put o.dst undef=a:=by rw [hdst];rfl
  rw [hput];refine ⟨X,O',hR',hF',hM',λhp c oc hoc hlk hc=>?_⟩;have hci:done c:=by
   rcases hc with hc|rfl
   ·exact hc
   ·rw [ho]at hoc;cases hoc;unfold qky at hlk;rw [hdst]at hlk;cases hlk
  refine (hfacts c oc hoc hlk hci).qgM (λ_ _=>rfl) (λ_ _=>rfl) (λhn=>?_) (λhb t' ht' r o' hE=>?_)
  ·obtain ⟨s,o2,ho2,hls2,hd2⟩:=hp;exact absurd (.inr (hfit.lone c oc hoc hlk hn s i o2 o ho2 ho hls2 hls)) hd2
  ·have hE0:=qCx hx hE;refine ⟨hE0,λb' hb'=>?_⟩;obtain ⟨u,hu,hr⟩:=h.env t' _ hE0;simp only [Rep]at hr;obtain ⟨_,b2,hb2,rfl⟩:=hr;rw [qcS hu]at hb';cases hb'
   have hlive:=h.ptrE r (qD.2 ⟨_,List.mem_of_getElem? hE0,by simp [V.qq]⟩);obtain ⟨cs,hcs⟩:=Option.isSome_iff_exists.1 hlive;obtain ⟨b3,hb3,_,hω,_⟩:=h.box r cs hcs;rw [hb2]at hb3;cases hb3;obtain ⟨e,he⟩:=hW.ω;exact qC (hW.kept _ (λe'=>by rw [e',he]at hω;cases hω))
 ·-- an append to what is taken out
  have hfacts:=hI (hfit.ap o ho hap);obtain ⟨O1,h1,hF1,hptr⟩:=qvS (P:=P) (H:=H) (f:=f) h hF (λd rt p hd hlk=>by
   obtain ⟨v0,h1,h2⟩:=qzG (S:=qcz H f ops ops.size i d) h (s:=i) (λc oc hoc hl hci hS=>hfacts c oc hoc hl (hfit.apl o d ho hap hd c oc hoc hl hci hS)) ops.size i d rt p false (Nat.le_refl _) (λ_ h=>h) hlk;exact ⟨v0,h1,by simpa using h2⟩) hx1
  refine qrh hC hFO (st:=st1) ⟨X,O1,h1,hF1,hM,λhp c oc hoc hlk hc=>?_⟩ ho hls (by unfold qd8;rw [hnk];rfl) hx hfit hK;exact (hI hp c oc hoc hlk hc).qgM (λ_ _=>rfl) (λ_ _=>rfl) (λ_=>⟨λb e fz hb=>⟨e,fz,hb,Nat.le_refl _⟩,λb e fz k v _ _ hcell=>hcell⟩) (λ_ t' _ r o' hE=>⟨hptr t' r o' hE,λ_ _=>rfl⟩)
 ·exact qrh hC hFO hS0 ho hls hgate hx hfit hK
end
section
variable {P:Program} {H:Hints} {f:FuncId} {C:Orc} {w:World}
theorem qnX{ops:Array Oper}{j:Nat}{x y:Oper}{st s1:St}{fx:Foot}(hx:ops[j]?=some x)(h1:qfQ P H C f ops j st=some (s1,fx))(hd:∀d,x.dst=some d->d∉looksAt ops y)(hm:∀t∈fx.took,t∉qbv H f ops y) :
  (∀t∈looksAt ops y,qgC st.E s1.E t)/\s1.E.length=st.E.length:=by
 obtain ⟨x',hx',b,z,m,A⟩:=qcK.1 h1;rw [hx]at hx';cases hx';have hE1:s1.E=qsM x.dst z (qA st.E (qbW H f x b)):=by rw [A.res]
 rw [hE1];exact ⟨(qjZ (z:=z) hd A.took hm).2,by rw [qlh,qhj]⟩
theorem qlR(x:V):qtB x.q5=qtB x:=by
 cases x with
 |room s n =>
  simp only [V.q5,V.reflag];split
  ·rfl
  ·split<;>rfl
 |_=>rfl
theorem qnS{ops:Array Oper}{y:Oper}{E E':List V}(h:∀t∈looksAt ops y,qgC E E' t)(hl:E'.length=E.length):qd8 H f y E'=qd8 H f y E:=by
 unfold qd8;rw [hl];congr 2
 split
 ·rename_i t a hop;have:=(h a (List.mem_append_left _ (qa1 (x:=.tmp a) (by rw [hop];exact List.mem_singleton.2 rfl) rfl))).getD;rw [<- qlR,this,qlR]
 ·rfl
def qvC(H:Hints)(f:FuncId)(o:Oper):Bool:=qfx H f o||qkL H f o
theorem qpt{ops:Array Oper}{i:Nat}{o:Oper}{st st':St}{ft:Foot}(ho:ops[i]?=some o)(hls:qvC H f o=false)(hg:qd8 H f o st.E=true)(h:qfQ P H C f ops i st=some (st',ft)):qhZ P H C f ops i st=some (st',ft):=by
 simp only [qvC,Bool.or_eq_false_iff]at hls;unfold qhZ;rw [ho];simp only [hls.1,hls.2,qf,if_false,hg,if_true];exact h
theorem qlg{ops:Array Oper}{i:Nat}{o:Oper}{st st':St}{ft:Foot}(ho:ops[i]?=some o)(hls:qvC H f o=false)(h:qhZ P H C f ops i st=some (st',ft)):qd8 H f o st.E=true/\qfQ P H C f ops i st=some (st',ft):=by
 simp only [qvC,Bool.or_eq_false_iff]at hls;obtain ⟨o',ho',⟨h1,_⟩|⟨_,h1,_⟩|⟨_,_,h1,h2⟩⟩:=qes h
 ·rw [ho]at ho';cases ho';rw [hls.1]at h1;cases h1
 ·rw [ho]at ho';cases ho';rw [hls.2]at h1;cases h1
 ·rw [ho]at ho';cases ho';exact ⟨h1,h2⟩
theorem qxL{ops:Array Oper}{i j:Nat}{x y:Oper}{st s1 s2:St}{fx fy:Foot}(hx:ops[j]?=some x)(hy:ops[i]?=some y)(hlx:qvC H f x=false)(hly:qvC H f y=false)(hap:qcl ops x y=true)(h1:qhZ P H C f ops j st=some (s1,fx))(h2:qhZ P H C f ops i s1=some (s2,fy))
  (hcl:fx.qfX fy=false):∃s1',qhZ P H C f ops i st=some (s1',fy)/\qhZ P H C f ops j s1'=some (s2,fx):=by
 obtain ⟨g1,r1⟩:=qlg hx hlx h1;obtain ⟨g2,r2⟩:=qlg hy hly h2;obtain ⟨s1',r3,r4⟩:=qln hx hy hap r1 r2 hcl;obtain ⟨d1,d2,d3⟩:=qiJ hap;obtain ⟨x',hx',b,z,m,A⟩:=qcK.1 r1;rw [hx]at hx';cases hx';obtain ⟨y',hy',b',z',m',B⟩:=qcK.1 r2;rw [hy]at hy';cases hy';simp only [Foot.qfX,Bool.or_eq_false_iff]at hcl;obtain ⟨⟨hc,hm1⟩,hm2⟩:=hcl;have hm1':=qb7 hm1;have hm2':=qb7 hm2;rw [B.looks]at hm1';rw [A.looks]at hm2';obtain ⟨k1,l1⟩:=qnX (y:=y) hx r1 d1 hm1';obtain ⟨k2,l2⟩:=qnX (y:=x) hy r3 d3 hm2';exact ⟨s1',qpt hy hly (by rw [<- qnS (H:=H) (f:=f) k1 l1];exact g2) r3,qpt hx hlx (by rw [qnS (H:=H) (f:=f) k2 l2];exact g1) r4⟩
theorem qxN{j o s:Nat}{x u y:V}(hx:qzh j o s x=some (u,y)):y.q5=x.q5:=by
 unfold qzh at hx;split at hx
 ·rename_i c l;split at hx
  ·rename_i c' l' he;split at hx
   ·simp only [qb,Prod.mk.injEq]at hx;obtain ⟨rfl,rfl⟩:=hx;show V.sl .q5 c (reflagL qW (l.set j (V.q5 (.sl .own c' l'))))=V.sl .q5 c (reflagL qW l);rw [qG,qG];congr 1
    apply List.ext_getElem?;intro i;rw [List.getElem?_map,List.getElem?_map];by_cases hi:i=j
    ·subst hi;have hlt:i<l.length:=(qm.1 he).1;rw [List.getElem?_set_self hlt,he];show some (V.q5 (V.q5 (.sl .own c' l')))=some (V.q5 (.sl .own c' l'));exact congrArg some (dull_dull _)
    ·rw [List.getElem?_set_ne (λe=>hi e.symm)]
   ·cases hx
  ·cases hx
 ·cases hx
theorem qeA{ops:Array Oper}{s:Nat}{o:Oper}{st g:St}(h:qdP P H f ops s o st=some g) :
  ∃d r j c k u y,qvA o=some d/\qbo P H f ops st.E ops.size s d=some (.tmp r,[(j,c,k)],false)/\r≠d/\d<st.E.length/\qzh j c k (st.E.getD r .undef)=some (u,y)/\g={st with E:=(st.E.set r y).set d u}:=by
 unfold qdP at h;split at h
 ·rename_i hop;split at h
  ·rename_i d hd;split at h
   ·rename_i r j c k hlk;split at h
    ·cases h
    ·rename_i hne;simp only [not_or,Nat.not_le]at hne;split at h
     ·rename_i u y htk;simp only [qb]at h;exact ⟨d,r,j,c,k,u,y,by unfold qvA;rw [hop];simp only [hd],hlk,hne.1,hne.2,htk,h.symm⟩
     ·cases h
   ·cases h
  ·cases h
 ·cases h
theorem qqf{ops:Array Oper}{s:Nat}{o:Oper}{st:St}{d r:Tmp}{j c k:Nat}{u y:V}(hop:∃cl,o.op=.call cl)(hd:qvA o=some d)(hlk:qbo P H f ops st.E ops.size s d=some (.tmp r,[(j,c,k)],false))(hne:r≠d)(hl:d<st.E.length)(htk:qzh j c k (st.E.getD r .undef)=some (u,y)) :
  qdP P H f ops s o st=some {st with E:=(st.E.set r y).set d u}:=by
 obtain ⟨cl,hop⟩:=hop;unfold qvA at hd;unfold qdP;rw [hop]at hd ⊢;simp only at hd ⊢;cases ha:(cl.args[0]?:Option Operand)with
 |none=>rw [ha]at hd;cases hd
 |some x =>
  rw [ha]at hd;cases x with
  |tmp t =>
   simp only [qb]at hd;subst hd;simp only [hlk,htk];rw [if_neg (by simp only [not_or,Nat.not_le];exact ⟨hne,hl⟩)]
  |_=>cases hd
theorem qiS{o:Oper}(h:qkL H f o=true):∃cl,o.op=.call cl:=by
 unfold qkL at h;split at h
 ·rename_i hop;exact ⟨_,hop⟩
 ·cases h
theorem qie{ops:Array Oper}{c:Nat}{oc oi:Oper}(h:qiR H f ops c oc oi=true):∃a x d,oi.op=.move (.tmp a)/\oi.dst=some x/\qvA oc=some d/\oi.guard=none/\q7 H f oi=false/\qvC H f oi=false/\a≠d/\x∉qcz H f ops ops.size c d:=by
 unfold qiR at h;split at h
 ·rename_i a x d h1 h2 h3;simp only [qe,Bool.not_eq_true',decide_eq_true_eq]at h;obtain ⟨⟨⟨⟨⟨h4,h5⟩,h6⟩,h7⟩,h8⟩,h9⟩:=h;exact ⟨a,x,d,h1,h2,h3,by simpa using h4,h5,by simp [qvC,h6,h7],h8,by simpa using h9⟩
 ·cases h
theorem qle{ops:Array Oper}{j:Nat}{x:Oper}{a:Tmp}(hx:ops[j]?=some x)(hop:x.op=.move (.tmp a))(hg:x.guard=none)(ht:q7 H f x=false)(st:St) :
  qfQ P H C f ops j st=some (st.put x.dst (st.E.getD a .undef).q5,⟨.none,[],qbv H f ops x⟩):=by
 unfold qfQ;rw [hx];have hw:qcx ops st.E x=some true:=by unfold qcx;rw [hg]
 simp only [hw];have hs:qd9 P H C f x st=some (st.put x.dst (st.E.getD a .undef).q5,.none):=by
  unfold qd9;simp only [ht,Bool.false_and,qf,if_false];have hops:x.op.operands.toList=[.tmp a]:=by rw [hop];rfl
  rw [hops];simp only [qh,List.map_nil,rd,ht,qf,if_false];unfold qbp;rw [hop];rfl
 rw [hs];simp [qff,ht]
theorem qvT{ops:Array Oper}{c:Nat}{oc:Oper}{st:St}{x d:Tmp}(z:V)(hap:qkL H f oc=true)(hd:qvA oc=some d)(hx:x∉qcz H f ops ops.size c d) :
  qdP P H f ops c oc (st.put (some x) z)=(qdP P H f ops c oc st).map λg=>g.put (some x) z:=by
 have hne:∀t∈qcz H f ops ops.size c d,(st.put (some x) z).E[t]?=st.E[t]?:=λt ht=>by
  show (st.E.set x z)[t]?=_;rw [List.getElem?_set_ne (λe=>hx (by rw [e];exact ht))]
 have hpath:=qdT (P:=P) ops.size c d hne;have hlen:(st.put (some x) z).E.length=st.E.length:=List.length_set ..;have key:∀{st1:St} {r:Tmp} {p:Path} {b:Bool},qbo P H f ops st1.E ops.size c d=some (.tmp r,p,b)->x≠r:=λh e=>hx (by rw [e];exact qeI _ _ _ _ _ _ h);cases hA:qdP P H f ops c oc st with
 |some g =>
  obtain ⟨d',r,j,k1,k2,u,y,h1,h2,h3,h4,h5,rfl⟩:=qeA hA;rw [hd]at h1;cases h1;have hxr:=key h2;have hxd:x≠d:=λe=>hx (by
   rw [e];cases hn:ops.size with
   |zero=>rw [hn]at h2;simp [qbo]at h2
   |succ n=>simp [qcz])
  have hr:(st.put (some x) z).E.getD r .undef=st.E.getD r .undef:=getD_congr (by show (st.E.set x z)[r]?=_;rw [List.getElem?_set_ne hxr]);rw [qqf (st:=st.put (some x) z) (qiS hap) hd (by rw [hpath];exact h2) h3 (by rw [hlen];exact h4) (by rw [hr];exact h5)];simp only [qi,St.put];congr 2
  rw [List.set_comm _ _ hxr,List.set_comm _ _ hxd]
 |none =>
  cases hB:qdP P H f ops c oc (st.put (some x) z)with
  |none=>rfl
  |some g =>
   exfalso
   obtain ⟨d',r,j,k1,k2,u,y,h1,h2,h3,h4,h5,rfl⟩:=qeA hB;rw [hd]at h1;cases h1;have hxr:=key h2;have hr:(st.put (some x) z).E.getD r .undef=st.E.getD r .undef:=getD_congr (by show (st.E.set x z)[r]?=_;rw [List.getElem?_set_ne hxr]);have:=qqf (st:=st) (qiS hap) hd (by rw [<- hpath];exact h2) h3 (by rw [<- hlen];exact h4) (by rw [<- hr];exact h5);rw [hA]at this;cases this
theorem qtk{ops:Array Oper}{c:Nat}{oc:Oper}{st g:St}{a d:Tmp}(hA:qdP P H f ops c oc st=some g)(hd:qvA oc=some d)(had:a≠d):(g.E.getD a .undef).q5=(st.E.getD a .undef).q5:=by
 obtain ⟨d',r,j,k1,k2,u,y,h1,h2,h3,h4,h5,rfl⟩:=qeA hA;rw [hd]at h1;cases h1;simp only
 have e1:((st.E.set r y).set d u).getD a .undef=(st.E.set r y).getD a .undef:=getD_congr (by rw [List.getElem?_set_ne (λe=>had e.symm)]);rw [e1];by_cases har:a=r
 ·subst har;by_cases hl : @LT.lt Nat _ a st.E.length
  ·have e2:(st.E.set a y).getD a .undef=y:=by simp [hl]
   rw [e2,qxN h5]
  ·have e2:(st.E.set a y).getD a .undef=st.E.getD a .undef:=by rw [List.set_eq_of_length_le (by omega)]
   rw [e2]
 ·have e2:(st.E.set r y).getD a .undef=st.E.getD a .undef:=getD_congr (by rw [List.getElem?_set_ne (λe=>har e.symm)]);rw [e2]
theorem qps{ops:Array Oper}{i:Nat}{o:Oper}{st st':St}{ft:Foot}(ho:ops[i]?=some o)(hap:qkL H f o=true):qhZ P H C f ops i st=some (st',ft)↔(qfx H f o=false/\qky H f o=false/\∃g,qdP P H f ops i o st=some g/\qfQ P H C f ops i g=some (st',ft)):=by
 have hls:qfx H f o=false:=by
  obtain ⟨cl,hop⟩:=qiS hap;unfold qfx;rw [hop]
 constructor
 ·intro h;obtain ⟨o',ho',⟨h1,_⟩|⟨_,_,h2,h3⟩|⟨_,h1,_⟩⟩:=qes h
  ·rw [ho]at ho';cases ho';rw [hls]at h1;cases h1
  ·rw [ho]at ho';cases ho';exact ⟨hls,h2,h3⟩
  ·rw [ho]at ho';cases ho';rw [hap]at h1;cases h1
 ·rintro ⟨_,h2,g,h3,h4⟩;unfold qhZ;rw [ho];simp only [hls,hap,h2,h3,qf,if_false,if_true,qa];exact h4
theorem qqM{x:Oper}{a:Tmp}(hop:x.op=.move (.tmp a)){E E':List V}(hl:E'.length=E.length):qd8 H f x E'=qd8 H f x E:=by
 unfold qd8;rw [hop,hl]
theorem qvq{ops:Array Oper}{i j:Nat}{x y:Oper}{st s1 s2:St}{fx fy:Foot}(hx:ops[j]?=some x)(hy:ops[i]?=some y)(hap:qkL H f y=true)(hfr:qiR H f ops i y x=true)(hda:qcl ops x y=true)(h1:qhZ P H C f ops j st=some (s1,fx))(h2:qhZ P H C f ops i s1=some (s2,fy))
  (hcl:fx.qfX fy=false):∃s1',qhZ P H C f ops i st=some (s1',fy)/\qhZ P H C f ops j s1'=some (s2,fx):=by
 obtain ⟨a,xd,d,hop,hdst,hd,hg,htk,hto,had,hxl⟩:=qie hfr;obtain ⟨g1,r1⟩:=qlg hx hto h1;obtain ⟨hls,hlk,g,hA,r2⟩:=(qps hy hap).1 h2;rw [qle hx hop hg htk]at r1;obtain ⟨rfl,rfl⟩:=Prod.mk.inj (Option.some.inj r1);rw [hdst,qvT _ hap hd hxl]at hA;obtain ⟨g0,hA0,rfl⟩:=qc.1 hA;have r3:qfQ P H C f ops j g0=some (g0.put (some xd) (st.E.getD a .undef).q5,⟨.none,[],qbv H f ops x⟩):=by
  rw [qle hx hop hg htk,hdst,qtk hA0 hd had]
 obtain ⟨s1',r4,r5⟩:=qln hx hy hda r3 r2 hcl;refine ⟨s1',(qps hy hap).2 ⟨hls,hlk,g0,hA0,r4⟩,qpt hx hto ?_ r5⟩;rw [qqM hop (E:=st.E)]
 ·exact g1
 ·obtain ⟨y',hy',b,z,m,A⟩:=qcK.1 r4;obtain ⟨_,r,_,_,_,u,yy,_,_,_,_,_,rfl⟩:=qeA hA0;rw [A.res];simp [qlh,qhj]
theorem qvp{ops:Array Oper}{i j:Nat}{x y:Oper}{st s1 s2:St}{fx fy:Foot}(hx:ops[j]?=some x)(hy:ops[i]?=some y)(hap:qkL H f x=true)(hfr:qiR H f ops j x y=true)(hda:qcl ops x y=true)(h1:qhZ P H C f ops j st=some (s1,fx))(h2:qhZ P H C f ops i s1=some (s2,fy))
  (hcl:fx.qfX fy=false):∃s1',qhZ P H C f ops i st=some (s1',fy)/\qhZ P H C f ops j s1'=some (s2,fx):=by
 obtain ⟨a,xd,d,hop,hdst,hd,hg,htk,hto,had,hxl⟩:=qie hfr;obtain ⟨hls,hlk,g,hA,r1⟩:=(qps hx hap).1 h1;obtain ⟨g2,r2⟩:=qlg hy hto h2;obtain ⟨s1',r3,r4⟩:=qln hx hy hda r1 r2 hcl;have hfy:=r3;rw [qle hy hop hg htk]at r3;obtain ⟨rfl,rfl⟩:=Prod.mk.inj (Option.some.inj r3);rw [hdst,qtk hA hd had]at r4;have hA2:qdP P H f ops j x (st.put (some xd) (st.E.getD a .undef).q5)=some (g.put (some xd) (st.E.getD a .undef).q5):=by
  rw [qvT _ hap hd hxl,hA];rfl
 refine ⟨st.put (some xd) (st.E.getD a .undef).q5,qpt hy hto ?_ (by rw [qle hy hop hg htk,hdst]),(qps hx hap).2 ⟨hls,hlk,_,hA2,r4⟩⟩;rw [qqM hop (E:=s1.E)]
 ·exact g2
 ·obtain ⟨y',hy',b,z,m,A⟩:=qcK.1 r1;obtain ⟨_,r,_,_,_,u,yy,_,_,_,_,_,rfl⟩:=qeA hA;rw [A.res];simp [qlh,qhj]
def Two(H:Hints)(f:FuncId)(ops:Array Oper)(j i:Nat)(x y:Oper):Prop :=
 (qvC H f x=false/\qvC H f y=false)\/(qkL H f y=true/\qiR H f ops i y x=true)\/(qkL H f x=true/\qiR H f ops j x y=true)
theorem qzf{ops:Array Oper}{i j:Nat}{x y:Oper}{st s1 s2:St}{fx fy:Foot}(hx:ops[j]?=some x)(hy:ops[i]?=some y)(htwo:Two H f ops j i x y)(hda:qcl ops x y=true)(h1:qhZ P H C f ops j st=some (s1,fx))(h2:qhZ P H C f ops i s1=some (s2,fy))
  (hcl:fx.qfX fy=false):∃s1',qhZ P H C f ops i st=some (s1',fy)/\qhZ P H C f ops j s1'=some (s2,fx):=by
 rcases htwo with ⟨h3,h4⟩|⟨h3,h4⟩|⟨h3,h4⟩
 ·exact qxL hx hy h3 h4 hda h1 h2 hcl
 ·exact qvq hx hy h3 h4 hda h1 h2 hcl
 ·exact qvp hx hy h3 h4 hda h1 h2 hcl
theorem qzJ{ops:Array Oper}{i:Nat}{o:Oper}{st st':St}{ft:Foot}(ho:ops[i]?=some o)(hls:qfx H f o=false)(h:qhZ P H C f ops i st=some (st',ft)):∃st1 st2,qfQ P H C f ops i st1=some (st2,ft):=by
 obtain ⟨o',ho',⟨h1,_⟩|⟨_,_,_,g,_,h1⟩|⟨_,_,_,h1⟩⟩:=qes h
 ·rw [ho]at ho';cases ho';rw [hls]at h1;cases h1
 ·exact ⟨_,_,h1⟩
 ·exact ⟨_,_,h1⟩
theorem qco{ops:Array Oper}{i:Nat}{l:List Nat}{st s:St}{fps:List (Nat×Foot)}:qd1 P H C f ops (i::l) st=some (s,fps)↔∃s1 ft fps',qhZ P H C f ops i st=some (s1,ft)/\qd1 P H C f ops l s1=some (s,fps')/\fps=(i,ft)::fps':=by
 simp only [qd1];cases h:qhZ P H C f ops i st with
 |none=>simp
 |some p =>
  obtain ⟨s1,ft⟩:=p;simp only [qc,Prod.exists,qb,Prod.mk.injEq];constructor
  ·rintro ⟨a,b,h1,rfl,rfl⟩;exact ⟨s1,ft,b,⟨rfl,rfl⟩,h1,rfl⟩
  ·rintro ⟨a,b,c,⟨rfl,rfl⟩,h1,rfl⟩;exact ⟨s,c,h1,rfl,rfl⟩
theorem qmg{ops:Array Oper}{i:Nat}{y:Oper}(hy:ops[i]?=some y){B:List Nat}:∀(A:List Nat) (st s:St) (fps:List (Nat×Foot)),qd1 P H C f ops (A++i::B) st=some (s,fps) ->
  (∀j∈A,∃x,ops[j]?=some x/\Two H f ops j i x y/\qcl ops x y=true/\∀fx fy,(j,fx)∈fps->(i,fy)∈fps->fx.qfX fy=false) ->
  ∃fps',qd1 P H C f ops (i::(A++B)) st=some (s,fps')/\∀p,p∈fps'↔p∈fps
 |[],st,s,fps,h,_=>⟨fps,h,λ_=>Iff.rfl⟩
 |j::A,st,s,fps,h,hA=>by
  rw [List.cons_append,qco]at h;obtain ⟨s1,fj,fps1,h1,h2,rfl⟩:=h;obtain ⟨fps2,h3,h4⟩:=qmg hy A s1 s fps1 h2 (λk hk=>by
   obtain ⟨x,hx,hlx,hd,hc⟩:=hA k (by simp [hk]);exact ⟨x,hx,hlx,hd,λfx fy h1 h2=>hc fx fy (by simp [h1]) (by simp [h2])⟩)
  rw [qco]at h3;obtain ⟨s2,fi,fps3,h5,h6,rfl⟩:=h3;obtain ⟨x,hx,hlx,hd,hc⟩:=hA j (by simp);obtain ⟨s1',h7,h8⟩:=qzf hx hy hlx hd h1 h5 (hc fj fi (by simp) (by
   have:=(h4 (i,fi)).1 (by simp);simp [this]))
  refine ⟨(i,fi)::(j,fj)::fps3,?_,λp=>?_⟩
  ·rw [qco];exact ⟨s1',fi,(j,fj)::fps3,h7,by rw [List.cons_append,qco];exact ⟨s2,fj,fps3,h8,h6,rfl⟩,rfl⟩
  ·have:=h4 p;simp only [qk]at this ⊢;rw [<- this];constructor
   ·rintro (h|h|h)<;>simp [h]
   ·rintro (h|h|h)<;>simp [h]
theorem qlB{ops:Array Oper}:∀(l:List Nat) (st s:St) (fps:List (Nat×Foot)),qd1 P H C f ops l st=some (s,fps)->∀k ft,(k,ft)∈fps->k∈l/\∃s1 s2,qhZ P H C f ops k s1=some (s2,ft)
 |[],st,s,fps,h,k,ft,hk=>by simp only [qd1,qb,Prod.mk.injEq]at h;rw [<- h.2]at hk;simp at hk
 |i::l,st,s,fps,h,k,ft,hk=>by
  obtain ⟨s1,fi,fps',h1,h2,rfl⟩:=qco.1 h;rcases qk.1 hk with hk|hk
  ·cases hk;exact ⟨by simp,_,_,h1⟩
  ·obtain ⟨h3,h4⟩:=qlB l s1 s fps' h2 k ft hk;exact ⟨by simp [h3],h4⟩
theorem qA7{ops:List Oper}(hb:∀(k:Nat) (o:Oper),ops[k]?=some o->∀j∈qaC o,j<k):∀(n i:Nat) (o:Oper),i<=n->ops[i]?=some o->∀j∈(qd0 ops).getD i [],j<i:=by
 intro n;induction n with
 |zero =>
  intro i o hi ho j hj;rw [qiH ops i o ho (hb i o ho)]at hj;obtain ⟨e,he,_⟩:=List.mem_flatMap.1 (qer hj);have:=hb i o ho e he;omega
 |succ n ih =>
  intro i o hi ho j hj;rw [qiH ops i o ho (hb i o ho)]at hj;obtain ⟨e,he,hj⟩:=List.mem_flatMap.1 (qer hj);have hei:=hb i o ho e he;rcases qk.1 hj with rfl|hj
  ·exact hei
  ·have hlt:i<ops.length:=(qm.1 ho).1;have:=ih e ops[e] (by omega) (List.getElem?_eq_getElem (by omega)) j hj;omega
structure LinkOk (H:Hints) (f:FuncId) (ops:Array Oper) (bef:Nat->Nat->Prop):Prop where
 self:∀(c:Nat) (oc:Oper),ops[c]?=some oc->qky H f oc=true->oc.guard=none/\∀d,oc.dst=some d->d∉tmpsOf oc
 after:∀(c i:Nat) (oc oi:Oper),ops[c]?=some oc->ops[i]?=some oi->qky H f oc=true->i=c\/bef i c\/qj5 H f oc oi=true
 ls:∀(c i:Nat) (oc oi:Oper),ops[c]?=some oc->ops[i]?=some oi->qfx H f oc=true->i=c\/bef i c\/bef c i
 apt:∀(c i:Nat) (oc oi:Oper),ops[c]?=some oc->ops[i]?=some oi->qkL H f oc=true->i=c\/bef i c\/bef c i\/qiR H f ops c oc oi=true
 ap:∀(c:Nat) (oc:Oper),ops[c]?=some oc->qkL H f oc=true->∃(s:Nat) (os:Oper),ops[s]?=some os/\qfx H f os=true/\bef c s
 lone:∀(c:Nat) (oc:Oper),ops[c]?=some oc->qky H f oc=true->qht H f oc=true->∀(s s':Nat) (o o':Oper),ops[s]?=some o->ops[s']?=some o'->qfx H f o=true->qfx H f o'=true->s=s'
theorem quF{α:Type}{p:α->Bool}{l:List α}(h:(l.filter p).length<=1):∀{i j:Nat} {a b:α},l[i]?=some a->l[j]?=some b->p a=true->p b=true->i=j:=by
 induction l with
 |nil=>intro i j a b hi;simp at hi
 |cons x l ih =>
  intro i j a b hi hj ha hb;have hmem:∀{k:Nat} {c:α},l[k]?=some c->p c=true->0<(l.filter p).length:=λhk hc =>
   List.length_pos_of_mem (List.mem_filter.2 ⟨List.mem_of_getElem? hk,hc⟩)
  cases hx:p x with
  |true =>
   simp only [List.filter_cons,hx,if_true,List.length_cons]at h;cases i with
   |zero=>cases j with
    |zero=>rfl
    |succ j=>have:=hmem (by simpa using hj) hb;omega
   |succ i=>have:=hmem (by simpa using hi) ha;omega
  |false =>
   simp only [List.filter_cons,hx,qf,if_false]at h;cases i with
   |zero=>simp at hi;subst hi;rw [hx]at ha;cases ha
   |succ i=>cases j with
    |zero=>simp at hj;subst hj;rw [hx]at hb;cases hb
    |succ j=>exact congrArg Nat.succ (ih h (i:=i) (j:=j) (by simpa using hi) (by simpa using hj) ha hb)
theorem qii{draw:Bool}{ops:Array Oper}(h:qi8 H f draw ops=true):LinkOk H f ops (λi c=>qib draw (qd0 ops.toList) i c=true):=by
 have key:∀(c:Nat) (oc:Oper),ops[c]?=some oc->qme H f draw (qd0 ops.toList) ops (decide ((ops.toList.filter (qfx H f)).length<=1)) c oc=true:=λc oc hoc=>by
  have hlt:c<ops.size:=(Array.getElem?_eq_some_iff.1 hoc).1;unfold qi8 at h;have:=List.all_eq_true.1 h c (List.mem_range.2 hlt);rw [hoc]at this;exact this
 have part:∀(c:Nat) (oc:Oper),ops[c]?=some oc->_:=λc oc hoc=>by
  have:=key c oc hoc;unfold qme at this;simp only [qe,Bool.or_eq_true,Bool.not_eq_true']at this;exact this
 refine {self:=λc oc hoc hlk=>?_,after:=λc i oc oi hoc hoi hlk=>?_,ls:=λc i oc oi hoc hoi hls=>?_,apt:=λc i oc oi hoc hoi hap=>?_,ap:=λc oc hoc hap=>?_,lone:=λc oc hoc hlk hn s s' o o' hs hs' hl hl'=>?_}
 ·obtain ⟨⟨⟨⟨h1,_⟩,_⟩,_⟩,_⟩:=part c oc hoc;rcases h1 with h1|h1
  ·rw [hlk]at h1;cases h1
  ·refine ⟨by simpa using h1.1.1,λd hd=>?_⟩;have:=h1.1.2;rw [hd]at this;simpa using this
 ·obtain ⟨⟨⟨⟨h1,_⟩,_⟩,_⟩,_⟩:=part c oc hoc;rcases h1 with h1|h1
  ·rw [hlk]at h1;cases h1
  ·have:=List.all_eq_true.1 h1.2 i (List.mem_range.2 (Array.getElem?_eq_some_iff.1 hoi).1);rw [hoi]at this;simp only [Bool.or_eq_true,beq_iff_eq]at this;rcases this with (h2|h2)|h2
   ·exact .inl h2
   ·exact .inr (.inl h2)
   ·exact .inr (.inr h2)
 ·obtain ⟨⟨⟨⟨_,h1⟩,_⟩,_⟩,_⟩:=part c oc hoc;rcases h1 with h1|h1
  ·rw [hls]at h1;cases h1
  ·have:=List.all_eq_true.1 h1.2 i (List.mem_range.2 (Array.getElem?_eq_some_iff.1 hoi).1);simp only [Bool.or_eq_true,beq_iff_eq]at this;rcases this with (h2|h2)|h2
   ·exact .inl h2
   ·exact .inr (.inl h2)
   ·exact .inr (.inr h2)
 ·obtain ⟨_,h1⟩:=part c oc hoc;rcases h1 with h1|h1
  ·rw [hap]at h1;cases h1
  ·have:=List.all_eq_true.1 h1 i (List.mem_range.2 (Array.getElem?_eq_some_iff.1 hoi).1);rw [hoi]at this;simp only [Bool.or_eq_true,beq_iff_eq]at this;rcases this with ((h2|h2)|h2)|h2
   ·exact .inl h2
   ·exact .inr (.inl h2)
   ·exact .inr (.inr (.inl h2))
   ·exact .inr (.inr (.inr h2))
 ·obtain ⟨⟨_,h1⟩,_⟩:=part c oc hoc;rcases h1 with h1|h1
  ·rw [hap]at h1;cases h1
  ·obtain ⟨s,_,h2⟩:=List.any_eq_true.1 h1;simp only [qe]at h2;cases hs:ops[s]? with
   |none=>rw [hs]at h2;cases h2.2
   |some os=>rw [hs]at h2;exact ⟨s,os,hs,h2.2,h2.1⟩
 ·obtain ⟨⟨⟨_,h1⟩,_⟩,_⟩:=part c oc hoc;rcases h1 with h1|h1
  ·rw [hlk,hn]at h1;cases h1
  ·simp only [decide_eq_true_eq]at h1;exact quF h1 (by simpa using hs) (by simpa using hs') hl hl'
theorem qxB(hC:OrcOk P C){F:Fence}{w0:World}{X0:Cx}{Md:Md}{n:Nat}(hFO:FOk F X0 Md n){ops:Array Oper}(hlk:qi8 H f false ops=true){Q:Exit->Act->World->Prop}:∀(m i:Nat) (st st':St) (fps:List (Nat×Foot)) (a:Act) (w:World),i+m=ops.size ->
  qr2 P H f ops (λk=>k<i) w0 X0 Md n st a w->qd1 P H C f ops (List.range' i m) st=some (st',fps)->(∀a' w',qew w0 X0 Md n st' a' w'->Q .normal a' w')->wpOpsIn F 0 P ops Q (List.range' i m) a w
 |0,i,st,st',fps,a,w,_,hS,hx,hK=>by
  simp only [List.range'_zero,qd1,qb,Prod.mk.injEq]at hx;obtain ⟨rfl,_⟩:=hx;exact hK a w hS.qBX
 |m+1,i,st,st',fps,a,w,him,hS,hx,hK=>by
  rw [List.range'_succ]at hx ⊢;obtain ⟨s1,ft,fps',h1,h2,_⟩:=qco.1 hx;rw [wpOpsIn_cons];have L:=qii hlk;refine qsF hC hFO hS h1 ?_ λa' w' hS'=>qxB hC hFO hlk m (i+1) s1 st' fps' a' w' (by omega) (hS'.mono λk _=>by omega) h2 hK;exact {
   new:=by omega
   after:=λc oc o hoc ho hl hc=>by
    rcases L.after c i oc o hoc ho hl with h3|h3|h3
    ·omega
    ·simp [qib]at h3;omega
    ·exact h3
   self:=λo ho hl=>L.self i o ho hl
   ls:=λo ho hl c oc hoc hlc hci=>hci
   apl:=λo d ho hap hd c oc hoc hlc hci hx=>hci
   ap:=λo ho hap=>by
    obtain ⟨s,os,h3,h4,h5⟩:=L.ap i o ho hap;refine ⟨s,os,h3,h4,?_⟩;simp [qib]at h5;omega
   lone:=L.lone}
theorem qsP(hC:OrcOk P C){F:Fence}{w0:World}{X0:Cx}{Md:Md}{n:Nat}(hFO:FOk F X0 Md n){ops:Array Oper}{U:List (Nat×Nat)}(hreg:qej H f U ops=true)(hlk:qi8 H f true ops=true){Q:Exit->Act->World->Prop} :
  ∀(fuel:Nat) (listed:Array Bool) (st st':St) (fps:List (Nat×Foot)) (a:Act) (w:World),listed.size=ops.size->Down ops listed->((List.range ops.size).filter λk=>!listed.getD k true).length<=fuel ->
   qd1 P H C f ops ((List.range ops.size).filter λk=>!listed.getD k true) st=some (st',fps)->(∀i j fi fj,(i,j)∈U->(i,fi)∈fps->(j,fj)∈fps->fi.qfX fj=false) ->
   qr2 P H f ops (λk=>listed.getD k true=true) w0 X0 Md n st a w->(∀a' w',qew w0 X0 Md n st' a' w'->Q .normal a' w')->wpAnyIn F 0 P .any ops Q fuel listed a w:=by
 have hrow:∀i y,ops[i]?=some y->(∀j∈qaC y,j<i)/\∀j,j<i->j∈(qd0 ops.toList).getD i []\/∃x,ops[j]?=some x/\qcl ops x y=true/\(qfN H f ops x y=true\/(j,i)∈U):=by
  intro i y hy;have hilt:i<ops.size:=(Array.getElem?_eq_some_iff.1 hy).1;unfold qej at hreg;have h1:=List.all_eq_true.1 hreg i (List.mem_range.2 hilt);rw [hy]at h1;simp only [qe]at h1;refine ⟨λj hj=>by simpa using List.all_eq_true.1 h1.1 j hj,λj hj=>?_⟩;have h2:=List.all_eq_true.1 h1.2 j (List.mem_range.2 hj);simp only [Bool.or_eq_true]at h2;rcases h2 with h2|h2
  ·exact .inl (by simpa using h2)
  ·right
   cases hx:ops[j]? with
   |none=>rw [hx]at h2;cases h2
   |some x =>
    rw [hx]at h2;simp only [qe,Bool.or_eq_true]at h2;exact ⟨x,rfl,h2.1,h2.2.imp id (by simp)⟩
 have hanclt:∀(c:Nat) (oc:Oper),ops[c]?=some oc->∀j∈(qd0 ops.toList).getD c [],j<c:=λc oc hoc =>
  qA7 (λk o ho=>(hrow k o (by simpa using ho)).1) c c oc (Nat.le_refl _) (by simpa using hoc)
 have L:=qii hlk;have hbef:∀i c,qib true (qd0 ops.toList) i c=true↔i∈(qd0 ops.toList).getD c []:=λi c=>by simp [qib]
 have hempty:∀(listed:Array Bool),listed.size=ops.size->Down ops listed->Region.ready .any ops listed=[]->((List.range ops.size).filter λk=>!listed.getD k true)=[]:=by
  intro listed hsz hd hr;cases hR:(List.range ops.size).filter λk=>!listed.getD k true with
  |nil=>rfl
  |cons k R =>
   exfalso
   have hsorted:((List.range ops.size).filter λk=>!listed.getD k true).Pairwise (· < ·):=List.Pairwise.filter _ List.pairwise_lt_range;have hk:k∈(List.range ops.size).filter λk=>!listed.getD k true:=by rw [hR];simp
   rw [hR]at hsorted;obtain ⟨hklt,hkun⟩:=List.mem_filter.1 hk;have hklt:=List.mem_range.1 hklt;obtain ⟨o,ho⟩:∃o,ops[k]?=some o:=⟨ops[k],Array.getElem?_eq_getElem hklt⟩
   have:k∈Region.ready .any ops listed:=by
    rw [mem_ready];refine ⟨by simpa using hkun,o,ho,λe he hb=>?_⟩;have hek:=(hrow k o ho).1 e.on (qen.2 ⟨e,he,hb,rfl⟩);cases hc:listed.getD e.on true with
    |true =>
     have:e.on<listed.size:=by omega
     simp [Array.getD,this]at hc ⊢;exact hc
    |false =>
     have hmem:e.on∈(List.range ops.size).filter λk=>!listed.getD k true:=List.mem_filter.2 ⟨List.mem_range.2 (by omega),by simp [hc]⟩;rw [hR]at hmem;rcases qk.1 hmem with h1|h1
     ·omega
     ·have:=(List.pairwise_cons.1 hsorted).1 _ h1;omega
   rw [hr]at this;simp at this
 intro fuel;induction fuel with
 |zero =>
  intro listed st st' fps a w hsz hd hlen hx hconf hS hQ;have hnil:((List.range ops.size).filter λk=>!listed.getD k true)=[]:=List.eq_nil_of_length_eq_zero (by omega);rw [hnil]at hx;simp only [qd1,qb,Prod.mk.injEq]at hx;obtain ⟨rfl,_⟩:=hx;refine ⟨?_,hQ a w hS.qBX⟩;cases hr:Region.ready .any ops listed with
  |nil=>rfl
  |cons i R =>
   have hi:i∈Region.ready .any ops listed:=by rw [hr];simp
   obtain ⟨h1,o,ho,_⟩:=mem_ready.1 hi;have:i∈(List.range ops.size).filter λk=>!listed.getD k true:=List.mem_filter.2 ⟨List.mem_range.2 (Array.getElem?_eq_some_iff.1 ho).1,by simp [h1]⟩;rw [hnil]at this;simp at this
 |succ fuel ih =>
  intro listed st st' fps a w hsz hd hlen hx hconf hS hQ;refine ⟨λhr=>?_,λi hi=>?_⟩
  ·have hnil:=hempty listed hsz hd hr;rw [hnil]at hx;simp only [qd1,qb,Prod.mk.injEq]at hx;obtain ⟨rfl,_⟩:=hx;exact hQ a w hS.qBX
  ·obtain ⟨hun,y,hy,hall⟩:=mem_ready.1 hi;have hilt:i<ops.size:=(Array.getElem?_eq_some_iff.1 hy).1;have hiR:i∈(List.range ops.size).filter λk=>!listed.getD k true:=List.mem_filter.2 ⟨List.mem_range.2 hilt,by simp [hun]⟩;have hsorted:((List.range ops.size).filter λk=>!listed.getD k true).Pairwise (· < ·):=List.Pairwise.filter _ List.pairwise_lt_range;obtain ⟨A,B,hAB⟩:=List.append_of_mem hiR;rw [hAB]at hx hsorted;obtain ⟨_,hs2,hs3⟩:=List.pairwise_append.1 hsorted;have hAi:∀j∈A,j<i:=λj hj=>hs3 j hj i (by simp);have hiB:∀j∈B,i<j:=λj hj=>(List.pairwise_cons.1 hs2).1 j hj;have hlistedE:∀j∈qaC y,listed.getD j true=true:=λj hj=>by
    obtain ⟨e,he,hb,rfl⟩:=qen.1 hj;have h1:=hall e he hb;have hlt:=(hrow i y hy).1 e.on hj;have:e.on<listed.size:=by omega
    simp [Array.getD,this]at h1 ⊢;exact h1
   have hanc:=qfr hsz (λk o ho=>(hrow k o ho).1) hd i i y (Nat.le_refl _) hy hlistedE;obtain ⟨fps',h1,h2⟩:=qmg hy A st st' fps hx (λj hj=>by
    have hjR:j∈(List.range ops.size).filter λk=>!listed.getD k true:=by rw [hAB];simp [hj]
    have hjun:listed.getD j true=false:=by simpa using (List.mem_filter.1 hjR).2
    rcases (hrow i y hy).2 j (hAi j hj)with h3|⟨x,hx1,hx2,hx3⟩
    ·have:=hanc j h3;rw [hjun]at this;cases this
    ·have hnanc:j∉(qd0 ops.toList).getD i []:=λh3=>by have:=hanc j h3;rw [hjun]at this;cases this
     have hnanc2:i∉(qd0 ops.toList).getD j []:=λh3=>by have:=hanclt j x hx1 i h3;have:=hAi j hj;omega
     have hly:qfx H f y=false:=by
      cases hl:qfx H f y with
      |false=>rfl
      |true =>
       rcases L.ls i j y x hy hx1 hl with h3|h3|h3
       ·have:=hAi j hj;omega
       ·exact absurd ((hbef j i).1 h3) hnanc
       ·exact absurd ((hbef i j).1 h3) hnanc2
     have hlx:qfx H f x=false:=by
      cases hl:qfx H f x with
      |false=>rfl
      |true =>
       rcases L.ls j i x y hx1 hy hl with h3|h3|h3
       ·have:=hAi j hj;omega
       ·exact absurd ((hbef i j).1 h3) hnanc2
       ·exact absurd ((hbef j i).1 h3) hnanc
     have htwo:Two H f ops j i x y:=by
      cases hay:qkL H f y with
      |true =>
       rcases L.apt i j y x hy hx1 hay with h3|h3|h3|h3
       ·have:=hAi j hj;omega
       ·exact absurd ((hbef j i).1 h3) hnanc
       ·exact absurd ((hbef i j).1 h3) hnanc2
       ·exact .inr (.inl ⟨hay,h3⟩)
      |false =>
       cases hax:qkL H f x with
       |true =>
        rcases L.apt j i x y hx1 hy hax with h3|h3|h3|h3
        ·have:=hAi j hj;omega
        ·exact absurd ((hbef i j).1 h3) hnanc2
        ·exact absurd ((hbef j i).1 h3) hnanc
        ·exact .inr (.inr ⟨hax,h3⟩)
       |false=>exact .inl ⟨by simp [qvC,hlx,hax],by simp [qvC,hly,hay]⟩
     refine ⟨x,hx1,htwo,hx2,λfx fy h4 h5=>?_⟩;rcases hx3 with hx3|hx3
     ·obtain ⟨_,_,_,e1⟩:=qlB _ _ _ _ hx j fx h4;obtain ⟨_,_,_,e2⟩:=qlB _ _ _ _ hx i fy h5;obtain ⟨_,_,e1'⟩:=qzJ hx1 hlx e1;obtain ⟨_,_,e2'⟩:=qzJ hy hly e2;exact qnE hx1 hy e1' e2' hx3
     ·exact hconf j i fx fy hx3 h4 h5)
   obtain ⟨s1,fi,fps2,h3,h4,rfl⟩:=qco.1 h1;have hfit:Fits H f ops (λk=>listed.getD k true=true) i:={
    new:=by rw [hun];simp
    after:=λc oc o hoc ho hl hc=>by
     rcases L.after c i oc o hoc ho hl with h5|h5|h5
     ·subst h5;rw [hun]at hc;cases hc
     ·have hE:∀j∈qaC oc,listed.getD j true=true:=hd c oc hoc hc;have:=qfr hsz (λk o ho=>(hrow k o ho).1) hd c c oc (Nat.le_refl _) hoc hE i ((hbef i c).1 h5);rw [hun]at this;cases this
     ·exact h5
    self:=λo ho hl=>L.self i o ho hl
    ls:=λo ho hl c oc hoc hlc hci=>by
     rcases L.ls i c o oc ho hoc hl with h5|h5|h5
     ·omega
     ·exact hanc c ((hbef c i).1 h5)
     ·have:=hanclt c oc hoc i ((hbef i c).1 h5);omega
    apl:=λo d ho hap hd c oc hoc hlc hci hx=>by
     rcases L.apt i c o oc ho hoc hap with h5|h5|h5|h5
     ·omega
     ·exact hanc c ((hbef c i).1 h5)
     ·have:=hanclt c oc hoc i ((hbef i c).1 h5);omega
     ·obtain ⟨a,xd,d',_,hdst,hd',_,_,_,_,hxl⟩:=qie h5;rw [hd]at hd';cases hd';exact absurd (hx xd hdst) hxl
    ap:=λo ho hap=>by
     obtain ⟨s,os,h5,h6,h7⟩:=L.ap i o ho hap;refine ⟨s,os,h5,h6,λhs=>?_⟩;have hE:∀j∈qaC os,listed.getD j true=true:=hd s os h5 hs;have:=qfr hsz (λk o ho=>(hrow k o ho).1) hd s s os (Nat.le_refl _) h5 hE i ((hbef i s).1 h7);rw [hun]at this;cases this
    lone:=L.lone}
   refine qsF hC hFO hS h3 hfit λa' w' hS'=>?_;have hR':((List.range ops.size).filter λk=>!(listed.setIfInBounds i true).getD k true)=A++B:=by
    have e1:((List.range ops.size).filter λk=>!(listed.setIfInBounds i true).getD k true)=((List.range ops.size).filter λk=>!listed.getD k true).filter (λk=>decide (k≠i)):=by
     rw [List.filter_filter];refine List.filter_congr λk hk=>?_;have hklt:=List.mem_range.1 hk;by_cases hki:k=i
     ·subst hki;have:k<listed.size:=by omega
      simp [Array.getD,this]
     ·rw [getD_set_ne true (Ne.symm hki)];simp [hki]
    rw [e1,hAB,List.filter_append,List.filter_cons];simp only [ne_eq,not_true_eq_false,decide_false,qf,if_false];rw [List.filter_eq_self.2 (λj hj=>by have:=hAi j hj;simp;omega),List.filter_eq_self.2 (λj hj=>by have:=hiB j hj;simp;omega)]
   have hd':Down ops (listed.setIfInBounds i true):=by
    intro k o ho hk j hj;by_cases hji:j=i
    ·subst hji;have:j<listed.size:=by omega
     simp [Array.getD,this]
    ·rw [getD_set_ne true (Ne.symm hji)];by_cases hki:k=i
     ·subst hki;rw [hy]at ho;cases ho;exact hlistedE j hj
     ·rw [getD_set_ne true (Ne.symm hki)]at hk;exact hd k o ho hk j hj
   refine ih (listed.setIfInBounds i true) s1 st' fps2 a' w' (by simp [hsz]) hd' ?_ (by rw [hR'];exact h4) (λi' j' fi' fj' hu h5 h6=>hconf i' j' fi' fj' hu ((h2 _).1 (by simp [h5])) ((h2 _).1 (by simp [h6]))) (hS'.mono λk hk=>?_) hQ
   ·rw [hR'];rw [hAB]at hlen;simp only [List.length_append,List.length_cons]at hlen ⊢;omega
   ·by_cases hki:k=i
    ·subst hki;have:k<listed.size:=by omega
     simp [Array.getD,this]
    ·rw [getD_set_ne true (Ne.symm hki)];simp [hki]
theorem qrJ{w0:World}{X0:Cx}{Md:Md}{n:Nat}{st:St}{a:Act}(hS:qew w0 X0 Md n st a w):qew w0 X0 Md n st a {w with drawn:=w.drawn+1}:=by
 obtain ⟨X,O,h,hF,hM⟩:=hS;have heff:Eff w X {w with drawn:=w.drawn+1} X [] :=
  ⟨Nat.le_refl _,λ_ _ _=>rfl,λ_ _ _=>rfl,by simp,rfl,h.dom,rfl,rfl,rfl⟩
 have h1:=h.put (T:=[]) (Oin:=[]) (O':=[]) (z:=.undef) (v:=undef) none (by simp) heff (by simp [Rep]) Lin.nil (by simp) (by simp [V.qq]);have hF1:=Fr.put (z:=.undef) h hF (T:=[]) (Oin:=[]) (O':=[]) none (by simp) heff (by simp);exact ⟨X,_,h1,hF1,hM.of λ_ _ _ _=>⟨rfl,rfl⟩⟩
theorem qxj(hC:OrcOk P C)(hm:P.follows .mixedOrders=true){F:Fence}{w0:World}{X0:Cx}{Md:Md}{n:Nat}(hFO:FOk F X0 Md n){bid id:Nat}{ops:Array Oper}{draw:Bool}{st st':St}{e:Ex}{a:Act}(hS:qew w0 X0 Md n st a w)
  {st0:St} (hcl:st0.clear (H.pre f id)=some st) (hnt:qgy H ops draw=none) (hls:qsn H f ops=true) (hpe:(H.perm f id).isEmpty=true) (hsp:H.sp f id=0) (hx:ex P H C f bid (.region id ops draw) st0=some (e,st')):(Code.region id ops draw).wpIn F 0 P (λe' a' w'=>e'=e.qoS/\qew w0 X0 Md n st' a' w') a w:=by
 simp only [ex,hcl,hsp,hnt,hls,hpe,if_true]at hx;split at hx
 ·rename_i hok;simp only [qe,Bool.or_eq_true,Bool.not_eq_true']at hok;obtain ⟨hlk,hreg⟩:=hok;split at hx
  ·rename_i s fps hex;split at hx
   ·rename_i hconf;simp only [qb,Prod.mk.injEq]at hx;obtain ⟨rfl,rfl⟩:=hx;cases draw with
    |false =>
     refine wpIn_region ?_;have hr:List.range ops.size=List.range' 0 ops.size:=List.range_eq_range';rw [hr]at hex ⊢;exact qxB hC hFO hlk ops.size 0 st s fps a w (by omega) ((hS.qCt (P:=P) (H:=H) (f:=f) (ops:=ops)).mono λk _=>by simp) hex λa' w' hS'=>⟨rfl,hS'⟩
    |true =>
     have hreg':qej H f (H.pairs f id) ops=true:=by simpa using hreg
     have hconf':qgU (H.pairs f id) fps=true:=by simpa using hconf
     refine wpIn_region_any hm (qsP hC hFO hreg' hlk ops.size _ st s fps a _ (by simp) (λk o ho hk=>?_) (by rw [qeY];simp) (by rw [qeY];exact hex) (qmj hconf') (((qrJ hS).qCt (P:=P) (H:=H) (f:=f) (ops:=ops)).mono λk hk=>?_) λa' w' hS'=>⟨rfl,hS'⟩)
     ·have:=(Array.getElem?_eq_some_iff.1 ho).1;simp [Array.getD,this]at hk
     ·simp [Array.getD,hk]
   ·cases hx
  ·cases hx
 ·cases hx
end
section
variable {P:Program} {H:Hints} {f:FuncId} {C:Orc} {w w':World} {X:Cx}
def qA5(w:World)(b off:Nat)(vs:List Value)(w':World):Prop :=
 ∃(w1:World) (n:Nat) (os:Array Obj),w'={w1 with drawn:=w1.drawn+n,heap:=w1.heap++os}/\w1.heap.size=w.heap.size/\(∀k,k≠b->w1.heap[k]?=w.heap[k]?) /\
  (∀arr ty,w.heap[b]?=some (.cells arr ty (0,0))->w1.heap[b]?=some (.cells (rowAt arr off vs) ty (0,0)))/\w1.os=w.os/\w1.output=w.output/\w1.tape=w.tape
def qzw(P:Program)(g:FuncId)(F:List Int->Option (List Int)):Prop :=
 ∀zs zs',F zs=some zs'->zs'.length=zs.length /\
  (zs≠[]->∀(w:World) (b off cap:Nat) (arr:Array Value) (ty:TypeId),w.heap[b]?=some (.cells arr ty (0,0))->off+zs.length<=arr.size->Seg w b off (zs.map (Value.int .i64))->zs.length<=cap ->
   qoA True P g #[.slice (some ⟨b,off,none⟩) zs.length cap] w λ_ w'=>qA5 w b off (zs'.map (Value.int .i64)) w') /\
  (zs=[]->∀(w:World) (a:Option Addr) (cap:Nat),qoA True P g #[.slice a 0 cap] w λ_ w'=>∃(n:Nat) (os:Array Obj),w'={w with drawn:=w.drawn+n,heap:=w.heap++os})
def qoC(P:Program)(H:Hints):Prop:=∀g F,H.turn g=some F->qzw P g F
def qh1 (P : Program) (H : Hints) : Prop := (∀ (g : FuncId) (fn : Func), P.funcs[g]? = some fn -> fn.body.isSome = true -> (fn.name == "runtime.NumGoroutine") = false) /\ qoC P H /\ qzv P H
theorem qrK{w0:World}{X0:Cx}{Md:Md}{n:Nat}{st:St}{a:Act}(hS:qew w0 X0 Md n st a w)(k:Nat)(os:Array Obj)(d:Option Tmp)(v:Value):qew w0 X0 Md n (st.put d .undef) (a.put d v) {w with drawn:=w.drawn+k,heap:=w.heap++os}:=by
 obtain ⟨X,O,h,hF,hM⟩:=hS;have hold:∀i,i<w.heap.size->(w.heap++os)[i]?=w.heap[i]?:=λi hi=>by rw [Array.getElem?_append_left hi]
 have heff:Eff w X {w with drawn:=w.drawn+k,heap:=w.heap++os} X [] :=
  ⟨by simp,λb hb _=>hold b hb,λ_ _ _=>rfl,by simp,rfl,λb e fz hb=>by have:=h.dom b e fz hb;simp;omega,rfl,rfl,rfl⟩
 have h1:=h.put (T:=[]) (Oin:=[]) (O':=[]) (z:=.undef) (v:=v) d (by simp) heff (by simp [Rep]) Lin.nil (by simp) (by simp [V.qq]);have hF1:=Fr.put (z:=.undef) h hF (T:=[]) (Oin:=[]) (O':=[]) d (by simp) heff (by simp);have hdef:(a.put d v).defers=a.defers:=by cases d<;>rfl
 refine ⟨X,_,?_,hF1,?_⟩
 ·rw [qbV];exact h1
 ·rw [hdef];exact hM.of λk' hk _ _=>⟨hold k' (Array.getElem?_eq_some_iff.1 hk).1,rfl⟩
theorem qqR:∀{l:List V} {zs:List Int},qlO l=some zs->l=qda zs
 |[],zs,h=>by simp only [qlO,qb]at h;subst h;rfl
 |x::l,zs,h=>by
  unfold qlO at h;split at h
  ·rename_i heq;simp at heq
  ·rename_i n l' heq;obtain ⟨m,hm,rfl⟩:=qc.1 h;simp only [List.cons.injEq]at heq;obtain ⟨rfl,rfl⟩:=heq;rw [qqR hm];rfl
  ·cases h
theorem qru:∀{s:Nat} {zs:List Int} {vals:List Value} {O:List Nat},RepE w X s (qda zs) vals O->vals=zs.map (Value.int .i64)/\O=[]
 |s,[],vals,O,h=>by simpa only [qda,List.map_nil,RepE]using h
 |s,n::zs,vals,O,h=>by
  simp only [qda,qh,RepE]at h;obtain ⟨u,vs',O1,O2,rfl,_,rfl,h1,h2⟩:=h;obtain ⟨rfl,rfl⟩:=qru (zs:=zs) h2;simp only [Rep]at h1;obtain ⟨rfl,rfl⟩:=h1;exact ⟨rfl,rfl⟩
theorem qoe:∀(zs:List Int),RepE w X 1 (qda zs) (zs.map (Value.int .i64)) []
 |[]=>by simp [RepE,qda]
 |n::zs=>by
  simp only [qda,qh,RepE];exact ⟨.int .i64 n,_,[],[],rfl,rfl,rfl,by simp [Rep],qoe zs⟩
theorem qro:∀zs:List Int,ptrsL (qda zs)=[]
 |[]=>rfl
 |n::zs=>by simp only [qda,qh,ptrsL,V.qq,List.nil_append];exact qro zs
theorem quJ(zs:List Int):∀x∈qda zs,x.cells.length=1:=by
 intro x hx;obtain ⟨n,_,rfl⟩:=List.mem_map.1 hx;rfl
theorem qj4(zs:List Int):(qda zs).length=zs.length:=by simp [qda]
theorem qt5{α:Type}:∀{l:List α} {i:Nat} {x:α},l[i]?=some x->l.set i x=l
 |[],i,x,h=>by simp at h
 |y::l,0,x,h=>by simp at h;subst h;rfl
 |y::l,i+1,x,h=>by simp only [List.set_cons_succ,qt5 (by simpa using h:l[i]?=some x)]
theorem qtd{ops:Array Oper}{draw:Bool}{F:List Int->Option (List Int)}{t e:Tmp}{d:Option Tmp}(h:qgy H ops draw=some (F,t,e,d)) :
  draw=false/\∃m o c g,ops=#[m,o]/\m.op=.move (.tmp t)/\m.dst=some e/\m.guard=none/\t≠e/\o.op=.call c/\c.callee=.value (.func g)/\c.args=#[.tmp e]/\H.turn g=some F/\o.guard=none/\o.dst=d:=by
 unfold qgy at h;split at h
 ·rename_i m o hops;split at h
  ·rename_i t' e' g args _ hm hd hg hop hgo;split at h
   ·rename_i e2 F' hargs hF;split at h
    ·rename_i hc;obtain ⟨rfl,hne⟩:=hc;simp only [qb,Prod.mk.injEq]at h;obtain ⟨rfl,rfl,rfl,rfl⟩:=h;refine ⟨rfl,m,o,_,g,?_,hm,hd,hg,hne,hop,rfl,?_,hF,hgo,rfl⟩
     ·apply Array.ext';simpa using hops
     ·apply Array.ext';simpa using hargs
    ·cases h
   ·cases h
  ·cases h
 ·cases h
theorem qxZ{G:List Int->Option (List Int)}{g:FuncId}(hTg:qzw P g G){F:Fence}{w0:World}{X0:Cx}{Md:Md}{n:Nat}(hFO:FOk F X0 Md n){st s:St}{a:Act}{t:Tmp}{d:Option Tmp}(hS:qew w0 X0 Md n st a w)(hx1:qhM G t d st=some s) :
  qoA True P g #[a.tmps.getD t undef] w (λv w'=>qew w0 X0 Md n s (a.put d v) w'):=by
 have hS0:=hS;obtain ⟨X,O,h,hF,hM⟩:=hS;unfold qhM at hx1;split at hx1
 ·rename_i hL;simp only [qe,List.isEmpty_iff]at hL;obtain ⟨hL,hnl⟩:=hL;have empty:∀(a0:Option Addr) (cap:Nat) (zs':List Int),a.tmps.getD t undef=.slice a0 0 cap->G []=some zs'->qoA True P g #[a.tmps.getD t undef] w (λv w'=>qew w0 X0 Md n (st.put d .undef) (a.put d v) w'):=by
   intro a0 cap zs' hv hG0;obtain ⟨_,_,h3⟩:=hTg [] zs' hG0;rw [hv];refine (h3 rfl w a0 cap).mono (λh=>h) ?_;rintro v w' ⟨k,os,rfl⟩;exact qrK hS0 k os d v
  have hgetD:∀x,st.E.getD t .undef=x->x≠.undef->∃v,st.E[t]?=some x/\a.tmps[t]?=some v/\a.tmps.getD t undef=v/\Rep w X x v (O (.tmp t)):=by
   intro x hx hne;rw [List.getD_eq_getElem?_getD]at hx;cases hE:st.E[t]? with
   |none=>rw [hE]at hx;simp at hx;exact absurd hx.symm hne
   |some y =>
    rw [hE]at hx;simp at hx;subst hx;obtain ⟨v,hv,hr⟩:=h.env t y hE;exact ⟨v,rfl,hv,by rw [Array.getD_eq_getD_getElem?,hv];rfl,hr⟩
  split at hx1
  ·rename_i c' l hE;obtain ⟨v,hEt,hvt,hv,hr⟩:=hgetD _ hE (by simp);split at hx1
   ·rename_i zs hzs;have hl:=qqR hzs;subst hl;split at hx1
    ·rename_i zs' hG1;split at hx1
     ·rename_i hz0;have hz0:zs=[]:=by simpa using hz0
      subst hz0;simp only [qb]at hx1;subst hx1;have hve:∃a0 cap,v=.slice a0 0 cap:=by
       simp only [Rep]at hr;rcases hr.2 with ⟨_,_,rfl|⟨hh,_⟩⟩|⟨b,off,cap,s,vals,O',rfl,_⟩
       ·exact ⟨none,0,rfl⟩
       ·exact absurd rfl hh
       ·exact ⟨_,cap,rfl⟩
      obtain ⟨a0,cap,rfl⟩:=hve;have hz':zs'=[]:=List.length_eq_zero_iff.1 (hTg [] zs' hG1).1;have hset:st.E.set t (.sl .own c' (qda zs'))=st.E:=by
       subst hz';exact qt5 hEt
      rw [hset];exact empty a0 cap zs' hv hG1
     ·rename_i hz0;have hz0:zs≠[]:=by simpa using hz0
      simp only [qb]at hx1;subst hx1;obtain ⟨hlen',h2,_⟩:=hTg zs zs' hG1;simp only [Rep]at hr;obtain ⟨hnp,hr⟩:=hr;rcases hr with ⟨hl0,_⟩|⟨b,off,cap,s1,vals,O',rfl,hcap,hc,hlen,hs0,hxs,hsg,⟨e1,fz,hω,hle,h1a,h1b,⟨arr,ty,harr,hsz⟩,h1d⟩,hRE,hO,_⟩
      ·have:=qj4 zs;rw [hl0]at this;exact absurd (List.length_eq_zero_iff.1 this.symm) hz0
      ·subst h1a;obtain ⟨rfl,rfl⟩:=qru hRE;rw [qj4]at hcap hc hlen hv hvt;have hs1:s1=1:=by
        obtain ⟨z,hz⟩:=List.exists_mem_of_ne_nil _ hz0;exact (hxs (.val (.int .i64 z)) (List.mem_map.2 ⟨z,hz,rfl⟩)).symm
       subst hs1;rw [List.length_map]at hle h1b h1d;have hfit:off+zs.length<=arr.size:=by omega
       have hcall:=h2 hz0 w b off cap arr ty harr hfit hsg hcap;rw [hv];refine hcall.mono (λh=>h) ?_;rintro v2 w2 ⟨w1,k,os,rfl,hsz1,hk1,hb1,hos,hout,htape⟩;have hb1':=hb1 arr ty harr;have hW:Wrote w X w1 b:=⟨⟨e1,hω⟩,hk1⟩
       have hOt:O (.tmp t)=[b]:=hO trivial;have hA:Rep w1 X (.sl .own c' (qda zs')) (.slice (some ⟨b,off,none⟩) zs.length cap) [b]:=by
        simp only [Rep];rw [qj4,hlen'];refine ⟨qro zs',.inr ⟨b,off,cap,1,zs'.map (Value.int .i64),[],rfl,hcap,hc,by simp [hlen'],by simp,quJ zs',?_,⟨e1,false,hω,by rw [List.length_map];omega,rfl,by rw [List.length_map];omega,⟨_,ty,hb1',by unfold rowAt;simp;omega⟩,λh0=>h1d (by rw [List.length_map]at h0;omega)⟩,qoe zs',λ_=>rfl,λhh=>absurd rfl hh⟩⟩;intro i u hi;have hi':=(qm.1 hi).1;rw [List.length_map]at hi';simp only [World.cell?,hb1'];have e2:(rowAt arr off (zs'.map (Value.int .i64)))[off+i]?=(rowAt arr off (zs'.map (Value.int .i64))).toList[off+i]?:=by simp
        simp only [Option.isSome_none,qf,if_false];rw [e2];unfold rowAt;rw [qkf (by simp;omega),if_pos ⟨by omega,by simp;omega⟩,Nat.add_sub_cancel_left];exact hi
       obtain ⟨O2,hR2,hF2,hM2⟩:=qpk (st':={st with E:=(st.E.map V.qbx).set t (.sl .own c' (qda zs')),B:=qbN st.B}) h hF (λh0=>hFO.2 h0) hM hL hnl hW hsz1 hos hout htape (T:=[]) (Ox:=[]) (pl:=.tmp t) (by simp) Lin.nil (by simp) (by rw [hOt];simp) (by simp) hL
        (λt' x' hx'=>by
         simp only [List.getElem?_set]at hx';by_cases hrt:t=t'
         ·subst hrt;rw [if_pos rfl]at hx';split at hx'
          ·cases hx'
           exact .inr ⟨rfl,by simp only [V.qq],_,hvt,[b],hA,λk=>by rw [hOt];simp⟩
          ·cases hx'
         ·rw [if_neg hrt,List.getElem?_map]at hx';obtain ⟨x0,h2,rfl⟩:=qc.1 hx';exact .inl ⟨λe=>hrt (by cases e;rfl),x0,by rw [qsf];exact h2,rfl⟩)
        (λq=>by
         rw [qcV (st:=({st with E:=_,B:=qbN st.B}:St)) hL,qcV hL];simp only [qbT];split
         ·simp
         ·rfl)
        (λq c' hq=>by
         rw [qcV (st:=({st with E:=_,B:=qbN st.B}:St)) hL]at hq;rw [qcV hL];simp only [qbT]at hq;split at hq
         ·rename_i h0;obtain ⟨c,hc,rfl⟩:=qc.1 hq;exact ⟨c,by rw [if_pos h0];exact hc,.inl ⟨by simp,rfl⟩⟩
         ·cases hq)
       exact qrK (w:=w1) ⟨X,O2,hR2,hF2,hM2⟩ k os d v2
    ·cases hx1
   ·cases hx1
  ·rename_i hE;obtain ⟨v,_,_,hv,hr⟩:=hgetD _ hE (by simp);simp only [Rep]at hr;obtain ⟨zs',hG0,hs⟩:=qc.1 hx1;subst hs;exact empty none 0 zs' (by rw [hv];exact hr.1) hG0
  ·cases hx1
 ·cases hx1
theorem qgo{w0:World}{X0:Cx}{Md:Md}{n:Nat}{st:St}{a:Act}(hS:qew w0 X0 Md n st a w)(d:Option Tmp)(v:Value):qew w0 X0 Md n (st.put d .undef) (a.put d v) w:=by
 obtain ⟨X,O,h,hF,hM⟩:=hS;have hdef:(a.put d v).defers=a.defers:=by cases d<;>rfl
 refine ⟨X,qg1 O [] d st.E.length [],?_,hF.qin d (by simp),by rw [hdef];exact hM⟩;rw [qbV];exact h.qin d (by simp [Rep]) Lin.nil (by simp) (by simp [V.qq])
theorem qsR(hT:qoC P H){F:Fence}{w0:World}{X0:Cx}{Md:Md}{n:Nat}(hFO:FOk F X0 Md n){bid id:Nat}{ops:Array Oper}{draw:Bool}{st st':St}{e:Ex}{a:Act}{p}(hS:qew w0 X0 Md n st a w)
  {st0:St} (hcl:st0.clear (H.pre f id)=some st) (hnt:qgy H ops draw=some p) (hsp:H.sp f id=0) (hx:ex P H C f bid (.region id ops draw) st0=some (e,st')):(Code.region id ops draw).wpIn F 0 P (λe' a' w'=>e'=e.qoS/\qew w0 X0 Md n st' a' w') a w:=by
 obtain ⟨G,t,e1,d⟩:=p;simp only [ex,hcl,hsp,hnt,if_true]at hx;split at hx
 ·rename_i hlt;obtain ⟨s,hx1,hx2⟩:=qc.1 hx;simp only [Prod.mk.injEq]at hx2;obtain ⟨rfl,rfl⟩:=hx2;obtain ⟨rfl,m,o,c,g,rfl,hmop,hmd,hmg,hne,hop,hcal,hargs,hG,hgd,rfl⟩:=qtd hnt;have hFF:=qeG hFO;have hsz:e1<a.tmps.size:=by
   obtain ⟨X,O,h,_,_⟩:=hS;rw [h.size];exact hlt
  refine wpIn_region ?_;have hr:List.range (#[m,o]:Array Oper).size=[0,1]:=rfl;rw [hr,wpOpsIn_cons];unfold wpOpIn;have hm0:(#[m,o]:Array Oper)[0]?=some m:=rfl;rw [hm0];have hwant:Region.wanted m (yielded #[m,o] a.tmps)=true:=by unfold Region.wanted;rw [hmg]
  simp only [hwant,if_true];refine ⟨λg _=>qf1 hFF g,?_⟩;rw [Oper.semAt_eq _ _ _ (by intro c hc;rw [hmop]at hc;cases hc)];have hrun1:(execOp a.eval m).run P w=.ok (.value (a.tmps.getD t undef)) w:=by simp only [execOp,hmop,Sem.run_pure]<;>rfl
  rw [hrun1,Oper.uponIn_value,hmd];have hS1:=qgo hS (some e1) (a.tmps.getD t undef);have hv1:(a.put (some e1) (a.tmps.getD t undef)).tmps.getD e1 undef=a.tmps.getD t undef:=qcj hsz;have hv2:(a.put (some e1) (a.tmps.getD t undef)).tmps.getD t undef=a.tmps.getD t undef:=qfg (by intro h;cases h;exact hne rfl);have key:=qxZ (hT g G hG) hFO hS1 hx1;rw [hv2]at key;generalize ha1:a.put (some e1) (a.tmps.getD t undef)=a1 at key hv1;rw [wpOpsIn_cons];unfold wpOpIn;have ho:(#[m,o]:Array Oper)[1]?=some o:=rfl;rw [ho];have hwant2:Region.wanted o (yielded #[m,o] a1.tmps)=true:=by unfold Region.wanted;rw [hgd]
  simp only [hwant2,if_true];refine ⟨λg _=>qf1 hFF g,?_⟩;rw [Oper.semAt_eq _ _ _ (by intro c hc;rw [hop]at hc;cases hc)];have hexec:execOp a1.eval o=(do let d <- resolve a1.eval c o.type;invoke d.target d.args):=by simp only [execOp,hop]
  have hres:resolve a1.eval c o.type=Deferred.ofValue (a1.eval (.func g)) (c.args.map a1.eval):=by simp only [resolve,hcal]
  have hev:a1.eval (.func g)=.func (.func g) #[] #[]:=rfl;rw [hexec,hres,hev,hargs];have hrun:(Deferred.ofValue (.func (.func g) #[] #[]) ((#[.tmp e1]:Array Operand).map a1.eval) >>= λd=>invoke d.target d.args).run P w=(callFunc g #[a.tmps.getD t undef]).run P w:=by
   simp only [Deferred.ofValue,Sem.run_bind,Sem.run_pure,Result.andThen_ok,invoke];congr 2
   apply Array.ext';simp [Act.eval,hv1]
  rw [hrun];refine qek hFF (key.mono (λh=>h) λv w' hS'=>?_);exact ⟨rfl,hS'⟩
 ·cases hx
end
section
variable {P:Program}
def Calm{α:Type}(P:Program)(s:Sem α):Prop:=∀(w:World) (a:α) (w1:World),s.run P w=.ok a w1->w1=w/\∀w2,s.run P w2=.ok a w2
def qul{α:Type}(P:Program)(s:Sem α):Prop:=∀(w:World) (a:α) (w1:World),s.run P w≠.ok a w1
theorem qul.calm{α:Type}{s:Sem α}(h:qul P s):Calm P s:=λw a w1 e=>absurd e (h w a w1)
theorem qaM{α:Type}(a:α):Calm P (pure a:Sem α):=λw b w1 h=>by
 have h:Result.ok a w=.ok b w1:=h;cases h;exact ⟨rfl,λ_=>rfl⟩
theorem qa4{α:Type}(h:Halt):qul P (.halt h:Sem α):=λw a w1 e=>by
 have e:(Result.halt h w:Result α)=.ok a w1:=e;cases e
theorem Calm.bind{α β:Type}{s:Sem α}{f:α->Sem β}(hs:Calm P s)(hf:∀a,Calm P (f a)):Calm P (s >>= f):=λw b w1 h=>by
 rw [Sem.run_bind]at h;cases hr:s.run P w with
 |halt x w'=>rw [hr]at h;cases h
 |ok a w' =>
  rw [hr,Result.andThen_ok]at h;obtain ⟨rfl,h2⟩:=hs w a w' hr;obtain ⟨rfl,h3⟩:=hf a _ b w1 h;exact ⟨rfl,λw2=>by rw [Sem.run_bind,h2 w2,Result.andThen_ok,h3 w2]⟩
theorem qul.bind{α β:Type}{s:Sem α}{f:α->Sem β}(hf:∀a,qul P (f a)):qul P (s >>= f):=λw b w1 h=>by
 rw [Sem.run_bind]at h;cases hr:s.run P w with
 |halt x w'=>rw [hr]at h;cases h
 |ok a w'=>rw [hr,Result.andThen_ok]at h;exact hf a w' b w1 h
theorem qks:Calm P program:=λw a w1 h=>by
 have h:Result.ok P w=.ok a w1:=h;cases h;exact ⟨rfl,λ_=>rfl⟩
theorem qeB(t:TypeId):Calm P (underlying t):=by
 unfold underlying;refine qks.bind λp=>?_;cases p.underlying t with
 |none=>exact (qa4 _).calm
 |some d=>exact qaM d
theorem qoL(t:TypeId):Calm P (typeInfo t):=by
 unfold typeInfo;refine qks.bind λp=>?_;cases p.info? t with
 |none=>exact (qa4 _).calm
 |some d=>exact qaM d
theorem qlt(t:TypeId):Calm P (sizeOf t):=by
 unfold sizeOf;exact (qoL t).bind λ_=>qaM _
theorem qfW(v:Value):Calm P (Instr.sureAddr v):=by
 unfold Instr.sureAddr;split
 ·exact qaM _
 ·exact (qa4 _).calm
theorem qqo(v:Value):Calm P (asIntOf v):=by
 unfold asIntOf;split
 ·exact qaM _
 ·exact (qa4 _).calm
 ·exact (qa4 _).calm
theorem qdx{α:Type}(e:RuntimeError):qul P (runtimePanic e:Sem α):=by
 unfold runtimePanic;refine qul.bind λp=>?_;dsimp only;cases e<;>first|exact qa4 _|(refine qul.bind λ_=>qul.bind λ_=>?_;exact qa4 _)
theorem qkS{α:Type}(k:IntKind)(x y:Int)(c:BoundsCode):qul P (boundsPanic k x y c:Sem α):=by
 unfold boundsPanic;dsimp only;split<;>exact qul.bind λ_=>qdx _
theorem qqq(t:TypeId)(x ix:Value):Calm P (Instr.indexAt t x ix):=by
 unfold Instr.indexAt;refine (qqo ix).bind λki=>?_;refine (qeB t).bind λd=>?_
 extract_lets jp
 have hj:∀q,Calm P (jp q):=by
  rintro ⟨base,len,elem⟩;simp only [jp];refine (qeB t).bind λd2=>?_;repeat' split
  all_goals first
   |exact (qlt _).bind λ_=>qaM _
   |exact (qa4 _).calm
   |exact (qkS _ _ _ _).calm
 split
 ·exact (qfW _).bind λ_=>(qaM _).bind λ_=>hj _
 ·exact (qaM _).bind λ_=>hj _
 ·exact (qul.calm (qa4 _)).bind λ_=>hj _
theorem qr9(op:BinOp)(t:TypeId)(k k':IntKind)(a b:Int)(x y:Operand):Calm P (do eqGuard op t x y (.int k a) (.int k' b);binOp op t (.int k a) (.int k' b)):=by
 refine Calm.bind ?_ λ_=>?_
 ·unfold eqGuard;cases op<;>exact qaM _
 ·have hs:Calm P (Op.shift op k a k' b):=by
   unfold Op.shift;split
   ·exact (qdx _).calm
   ·cases op<;>first|exact qaM _|exact (qa4 _).calm
  have hm : Calm P (if k ≠ k' then stuck "BinOp: operands of different kinds" else
    match op with
    |.add|.sub|.mul=>Op.intArith op k a b
    |.quo|.rem=>Op.intDiv op k a b
    |.and|.or|.xor|.andNot=>Op.intBits op k a b
    |_=>Op.intCmp op a b):=by
   split
   ·exact (qa4 _).calm
   ·have hd:∀o,Calm P (Op.intDiv o k a b):=λo=>by
     unfold Op.intDiv;split
     ·exact (qdx _).calm
     ·cases o<;>first|exact qaM _|exact (qa4 _).calm
    cases op<;>first|exact hd _|exact qaM _|exact (qa4 _).calm
  cases op<;>first|exact hs|exact hm
theorem Calm.qBe{α β:Type}{s:Sem α}{f:α->Sem β}(hs:Calm P s)(hf:∀w a w1,s.run P w=.ok a w1->Calm P (f a)):Calm P (s >>= f):=λw b w1 h=>by
 rw [Sem.run_bind]at h;cases hr:s.run P w with
 |halt x w'=>rw [hr]at h;cases h
 |ok a w' =>
  rw [hr,Result.andThen_ok]at h;have hc:=hf w a w' hr;obtain ⟨rfl,h2⟩:=hs w a w' hr;obtain ⟨rfl,h3⟩:=hc _ b w1 h;exact ⟨rfl,λw2=>by rw [Sem.run_bind,h2 w2,Result.andThen_ok,h3 w2]⟩
theorem qqp{s:TypeId}{f:Nat}(h:qAg P s f=true)(x:Value):Calm P (Instr.fieldAt s x f):=by
 unfold Instr.fieldAt;refine (qeB s).qBe λw d w1 hd=>?_;have hu:P.underlying s=some d:=by
  unfold underlying at hd;rw [Sem.run_bind] at hd;have hd : (match P.underlying s with | some d => (pure d : Sem TypeDesc) | none => stuck "no such type").run P w = .ok d w1 := hd;cases hh : P.underlying s with
  |none=>rw [hh]at hd;exact absurd hd (qa4 _ _ _ _)
  |some d'=>rw [hh]at hd;have hd:Result.ok d' w=.ok d w1:=hd;cases hd;rfl
 unfold qAg at h;rw [hu]at h;split
 ·rename_i fields;simp only at h;cases hf:fields[f]? with
  |none=>rw [hf]at h;cases h
  |some fd =>
   rw [hf]at h;simp only at h;refine (qfW x).bind λa=>?_;refine Calm.bind ?_ λ_=>qaM _;unfold fieldPlace;refine (qlt _).qBe λw n w1 hn=>?_;have hn0:n≠0:=by
    unfold sizeOf typeInfo at hn;cases hi:P.info? fd.type with
    |none=>rw [hi]at h;cases h
    |some i =>
     rw [hi] at h;have hn : (do let i <- (match P.info? fd.type with | some i => (pure i : Sem TypeInfo) | none => stuck "no such type"); pure i.size : Sem Nat).run P w = .ok n w1 := hn;rw [hi] at hn;have hn : Result.ok i.size w = .ok n w1 := hn;cases hn;simpa using h
   rw [if_neg hn0];exact qaM _
 ·exact (qa4 _).calm
def qh3(ρ:Operand->Value)(o:Oper):Prop:=∀op t x y t2,o.op=.binOp op t x y t2->∃k a k' b,ρ x=.int k a/\ρ y=.int k' b
theorem qjA{s:Sem Value}(h:Calm P s):Calm P (do pure (Next.value (<- s))):=h.bind λ_=>qaM _
theorem qhA{o:Oper}{ρ:Operand->Value}(hq:qg2 P o=true)(hi:qh3 ρ o):Calm P (execOp ρ o):=by
 unfold qg2 at hq;simp only [qe]at hq;have hq:=hq.2;split at hq
 ·rename_i x hop;simp only [execOp,hop];exact qaM _
 ·rename_i t x ix hop;simp only [execOp,hop];exact qjA (qqq _ _ _)
 ·rename_i op t x y t2 hop;obtain ⟨k,a,k',b,h1,h2⟩:=hi _ _ _ _ _ hop;simp only [execOp,hop,h1,h2];exact qjA (qr9 op t k k' a b x y)
 ·rename_i s x f hop;simp only [execOp,hop];exact qjA (qqp hq _)
 ·cases hq
def qBD:Next->Option Value
 |.value v=>some v
 |.skip=>some undef
 |_=>none
def cx1(P:Program)(o:Oper)(s:Act×World):Option (Act×World):=match (execOp s.1.eval o).run P s.2 with
 |.ok n w'=>(qBD n).map λv=>(s.1.put o.dst v,w')
 |.halt ..=>none
theorem qeE{o:Oper}{s s':Act×World}:cx1 P o s=some s'↔∃n v w',(execOp s.1.eval o).run P s.2=.ok n w'/\qBD n=some v/\s'=(s.1.put o.dst v,w'):=by
 unfold cx1;cases h:(execOp s.1.eval o).run P s.2 with
 |halt x w=>simp
 |ok n w' =>
  simp only [qc,Result.ok.injEq];constructor
  ·rintro ⟨v,h1,rfl⟩;exact ⟨n,v,w',⟨rfl,rfl⟩,h1,rfl⟩
  ·rintro ⟨_,v,_,⟨rfl,rfl⟩,h1,rfl⟩;exact ⟨v,h1,rfl⟩
structure Apt (x y:Oper):Prop where
 xy:∀d,x.dst=some d->Operand.tmp d∉y.op.operands
 yx:∀d,y.dst=some d->Operand.tmp d∉x.op.operands
 ne:∀d,x.dst=some d->y.dst≠some d
 sx:∀cs b,x.op≠.select cs b
 sy:∀cs b,y.op≠.select cs b
theorem qtt{x:Oper}{a:Act}{d:Option Tmp}{v:Value}(hs:∀cs b,x.op≠.select cs b)(h:∀t,d=some t->Operand.tmp t∉x.op.operands):execOp (a.put d v).eval x=execOp a.eval x :=
 execOp_congr x hs λo ho=>Act.eval_put λt ht e=>h t ht (e▸ho)
theorem qm3{x y:Oper}{a:Act}{w:World}{s1 s2:Act×World}(ha:Apt x y)(h1:cx1 P x (a,w)=some s1)(h2:cx1 P y s1=some s2)
  (hw:∀n w1 m w2,(execOp a.eval x).run P w=.ok n w1->(execOp a.eval y).run P w1=.ok m w2->∃w1',(execOp a.eval y).run P w=.ok m w1'/\(execOp a.eval x).run P w1'=.ok n w2) :
  ∃s1',cx1 P y (a,w)=some s1'/\cx1 P x s1'=some s2:=by
 obtain ⟨n,v,w1,r1,e1,rfl⟩:=qeE.1 h1;obtain ⟨m,u,w2,r2,e2,rfl⟩:=qeE.1 h2;simp only at r1 r2;rw [qtt ha.sy ha.xy]at r2;obtain ⟨w1',r3,r4⟩:=hw n w1 m w2 r1 r2;refine ⟨(a.put y.dst u,w1'),qeE.2 ⟨m,u,w1',r3,e2,rfl⟩,qeE.2 ⟨n,v,w2,?_,e1,?_⟩⟩
 ·simp only;rw [qtt ha.sx ha.yx];exact r4
 ·simp only;rw [Act.put_comm a v u ha.ne]
theorem qAH{x y:Oper}{a:Act}{w:World}{s1 s2:Act×World}(ha:Apt x y)(hq:qg2 P x=true)(hi:qh3 a.eval x)(h1:cx1 P x (a,w)=some s1)(h2:cx1 P y s1=some s2) :
  ∃s1',cx1 P y (a,w)=some s1'/\cx1 P x s1'=some s2 :=
 qm3 ha h1 h2 λn w1 m w2 r1 r2=>by
  obtain ⟨rfl,h3⟩:=qhA hq hi w n w1 r1;exact ⟨w2,r2,h3 w2⟩
theorem qAI{x y:Oper}{a:Act}{w:World}{s1 s2:Act×World}(ha:Apt x y)(hq:qg2 P y=true)(hi:qh3 a.eval y)(h1:cx1 P x (a,w)=some s1)(h2:cx1 P y s1=some s2) :
  ∃s1',cx1 P y (a,w)=some s1'/\cx1 P x s1'=some s2 :=
 qm3 ha h1 h2 λn w1 m w2 r1 r2=>by
  obtain ⟨rfl,h3⟩:=qhA hq hi w1 m w2 r2;exact ⟨w,h3 w,r1⟩
def cxs(P:Program)(ops:Array Oper):List Nat->Act×World->Option (Act×World)
 |[],s=>some s
 |i::l,s=>match ops[i]? with
  |some o=>(cx1 P o s).bind (cxs P ops l)
  |none=>none
theorem qcH{ops:Array Oper}{i:Nat}{l:List Nat}{s t:Act×World}:cxs P ops (i::l) s=some t↔∃o s1,ops[i]?=some o/\cx1 P o s=some s1/\cxs P ops l s1=some t:=by
 simp only [cxs];cases h:ops[i]? with
 |none=>simp
 |some o =>
  simp only [qd,qb];constructor
  ·rintro ⟨s1,h1,h2⟩;exact ⟨o,s1,rfl,h1,h2⟩
  ·rintro ⟨_,s1,rfl,h1,h2⟩;exact ⟨s1,h1,h2⟩
def Comm(P:Program)(ops:Array Oper)(Inv:Act×World->Prop)(fin:Act×World)(j i:Nat)(rest:List Nat):Prop :=
 ∀(x y:Oper) (s s1 s2:Act×World),ops[j]?=some x->ops[i]?=some y->Inv s->cx1 P x s=some s1->cx1 P y s1=some s2->cxs P ops rest s2=some fin->∃s1',cx1 P y s=some s1'/\cx1 P x s1'=some s2
def qzX(P:Program)(ops:Array Oper)(Inv:Act×World->Prop)(fin:Act×World)(i:Nat)(rest:List Nat):Prop :=
 ∀(o:Oper) (s s':Act×World),ops[i]?=some o->Inv s->cx1 P o s=some s'->cxs P ops rest s'=some fin->Inv s'
theorem qts{ops:Array Oper}{Inv:Act×World->Prop}{fin:Act×World}{i:Nat}{B:List Nat}:∀(A:List Nat) (s:Act×World),(∀A1 j A2,A=A1++j::A2->qzX P ops Inv fin j (A2++i::B))->Inv s->cxs P ops (A++i::B) s=some fin ->
  (∀A1 j A2,A=A1++j::A2->Comm P ops Inv fin j i (A2++B))->cxs P ops (i::(A++B)) s=some fin
 |[],s,_,_,h,_=>h
 |j::A,s,hK,hI,h,hA=>by
  rw [List.cons_append,qcH]at h;obtain ⟨x,s1,hx,h1,h2⟩:=h;have h3:=qts A s1 (λA1 k A2 e=>hK (j::A1) k A2 (by rw [e];rfl)) (hK [] j A rfl x s s1 hx hI h1 h2) h2 λA1 k A2 e=>hA (j::A1) k A2 (by rw [e];rfl);rw [qcH]at h3;obtain ⟨y,s2,hy,h4,h5⟩:=h3;obtain ⟨s1',h6,h7⟩:=hA [] j A rfl x y s s1 s2 hx hy hI h1 h4 h5;rw [qcH];exact ⟨y,s1',hy,h6,by rw [List.cons_append,qcH];exact ⟨x,s2,hx,h7,h5⟩⟩
theorem qfI{o:Oper}(h:qbU P o=true):o.guard=none/\(∀c,o.op≠.call c)/\(∀c,o.op≠.defer c)/\∀cs b,o.op≠.select cs b:=by
 unfold qbU qg2 at h;simp only [qe,Option.isNone_iff_eq_none,Bool.or_eq_true]at h;refine ⟨h.1,λc e=>?_,λc e=>?_,λcs b e=>?_⟩<;>rw [e]at h<;>simp at h
theorem qBO{F:Fence}{ops:Array Oper}{Q:Exit->Act->World->Prop}{i:Nat}{o:Oper}{s s':Act×World}{K:Act->World->Prop}(ho:ops[i]?=some o)(hp:qbU P o=true)(h:cx1 P o s=some s')(hK:K s'.1 s'.2):wpOpIn F 0 P ops Q i K s.1 s.2:=by
 obtain ⟨hg,hc,hd,_⟩:=qfI hp;obtain ⟨n,v,w',hr,hv,rfl⟩:=qeE.1 h;unfold wpOpIn;rw [ho];have hwant:Region.wanted o (yielded ops s.1.tmps)=true:=by unfold Region.wanted;rw [hg]
 simp only [hwant,if_true];refine ⟨λf hf=>?_,?_⟩
 ·unfold Oper.about at hf;cases hop:o.op<;>rw [hop]at hf<;>first|cases hf|exact absurd hop (hc _)
 ·rw [Oper.semAt_eq _ _ _ hd,hr];cases n<;>simp only [qBD,qb,reduceCtorEq]at hv
  ·subst hv;rw [Oper.uponIn_value];exact hK
  ·subst hv;rw [Oper.uponIn_skip];exact hK
theorem qgJ{p:Nat->Bool}{l A B:List Nat}{i:Nat}(hnd:l.Nodup)(h:l.filter p=A++i::B):∃A' B',l=A'++i::B'/\A=A'.filter p/\B=B'.filter p:=by
 have hi:i∈l:=(List.mem_filter.1 (by rw [h];simp:i∈l.filter p)).1;have hpi:p i=true:=(List.mem_filter.1 (by rw [h];simp:i∈l.filter p)).2;obtain ⟨A',B',rfl⟩:=List.append_of_mem hi;have hnd':(A'.filter p++i::B'.filter p).Nodup:=by
  have:=hnd.filter p
  rwa [List.filter_append,List.filter_cons,if_pos hpi]at this
 rw [List.filter_append,List.filter_cons,if_pos hpi]at h;refine ⟨A',B',rfl,?_⟩;have key:∀(X Y U W:List Nat),(X++i::Y).Nodup->X++i::Y=U++i::W->U=X/\W=Y:=by
  intro X;induction X with
  |nil =>
   intro Y U W hn e;cases U with
   |nil=>simp at e;exact ⟨rfl,e.symm⟩
   |cons u U =>
    simp only [List.nil_append,List.cons_append,List.cons.injEq]at e;obtain ⟨rfl,e⟩:=e;simp only [List.nil_append,List.nodup_cons]at hn;exact absurd (by rw [e];simp) hn.1
  |cons x X ih =>
   intro Y U W hn e;cases U with
   |nil =>
    simp only [List.nil_append,List.cons_append,List.cons.injEq]at e;obtain ⟨rfl,e⟩:=e;simp only [List.cons_append,List.nodup_cons]at hn;exact absurd (by simp) hn.1
   |cons u U =>
    simp only [List.cons_append,List.cons.injEq]at e;obtain ⟨rfl,e⟩:=e;simp only [List.cons_append,List.nodup_cons]at hn;obtain ⟨h1,h2⟩:=ih Y U W hn.2 e;exact ⟨by rw [h1],h2⟩
 obtain ⟨h1,h2⟩:=key _ _ _ _ hnd' h;exact ⟨h1,h2⟩
theorem qcW{j:Nat}:∀{l:List Nat},j∈l->j∈qd7 l
 |x::l,h=>by
  unfold qd7;split
  ·rename_i hc;rcases qk.1 h with rfl|h
   ·exact qcW (by simpa using hc)
   ·exact qcW h
  ·rcases qk.1 h with rfl|h
   ·simp
   ·exact List.mem_cons_of_mem _ (qcW h)
theorem qA8{ops:Array Oper}(hb:∀(k:Nat) (o:Oper),ops[k]?=some o->∀j∈qaC o,j<k)(k:Nat)(o:Oper)(ho:ops[k]?=some o)(j:Nat)(hj:j∈qaC o):j∈(qd0 ops.toList).getD k []:=by
 rw [qiH ops.toList k o (by simpa using ho) (hb k o ho)];exact qcW (List.mem_flatMap.2 ⟨j,hj,by simp⟩)
theorem qBa{F:Fence}{ops:Array Oper}{Q:Exit->Act->World->Prop}{fin:Act×World}{π:List Nat}(hall:∀i,i<ops.size->i∈π)(hnd:π.Nodup)
  (hb:∀(k:Nat) (o:Oper),ops[k]?=some o->∀j∈qaC o,j<k) (hext:∀A i B,π=A++i::B->∀y:Oper,ops[i]?=some y->∀j∈(qd0 ops.toList).getD i [],j∈A)
  (hpl:∀(i:Nat) (o:Oper),ops[i]?=some o->qbU P o=true) {Inv:Act×World->Prop} (hinv:∀(i:Nat) (rest:List Nat),(∀k∈rest,k∉(qd0 ops.toList).getD i [])->qzX P ops Inv fin i rest)
  (hcomm:∀A j B i C D,π=A++j::(B++i::C)->j∉(qd0 ops.toList).getD i []->i∉(qd0 ops.toList).getD j []->(∀k∈D,(k∈B\/k∈C)/\k∉(qd0 ops.toList).getD i []/\k∉(qd0 ops.toList).getD j [])->Comm P ops Inv fin j i D) (hQ:Q .normal fin.1 fin.2) :
  ∀(fuel:Nat) (listed:Array Bool) (s:Act×World),listed.size=ops.size->Down ops listed->(π.filter λk=>!listed.getD k true).length<=fuel->Inv s->cxs P ops (π.filter λk=>!listed.getD k true) s=some fin->wpAnyIn F 0 P .any ops Q fuel listed s.1 s.2:=by
 have hready:∀(listed:Array Bool),listed.size=ops.size->Down ops listed->Region.ready .any ops listed=[]->(π.filter λk=>!listed.getD k true)=[]:=by
  intro listed hsz hd hr;cases hR:π.filter λk=>!listed.getD k true with
  |nil=>rfl
  |cons k R =>
   exfalso
   obtain ⟨A,B,hπ,hA,_⟩:=qgJ (A:=[]) hnd hR;have hk:=(List.mem_filter.1 (by rw [hR];simp:k∈π.filter λk=>!listed.getD k true)).2;have hun:listed.getD k true=false:=by simpa using hk
   have hlt:k<ops.size:=by
    false_or_by_contra
    simp [Array.getD,show ¬ k<listed.size by omega]at hun
   obtain ⟨o,ho⟩:∃o,ops[k]?=some o:=⟨ops[k],Array.getElem?_eq_getElem hlt⟩
   have:k∈Region.ready .any ops listed:=by
    rw [mem_ready];refine ⟨by simpa using hun,o,ho,λe he hbd=>?_⟩;have hek:e.on∈qaC o:=qen.2 ⟨e,he,hbd,rfl⟩;have hlt2:=hb k o ho e.on hek;have hinA:e.on∈A:=hext A k B hπ o ho e.on (qA8 hb k o ho e.on hek);have hnl:¬ (λk=>!listed.getD k true) e.on=true:=λhh=>by
     have:e.on∈A.filter λk=>!listed.getD k true:=List.mem_filter.2 ⟨hinA,hh⟩;rw [<- hA]at this;simp at this
    have hlist:listed.getD e.on true=true:=by simpa using hnl
    have:e.on<listed.size:=by omega
    simp [Array.getD,this]at hlist ⊢;exact hlist
   rw [hr]at this;simp at this
 intro fuel;induction fuel with
 |zero =>
  intro listed s hsz hd hlen hI hx;have hnil:(π.filter λk=>!listed.getD k true)=[]:=List.eq_nil_of_length_eq_zero (by omega);rw [hnil]at hx;simp only [cxs,qb]at hx;subst hx;refine ⟨?_,hQ⟩;cases hr:Region.ready .any ops listed with
  |nil=>rfl
  |cons i R =>
   have hi:i∈Region.ready .any ops listed:=by rw [hr];simp
   obtain ⟨h1,o,ho,_⟩:=mem_ready.1 hi;have:i∈π.filter λk=>!listed.getD k true:=List.mem_filter.2 ⟨hall i (Array.getElem?_eq_some_iff.1 ho).1,by simp [h1]⟩;rw [hnil]at this;simp at this
 |succ fuel ih =>
  intro listed s hsz hd hlen hI hx;refine ⟨λhr=>?_,λi hi=>?_⟩
  ·rw [hready listed hsz hd hr]at hx;simp only [cxs,qb]at hx;subst hx;exact hQ
  ·obtain ⟨hun,y,hy,hall2⟩:=mem_ready.1 hi;have hilt:i<ops.size:=(Array.getElem?_eq_some_iff.1 hy).1;have hiR:i∈π.filter λk=>!listed.getD k true:=List.mem_filter.2 ⟨hall i hilt,by simp [hun]⟩;obtain ⟨A,B,hAB⟩:=List.append_of_mem hiR;obtain ⟨A',B',hπ,hA,hB⟩:=qgJ hnd hAB;have hlistedE:∀j∈qaC y,listed.getD j true=true:=λj hj=>by
    obtain ⟨e,he,hbd,rfl⟩:=qen.1 hj;have h1:=hall2 e he hbd;have hlt:=hb i y hy e.on hj;have:e.on<listed.size:=by omega
    simp [Array.getD,this]at h1 ⊢;exact h1
   have hanc:=qfr hsz hb hd i i y (Nat.le_refl _) hy hlistedE;rw [hAB]at hx;have hun2:∀k,k∈A\/k∈B->listed.getD k true=false:=λk hk=>by
    have:k∈π.filter λk=>!listed.getD k true:=by rw [hAB];rcases hk with hk|hk<;>simp [hk]
    simpa using (List.mem_filter.1 this).2
   have hnai:∀k,k∈A\/k∈B->k∉(qd0 ops.toList).getD i []:=λk hk h3=>by
    have:=hanc k h3;rw [hun2 k hk]at this;cases this
   have hlater:∀(X:List Nat) (j:Nat) (Y:List Nat),π=X++j::Y->listed.getD j true=false->∀k∈Y,k∉(qd0 ops.toList).getD j []:=λX j Y hπ2 hjun k hk h3=>by
    have hjlt:∃x,ops[j]?=some x:=by
     cases hx2:ops[j]? with
     |some x=>exact ⟨x,rfl⟩
     |none =>
      have:¬ j<listed.size:=by
       rw [hsz];intro hh;rw [Array.getElem?_eq_getElem hh]at hx2;cases hx2
      simp [Array.getD,this]at hjun
    obtain ⟨x,hx2⟩:=hjlt;have h4:=hext X j Y hπ2 x hx2 k h3;rw [hπ2]at hnd;exact (List.nodup_append.1 hnd).2.2 k h4 k (by simp [hk]) rfl
   have hsub:∀A1 j A2,A=A1++j::A2->∃A1' A2',π=A1'++j::(A2'++i::B')/\A2=A2'.filter (λk=>!listed.getD k true):=λA1 j A2 e=>by
    obtain ⟨A1',A2',hA',_,hA2⟩:=qgJ (l:=A') (p:=λk=>!listed.getD k true) (A:=A1) (B:=A2) (i:=j) ((List.nodup_append.1 (hπ▸hnd)).1) (by rw [<- hA,e]);exact ⟨A1',A2',by rw [hπ,hA'];simp,hA2⟩
   have hfront:=qts A s (λA1 j A2 e=>by
    obtain ⟨A1',A2',hπ2,hA2⟩:=hsub A1 j A2 e;refine hinv j _ λk hk=>hlater A1' j _ hπ2 (hun2 j (.inl (by rw [e];simp))) k ?_;rcases qj.1 hk with hk|hk
    ·rw [hA2]at hk;simp [(List.mem_filter.1 hk).1]
    ·rcases qk.1 hk with rfl|hk
     ·simp
     ·rw [hB]at hk;simp [(List.mem_filter.1 hk).1]) hI hx λA1 j A2 e=>by
    obtain ⟨A1',A2',hπ2,hA2⟩:=hsub A1 j A2 e;have hjA:j∈A:=by rw [e];simp
    have hjun:=hun2 j (.inl hjA);have hk2:∀k∈A2++B,k∈A2'\/k∈B':=λk hk=>by
     rcases qj.1 hk with hk|hk
     ·rw [hA2]at hk;exact .inl (List.mem_filter.1 hk).1
     ·rw [hB]at hk;exact .inr (List.mem_filter.1 hk).1
    refine hcomm A1' j A2' i B' (A2++B) hπ2 (hnai j (.inl hjA)) (hlater A1' j _ hπ2 hjun i (by simp)) (λk hk=>⟨hk2 k hk,hnai k ?_,hlater A1' j _ hπ2 hjun k ?_⟩)
    ·rcases qj.1 hk with hk|hk
     ·exact .inl (by rw [e];simp [hk])
     ·exact .inr hk
    ·rcases hk2 k hk with hk|hk<;>simp [hk]
   rw [qcH]at hfront;obtain ⟨y',s1,hy',h1,h2⟩:=hfront;rw [hy]at hy';cases hy';have hR':(π.filter λk=>!(listed.setIfInBounds i true).getD k true)=A++B:=by
    have e1:(π.filter λk=>!(listed.setIfInBounds i true).getD k true)=(π.filter λk=>!listed.getD k true).filter (λk=>decide (k≠i)):=by
     rw [List.filter_filter];refine List.filter_congr λk hk=>?_;by_cases hki:k=i
     ·subst hki;have:k<listed.size:=by omega
      simp [Array.getD,this]
     ·rw [getD_set_ne true (Ne.symm hki)];simp [hki]
    have hnd2:(A++i::B).Nodup:=hAB▸hnd.filter _;rw [e1,hAB,List.filter_append,List.filter_cons];simp only [ne_eq,not_true_eq_false,decide_false,qf,if_false];have eA:A.filter (λk=>decide (¬ k=i))=A:=List.filter_eq_self.2 λj hj=>by
     have:=(List.nodup_append.1 hnd2).2.2 j hj i (by simp);simpa using this
    have eB:B.filter (λk=>decide (¬ k=i))=B:=List.filter_eq_self.2 λj hj=>by
     have:=(List.nodup_cons.1 (List.nodup_append.1 hnd2).2.1).1;simp only [decide_not,Bool.not_eq_eq_eq_not,Bool.not_true,decide_eq_false_iff_not];rintro rfl;exact this hj
    rw [eA,eB]
   have hd':Down ops (listed.setIfInBounds i true):=by
    intro k o ho hk j hj;by_cases hji:j=i
    ·subst hji;have:j<listed.size:=by omega
     simp [Array.getD,this]
    ·rw [getD_set_ne true (Ne.symm hji)];by_cases hki:k=i
     ·subst hki;rw [hy]at ho;cases ho;exact hlistedE j hj
     ·rw [getD_set_ne true (Ne.symm hki)]at hk;exact hd k o ho hk j hj
   refine qBO (s':=s1) hy (hpl i y hy) h1 (ih (listed.setIfInBounds i true) s1 (by simp [hsz]) hd' ?_ (hinv i (A++B) (λk hk=>hnai k (qj.1 hk)) y s s1 hy hI h1 h2) (by rw [hR'];exact h2));rw [hR'];rw [hAB]at hlen;simp only [List.length_append,List.length_cons]at hlen ⊢;omega
def qvJ(P:Program)(w0:World)(SB:Nat->Option Nat)(a:Act)(o:Oper):Prop :=
 ∀t ad,o.op=.load t ad->∃b k v d,a.eval ad=.pointer (some ⟨b,k,none⟩)/\SB b=none/\w0.cell? ⟨b,k,none⟩=some v/\P.underlying t=some d/\qO P t=false
def qvN(P:Program)(SB:Nat->Option Nat)(a:Act)(o:Oper):Prop :=
 ∀t ad xo,o.op=.store t ad xo->∃d b k n,ad=.tmp d/\P.cellsOf t≠0/\a.eval (.tmp d)=.pointer (some ⟨b,k,none⟩)/\SB b=some n/\(a.eval xo).cells.toList.length=P.cellsOf t/\k+(a.eval xo).cells.toList.length<=n/\∀c∈(a.eval xo).cells.toList,c.oneCell'=true
def qx2(w0:World)(SB:Nat->Option Nat)(w:World):Prop:=(∀b,SB b=none->w.heap[b]?=w0.heap[b]?)/\∀b n,SB b=some n->∃arr ty,w.heap[b]?=some (.cells arr ty (0,0))/\arr.size=n
theorem qv9{w w0:World}{b k:Nat}(h:w.heap[b]?=w0.heap[b]?):w.cell? ⟨b,k,none⟩=w0.cell? ⟨b,k,none⟩:=by
 simp only [World.cell?,h]
theorem qmW{w0 w:World}{SB:Nat->Option Nat}{a a':Act}{o:Oper}{t:TypeId}{ad:Operand}(hop:o.op=.load t ad)(hI:qx2 w0 SB w)(hF:qvJ P w0 SB a' o)(he:∀x∈o.op.operands,a.eval x=a'.eval x):∃v,∀w,qx2 w0 SB w->(execOp a.eval o).run P w=.ok (.value v) w:=by
 obtain ⟨b,k,v,d,h1,h2,h3,h4,h5⟩:=hF t ad hop;refine ⟨v,λw hI=>?_⟩;have e1:a.eval ad=.pointer (some ⟨b,k,none⟩):=by rw [he ad (by rw [hop];simp [Op.operands]),h1]
 have hc:w.cell? ⟨b,k,none⟩=some v:=by rw [qv9 (hI.1 b h2),h3]
 have:=qjl (P:=P) h4 h5 hc;simp only [execOp,hop,e1,Sem.run_bind,this,Result.andThen_ok,Sem.run_pure]
theorem qsT{w0:World}{SB:Nat->Option Nat}{a a':Act}{o:Oper}{t:TypeId}{ad xo:Operand}(hop:o.op=.store t ad xo)(hF:qvN P SB a' o)(he:∀x∈o.op.operands,a.eval x=a'.eval x) :
  ∀w,qx2 w0 SB w->∃w',(execOp a.eval o).run P w=.ok .skip w'/\qx2 w0 SB w':=by
 obtain ⟨d,b,k,n,rfl,h1,h2,h3,h4,h5,h6⟩:=hF t ad xo hop;intro w hI;have e1:a.eval (.tmp d)=.pointer (some ⟨b,k,none⟩):=by rw [he (.tmp d) (by rw [hop];simp [Op.operands]),h2]
 have e2:a.eval xo=a'.eval xo:=he xo (by rw [hop];simp [Op.operands]);obtain ⟨arr,ty,h7,h8⟩:=hI.2 b n h3;rw [<- e2]at h4 h5 h6;have hr:=run_store (P:=P) (a:=a) (d:=d) (xo:=xo) h1 e1 h7 h4 (by omega) h6;have hrun:(execOp a.eval o).run P w=.ok .skip (w.setRow b (rowAt arr k (a.eval xo).cells.toList)):=by
  simp only [execOp,hop,Sem.run_bind,hr,Result.andThen_ok,Sem.run_pure]
 refine ⟨_,hrun,λb' hb'=>?_,λb' n' hb'=>?_⟩
 ·rw [setRow_other w b b' _ (by rintro rfl;rw [h3]at hb';cases hb')];exact hI.1 b' hb'
 ·by_cases hbb:b'=b
  ·subst hbb;rw [h3]at hb';cases hb';refine ⟨_,ty,setRow_heap w b' arr _ ty (0,0) h7,?_⟩;have h9:k+(a.eval xo).cells.size<=arr.size:=by rw [h8];simpa using h5
   unfold rowAt;simp<;>omega
  ·rw [setRow_other w b b' _ hbb];exact hI.2 b' n' hb'
theorem qoM{ops:Array Oper}{t:Tmp}:∀{l:List Nat} {s fin:Act×World},cxs P ops l s=some fin->(∀k∈l,∀o,ops[k]?=some o->o.dst≠some t)->fin.1.eval (.tmp t)=s.1.eval (.tmp t)
 |[],s,fin,h,_=>by simp only [cxs,qb]at h;rw [h]
 |i::l,s,fin,h,hl=>by
  obtain ⟨o,s1,ho,h1,h2⟩:=qcH.1 h;obtain ⟨n,v,w',_,_,rfl⟩:=qeE.1 h1;rw [qoM h2 λk hk=>hl k (by simp [hk])];exact Act.eval_put λd hd e=>by cases e;exact hl i (by simp) o ho hd
structure RegOk (P:Program) (ops:Array Oper):Prop where
 plain:∀(i:Nat) (o:Oper),ops[i]?=some o->qbU P o=true
 self:∀(i:Nat) (o:Oper),ops[i]?=some o->∀d,o.dst=some d->Operand.tmp d∉o.op.operands
 stable:∀(c k:Nat) (oc ok:Oper),ops[c]?=some oc->ops[k]?=some ok->∀t,ok.dst=some t->Operand.tmp t∈oc.op.operands->k∈(qd0 ops.toList).getD c []
def qCA(o:Oper):Prop:=∃t ad,o.op=.load t ad
def qBq(o:Oper):Prop:=∃t ad xo,o.op=.store t ad xo
structure FinOk (P:Program) (ops:Array Oper) (w0:World) (SB:Nat->Option Nat) (a:Act):Prop where
 ints:∀(c:Nat) (o:Oper),ops[c]?=some o->qh3 a.eval o
 ld:∀(c:Nat) (o:Oper),ops[c]?=some o->qvJ P w0 SB a o
 st:∀(c:Nat) (o:Oper),ops[c]?=some o->qvN P SB a o
theorem qeP{o:Oper}(h:qbU P o=true):qg2 P o=true\/qCA o\/qBq o:=by
 unfold qbU at h;simp only [qe,Bool.or_eq_true]at h;rcases h.2 with h|h
 ·exact .inl h
 ·split at h
  ·rename_i t ad hop;exact .inr (.inl ⟨t,ad,hop⟩)
  ·rename_i t ad xo hop;exact .inr (.inr ⟨t,ad,xo,hop⟩)
  ·cases h
theorem qho{o:Oper}{a a':Act}(h:qh3 a'.eval o)(he:∀x∈o.op.operands,a.eval x=a'.eval x):qh3 a.eval o:=λop t x y t2 hop=>by
 obtain ⟨k,n,k',m,h1,h2⟩:=h op t x y t2 hop;exact ⟨k,n,k',m,by rw [he x (by rw [hop];simp [Op.operands]),h1],by rw [he y (by rw [hop];simp [Op.operands]),h2]⟩
theorem qmR{ops:Array Oper}(hR:RegOk P ops){l:List Nat}{s fin:Act×World}(h:cxs P ops l s=some fin){c:Nat}{oc:Oper}(hc:ops[c]?=some oc)(hl:∀k∈l,k∉(qd0 ops.toList).getD c []):∀x∈oc.op.operands,s.1.eval x=fin.1.eval x:=λx hx=>by
 cases x with
 |tmp t=>exact (qoM h λk hk o ho e=>hl k hk (hR.stable c k oc o hc ho t e hx)).symm
 |_=>rfl
theorem qyy{ops:Array Oper}{w0:World}{SB:Nat->Option Nat}{fin:Act×World}(hR:RegOk P ops)(hF:FinOk P ops w0 SB fin.1)(i:Nat)(rest:List Nat)(hrest:∀k∈rest,k∉(qd0 ops.toList).getD i []):qzX P ops (λs=>qx2 w0 SB s.2) fin i rest:=by
 intro o s s' ho hI h1 h2;have he':=qmR hR h2 ho hrest;obtain ⟨n,v,w',hr,hv,rfl⟩:=qeE.1 h1;have he:∀x∈o.op.operands,s.1.eval x=fin.1.eval x:=λx hx=>by
  rw [<- he' x hx];exact (Act.eval_put λd hd e=>hR.self i o ho d hd (e▸hx)).symm
 show qx2 w0 SB w';rcases qeP (hR.plain i o ho)with hq|⟨t,ad,hop⟩|⟨t,ad,xo,hop⟩
 ·obtain ⟨rfl,_⟩:=qhA hq (qho (hF.ints i o ho) he) s.2 n w' hr;exact hI
 ·obtain ⟨v',h3⟩:=qmW (P:=P) hop hI (hF.ld i o ho) he;rw [h3 _ hI]at hr;cases hr;exact hI
 ·obtain ⟨w2,h3,h4⟩:=qsT (P:=P) (w0:=w0) hop (hF.st i o ho) he s.2 hI;rw [h3]at hr;cases hr;exact h4
theorem qz8{ops:Array Oper}{w0:World}{SB:Nat->Option Nat}{fin:Act×World}(hR:RegOk P ops)(hF:FinOk P ops w0 SB fin.1){j i:Nat}{D:List Nat}(hpair:∀x y,ops[j]?=some x->ops[i]?=some y->Apt x y/\¬ (qBq x/\qBq y))
  (hD:∀k∈D,k∉(qd0 ops.toList).getD i []/\k∉(qd0 ops.toList).getD j []):Comm P ops (λs=>qx2 w0 SB s.2) fin j i D:=by
 intro x y s s1 s2 hx hy hI h1 h2 h3;obtain ⟨ha,hns⟩:=hpair x y hx hy;obtain ⟨n,v,w1,r1,e1,rfl⟩:=qeE.1 h1;obtain ⟨m,u,w2,r2,e2,rfl⟩:=qeE.1 h2;have hex:∀z∈x.op.operands,s.1.eval z=fin.1.eval z:=λz hz=>by
  rw [<- qmR hR h3 hx (λk hk=>(hD k hk).2) z hz];simp only
  rw [Act.eval_put λd hd e=>ha.yx d hd (e▸hz),Act.eval_put λd hd e=>hR.self j x hx d hd (e▸hz)]
 have hey:∀z∈y.op.operands,s.1.eval z=fin.1.eval z:=λz hz=>by
  rw [<- qmR hR h3 hy (λk hk=>(hD k hk).1) z hz];simp only
  rw [Act.eval_put λd hd e=>hR.self i y hy d hd (e▸hz),Act.eval_put λd hd e=>ha.xy d hd (e▸hz)]
 obtain ⟨a,w⟩:=s;simp only at hI hex hey;rcases qeP (hR.plain j x hx)with hq|hx2
 ·exact qAH ha hq (qho (hF.ints j x hx) hex) h1 h2
 rcases qeP (hR.plain i y hy)with hq|hy2
 ·exact qAI ha hq (qho (hF.ints i y hy) hey) h1 h2
 refine qm3 ha h1 h2 λn w1 m w2 r1 r2=>?_;rcases hx2 with ⟨t,ad,hop⟩|⟨t,ad,xo,hop⟩<;>rcases hy2 with ⟨t',ad',hop'⟩|⟨t',ad',xo',hop'⟩
 ·obtain ⟨v1,g1⟩:=qmW (P:=P) hop hI (hF.ld j x hx) hex;obtain ⟨v2,g2⟩:=qmW (P:=P) hop' hI (hF.ld i y hy) hey;rw [g1 _ hI]at r1;cases r1;rw [g2 _ hI]at r2;cases r2;exact ⟨w,g2 _ hI,g1 _ hI⟩
 ·obtain ⟨v1,g1⟩:=qmW (P:=P) hop hI (hF.ld j x hx) hex;obtain ⟨w3,g2,g3⟩:=qsT (P:=P) (w0:=w0) hop' (hF.st i y hy) hey w hI;rw [g1 _ hI]at r1;cases r1;rw [g2]at r2;cases r2;exact ⟨_,g2,g1 _ g3⟩
 ·obtain ⟨w3,g2,g3⟩:=qsT (P:=P) (w0:=w0) hop (hF.st j x hx) hex w hI;obtain ⟨v1,g1⟩:=qmW (P:=P) hop' hI (hF.ld i y hy) hey;rw [g2]at r1;cases r1;rw [g1 _ g3]at r2;cases r2;exact ⟨w,g1 _ hI,g2⟩
 ·exact absurd ⟨⟨t,ad,xo,hop⟩,⟨t',ad',xo',hop'⟩⟩ hns
theorem qhz{s:Sem Value}{w w':World}{n:Next}(h:(do pure (Next.value (<- s)):Sem Next).run P w=.ok n w'):∃v,n=.value v:=by
 rw [Sem.run_bind]at h;cases hr:s.run P w with
 |halt x w2=>rw [hr]at h;cases h
 |ok v w2 =>
  rw [hr,Result.andThen_ok]at h;have h:Result.ok (Next.value v) w2=.ok n w':=h;cases h;exact ⟨v,rfl⟩
theorem qw9{s:Sem Unit}{w w':World}{n:Next}(h:(do s;pure Next.skip:Sem Next).run P w=.ok n w'):n=.skip:=by
 rw [Sem.run_bind]at h;cases hr:s.run P w with
 |halt x w2=>rw [hr]at h;cases h
 |ok v w2 =>
  rw [hr,Result.andThen_ok]at h;have h:Result.ok Next.skip w2=.ok n w':=h;cases h;rfl
theorem qu6{o:Oper}{ρ:Operand->Value}{w w':World}{n:Next}(hp:qbU P o=true)(h:(execOp ρ o).run P w=.ok n w'):∃v,qBD n=some v:=by
 rcases qeP hp with hq|⟨t,ad,hop⟩|⟨t,ad,xo,hop⟩
 ·unfold qg2 at hq;simp only [qe]at hq;have hq:=hq.2;split at hq
  ·rename_i x hop;simp only [execOp,hop]at h;have h:Result.ok (Next.value (ρ x)) w=.ok n w':=h;cases h;exact ⟨_,rfl⟩
  ·rename_i t x ix hop;simp only [execOp,hop]at h;obtain ⟨v,rfl⟩:=qhz h;exact ⟨v,rfl⟩
  ·rename_i op t x y t2 hop;simp only [execOp,hop]at h;obtain ⟨v,rfl⟩:=qhz h;exact ⟨v,rfl⟩
  ·rename_i s x f hop;simp only [execOp,hop]at h;obtain ⟨v,rfl⟩:=qhz h;exact ⟨v,rfl⟩
  ·cases hq
 ·simp only [execOp,hop]at h;obtain ⟨v,rfl⟩:=qhz h;exact ⟨v,rfl⟩
 ·simp only [execOp,hop]at h;obtain rfl:=qw9 h;exact ⟨_,rfl⟩
theorem qwd{F:Fence}{ops:Array Oper}{Q:Exit->Act->World->Prop}{i:Nat}{o:Oper}{s:Act×World}{K:Act->World->Prop}(ho:ops[i]?=some o)(hp:qbU P o=true)(hQ:∀c a w,¬ Q (.panic c) a w)(h:wpOpIn F 0 P ops Q i K s.1 s.2):∃s',cx1 P o s=some s'/\K s'.1 s'.2:=by
 obtain ⟨hg,hc,hd,_⟩:=qfI hp;unfold wpOpIn at h;rw [ho]at h;have hwant:Region.wanted o (yielded ops s.1.tmps)=true:=by unfold Region.wanted;rw [hg]
 simp only [hwant,if_true]at h;have h:=h.2;rw [Oper.semAt_eq _ _ _ hd]at h;cases hr:(execOp s.1.eval o).run P s.2 with
 |halt x w' =>
  rw [hr]at h;cases x<;>simp only [Oper.uponIn]at h
  exact absurd h (hQ _ _ _)
 |ok n w' =>
  rw [hr]at h;obtain ⟨v,hv⟩:=qu6 hp hr;refine ⟨(s.1.put o.dst v,w'),qeE.2 ⟨n,v,w',hr,hv,rfl⟩,?_⟩;cases n<;>simp only [qBD,qb,reduceCtorEq]at hv
  ·subst hv;rw [Oper.uponIn_value]at h;exact h
  ·subst hv;rw [Oper.uponIn_skip]at h;exact h
theorem qwe{ops ops':Array Oper}{g:Nat->Nat}:∀(l:List Nat) (s:Act×World),(∀k∈l,ops'[k]?=ops[g k]?)->cxs P ops (l.map g) s=cxs P ops' l s
 |[],s,_=>rfl
 |i::l,s,h=>by
  simp only [qh,cxs];rw [h i (by simp)];cases ops[g i]? with
  |none=>rfl
  |some o =>
   simp only
   cases cx1 P o s with
   |none=>rfl
   |some s1=>exact qwe l s1 λk hk=>h k (by simp [hk])
theorem qk3{o y:Oper}(h:qnn o y=false):∀d,o.dst=some d->Operand.tmp d∉y.op.operands:=λd hd hm=>by
 unfold qnn at h;rw [hd]at h;have:d∈tmpsOf y:=qa1 (by simpa using hm) rfl;simp [this]at h
theorem qqD{asz:List (List Nat)}:∀{l done:List Nat},qBS asz done l=true->∀A i B,l=A++i::B->∀j∈asz.getD i [],j∈done++A
 |[],done,_,A,i,B,e,j,_=>by simp at e
 |x::l,done,h,A,i,B,e,j,hj=>by
  simp only [qBS,qe]at h;cases A with
  |nil =>
   simp only [List.nil_append,List.cons.injEq]at e;obtain ⟨rfl,rfl⟩:=e;have:=List.all_eq_true.1 h.1 j hj;simpa using this
  |cons a A =>
   simp only [List.cons_append,List.cons.injEq]at e;obtain ⟨rfl,e⟩:=e;have:=qqD h.2 A i B e j hj;simpa using this
theorem qmw{ops:Array Oper}{π:List Nat}(h:qtR P ops π=true) :
  (∀i,i<ops.size->i∈π)/\(π.Nodup/\π.length<=ops.size)/\(∀(k:Nat) (o:Oper),ops[k]?=some o->∀j∈qaC o,j<k)/\(∀A i B,π=A++i::B->∀y:Oper,ops[i]?=some y->∀j∈(qd0 ops.toList).getD i [],j∈A)/\RegOk P ops /\
   ∀(j i:Nat) (x y:Oper),ops[j]?=some x->ops[i]?=some y->j≠i->j∉(qd0 ops.toList).getD i []->i∉(qd0 ops.toList).getD j []->Apt x y/\¬ (qBq x/\qBq y):=by
 unfold qtR at h;simp only [qe,decide_eq_true_eq]at h;obtain ⟨⟨⟨h1,h2⟩,h3⟩,h4⟩:=h;have hlt:∀{k:Nat} {o:Oper},ops[k]?=some o->k<ops.size:=λho=>(Array.getElem?_eq_some_iff.1 ho).1;have row:∀(k:Nat) (o:Oper),ops[k]?=some o->(qbU P o=true/\(∀j∈qaC o,j<k)/\qnn o o=false)/\∀(j:Nat) (x:Oper),ops[j]?=some x->(qnn x o=true->j∈(qd0 ops.toList).getD k [])/\(j=k\/j∈(qd0 ops.toList).getD k []\/k∈(qd0 ops.toList).getD j []\/qB3 x o=true):=λk o ho=>by
  have:=List.all_eq_true.1 h4 k (List.mem_range.2 (hlt ho));rw [ho]at this;simp only [qe,Bool.not_eq_true']at this;obtain ⟨⟨⟨g1,g2⟩,g3⟩,g4⟩:=this;refine ⟨⟨g1,λj hj=>by simpa using List.all_eq_true.1 g2 j hj,g3⟩,λj x hx=>?_⟩;have:=List.all_eq_true.1 g4 j (List.mem_range.2 (hlt hx));rw [hx]at this;simp only [qe,Bool.or_eq_true,Bool.not_eq_true',beq_iff_eq]at this;refine ⟨λhd=>?_,?_⟩
  ·rcases this.1 with g|g
   ·rw [hd]at g;cases g
   ·simpa using g
  ·rcases this.2 with ((g|g)|g)|g
   ·exact .inl g
   ·exact .inr (.inl (by simpa using g))
   ·exact .inr (.inr (.inl (by simpa using g)))
   ·exact .inr (.inr (.inr g))
 refine ⟨λi hi=>by simpa using List.all_eq_true.1 h2 i (List.mem_range.2 hi),h1,λk o ho=>(row k o ho).1.2.1,λA i B e y hy j hj=>by simpa using qqD h3 A i B e j hj,
  {
   plain:=λi o ho=>(row i o ho).1.1
   self:=λi o ho=>qk3 (row i o ho).1.2.2
   stable:=λc k oc ok hc hk t ht hm=>((row c oc hc).2 k ok hk).1 (by
    unfold qnn;rw [ht];simpa using qa1 (o:=oc) (by simpa using hm) rfl)},λj i x y hx hy hne hj hi=>?_⟩
 rcases ((row i y hy).2 j x hx).2 with g|g|g|g
 ·exact absurd g hne
 ·exact absurd g hj
 ·exact absurd g hi
 ·unfold qB3 at g;simp only [qe,Bool.not_eq_true',Bool.or_eq_true,Option.isNone_iff_eq_none,bne_iff_ne,ne_eq]at g;obtain ⟨⟨⟨g1,g2⟩,g3⟩,g4⟩:=g;refine ⟨⟨qk3 g1,qk3 g2,λd hd e=>?_,(qfI (row j x hx).1.1).2.2.2,(qfI (row i y hy).1.1).2.2.2⟩,λ⟨⟨_,_,_,e1⟩,⟨_,_,_,e2⟩⟩=>?_⟩
  ·rcases g3 with g3|g3
   ·rw [hd]at g3;cases g3
   ·exact g3 (hd.trans e.symm)
  ·simp [qAp,e1,e2]at g4
theorem qyX{F:Fence}{ops:Array Oper}{π:List Nat}(h:qtR P ops π=true){Q:Exit->Act->World->Prop}{s fin:Act×World}{SB:Nat->Option Nat}(hx:cxs P ops π s=some fin)(hF:FinOk P ops s.2 SB fin.1)(hI:qx2 s.2 SB s.2)(hQ:Q .normal fin.1 fin.2) :
  wpAnyIn F 0 P .any ops Q ops.size (Array.replicate ops.size false) s.1 s.2:=by
 obtain ⟨h1,⟨h2,hlen⟩,h3,h4,hR,hP⟩:=qmw h;have hin:∀k∈π,∃o,ops[k]?=some o:=by
  have:∀(l:List Nat) (s:Act×World),cxs P ops l s=some fin->∀k∈l,∃o,ops[k]?=some o:=by
   intro l;induction l with
   |nil=>intro s _ k hk;simp at hk
   |cons i l ih =>
    intro s hs k hk;obtain ⟨o,s1,ho,_,hs1⟩:=qcH.1 hs;rcases qk.1 hk with rfl|hk
    ·exact ⟨o,ho⟩
    ·exact ih s1 hs1 k hk
  exact this π s hx
 have hfil:(π.filter λk=>!(Array.replicate ops.size false).getD k true)=π:=List.filter_eq_self.2 λk hk=>by
  obtain ⟨o,ho⟩:=hin k hk;have:=(Array.getElem?_eq_some_iff.1 ho).1;simp [Array.getD,this]
 refine qBa h1 h2 h3 h4 hR.plain (Inv:=λt=>qx2 s.2 SB t.2) (λi rest hr=>qyy hR hF i rest hr) (λA j B i C D e hj hi hD=>?_) hQ ops.size _ s (by simp) (λk o ho hk=>?_) (by rw [hfil];exact hlen) hI (by rw [hfil];exact hx)
 ·refine qz8 hR hF (λx y hx hy=>hP j i x y hx hy ?_ hj hi) λk hk=>(hD k hk).2;rintro rfl;rw [e]at h2;have:=(List.nodup_cons.1 (List.nodup_append.1 h2).2.1).1;exact this (by simp)
 ·have:=(Array.getElem?_eq_some_iff.1 ho).1;simp [Array.getD,this]at hk
end
section
variable {P:Program} {H:Hints} {f:FuncId} {C:Orc} {w:World} {X:Cx}
def qvK(P:Program)(w:World)(X:Cx)(a:Act)(t:TypeId)(d:Tmp)(xo:Operand):Prop :=
 ∃b k arr ty,a.tmps.getD d undef=.pointer (some ⟨b,k,none⟩)/\w.heap[b]?=some (.cells arr ty (0,0))/\P.cellsOf t≠0/\(a.eval xo).cells.toList.length=P.cellsOf t/\k+(a.eval xo).cells.toList.length<=arr.size/\(∀c∈(a.eval xo).cells.toList,c.oneCell'=true)/\∃e,X.ω b=some (e,false)
theorem qyF{ops:Array Oper}{s:Nat}{o:Oper}{st st':St}{a:Act}{O:Pl->List Nat}(h:Rel st a.tmps w X O)
  {t:TypeId} {d:Tmp} {xo:Operand} (hop:o.op=.store t (.tmp d) xo)
  (hpath:∀rt p,qbo P H f ops st.E ops.size s d=some (rt,p,true)->∃v0 b k,qfS w X a.tmps rt v0/\a.tmps.getD d undef=.pointer (some ⟨b,k,none⟩)/\qA3 w v0 p b k)
  (hx:qgw P H f ops s o st=some st'):qvK P w X a t d xo:=by
 unfold qgw at hx;rw [hop]at hx;simp only at hx;split at hx
 ·rename_i hcond;simp only [qe,decide_eq_true_eq,List.isEmpty_iff,Option.isNone_iff_eq_none]at hcond;obtain ⟨⟨⟨⟨⟨⟨⟨⟨hL,hnl⟩,hdst⟩,hgd⟩,hnd⟩,hs0⟩,hxl⟩,hxo⟩,hxp⟩:=hcond;have htk:q7 H f o=true:=by simp [q7,hop,qm6]
  have hops:o.op.operands.toList=[.tmp d,xo]:=by rw [hop];rfl
  obtain ⟨Oin,hrep,hs,hlin⟩:=qbj (H:=H) (f:=f) h o o.op.operands.toList (λ_=>hnd);rw [hops]at hrep;simp only [qh,List.map_nil,RepL]at hrep;obtain ⟨u1,vs1,O1,O2,hu1,rfl,hr1,u,vs2,Ox,O4,hu2,rfl,hrx,rfl,rfl⟩:=hrep;simp only [List.cons.injEq]at hu1;obtain ⟨rfl,rfl⟩:=hu1;simp only [List.cons.injEq,and_true]at hu2;subst hu2;simp only [List.append_nil]at hs hlin;have hin:∀k∈Ox,∃t∈tmpsOf o,k∈O (.tmp t):=λk hk=>(hs k (by simp [hk])).2;have hlx:Lin Ox:=hlin.right;obtain ⟨hcells,hones⟩:=qcg hxo hrx;have hul:(a.eval xo).cells.toList.length=(rd H f o st.E xo).cells.length:=(qE _ _ _ hcells).symm;have hyp:ptrsL (rd H f o st.E xo).cells=[]:=qeo hxp;have hplx:∀pl:Pl,(∀t∈tmpsOf o,pl≠.tmp t)->Lin (O pl++Ox):=λpl hpl k=>by
   rw [List.count_append];have h2:=h.lin pl k;have h3:=hlx k;by_cases hk:k∈Ox
   ·have:(O pl).count k=0:=List.count_eq_zero.2 λhkp=>by
     obtain ⟨t',ht',hkt⟩:=hin k hk;exact h.dis pl (.tmp t') (hpl t' ht') k hkp hkt
    omega
   ·have:=List.count_eq_zero.2 hk;omega
  split at hx
  ·rename_i r p hlk;obtain ⟨v0,b,k,hroot,hptr,hpr⟩:=hpath _ _ hlk;split at hx
   ·cases hx
   ·rename_i hrT;have hrT':r∉tmpsOf o:=by simpa using hrT
    split at hx
    ·rename_i y hy;split at hx
     ·cases hx
     ·rename_i hsoft;have hsoft:y.soft=false:=by simpa using hsoft
      have hE:=qzT hy;obtain ⟨v1,hv1,hr0⟩:=h.env r _ hE;have:v1=v0:=by
       simp only [qfS]at hroot;rw [<- hroot,Array.getD_eq_getD_getElem?,hv1];rfl
      subst this;cases p with
      |nil=>exact hpr.elim
      |cons q p =>
       obtain ⟨j,o',s'⟩:=q;obtain ⟨off,len,cap,hsl,hj,rfl⟩:=hpr;rw [qdV]at hy;have hpl:∀t∈tmpsOf o,Pl.tmp r≠.tmp t:=λt' ht' e=>hrT' (by cases e;exact ht');obtain ⟨hbO,_,hω,⟨arr,ty,harr,hsize⟩,_⟩:=qrS hcells hxo hyp _ _ _ _ _ hy hsoft hr0 (hplx _ hpl) hsl;exact ⟨b,_,arr,ty,hptr,harr,hs0,by rw [hul];exact hxl,by rw [hul];exact hsize,hones,hω⟩
    ·cases hx
  ·rename_i q off0 p hlk;obtain ⟨v0,b,k,⟨bq,hβ,hroot⟩,hptr,hpr⟩:=hpath _ _ hlk;split at hx
   ·rename_i cs hcs;split at hx
    ·rename_i z hz0;split at hx
     ·rename_i y hy;split at hx
      ·cases hx
      ·rename_i hsoft;have hsoft:y.soft=false:=by simpa using hsoft
       obtain ⟨bq',hβ',hlt,hωq,hbx⟩:=h.box q cs hcs;rw [hβ]at hβ';cases hβ';have hq0:q.lvl=0/\qy st.B q.slot=some cs:=by
        have:=hcs;rw [qcV hL]at this;split at this
        ·rename_i h0;exact ⟨h0,this⟩
        ·cases this
       have hlp:qc3 cs=false:=qjX hnl hq0.2;obtain ⟨arrq,tyq,harrq,hlq⟩:=hbx.cells hlp;obtain ⟨uz,A1,Oz,A2,hOq,hrz,huz,hclose⟩:=qgg off0 hlq hz0;have hv0:uz=v0:=by
        simp only [World.cell?,harrq]at hroot;have h2:arrq[off0]?=some uz:=by simpa using huz
        rw [h2]at hroot;exact Option.some.inj hroot
       subst hv0;cases p with
       |nil=>exact hpr.elim
       |cons e p =>
        obtain ⟨j,o',s'⟩:=e;obtain ⟨off,len,cap,hsl,hj,rfl⟩:=hpr;rw [qdV]at hy;have hpl:∀t∈tmpsOf o,Pl.box q≠.tmp t:=λt' ht' e=>by cases e
        have hlinz:Lin (Oz++Ox):=λk=>by
         have:=hplx (.box q) hpl k;rw [hOq]at this;simp only [List.count_append]at this ⊢;omega
        obtain ⟨hbO,_,hω,⟨arr,ty,harr,hsize⟩,_⟩:=qrS hcells hxo hyp _ _ _ _ _ hy hsoft hrz hlinz hsl;exact ⟨b,_,arr,ty,hptr,harr,hs0,by rw [hul];exact hxl,by rw [hul];exact hsize,hones,hω⟩
     ·cases hx
    ·cases hx
   ·cases hx
  ·cases hx
 ·cases hx
theorem qoN{ops:Array Oper}{i:Nat}{o:Oper}{t:Act×World}(ho:ops[i]?=some o):∀{l:List Nat} {s s1:Act×World},cxs P ops l s=some s1->cx1 P o s1=some t->cxs P ops (l++[i]) s=some t
 |[],s,s1,h,h1=>by
  simp only [cxs,qb]at h;subst h;exact qcH.2 ⟨o,t,ho,h1,rfl⟩
 |j::l,s,s1,h,h1=>by
  obtain ⟨x,s2,hx,h2,h3⟩:=qcH.1 h;rw [List.cons_append];exact qcH.2 ⟨x,s2,hx,h2,qoN ho h3 h1⟩
def qB2(P:Program)(H:Hints)(C:Orc)(f:FuncId)(ops:Array Oper)(s0:Act×World)(st':St)(fin:Act×World)(c:Nat):Prop :=
 ∀(o:Oper) t d xo,ops[c]?=some o->qfx H f o=true->o.op=.store t (.tmp d) xo->∃(m:Nat) (st:St) (fps:List (Nat×Foot)) (s:Act×World) (X:Cx) (O:Pl->List Nat),c+m=ops.size/\cxs P ops (List.range' 0 c) s0=some s/\Rel st s.1.tmps s.2 X O/\qvK P s.2 X s.1 t d xo /\
  cxs P ops (List.range' c m) s=some fin/\qd1 P H C f ops (List.range' c m) st=some (st',fps)
theorem walk(hC:OrcOk P C){FF:Fence}{w0:World}{X0:Cx}{Md:Md}{n:Nat}(hFO:FOk FF X0 Md n){ops:Array Oper}(hlk:qi8 H f false ops=true)(hp:∀(i:Nat) (o:Oper),ops[i]?=some o->qbU P o=true){s0:Act×World}:∀(m i:Nat) (st st':St) (fps:List (Nat×Foot)) (s:Act×World),i+m=ops.size->cxs P ops (List.range' 0 i) s0=some s ->
  qr2 P H f ops (λk=>k<i) w0 X0 Md n st s.1 s.2->qd1 P H C f ops (List.range' i m) st=some (st',fps)->∃fin,cxs P ops (List.range' i m) s=some fin/\qew w0 X0 Md n st' fin.1 fin.2/\∀c,i<=c->qB2 P H C f ops s0 st' fin c
 |0,i,st,st',fps,s,him,h0,hS,hx=>by
  simp only [List.range'_zero,qd1,qb,Prod.mk.injEq]at hx;obtain ⟨rfl,_⟩:=hx;refine ⟨s,rfl,hS.qBX,λc hc o t d xo ho=>?_⟩;have:=(Array.getElem?_eq_some_iff.1 ho).1;omega
 |m+1,i,st,st',fps,s,him,h0,hS,hx=>by
  have hx0:=hx;rw [List.range'_succ]at hx;obtain ⟨s1,ft,fps',h1,h2,_⟩:=qco.1 hx;have L:=qii hlk;have hi:i<ops.size:=by omega
  have ho:ops[i]?=some ops[i]:=Array.getElem?_eq_getElem hi;have hfit:Fits H f ops (λk=>k<i) i:={
   new:=by omega
   after:=λc oc o hoc ho hl hc=>by
    rcases L.after c i oc o hoc ho hl with h3|h3|h3
    ·omega
    ·simp [qib]at h3;omega
    ·exact h3
   self:=λo ho hl=>L.self i o ho hl
   ls:=λo ho hl c oc hoc hlc hci=>hci
   apl:=λo d ho hap hd c oc hoc hlc hci hx=>hci
   ap:=λo ho hap=>by
    obtain ⟨s,os,h3,h4,h5⟩:=L.ap i o ho hap;refine ⟨s,os,h3,h4,?_⟩;simp [qib]at h5;omega
   lone:=L.lone}
  have hwp:wpOpIn FF 0 P ops (λe _ _=>e=.normal) i (λa' w'=>qr2 P H f ops (λk=>k<i\/k=i) w0 X0 Md n s1 a' w') s.1 s.2:=qsF hC hFO hS h1 hfit λ_ _ h=>h;obtain ⟨s2,g1,g2⟩:=qwd ho (hp i _ ho) (λc a w h=>by cases h) hwp;obtain ⟨fin,g3,g4,g5⟩:=walk hC hFO hlk hp m (i+1) s1 st' fps' s2 (by omega) (by rw [List.range'_1_concat,Nat.zero_add];exact qoN ho h0 g1) (g2.mono λk _=>by omega) h2;have hcx:cxs P ops (List.range' i (m+1)) s=some fin:=by
   rw [List.range'_succ];exact qcH.2 ⟨_,s2,ho,g1,g3⟩
  refine ⟨fin,hcx,g4,λc hc=>?_⟩;by_cases hci:c=i
  ·subst hci;intro o t d xo ho' hls hop;rw [ho]at ho';cases ho';obtain ⟨X,O,hR,hF,hM,hI⟩:=hS;refine ⟨m+1,st,fps,s,X,O,him,h0,hR,?_,hcx,hx0⟩;obtain ⟨o2,ho2,⟨_,hx1⟩|⟨hn,_⟩|⟨hn,_⟩⟩:=qes h1
   ·rw [ho]at ho2;cases ho2;have hfacts:=hI ⟨c,_,ho,hls,by omega⟩;refine qyF (o:=ops[c]) hR hop (λrt p hlk=>?_) hx1;obtain ⟨v0,h3,h4⟩:=qBr hR (s:=c) (λc' oc hoc hl hci=>hfacts c' oc hoc hl hci) ops.size c d rt p true (Nat.le_refl _) hlk;simp only [if_true]at h4;obtain ⟨b,k,h5,h6⟩:=h4;exact ⟨v0,b,k,h3,h5,h6⟩
   ·rw [ho]at ho2;cases ho2;rw [hls]at hn;cases hn
   ·rw [ho]at ho2;cases ho2;rw [hls]at hn;cases hn
  ·exact g5 c (by omega)
theorem qBx{ops:Array Oper}{i:Nat}{st st':St}{ft:Foot}(hp:∀(i:Nat) (o:Oper),ops[i]?=some o->qbU P o=true)(hx:qhZ P H C f ops i st=some (st',ft)){t:Nat}{r:Root}{off:Nat}(hd:∀o,ops[i]?=some o->o.dst≠some t)(hE:st'.E[t]?=some (.ptr r off)):st.E[t]?=some (.ptr r off):=by
 obtain ⟨o,ho,⟨_,hx⟩|⟨_,hap,_⟩|⟨_,_,_,hx⟩⟩:=qes hx
 ·exact qCx hx hE
 ·obtain ⟨cl,hop⟩:=qiS hap;exact absurd hop ((qfI (hp i o ho)).2.1 cl)
 ·obtain ⟨o',ho',b,z,m,A⟩:=qcK.1 hx;rw [ho]at ho';cases ho';rw [A.res]at hE;simp only [qio]at hE;rw [if_neg (λhh=>hd o ho hh.1)]at hE;exact qhy hE
theorem qwk{ops:Array Oper}(hp:∀(i:Nat) (o:Oper),ops[i]?=some o->qbU P o=true){t:Nat}{r:Root}{off:Nat}:∀(l:List Nat) (st st':St) (fps:List (Nat×Foot)),qd1 P H C f ops l st=some (st',fps)->(∀k∈l,∀o,ops[k]?=some o->o.dst≠some t)->st'.E[t]?=some (.ptr r off)->st.E[t]?=some (.ptr r off)
 |[],st,st',fps,hx,_,hE=>by simp only [qd1,qb,Prod.mk.injEq]at hx;rw [hx.1];exact hE
 |i::l,st,st',fps,hx,hd,hE=>by
  obtain ⟨s1,ft,fps',h1,h2,_⟩:=qco.1 hx;exact qBx hp h1 (hd i (by simp)) (qwk hp l s1 st' fps' h2 (λk hk=>hd k (by simp [hk])) hE)
theorem qwz{st:St}{a:Act}{O:Pl->List Nat}(h:Rel st a.tmps w X O){x:Operand}(hx:qAY st.E x=true):∃k n,a.eval x=.int k n:=by
 unfold qAY at hx;split at hx
 ·rename_i t;split at hx
  ·rename_i k n hE;obtain ⟨u,hu,hr⟩:=h.env t _ hE;simp only [Rep]at hr;refine ⟨k,n,?_⟩;show tv a.tmps t=_;rw [qcS hu];exact hr.1
  ·cases hx
 ·exact ⟨_,_,rfl⟩
 ·cases hx
theorem qmy{st:St}{a:Act}{O:Pl->List Nat}(h:Rel st a.tmps w X O){t:Nat}{r:Root}{off:Nat}(hE:st.E[t]?=some (.ptr r off)):∃b cs,a.eval (.tmp t)=.pointer (some ⟨b,off,none⟩)/\X.β r=some b/\X.ω b=none/\st.box r=some cs:=by
 obtain ⟨u,hu,hr⟩:=h.env t _ hE;simp only [Rep]at hr;obtain ⟨_,b,hb,rfl⟩:=hr;have hlive:=h.ptrE r (qD.2 ⟨_,List.mem_of_getElem? hE,by simp [V.qq]⟩);obtain ⟨cs,hcs⟩:=Option.isSome_iff_exists.1 hlive;obtain ⟨b2,hb2,_,hω,_⟩:=h.box r cs hcs;rw [hb]at hb2;cases hb2;exact ⟨b,cs,qcS hu,hb,hω,hcs⟩
theorem quV{t:TypeId}{d:TypeDesc}(hu:P.underlying t=some d)(hag:qO P t=false){v u:Value}{w1:World}(h:(Instr.loadAt t v).run P w=.ok u w1):w1=w:=by
 unfold Instr.loadAt at h;rw [Sem.run_bind]at h;cases hs:(Instr.sureAddr v).run P w with
 |halt x w'=>rw [hs]at h;cases h
 |ok a w' =>
  obtain ⟨rfl,_⟩:=qfW v w a w' hs;rw [hs,Result.andThen_ok]at h;have hi:(isAgg t).run P w'=.ok false w':=by rw [qhI hu,hag]
  unfold loadVar at h;rw [Sem.run_bind,hi,Result.andThen_ok]at h;simp only [qf,if_false,load,Sem.run]at h;split at h
  ·cases h;rfl
  ·split at h
   ·cases h;rfl
   ·cases h
def shp(w:World)(b:Nat):Option (Nat×(Nat×Nat)):=match w.heap[b]? with
 |some (.cells arr _ z)=>some (arr.size,z)
 |_=>none
theorem qyk{o:Oper}{a:Act}{s':Act×World}(hp:qbU P o=true)(hi:qh3 a.eval o)(hl:∀t ad,o.op=.load t ad->∃d,P.underlying t=some d/\qO P t=false)
  (hs:∀t ad xo,o.op=.store t ad xo->∃d X,ad=.tmp d/\qvK P w X a t d xo) (h:cx1 P o (a,w)=some s') (b:Nat):shp s'.2 b=shp w b:=by
 obtain ⟨n,v,w',hr,hv,rfl⟩:=qeE.1 h;simp only at hr;show shp w' b=shp w b;rcases qeP hp with hq|⟨t,ad,hop⟩|⟨t,ad,xo,hop⟩
 ·obtain ⟨rfl,_⟩:=qhA hq hi w n w' hr;rfl
 ·obtain ⟨d,hu,hag⟩:=hl t ad hop;simp only [execOp,hop]at hr;rw [Sem.run_bind]at hr;cases hlr:(Instr.loadAt t (a.eval ad)).run P w with
  |halt x w2=>rw [hlr]at hr;cases hr
  |ok u w2 =>
   obtain rfl:=quV hu hag hlr;rw [hlr,Result.andThen_ok]at hr;have hr:Result.ok (Next.value u) w2=.ok n w':=hr;cases hr;rfl
 ·obtain ⟨d,X,rfl,bs,k,arr,ty,h1,h2,h3,h4,h5,h6,_⟩:=hs t ad xo hop;have hrun:=run_store (P:=P) (a:=a) (d:=d) (xo:=xo) h3 h1 h2 h4 h5 h6;have hrun2:(execOp a.eval o).run P w=.ok .skip (w.setRow bs (rowAt arr k (a.eval xo).cells.toList)):=by
   simp only [execOp,hop,Sem.run_bind,hrun,Result.andThen_ok,Sem.run_pure]
  rw [hrun2]at hr;cases hr;unfold shp;by_cases hb:b=bs
  ·subst hb;rw [setRow_heap w b arr _ ty (0,0) h2,h2];have h9:k+(a.eval xo).cells.size<=arr.size:=by simpa using h5
   simp only [qb,Prod.mk.injEq,and_true];unfold rowAt;simp<;>omega
  ·rw [setRow_other w bs b _ hb]
end
section
variable {P:Program} {H:Hints} {f:FuncId} {C:Orc} {w:World} {X:Cx}
theorem qs1{ops:Array Oper}(h:qrN ops=true){i k:Nat}{o x:Oper}(ho:ops[i]?=some o)(hx:ops[k]?=some x)(hk:i<=k):∀d,x.dst=some d->Operand.tmp d∉o.op.operands:=by
 have hi:=(Array.getElem?_eq_some_iff.1 ho).1;have hk':=(Array.getElem?_eq_some_iff.1 hx).1;have h1:=List.all_eq_true.1 h i (List.mem_range.2 hi);rw [ho]at h1;have h2:=List.all_eq_true.1 h1 k (List.mem_range.2 hk');rw [hx]at h2;simp only [Bool.or_eq_true,decide_eq_true_eq,Bool.not_eq_true']at h2;rcases h2 with h2|h2
 ·omega
 ·exact qk3 h2
theorem qoQ{ops:Array Oper}(hst:qrN ops=true){i m:Nat}{s fin:Act×World}(h:cxs P ops (List.range' i m) s=some fin){o:Oper}(ho:ops[i]?=some o):∀x∈o.op.operands,s.1.eval x=fin.1.eval x:=λx hx=>by
 cases x with
 |tmp t=>exact (qoM h λk hk ok hok e=>by
   have:i<=k:=(List.mem_range'_1.1 hk).1;exact qs1 hst ho hok this t e hx).symm
 |_=>rfl
theorem qwF{o:Oper}(h:qeh P H f o=true){t:TypeId}{ad:Operand}(hop:o.op=.load t ad):∃a d,ad=.tmp a/\P.underlying t=some d/\qO P t=false:=by
 unfold qeh at h;rw [hop]at h;cases ad with
 |tmp a =>
  simp only [qe,Bool.not_eq_true']at h;obtain ⟨d,hd⟩:=Option.isSome_iff_exists.1 h.1;exact ⟨a,d,rfl,hd,h.2⟩
 |_=>cases h
theorem qpg{o:Oper}(h:qeh P H f o=true){t:TypeId}{ad xo:Operand}(hop:o.op=.store t ad xo):∃d,ad=.tmp d/\qfx H f o=true:=by
 unfold qeh at h;rw [hop]at h;cases ad with
 |tmp a=>exact ⟨a,rfl,h⟩
 |_=>cases h
theorem qmd{ops:Array Oper}(h:ops.toList.all (qeh P H f)=true){i:Nat}{o:Oper}(ho:ops[i]?=some o):qeh P H f o=true :=
 List.all_eq_true.1 h o (Array.mem_toList_iff.2 (Array.mem_of_getElem? ho))
theorem qiu{ops:Array Oper}(hst:qrN ops=true)(hp:∀(i:Nat) (o:Oper),ops[i]?=some o->qbU P o=true)(hkind:ops.toList.all (qeh P H f)=true){s0 fin:Act×World}{st':St}
  (hi:∀(i:Nat) (o:Oper),ops[i]?=some o->qh3 fin.1.eval o) (hS:∀c,qB2 P H C f ops s0 st' fin c):∀(m i:Nat) (s:Act×World),i+m=ops.size->cxs P ops (List.range' 0 i) s0=some s->cxs P ops (List.range' i m) s=some fin->∀b,shp fin.2 b=shp s.2 b
 |0,i,s,_,_,h,b=>by
  simp only [List.range'_zero,cxs,qb]at h;rw [h]
 |m+1,i,s,him,h0,h,b=>by
  have hall:=h;rw [List.range'_succ]at h;obtain ⟨o,s1,ho,h1,h2⟩:=qcH.1 h;rw [qiu hst hp hkind hi hS m (i+1) s1 (by omega) (by rw [List.range'_1_concat,Nat.zero_add];exact qoN ho h0 h1) h2 b];obtain ⟨a,w⟩:=s;have hk:=qmd hkind ho;refine qyk (hp i o ho) (qho (hi i o ho) (qoQ hst hall ho)) (λt ad hop=>?_) (λt ad xo hop=>?_) h1 b
  ·obtain ⟨_,d,_,h3,h4⟩:=qwF hk hop;exact ⟨d,h3,h4⟩
  ·obtain ⟨d,rfl,hls⟩:=qpg hk hop;obtain ⟨m',st,fps,s',X,O,_,h3,_,h4,_⟩:=hS i o t d xo ho hls hop;rw [h0]at h3;cases h3;exact ⟨d,X,rfl,h4⟩
theorem qvZ{ops:Array Oper}{E:List V}{r:Root}(h:qx9 ops E r=true):∃t off,(∀(k:Nat) (o:Oper),ops[k]?=some o->o.dst≠some t)/\E[t]?=some (.ptr r off):=by
 unfold qx9 at h;obtain ⟨o,_,h1⟩:=List.any_eq_true.1 h;obtain ⟨t,_,h2⟩:=List.any_eq_true.1 h1;simp only [qe]at h2;obtain ⟨h3,h4⟩:=h2;unfold qzF at h4;split at h4
 ·rename_i r' off hE;simp only [decide_eq_true_eq]at h4;subst h4;refine ⟨t,off,λk o ho=>?_,hE⟩;have:=List.all_eq_true.1 h3 o (Array.mem_toList_iff.2 (Array.mem_of_getElem? ho));simpa using this
 ·cases h4
def Wr(P:Program)(ops:Array Oper)(s0:Act×World)(b:Nat):Prop:=∃(c:Nat) (s:Act×World) (o:Oper) (t:TypeId) (d:Tmp) (xo:Operand) (k:Nat),cxs P ops (List.range' 0 c) s0=some s/\ops[c]?=some o/\o.op=.store t (.tmp d) xo/\s.1.eval (.tmp d)=.pointer (some ⟨b,k,none⟩)
open Classical in
noncomputable def qxC(P:Program)(ops:Array Oper)(s0:Act×World)(b:Nat):Option Nat:=if Wr P ops s0 b then (shp s0.2 b).map (·.1)else none
theorem qrM{ops:Array Oper}{s0:Act×World}{b:Nat}(h:Wr P ops s0 b):qxC P ops s0 b=(shp s0.2 b).map (·.1):=if_pos h
theorem qrL{ops:Array Oper}{s0:Act×World}{b:Nat}(h:¬ Wr P ops s0 b):qxC P ops s0 b=none:=if_neg h
theorem qrI{w:World}{b n:Nat}{z:Nat×Nat}(h:shp w b=some (n,z)):∃arr ty,w.heap[b]?=some (.cells arr ty z)/\arr.size=n:=by
 unfold shp at h;split at h
 ·rename_i arr ty z' hb;simp only [qb,Prod.mk.injEq]at h;obtain ⟨rfl,rfl⟩:=h;exact ⟨arr,ty,hb,rfl⟩
 ·cases h
theorem qzO{w:World}{b:Nat}{arr:Array Value}{ty:TypeId}{z:Nat×Nat}(h:w.heap[b]?=some (.cells arr ty z)):shp w b=some (arr.size,z):=by
 unfold shp;rw [h]
theorem qAf{ops:Array Oper}(hst:qrN ops=true)(hp:∀(i:Nat) (o:Oper),ops[i]?=some o->qbU P o=true)(hkind:ops.toList.all (qeh P H f)=true){s0 fin:Act×World}{st':St}{O:Pl->List Nat}
  (hcx:cxs P ops (List.range' 0 ops.size) s0=some fin) (hR:Rel st' fin.1.tmps fin.2 X O) (hend:qpx ops st'=true) (hS:∀c,qB2 P H C f ops s0 st' fin c) :
  qx2 s0.2 (qxC P ops s0) s0.2/\∀(i:Nat) (o:Oper),ops[i]?=some o->qh3 fin.1.eval o/\qvJ P s0.2 (qxC P ops s0) fin.1 o/\qvN P (qxC P ops s0) fin.1 o:=by
 have hone:∀(i:Nat) (o:Oper),ops[i]?=some o->qmx ops st' o=true:=λi o ho =>
  List.all_eq_true.1 hend o (Array.mem_toList_iff.2 (Array.mem_of_getElem? ho))
 have hi:∀(i:Nat) (o:Oper),ops[i]?=some o->qh3 fin.1.eval o:=λi o ho op t x y t2 hop=>by
  have h1:=hone i o ho;unfold qmx at h1;rw [hop]at h1;simp only [qe]at h1;obtain ⟨k,n,h2⟩:=qwz hR h1.1;obtain ⟨k',n',h3⟩:=qwz hR h1.2;exact ⟨k,n,k',n',h2,h3⟩
 have hsh0:∀b,shp fin.2 b=shp s0.2 b:=qiu hst hp hkind hi hS ops.size 0 s0 (by omega) rfl hcx
 have hwr:∀(c:Nat) (s:Act×World) (o:Oper) (t:TypeId) (d:Tmp) (xo:Operand) (b k:Nat),cxs P ops (List.range' 0 c) s0=some s->ops[c]?=some o->o.op=.store t (.tmp d) xo->s.1.eval (.tmp d)=.pointer (some ⟨b,k,none⟩) ->
   ∃arr ty,s.2.heap[b]?=some (.cells arr ty (0,0))/\shp s0.2 b=some (arr.size,(0,0)):=λc s o t d xo b k h0 ho hop hev=>by
  obtain ⟨d',e1,hls⟩:=qpg (qmd hkind ho) hop;cases e1;obtain ⟨m,st,fps,s',X',O',hcm,g0,g1,⟨b',k',arr,ty,e1,e2,_⟩,g3,_⟩:=hS c o t d xo ho hls hop;rw [h0]at g0;cases g0;have:Value.pointer (some ⟨b,k,none⟩)=.pointer (some ⟨b',k',none⟩):=hev.symm.trans e1;cases this;exact ⟨arr,ty,e2,by rw [<- hsh0 b,qiu hst hp hkind hi hS m c s hcm h0 g3 b,qzO e2]⟩
 refine ⟨⟨λb _=>rfl,λb n hb=>?_⟩,λi o ho=>⟨hi i o ho,λt ad hop=>?_,λt ad xo hop=>?_⟩⟩
 ·by_cases hw:Wr P ops s0 b
  ·rw [qrM hw]at hb;obtain ⟨c,s,o,t,d,xo,k,h0,ho,hop,hev⟩:=hw;obtain ⟨arr,ty,_,h1⟩:=hwr c s o t d xo b k h0 ho hop hev;rw [h1]at hb;simp only [qi,qb]at hb;subst hb;obtain ⟨arr0,ty0,h2,h3⟩:=qrI h1;exact ⟨arr0,ty0,h2,h3⟩
  ·rw [qrL hw]at hb;cases hb
 ·obtain ⟨a,d,rfl,hu,hag⟩:=qwF (qmd hkind ho) hop;have h1:=hone i o ho;unfold qmx at h1;rw [hop]at h1;simp only at h1;split at h1
  ·rename_i r off hE;simp only [qe]at h1;obtain ⟨hbase,hbox⟩:=h1;obtain ⟨t0,off0,hfree,hE0⟩:=qvZ hbase;obtain ⟨b,cs,e1,e2,e3,e4⟩:=qmy hR hE;obtain ⟨b0,cs0,f1,f2,f3,f4⟩:=qmy hR hE0;rw [e2]at f2;cases f2;rw [e4]at hbox;simp only [qe,Bool.not_eq_true',decide_eq_true_eq]at hbox;obtain ⟨hlp,hoff⟩:=hbox;obtain ⟨b2,hb2,hlt,hω,hbx⟩:=hR.box r cs e4;rw [e2]at hb2;cases hb2;obtain ⟨arrq,tyq,harrq,hlq⟩:=hbx.cells hlp;have hlen:=qE _ _ _ hlq;obtain ⟨arr0,ty0,g1,g2⟩:=qrI ((hsh0 b).symm.trans (qzO harrq));have hsz:off<arr0.size:=by rw [g2];simp only [Array.length_toList]at hlen;omega
   refine ⟨b,off,arr0[off],d,e1,?_,?_,hu,hag⟩
   ·refine qrL λ⟨c,s,o2,t2,d2,xo2,k2,h0,ho2,hop2,hev2⟩=>?_;obtain ⟨d',e5,hls⟩:=qpg (qmd hkind ho2) hop2;cases e5;obtain ⟨m,st,fps,s',X',O',hcm,g0,gR,⟨b',k',arr,ty,i1,i2,_,_,_,_,e6,i3⟩,gx,gE⟩:=hS c o2 t2 d2 xo2 ho2 hls hop2;rw [h0]at g0;cases g0;have:Value.pointer (some ⟨b,k2,none⟩)=.pointer (some ⟨b',k',none⟩):=hev2.symm.trans i1;cases this;have hEc:=qwk hp _ _ _ _ gE (λk _ o' ho'=>hfree k o' ho') hE0;obtain ⟨bc,csc,j1,j2,j3,j4⟩:=qmy gR hEc;have:=qoM (t:=t0) gx λk _ o' ho'=>hfree k o' ho';rw [f1,j1]at this;cases this;rw [i3]at j3;cases j3
   ·simp only [World.cell?,g1];simp [hsz]
  ·cases h1
 ·obtain ⟨d,rfl,hls⟩:=qpg (qmd hkind ho) hop;obtain ⟨m,st,fps,s,X',O',hcm,g0,gR,⟨b,k,arr,ty,i1,i2,i3,i4,i5,i6,e6,i7⟩,gx,gE⟩:=hS i o t d xo ho hls hop;have ev1:=qoQ hst gx ho (.tmp d) (by rw [hop];simp [Op.operands]);have ev2:=qoQ hst gx ho xo (by rw [hop];simp [Op.operands]);obtain ⟨arr',ty',k1,k2⟩:=hwr i s o t d xo b k g0 ho hop i1;rw [i2]at k1;cases k1;refine ⟨d,b,k,arr.size,rfl,i3,ev1.symm.trans i1,?_,by rw [<- ev2];exact i4,by rw [<- ev2];exact i5,by rw [<- ev2];exact i6⟩;rw [qrM ⟨i,s,o,t,d,xo,k,g0,ho,hop,i1⟩,k2];rfl
theorem qmv{ops:Array Oper}{π:List Nat}(hlt:∀i∈π,i<ops.size){k:Nat}(hk:k<π.length):(qfo ops π)[k]?=ops[π.getD k 0]?:=by
 unfold qfo;have h1:π[k]<ops.size:=hlt _ (List.getElem_mem hk);simp [hk,Array.getD,h1]
theorem qhx(ops:Array Oper)(π:List Nat):(qfo ops π).size=π.length:=by simp [qfo]
theorem qxb(π:List Nat):(List.range' 0 π.length).map (λk=>π.getD k 0)=π:=by
 apply List.ext_getElem?;intro i;by_cases hi:i<π.length
 ·simp [hi]
 ·simp [hi]
theorem qsQ(hC:OrcOk P C)(hm:P.follows .mixedOrders=true){F:Fence}{w0:World}{X0:Cx}{Md:Md}{n:Nat}(hFO:FOk F X0 Md n){bid id:Nat}{ops:Array Oper}{draw:Bool}{st st':St}{e:Ex}{a:Act}(hS:qew w0 X0 Md n st a w)
  {st0:St} (hcl:st0.clear (H.pre f id)=some st) (hnt:qgy H ops draw=none) (hls:qsn H f ops=true) (hpe:(H.perm f id).isEmpty=false) (hsp:H.sp f id=0) (hx:ex P H C f bid (.region id ops draw) st0=some (e,st')):(Code.region id ops draw).wpIn F 0 P (λe' a' w'=>e'=e.qoS/\qew w0 X0 Md n st' a' w') a w:=by
 simp only [ex,hcl,hsp,hnt,hls,hpe,if_true,qf,if_false]at hx;unfold qpz at hx;split at hx
 ·rename_i hc;unfold qpA at hc;simp only [qe]at hc;obtain ⟨rfl,⟨hin,hpo⟩,hlk,hst,hkind⟩:=hc;generalize hπ:H.perm f id=π at *;have hlt:∀i∈π,i<ops.size:=λi hi=>by simpa using List.all_eq_true.1 hin i hi
  obtain ⟨hall,_,_,_,hR,_⟩:=qmw hpo;have hp:∀(i:Nat) (o:Oper),(qfo ops π)[i]?=some o->qbU P o=true:=λi o ho=>by
   have hi:=(Array.getElem?_eq_some_iff.1 ho).1;rw [qhx]at hi;rw [qmv hlt hi]at ho;exact hR.plain _ o ho
  split at hx
  ·rename_i s fps hex;split at hx
   ·rename_i hend;simp only [qb,Prod.mk.injEq]at hx;obtain ⟨rfl,rfl⟩:=hx;refine wpIn_region_any hm ?_;have hr:List.range (qfo ops π).size=List.range' 0 (qfo ops π).size:=List.range_eq_range';rw [hr]at hex;obtain ⟨fin,hcx,hfin,hSt⟩:=walk hC hFO hlk hp (qfo ops π).size 0 st s fps (a,{w with drawn:=w.drawn+1}) (by omega) rfl (((qrJ hS).qCt (P:=P) (H:=H) (f:=f) (ops:=qfo ops π)).mono λk _=>by simp) hex;obtain ⟨X,O,hRel,hFr,hMk⟩:=hfin;obtain ⟨hI,hF⟩:=qAf hst hp hkind hcx hRel hend λc=>hSt c (Nat.zero_le c);have hcx2:cxs P ops π (a,{w with drawn:=w.drawn+1})=some fin:=by
     have:=qwe (P:=P) (ops:=ops) (ops':=qfo ops π) (g:=λk=>π.getD k 0) (List.range' 0 (qfo ops π).size) (a,{w with drawn:=w.drawn+1}) λk hk=>by
      have:=(List.mem_range'_1.1 hk).2;rw [qhx]at this;exact qmv hlt (by omega)
     rw [qhx,qxb]at this;rw [this,<- qhx ops π];exact hcx
    have hback:∀(c:Nat) (o:Oper),ops[c]?=some o->∃i,(qfo ops π)[i]?=some o:=λc o ho=>by
     have hc:=hall c (Array.getElem?_eq_some_iff.1 ho).1;obtain ⟨i,hi,he⟩:=List.getElem_of_mem hc;refine ⟨i,?_⟩;rw [qmv hlt hi];simp [hi,he,ho]
    refine qyX (s:=(a,{w with drawn:=w.drawn+1})) hpo hcx2 {ints:=λc o ho=>?_,ld:=λc o ho=>?_,st:=λc o ho=>?_} hI ⟨rfl,X,O,hRel,hFr,hMk⟩
    ·obtain ⟨i,hi⟩:=hback c o ho;exact (hF i o hi).1
    ·obtain ⟨i,hi⟩:=hback c o ho;exact (hF i o hi).2.1
    ·obtain ⟨i,hi⟩:=hback c o ho;exact (hF i o hi).2.2
   ·cases hx
  ·cases hx
 ·cases hx
end
section
variable {P:Program} {H:Hints} {f:FuncId} {C:Orc} {w w':World} {X X2:Cx}
structure WroteX (w:World) (X:Cx) (w':World) (X2:Cx) (B:List Nat):Prop where
 ω:∀k∈B,∃e,X.ω k=some (e,false)
 kept:∀k e fz,k∉B->X.ω k=some (e,fz)->w'.heap[k]?=w.heap[k]?/\X2.ω k=some (e,fz)
 β:X2.β=X.β
mutual
theorem Rep.otherX{B:List Nat}(h:WroteX w X w' X2 B):∀(x:V) (v:Value) (O:List Nat),x.soft=false->(∀k∈O,k∉B)->Rep w X x v O->Rep w' X2 x v O
 |.undef,_,_,_,_,hr=>by simpa only [Rep]using hr
 |.val _,_,_,_,_,hr=>by simpa only [Rep]using hr
 |.ptr ..,_,_,_,_,hr=>by simp only [Rep]at hr ⊢;rw [h.β];exact hr
 |.yld _,_,_,_,_,hr=>by simp only [Rep]at hr ⊢;rw [h.β];exact hr
 |.mref _,_,_,_,_,hr=>by simp only [Rep]at hr ⊢;rw [h.β];exact hr
 |.bsl ..,_,_,_,_,hr=>by simp only [Rep]at hr ⊢;rw [h.β];exact hr
 |.room s n,v,O,hs,hb,hr=>by
  simp only [Rep]at hr ⊢;obtain ⟨b1,cap,hv,hn,hs0,rfl,hω,c,t,hc,hsz⟩:=hr;obtain ⟨k1,k2⟩:=h.kept b1 _ _ (hb b1 (by simp)) hω;exact ⟨b1,cap,hv,hn,hs0,rfl,k2,c,t,by rw [k1];exact hc,hsz⟩
 |.cptr f cs,v,O,hs,hb,hr=>by
  simp only [V.soft,Bool.or_eq_false_iff,decide_eq_false_iff_not]at hs;obtain ⟨hs1,hs2⟩:=hs;simp only [Rep]at hr ⊢;obtain ⟨h0,b1,off,vals,hv,hsg,⟨e,fz,hω,hle,hsh⟩,hl,hno⟩:=hr;have hf:f=.shared:=by cases f<;>simp_all
  have hne:b1∉B:=λhm=>by
   obtain ⟨e0,hω0⟩:=h.ω b1 hm;rw [hω0]at hω;cases hω;exact absurd (hsh hf) (by simp)
  obtain ⟨k1,k2⟩:=h.kept b1 _ _ hne hω;refine ⟨h0,b1,off,vals,hv,λi u hi=>?_,⟨e,fz,k2,hle,hsh⟩,RepL.otherX h cs vals [] hs2 (by simp) hl,hno⟩;rw [qC k1];exact hsg i u hi
 |.sl f c l,v,O,hs,hb,hr=>by
  simp only [V.soft,Bool.or_eq_false_iff]at hs;obtain ⟨hs1,hs2⟩:=hs;simp only [Rep]at hr ⊢;obtain ⟨hnp,hr⟩:=hr;refine ⟨hnp,?_⟩;rcases hr with hr|⟨b1,off,cap,s,vals,O',hv,hcap,hc,hlen,hs0,hxs,hsg,hf,he,ho,ho'⟩
  ·exact .inl hr
  ·by_cases hd:f=.q5
   ·subst hd;have hl:l=[]:=by
     cases l with
     |nil=>rfl
     |cons a l=>simp at hs1
    subst hl;exact .inl ⟨rfl,(ho' (by simp)).1,.inr ⟨by simp,⟨b1,off,none⟩,cap,hv,λhcc=>hc hcc⟩⟩
   ·have hne:b1∉B:=by
     intro hm;obtain ⟨e0,hω0⟩:=h.ω b1 hm;obtain ⟨e1,fz,hω1,_,hm1⟩:=hf;rw [hω0]at hω1;cases hω1;cases f with
     |own=>exact hb b1 (by rw [ho rfl];simp) hm
     |shared=>cases hm1
     |q5=>exact hd rfl
    obtain ⟨e1,fz,hω1,hle,hm1⟩:=hf;obtain ⟨k1,k2⟩:=h.kept b1 _ _ hne hω1;refine .inr ⟨b1,off,cap,s,vals,O',hv,hcap,hc,hlen,hs0,hxs,?_,⟨e1,fz,k2,hle,?_⟩,RepE.otherX h s l vals O' hs2 ?_ he,ho,ho'⟩
    ·intro i u hi;rw [qC k1];exact hsg i u hi
    ·cases f with
     |own =>
      obtain ⟨h1,h2,⟨c',t,h3,h4⟩,h5⟩:=hm1;exact ⟨h1,h2,⟨c',t,by rw [k1];exact h3,h4⟩,h5⟩
     |q5=>trivial
     |shared=>exact hm1
    ·intro k hk;by_cases hown:f=.own
     ·exact hb k (by rw [ho hown];simp [hk])
     ·rw [(ho' hown).2]at hk;simp at hk
 |.fn f a c,v,O,hs,hb,hr=>by
  simp only [V.soft,Bool.or_eq_false_iff]at hs;simp only [Rep]at hr ⊢;obtain ⟨va,vc,O1,O2,hv,rfl,h1,h2⟩:=hr;exact ⟨va,vc,O1,O2,hv,rfl,RepL.otherX h a va O1 hs.1 (λk hk=>hb k (by simp [hk])) h1,RepL.otherX h c vc O2 hs.2 (λk hk=>hb k (by simp [hk])) h2⟩
 |.iface t x,v,O,hs,hb,hr=>by
  simp only [V.soft]at hs;simp only [Rep]at hr ⊢;obtain ⟨u,hv,h1⟩:=hr;exact ⟨u,hv,Rep.otherX h x u O hs hb h1⟩
 |.agg l,v,O,hs,hb,hr=>by
  simp only [V.soft]at hs;simp only [Rep]at hr ⊢;obtain ⟨vals,hv,h1⟩:=hr;exact ⟨vals,hv,RepL.otherX h l vals O hs hb h1⟩
 |.tuple l,v,O,hs,hb,hr=>by
  simp only [V.soft]at hs;simp only [Rep]at hr ⊢;obtain ⟨vals,hv,h1⟩:=hr;exact ⟨vals,hv,RepL.otherX h l vals O hs hb h1⟩
 |.lp ..,_,_,_,_,hr=>by simp only [Rep]at hr
 |.mp _,_,_,_,_,hr=>by simp only [Rep]at hr
theorem RepL.otherX{B:List Nat}(h:WroteX w X w' X2 B):∀(l:List V) (vals:List Value) (O:List Nat),softL l=false->(∀k∈O,k∉B)->RepL w X l vals O->RepL w' X2 l vals O
 |[],_,_,_,_,hr=>by simpa only [RepL]using hr
 |x::l,vals,O,hs,hb,hr=>by
  simp only [softL,Bool.or_eq_false_iff]at hs;simp only [RepL]at hr ⊢;obtain ⟨u,vs,O1,O2,hv,rfl,h1,h2⟩:=hr;exact ⟨u,vs,O1,O2,hv,rfl,Rep.otherX h x u O1 hs.1 (λk hk=>hb k (by simp [hk])) h1,RepL.otherX h l vs O2 hs.2 (λk hk=>hb k (by simp [hk])) h2⟩
theorem RepE.otherX{B:List Nat}(h:WroteX w X w' X2 B)(s:Nat):∀(l:List V) (vals:List Value) (O:List Nat),softL l=false->(∀k∈O,k∉B)->RepE w X s l vals O->RepE w' X2 s l vals O
 |[],_,_,_,_,hr=>by simpa only [RepE]using hr
 |x::l,vals,O,hs,hb,hr=>by
  simp only [softL,Bool.or_eq_false_iff]at hs;simp only [RepE]at hr ⊢;obtain ⟨u,vs,O1,O2,hv,hsz,rfl,h1,h2⟩:=hr;exact ⟨u,vs,O1,O2,hv,hsz,rfl,Rep.otherX h x u O1 hs.1 (λk hk=>hb k (by simp [hk])) h1,RepE.otherX h s l vs O2 hs.2 (λk hk=>hb k (by simp [hk])) h2⟩
end
theorem qry{B:List Nat}(h:WroteX w X w' X2 B){x:V}{v:Value}{O:List Nat}(hb:∀k∈O,k∉B)(hr:Rep w X x v O):∃A,Rep w' X2 x.qbx v A/\∀k,A.count k<=O.count k:=by
 unfold V.qbx;cases hs:x.soft with
 |true=>exact ⟨[],by simp [Rep],by simp⟩
 |false=>exact ⟨O,by simpa using Rep.otherX h x v O hs hb hr,λ_=>Nat.le_refl _⟩
theorem qog{B:List Nat}(h:WroteX w X w' X2 B):∀{l:List V} {vals:List Value} {O:List Nat},(∀k∈O,k∉B)->RepL w X l vals O->∃A,RepL w' X2 (l.map V.qbx) vals A/\∀k,A.count k<=O.count k
 |[],vals,O,hb,hr=>⟨[],by simp only [RepL]at hr;simp [RepL,hr.1],by simp⟩
 |x::l,vals,O,hb,hr=>by
  simp only [RepL]at hr;obtain ⟨u,vs,O1,O2,rfl,rfl,h1,h2⟩:=hr;obtain ⟨A,h3,h4⟩:=qry h (λk hk=>hb k (by simp [hk])) h1;obtain ⟨B',h5,h6⟩:=qog h (λk hk=>hb k (by simp [hk])) h2;refine ⟨A++B',by simp only [qh,RepL];exact ⟨u,vs,A,B',rfl,rfl,h3,h5⟩,λk=>?_⟩;have:=h4 k;have:=h6 k;simp only [List.count_append]<;>omega
structure Gone (w:World) (X:Cx) (w':World) (X2:Cx) (B:List Nat):Prop where
 wx:WroteX w X w' X2 B
 none:∀k,k<w.heap.size->X.ω k=none->w'.heap[k]?=w.heap[k]?/\X2.ω k=none
 size:w.heap.size<=w'.heap.size
 dom:Dom w' X2
 os:w'.os=w.os
 out:w'.output=w.output
 tape:w'.tape=w.tape
theorem qms{w0:World}{X0:Cx}{Md:Md}{n:Nat}{st:St}{D:List Deferred}{tmps:Array Value}{O:Pl->List Nat}(h:Rel st tmps w X O)(hF:Fr w0 X0 Md n st w X O)(hz:n=0->∀b e fz,X0.ω b=some (e,fz)->fz=true)(hM:qbX w0 w X D)(hL:st.L=[])(hnl:qca st.B=true)
  {t:Tmp} (hw:Gone w X w' X2 (O (.tmp t))) {d:Option Tmp} {z:V} {v:Value} {Oz:List Nat} (hr:Rep w' X2 z v Oz) (hlin:Lin Oz) (hOz:∀k∈Oz,k∈O (.tmp t)\/w.heap.size<=k) (hzp:z.qq=[]) :
  ∃O',Rel (({st with E:=(st.E.map V.qbx).set t .undef,B:=qbN st.B}:St).put d z) (qmG tmps d v) w' X2 O'/\Fr w0 X0 Md n (({st with E:=(st.E.map V.qbx).set t .undef,B:=qbN st.B}:St).put d z) w' X2 O'/\qbX w0 w' X2 D:=by
 have hn:n=0:=by rw [<- hF.lev,hL];rfl
 have hE:(({st with E:=(st.E.map V.qbx).set t .undef,B:=qbN st.B}:St).put d z).E=qsM d z ((st.E.map V.qbx).set t .undef):=by cases d<;>rfl
 have hLp:(({st with E:=(st.E.map V.qbx).set t .undef,B:=qbN st.B}:St).put d z).L=[]:=by cases d<;>exact hL
 have hbx:∀q,(({st with E:=(st.E.map V.qbx).set t .undef,B:=qbN st.B}:St).put d z).box q=(st.box q).map (List.map V.qbx):=λq=>by
  rw [qcV hLp,qcV hL];have:(({st with E:=(st.E.map V.qbx).set t .undef,B:=qbN st.B}:St).put d z).B=qbN st.B:=by cases d<;>rfl
  rw [this,qbT];split<;>rfl
 have hbs:∀q,((({st with E:=(st.E.map V.qbx).set t .undef,B:=qbN st.B}:St).put d z).box q).isSome=(st.box q).isSome:=λq=>by rw [hbx];simp
 have hlpB:∀q c,st.box q=some c->q3 c=false:=λq c hq=>by
  rw [qcV hL]at hq;split at hq
  ·exact qgP hnl hq
  ·cases hq
 have hother:∀p:Pl,p≠.tmp t->∀k∈O p,k∉O (.tmp t):=λp hp k hk hkt=>h.dis p (.tmp t) hp k hk hkt;have hold:∀k∈Oz,∀p:Pl,p≠.tmp t->k∉O p:=λk hk p hp hkp=>by
  rcases hOz k hk with h1|h1
  ·exact hother p hp k hkp h1
  ·have:=h.qyV p k hkp;omega
 have hd0:(∃d',d=some d'/\d'<st.E.length)\/(∀d',d=some d'->st.E.length<=d'):=by
  cases d with
  |none=>right;intro d' hd';cases hd'
  |some d' =>
   by_cases hlt:d'<st.E.length
   ·left;exact ⟨d',rfl,hlt⟩
   ·right;intro d2 h2;cases h2;exact Nat.le_of_not_lt hlt
 let Ob:Pl->List Nat:=λp=>if (∃d',d=some d'/\d'<st.E.length/\p=.tmp d')then Oz else if p=.tmp t then []else O p
 have hObd:∀d',d=some d'->d'<st.E.length->Ob (.tmp d')=Oz:=λd' h1 h2=>if_pos ⟨d',h1,h2,rfl⟩;have hObo:∀p,¬ (∃d',d=some d'/\d'<st.E.length/\p=.tmp d')->Ob p=if p=.tmp t then []else O p:=λp hp=>if_neg hp;have hObm:∀p k,k∈Ob p->(k∈Oz/\∃d',d=some d'/\d'<st.E.length/\p=.tmp d')\/(p≠.tmp t/\k∈O p/\¬ ∃d',d=some d'/\d'<st.E.length/\p=.tmp d'):=λp k hk=>by
  by_cases hp:∃d',d=some d'/\d'<st.E.length/\p=.tmp d'
  ·left
   obtain ⟨d',h1,h2,rfl⟩:=hp;rw [hObd d' h1 h2]at hk;exact ⟨hk,d',h1,h2,rfl⟩
  ·right
   rw [hObo p hp]at hk;split at hk
   ·simp at hk
   ·rename_i hne;exact ⟨hne,hk,hp⟩
 have hrel:=qob (w':=w') (X:=X2) (tmps:=qmG tmps d v) (st':=(({st with E:=(st.E.map V.qbx).set t .undef,B:=qbN st.B}:St).put d z)) (Ob:=Ob) (by
  rw [hE];cases d<;>simp [qmG,qsM,h.size]) ?_ ?_ ?_ ?_ ?_ ?_ ?_ ?_ hw.dom
 ·obtain ⟨O',hR,hc⟩:=hrel;refine ⟨O',hR,?_,?_⟩
  ·exact {
    gl:=hF.gl
    gm:=hF.gm
    size:=Nat.le_trans hF.size hw.size
    kept:=λk hk hMk=>by
     obtain ⟨h1,h2⟩:=hF.kept k hk hMk;have hkB:k∉O (.tmp t):=λhm=>by
      rcases hF.own (.tmp t) k hm with h3|h3
      ·omega
      ·exact hMk h3
     cases hω:X.ω k with
     |none =>
      obtain ⟨g1,g2⟩:=hw.none k (Nat.lt_of_lt_of_le hk hF.size) hω;exact ⟨by rw [g1,h1],by rw [g2,<- h2,hω]⟩
     |some p =>
      obtain ⟨e,fz⟩:=p;obtain ⟨g1,g2⟩:=hw.wx.kept k e fz hkB hω;exact ⟨by rw [g1,h1],by rw [g2,<- h2,hω]⟩
    grew:=λk e fz hω0=>by
     obtain ⟨e1,fz1,h1,h2,h3,h4⟩:=hF.grew k e fz hω0;have hkB:k∉O (.tmp t):=λhm=>by
      obtain ⟨e2,h5⟩:=hw.wx.ω k hm;rw [h1]at h5;cases h5;have:=h3 (hz hn _ _ _ hω0);cases this
     obtain ⟨g1,g2⟩:=hw.wx.kept k e1 fz1 hkB h1;exact ⟨e1,fz1,g2,h2,h3,λi u hi hc=>by rw [qC g1];exact h4 i u hi hc⟩
    β:=λr hr=>by rw [hw.wx.β];exact hF.β r hr
    own:=λp k hk=>by
     have hk':=List.count_pos_iff.1 (Nat.lt_of_lt_of_le (List.count_pos_iff.2 hk) (hc p k));rcases hObm p k hk' with ⟨h1,_⟩|⟨_,h1,_⟩
     ·rcases hOz k h1 with h2|h2
      ·exact hF.own _ k h2
      ·exact .inl (Nat.le_trans hF.size h2)
     ·exact hF.own p k h1
    boxM:=λr k hr hb=>by
     rw [hbs]at hr;exact hF.boxM r k hr (by rw [<- hw.wx.β];exact hb)
    lev:=by rw [hLp,hn];rfl
    live:=λr hr=>by
     rw [<- hF.live r hr,hbx];cases hq:st.box r with
     |none=>rfl
     |some c=>simp only [qi];rw [hlpB r c hq,qkz (hlpB r c hq)]
    os:=by rw [hw.os,hF.os]
    out:=by rw [hw.out,hF.out]
    tape:=by rw [hw.tape,hF.tape]}
  ·exact hM.of λk hk hωk _=>by
    obtain ⟨g1,g2⟩:=hw.none k (Array.getElem?_eq_some_iff.1 hk).1 hωk;exact ⟨g1,by rw [g2,hωk]⟩
 ·intro t' x' hx';rw [hE,qio]at hx';split at hx'
  ·rename_i hd;obtain ⟨rfl,hlt⟩:=hd;simp only [List.length_set,List.length_map]at hlt;cases hx'
   have hlt':t'<tmps.size:=by rw [h.size];exact hlt
   exact ⟨v,by simp [qmG,hlt'],Oz,hr,λk=>by rw [hObd t' rfl hlt];exact Nat.le_refl _⟩
  ·rename_i hd;simp only [List.length_set,List.length_map]at hd;have hnd:¬ ∃d',d=some d'/\d'<st.E.length/\Pl.tmp t'=.tmp d':=λ⟨d',h1,h2,h3⟩=>by cases h3;exact hd ⟨h1,h2⟩
   have htm:∀u,tmps[t']?=some u->(qmG tmps d v)[t']?=some u:=λu hu=>by
    cases d with
    |none=>exact hu
    |some d' =>
     have hlt:t'<tmps.size:=(Array.getElem?_eq_some_iff.1 hu).1;have hne:d'≠t':=λe=>hd ⟨by rw [e],by rw [<- h.size];exact hlt⟩;simp only [qmG];rw [Array.getElem?_setIfInBounds_ne hne];exact hu
   simp only [List.getElem?_set]at hx';split at hx'
   ·rename_i htt;subst htt;split at hx'
    ·rename_i hlt;cases hx'
     simp only [List.length_map]at hlt;obtain ⟨x0,hx0⟩:∃x0,st.E[t]?=some x0:=⟨_,List.getElem?_eq_getElem hlt⟩
     obtain ⟨u,hu,_⟩:=h.env t x0 hx0;exact ⟨u,htm u hu,[],by simp [Rep],by simp⟩
    ·cases hx'
   ·rename_i hne;rw [List.getElem?_map]at hx';obtain ⟨x0,h2,rfl⟩:=qc.1 hx';obtain ⟨u,hu,hru⟩:=h.env t' x0 h2;obtain ⟨A,h3,h4⟩:=qry hw.wx (hother (.tmp t') (λe=>hne (by cases e;rfl))) hru;exact ⟨u,htm u hu,A,h3,λk=>by rw [hObo _ hnd,if_neg (λe=>hne (by cases e;rfl))];exact h4 k⟩
 ·intro q c' hq;rw [hbx]at hq;obtain ⟨c,hc,rfl⟩:=qc.1 hq;obtain ⟨bq,hβ,hlt,hω,hbx'⟩:=h.box q c hc;obtain ⟨g1,g2⟩:=hw.none bq hlt hω;have hnd:¬ ∃d',d=some d'/\d'<st.E.length/\Pl.box q=.tmp d':=λ⟨d',_,_,h3⟩=>by cases h3
  refine ⟨bq,by rw [hw.wx.β];exact hβ,Nat.lt_of_lt_of_le hlt hw.size,g2,?_⟩;rcases hbx' with ⟨arr,ty,harr,hl⟩|⟨s,pe,g,env,ps,asg,body,lo,rfl,_⟩|⟨es,ents,clock,rfl,hm1,hm2,hm3⟩
  ·obtain ⟨A,h3,h4⟩:=qog hw.wx (hother (.box q) (by simp)) hl;refine ⟨A,.inl ⟨arr,ty,by rw [g1];exact harr,h3⟩,λk=>?_⟩;rw [hObo _ hnd,if_neg (by simp)];exact h4 k
  ·have:=hlpB q _ hc;simp [q3]at this
  ·exact ⟨[],.inr (.inr ⟨es,ents,clock,rfl,by rw [g1];exact hm1,hm2,rfl⟩),by simp⟩
 ·intro r r' k h2 h3 h4 h5;rw [hbs]at h2 h3;rw [hw.wx.β]at h4 h5;exact h.inj r r' k h2 h3 h4 h5
 ·intro p;by_cases hp:∃d',d=some d'/\d'<st.E.length/\p=.tmp d'
  ·obtain ⟨d',h1,h2,rfl⟩:=hp;rw [hObd d' h1 h2];exact hlin
  ·rw [hObo p hp];split
   ·exact Lin.nil
   ·exact h.lin p
 ·intro p q hpq k hkp hkq;rcases hObm p k hkp with ⟨h1,d1,e1,l1,rfl⟩|⟨h1,h2,_⟩<;>rcases hObm q k hkq with ⟨h3,d2,e2,l2,rfl⟩|⟨h3,h4,_⟩
  ·rw [e1]at e2;cases e2;exact hpq rfl
  ·exact hold k h1 q h3 h4
  ·exact hold k h3 p h1 h2
  ·exact h.dis p q hpq k h2 h4
 ·intro r hr';rw [hbs];obtain ⟨x',hx',hr2⟩:=qD.1 hr';obtain ⟨t',ht'⟩:=List.mem_iff_getElem?.1 hx';rw [hE,qio]at ht';split at ht'
  ·cases ht';rw [hzp]at hr2;simp at hr2
  ·simp only [List.getElem?_set]at ht';split at ht'
   ·split at ht'
    ·cases ht';simp [V.qq]at hr2
    ·cases ht'
   ·rw [List.getElem?_map]at ht';obtain ⟨x0,h2,rfl⟩:=qc.1 ht';exact h.ptrE r (qD.2 ⟨x0,List.mem_of_getElem? h2,qlN hr2⟩)
 ·intro q c' hq r' hr';rw [hbx]at hq;obtain ⟨c,hc,rfl⟩:=qc.1 hq;rw [hbs];exact h.ptrB q c hc r' (qfw hr')
 ·intro q c' hq r' hr';rw [hbx]at hq;obtain ⟨c,hc,rfl⟩:=qc.1 hq;exact h.up q c hc r' (qfw hr')
end
section
variable {P:Program} {H:Hints} {f:FuncId} {C:Orc} {w w':World} {X X2:Cx}
theorem qwZ{r:V}{v:Value}{Or:List Nat}{X':Cx}(hok:qsE r=true)(hr:Rep w X' r v Or)(hag:∀k∈Or,X2.ω k=X'.ω k):∃A,Rep w X2 r v A/\∀k,A.count k<=Or.count k:=by
 unfold qsE at hok;simp only [Bool.or_eq_true]at hok;rcases hok with hm|hs
 ·exact ⟨Or,Rep.qb9 r v Or hm hag hr,λ_=>Nat.le_refl _⟩
 ·split at hs
  ·rename_i f c;simp only [decide_eq_true_eq]at hs;refine ⟨[],?_,by simp⟩;simp only [Rep]at hr ⊢;refine ⟨hr.1,.inl ⟨trivial,trivial,?_⟩⟩;rcases hr.2 with ⟨_,_,h⟩|⟨b,off,cap,s,vals,O',hv,_,hc,_⟩
   ·exact h
   ·exact .inr ⟨hs,⟨b,off,none⟩,cap,hv,λhcc=>hc hcc⟩
  ·cases hs
theorem qAw(hC:OrcOk P C){F:Fence}{w0:World}{X0:Cx}{Md:Md}{n:Nat}(hFO:FOk F X0 Md n){st:St}{a:Act}{d:Option Tmp}{e:Tmp}{c:Bool}{l xs ys:List V}{vs:List Value}{r:V}{g:FuncId}{X:Cx}{O:Pl->List Nat}(h:Rel st a.tmps w X O)(hF:Fr w0 X0 Md n st w X O)(hM:qbX w0 w X a.defers)
  (hL:st.L=[]) (hnl:qca st.B=true) {v0:Value} (hr0:Rep w X (.sl .own c l) v0 (O (.tmp e))) {O2:List Nat} (hxs:RepL w X xs vs O2) (hsx:softL xs=false) (hox:ownsL xs=false)
  (hpk:peekL (bxH st) xs=some ys) (hyp:ptrsL ys=[]) (hg:C.own g (.sl .own c l::ys)=some r) (hrp:r.qq=[]) (hok:qsE r=true) :
  qoA True P g (v0::vs).toArray w (λv w'=>qew w0 X0 Md n (({st with E:=(st.E.map V.qbx).set e .undef,B:=qbN st.B}:St).put d r) (a.put d v) w'):=by
 have hO2:O2=[]:=repL_noowns xs vs O2 hox hxs;subst hO2;have hown:∀k∈O (.tmp e),∃e',X.ω k=some (e',false):=h.ownω (.tmp e);let Xd:Cx:={β:=X.β,ω:=λk=>if k∈O (.tmp e)then none else X.ω k}
 let Xp:Cx:={β:=X.β,ω:=λk=>if k∈O (.tmp e)then none else (X.qhw w).ω k}
 let X3:Cx:={β:=X.β,ω:=λk=>if k∈O (.tmp e)then X.ω k else (X.qhw w).ω k}
 have hwd:WroteX w X w Xd (O (.tmp e)):=⟨hown,λk e' fz hk hω=>⟨rfl,by simp [Xd,hk,hω]⟩,rfl⟩
 have hxd:RepL w Xd xs vs []:=RepL.otherX hwd xs vs [] hsx (by simp) hxs;have hfl:Flags qL Xd Xp (λ_=>True) true:={
  β:=rfl
  own:=λf=>by simp [qL]
  dul:=λ_ _=>rfl
  ω:=λ_ b e' fz hω=>by
   simp only [Xd]at hω;split at hω
   ·cases hω
   ·rename_i hk;exact ⟨true,by simp only [Xp,hk,if_false];exact peek_ω hω⟩
  sh:=λf' b e' fz hω _ _ _ _=>by
   simp only [Xd]at hω;split at hω
   ·cases hω
   ·rename_i hk;simp only [Xp,hk,if_false];exact peek_ω hω}
 have hyp0:RepL w Xp ys vs []:=peekL_okX (Ob:=λr=>O (.box r)) (bx:=bxH st) hfl (λq cq hq=>by
  unfold bxH at hq;split at hq
  ·rename_i c0 hc0;split at hq
   ·cases hq
   ·rename_i hsf;cases hq;simp only [Bool.or_eq_true,not_or,Bool.not_eq_true]at hsf;obtain ⟨bq,hβ,hlt,hω,hbx⟩:=h.box q _ hc0;have hnB:bq∉O (.tmp e):=λhm=>by
     obtain ⟨e',he'⟩:=hown bq hm;rw [hω]at he';cases he'
    obtain ⟨arr,ty,harr,hl⟩:=hbx.cells hsf.1;refine ⟨bq,hβ,hlt,by simp [Xd,hnB,hω],.inl ⟨arr,ty,harr,RepL.otherX hwd _ _ _ hsf.2 (λk hk hkt=>h.dis (.box q) (.tmp e) (by simp) k hk hkt) hl⟩,λarr' t' m' harr'=>?_⟩;simp only [Xp,hnB,if_false];exact qtP hω harr'
  ·cases hq) xs ys vs [] hpk hxd
 have hy3:RepL w X3 ys vs []:=RepL.ext (R:=ptrsL ys) (w:=w) (X:=Xp) (w':=w) (X':=X3) (U:=λ_=>False) {
  β:=λ_ _=>rfl
  ω:=λk e' fz hω=>by
   simp only [Xp]at hω;split at hω
   ·cases hω
   ·rename_i hk;exact ⟨e',fz,by simp only [X3,hk,if_false];exact hω,Nat.le_refl _,id,λ_=>⟨rfl,rfl⟩⟩
  cell:=λ_ _ _ _ _ _ _ hc=>hc
  obj:=λ_ _ _ c' t' _ _ hc=>⟨c',hc,rfl⟩} _ _ _ (λ_ hr=>hr) (by simp) hyp0
 have h03:Rep w X3 (.sl .own c l) v0 (O (.tmp e)):=Rep.ext (R:=[]) (w:=w) (X:=X) (w':=w) (X':=X3) (U:=λk=>k∉O (.tmp e)) {
  β:=λ_ _=>rfl
  ω:=λk e' fz hω=>by
   by_cases hk:k∈O (.tmp e)
   ·exact ⟨e',fz,by simp only [X3,hk,if_true];exact hω,Nat.le_refl _,id,λ_=>⟨rfl,rfl⟩⟩
   ·exact ⟨e',true,by simp only [X3,hk,if_false];exact peek_ω hω,Nat.le_refl _,λ_=>rfl,λhn=>absurd hk hn⟩
  cell:=λ_ _ _ _ _ _ _ hc=>hc
  obj:=λ_ _ _ c' t' _ _ hc=>⟨c',hc,rfl⟩} _ _ _ (by simp [V.qq]) (λk hk hn=>hn hk) hr0
 have hcall:=hC.own _ _ _ hg w X3 (v0::vs) (O (.tmp e)) (by simp only [RepL];exact ⟨v0,vs,O (.tmp e),[],rfl,by simp,h03,hy3⟩)
  (hF.now.of λx hx e' hω=>⟨⟨e',by
   have hk:x.1∉O (.tmp e):=λhm=>by
    obtain ⟨e2,h2⟩:=hown _ hm;rw [hω]at h2;cases h2
   simp only [X3,hk,if_false];exact peek_ω hω⟩,rfl⟩)
  (λk e' fz hω=>by
   simp only [X3]at hω;split at hω
   ·exact h.dom k e' fz hω
   ·exact qtQ h.dom k e' fz hω)
  (h.lin _) (by simp [ptrsL,V.qq,hyp])
  (λk e' fz hω=>by
   simp only [X3]at hω;split at hω
   ·right;assumption
   ·left;exact qmu hω)
 refine hcall.mono (λh=>h) ?_;rintro v w' ⟨X',Or,hrep,hlin,hOr,hdom,hsize,hkept,hos,hout,htape⟩;let X2:Cx:={β:=X.β,ω:=λk=>if k<w.heap.size/\k∉O (.tmp e)then X.ω k else X'.ω k}
 have hgone:Gone w X w' X2 (O (.tmp e)):={
  wx:=⟨hown,λk e' fz hk hω=>by
   have:=h.dom k e' fz hω;exact ⟨hkept k this hk,by simp [X2,this,hk,hω]⟩,rfl⟩
  none:=λk hk hω=>by
   have hkB:k∉O (.tmp e):=λhm=>by
    obtain ⟨e',he'⟩:=hown k hm;rw [hω]at he';cases he'
   exact ⟨hkept k hk hkB,by simp [X2,hk,hkB,hω]⟩
  size:=hsize
  dom:=λk e' fz hω=>by
   simp only [X2]at hω;split at hω
   ·have:=h.dom k e' fz hω;omega
   ·exact hdom k e' fz hω
  os:=hos
  out:=hout
  tape:=htape}
 obtain ⟨A,hA,hAc⟩:=qwZ (X2:=X2) hok hrep (λk hk=>by
  simp only [X2];rw [if_neg];rintro ⟨h1,h2⟩;rcases hOr k hk with h3|h3
  ·exact h2 h3
  ·omega)
 obtain ⟨O',hR',hF',hM'⟩:=qms (d:=d) h hF (λh0=>hFO.2 h0) hM hL hnl hgone hA (λk=>Nat.le_trans (hAc k) (hlin k)) (λk hk=>hOr k (List.count_pos_iff.1 (Nat.lt_of_lt_of_le (List.count_pos_iff.2 hk) (hAc k)))) hrp;have hdef:(a.put d v).defers=a.defers:=by cases d<;>rfl
 exact ⟨X2,O',by rw [qbV];exact hR',hF',by rw [hdef];exact hM'⟩
theorem qw5(hC:OrcOk P C){F:Fence}{w0:World}{X0:Cx}{Md:Md}{n:Nat}(hFO:FOk F X0 Md n){ops:Array Oper}{i:Nat}{o:Oper}{st st':St}{a:Act}(ho:ops[i]?=some o)(hS:qew w0 X0 Md n st a w)(hx:qri H C f o st=some st')
  {K:Act->World->Prop} {Q:Exit->Act->World->Prop} (hK:∀a' w',qew w0 X0 Md n st' a' w'->K a' w'):wpOpIn F 0 P ops Q i K a w:=by
 have hFF:=qeG hFO;obtain ⟨X,O,h,hF,hM⟩:=hS;unfold qri at hx;split at hx
 ·rename_i g args argTypes hop;split at hx
  ·rename_i e tl hargs;split at hx
   ·rename_i hc;simp only [qe,List.isEmpty_iff,Option.isNone_iff_eq_none]at hc;obtain ⟨⟨⟨⟨hL,hnl⟩,hgd⟩,_⟩,hnd⟩:=hc;split at hx
    ·rename_i fv c l xs hvals;split at hx
     ·rename_i hso;simp only [qe,Bool.not_eq_true']at hso;obtain ⟨⟨⟨_,_⟩,hsx⟩,hox⟩:=hso;split at hx
      ·rename_i ys hpk;split at hx
       ·rename_i hyp;split at hx
        ·rename_i r hg;split at hx
         ·rename_i hrok;simp only [qe,List.isEmpty_iff]at hrok;simp only [qb]at hx;subst hx;have htk:q7 H f o=true:=by simp [q7,hop,qm6]
          have hoper:o.op.operands.toList=.func g::.tmp e::tl:=by
           rw [hop];simp [Op.operands,Call.operands,hargs]
          obtain ⟨Oin,hrep,_,_⟩:=qbj (H:=H) (f:=f) h o o.op.operands.toList (λ_=>hnd);rw [hvals]at hrep;rw [hoper]at hrep hvals;simp only [qh,RepL]at hrep;obtain ⟨u0,vs0,O0,O1,he0,_,_,h1⟩:=hrep;obtain ⟨u1,vs1,Oa,Ob,he1,_,_,hxs⟩:=h1;simp only [List.cons.injEq]at he0 he1;obtain ⟨_,rfl⟩:=he0;simp only [List.cons.injEq]at he1;obtain ⟨_,rfl⟩:=he1;simp only [qh,List.cons.injEq,rd,htk,if_true]at hvals;obtain ⟨_,hEe,_⟩:=hvals;have hE:∃v0,st.E[e]?=some (.sl .own c l)/\a.eval (.tmp e)=v0/\Rep w X (.sl .own c l) v0 (O (.tmp e)):=by
           rw [List.getD_eq_getElem?_getD]at hEe;cases hq:st.E[e]? with
           |none=>rw [hq]at hEe;simp at hEe
           |some x =>
            rw [hq]at hEe;simp only [Option.getD_some]at hEe;subst hEe;obtain ⟨v,hv,hr⟩:=h.env e _ hq;exact ⟨v,rfl,qcS hv,hr⟩
          obtain ⟨v0,_,hev0,hr0⟩:=hE;have key:=qAw (d:=o.dst) hC hFO h hF hM hL hnl hr0 hxs hsx hox hpk (by simpa using hyp) hg hrok.1 hrok.2;unfold wpOpIn;rw [ho];have hwant:Region.wanted o (yielded ops a.tmps)=true:=by unfold Region.wanted;rw [hgd]
          simp only [hwant,if_true];refine ⟨λg _=>qf1 hFF g,?_⟩;rw [Oper.semAt_eq _ _ _ (by intro c hc;rw [hop]at hc;cases hc)];have hrun:(execOp a.eval o).run P w=(callFunc g (v0::tl.map a.eval).toArray).run P w:=by
           simp only [execOp,hop,resolve];have hev:a.eval (.func g)=.func (.func g) #[] #[]:=rfl;rw [hev];simp only [Deferred.ofValue,Sem.run_bind,Sem.run_pure,Result.andThen_ok,invoke];congr 2
           apply Array.ext';simp [hargs,hev0]
          rw [hrun];exact qek hFF (key.mono (λh=>h) λv w' hS'=>hK _ _ hS')
         ·cases hx
        ·cases hx
       ·cases hx
      ·cases hx
     ·cases hx
    ·cases hx
   ·cases hx
  ·cases hx
 ·cases hx
theorem qwj(hC:OrcOk P C){F:Fence}{w0:World}{X0:Cx}{Md:Md}{n:Nat}(hFO:FOk F X0 Md n){ops:Array Oper}{Q:Exit->Act->World->Prop}:∀(L:List Nat) (st st':St) (a:Act) (w:World),qew w0 X0 Md n st a w->exW P H C f ops L st=some st' ->
  (∀a' w',qew w0 X0 Md n st' a' w'->Q .normal a' w')->wpOpsIn F 0 P ops Q L a w
 |[],st,st',a,w,hS,hx,hK=>by
  simp only [exW,qb]at hx;subst hx;exact hK a w hS
 |i::L,st,st',a,w,hS,hx,hK=>by
  rw [wpOpsIn_cons];simp only [exW]at hx;split at hx
  ·cases hx
  ·rename_i o ho;split at hx
   ·split at hx
    ·rename_i s1 h1;exact qw5 hC hFO ho hS h1 λa' w' hS'=>qwj hC hFO L s1 st' a' w' hS' hx hK
    ·cases hx
   ·split at hx
    ·rename_i s1 ft h1;obtain ⟨X,Md2,hS2,_,_,lift⟩:=qzK hS;refine qw2 hC (qeG hFO) hS2 h1 λa' w' hd hS'=>?_;have:=lift _ _ _ hS';rw [<- hd]at this;exact qwj hC hFO L s1 st' a' w' this hx hK
    ·cases hx
end
end Go.Ab
end
