/-
  ONE LAW OF A CHAPTER: its program side is run by an interpreter that is proved sound; what it computes is shown to be what the law says. No conditions. Part 5 of 6.
-/
import Derived.Test.YtbcdgfgacigaoaaGreatMExd
import Derived.Deep.Slices
import Derived.Carry
import Derived.ChangeBears2
import Derived.ChangeSame
import Derived.JoinedCond
import Derived.OpenShut
import Derived.ProofKit
import Derived.Test.YtbcdgfgacigaoaaGreatProg
import Derived.KernelRfl
import Derived.Test.YtbcdgfgacigaoaaGreatRows
import Derived.WalkKit
set_option linter.unusedSimpArgs false
set_option linter.unusedVariables false
set_option linter.unnecessarySimpa false
section
namespace Go.Tx
open Go Go.Ab
variable {P:Program} {H:Hints} {J:TH} {T:qt7} {O:TOrc} {lib:FuncId->Option (List V->Option V)} {f:FuncId} {ctx:List Tmp}
def Ev (p:Orc->Prop) (P:Program) (H:Hints) (lib:FuncId->Option (List V->Option V)):Prop:=∃ n,∀ m,n<=m->p (qu5 P H lib m)
theorem Ev.and {p q:Orc->Prop} (h:Ev p P H lib) (h':Ev q P H lib):Ev (λC=>p C/\q C) P H lib:=by
 obtain ⟨n,h⟩:=h; obtain ⟨n',h'⟩:=h';exact ⟨max n n',λm hm=>⟨h m (by omega),h' m (by omega)⟩⟩
theorem Ev.imp {p q:Orc->Prop} (h:Ev p P H lib) (hi:∀ C,p C->q C):Ev q P H lib:=by
 obtain ⟨n,h⟩:=h; exact ⟨n,λm hm=>hi _ (h m hm)⟩
theorem Ev.qlj:Ev (λC=>C.qlj = H.qlj) P H lib:=⟨1,λm hm=>by
 cases m with
 | zero=>omega
 | succ m=>rfl⟩
theorem Ev.of {p:Orc->Prop} (h:∀ C,p C):Ev p P H lib:=⟨0,λm _=>h _⟩
def qCw (P:Program) (H:Hints) (lib:FuncId->Option (List V->Option V)) (f:FuncId) (bid:Nat) (c:Code) (s:St) (e:Ex) (s':St):Prop:=Ev (λC=>ex P H C f bid c s = some (e,s')) P H lib
def qw8 (P:Program) (H:Hints) (lib:FuncId->Option (List V->Option V)) (g:FuncId) (args:List V) (M:List Level) (r:V) (M':List Level):Prop:=Ev (λC=>C.call g args M = some (r,M')) P H lib
def Snd (run:TSt->(R:Type)->(Ex->TSt->Option R)->Option R) (rel:St->Ex->St->Prop):Prop :=
 ∀ (st:TSt) (R:Type) (k:Ex->TSt->Option R) (r:R) (s:St),run st R k = some r->Rst st s->∃ e st' s',rel s e s'/\Rst st' s'/\Fr2 st st' s s'/\k e st' = some r
theorem qsX (st:TSt) (p:Place) (v:TV):(st.qcf p v).Wt = st.Wt/\(st.qcf p v).Wb = st.Wb:=by
 unfold TSt.qcf;cases p.lvl with
 | none=>exact ⟨rfl,rfl⟩
 | some l =>
  simp only
  cases st.box ⟨l,p.slot⟩ with
  | none=>exact ⟨rfl,rfl⟩
  | some cs=>exact ⟨by simp only [TSt.qj]; split <;> rfl,rfl⟩
theorem qj0:∀ (ps:List Place) (vs:List TV) (st:TSt),(qdw st ps vs).Wt = st.Wt/\(qdw st ps vs).Wb = st.Wb
 | [],vs,st=>by cases vs <;> exact ⟨rfl,rfl⟩
 | p :: ps,[],st=>⟨rfl,rfl⟩
 | p :: ps,v :: vs,st=>by
  have h1:=qj0 ps vs (st.qcf p v);have h2:=qsX st p v;exact ⟨h1.1.trans h2.1,h1.2.trans h2.2⟩
theorem qjc (st:TSt) (r:Root) (c:List TV) (q:Root) (h:(st.cont q).isSome = true):((st.qj r c).cont q).isSome = true:=by
 obtain ⟨l,s⟩:=r;obtain ⟨l',s'⟩:=q;have key:∀ b:qK,(match q4 b s' with | some (some c)=>some c | _=>none:Option (List TV)).isSome = true->(match q4 (qxc b s (some c)) s' with | some (some c)=>some c | _=>none:Option (List TV)).isSome = true:=λb hb=>by
  rw [qjm];by_cases e:s' = s
  ·rw [if_pos e];subst e;cases hl:q4 b s' with
   | none=>rw [hl] at hb; cases hb
   | some o=>rfl
  ·rw [if_neg e]; exact hb
 unfold TSt.qj TSt.cont at *;simp only at h ⊢;by_cases h1:l = st.L.length
 ·rw [if_pos h1];simp only
  by_cases h2:l' = st.L.length
  ·rw [if_pos h2] at h ⊢; exact key _ h
  ·rw [if_neg h2] at h ⊢; exact h
 ·rw [if_neg h1];simp only [List.length_modify];by_cases h2:l' = st.L.length
  ·rw [if_pos h2] at h ⊢; exact h
  ·rw [if_neg h2] at h ⊢;rw [List.getElem?_modify];cases hb:st.L[l']? with
   | none=>rw [hb] at h; cases h
   | some b =>
    rw [hb] at h;simp only [Option.map_eq_map,Option.map_some];by_cases e:l = l'
    ·rw [if_pos e]; exact key _ h
    ·rw [if_neg e]; exact h
theorem qp6:∀ (ps:List Place) (vs:List TV) (st:TSt) (t:Nat),(qdw st ps vs).E.toL[t]? = st.E.toL[t]?\/∃ v ∈ vs,(qdw st ps vs).E.toL[t]? = some v
 | [],vs,st,t=>by cases vs <;> exact .inl rfl
 | p :: ps,[],st,t=>.inl rfl
 | p :: ps,v :: vs,st,t=>by
  rcases qp6 ps vs (st.qcf p v) t with h | ⟨u,hu,h⟩
  ·show (qdw (st.qcf p v) ps vs).E.toL[t]? = _\/∃ u ∈ v :: vs,(qdw (st.qcf p v) ps vs).E.toL[t]? = some u;rw [h];unfold TSt.qcf;cases p.lvl with
   | none =>
    simp only [qf9,List.getElem?_set];split
    ·split
     ·exact .inr ⟨v,by simp,rfl⟩
     ·rename_i h1 h2; left; rw [List.getElem?_eq_none (by omega)]
    ·exact .inl rfl
   | some l =>
    simp only
    cases st.box ⟨l,p.slot⟩ with
    | none=>exact .inl rfl
    | some cs=>left; simp only [TSt.qj]; split <;> rfl
  ·exact .inr ⟨u,by simp [hu],h⟩
theorem quA (st:TSt) (p:Place) (v:TV) (r:Root) (h:(st.cont r).isSome = true):((st.qcf p v).cont r).isSome = true:=by
 unfold TSt.qcf;cases p.lvl with
 | none=>exact h
 | some l =>
  simp only
  cases hb:st.box ⟨l,p.slot⟩ with
  | none=>exact h
  | some cs =>
   simp only
   have hbx:({ st.qj ⟨l,p.slot⟩ (cs.set p.cell v) with Wb:=st.Wb }:TSt).cont r = (st.qj ⟨l,p.slot⟩ (cs.set p.cell v)).cont r:=rfl;rw [hbx];exact qjc st ⟨l,p.slot⟩ _ r h
theorem ql0:∀ (ps:List Place) (vs:List TV) (st:TSt) (r:Root),(st.cont r).isSome = true->((qdw st ps vs).cont r).isSome = true
 | [],vs,st,r,h=>by cases vs <;> exact h
 | p :: ps,[],st,r,h=>h
 | p :: ps,v :: vs,st,r,h=>ql0 ps vs _ r (quA st p v r h)
theorem qwY (τ:Ty) (o:Nat) (x:τ.den):∀ rs,ofTy τ o x ≠ .any rs:=λrs=>by cases τ <;> simp [ofTy]
theorem qAb:∀ (ps:List (Ty × Nat)) (x:denL (ps.map (·.1))),∀ v ∈ ofL ps x,∀ rs,v ≠ .any rs
 | [],x,v,hv=>by simp [ofL] at hv
 | [(τ,o)],x,v,hv=>by simp only [ofL,List.mem_singleton] at hv; subst hv; exact qwY τ o x
 | (τ,o) :: q :: ps,x,v,hv=>by
  simp only [ofL,List.mem_cons] at hv;rcases hv with rfl | hv
  ·exact qwY τ o x.1
  ·exact qAb (q :: ps) x.2 v hv
theorem qjy {st st2:TSt} {s s':St} {j:Join} {x:denL (j.ps.map (·.1))} (h2:Rst st2 s') (hf:Fr2 st.fresh st2 s s') (ho:st2.outs st j = some x):Fr2 st (st.qdf j (ofL j.ps x)) s s':=by
 generalize hvs:ofL j.ps x = vs;have hany:∀ v ∈ vs,∀ rs,v ≠ .any rs:=by rw [<- hvs]; exact qAb j.ps x
 unfold TSt.outs at ho;split at ho
 ·rename_i hc;simp only [qe] at hc;obtain ⟨⟨_,hwr⟩,_⟩:=hc;unfold TSt.wrote at hwr;simp only [qe,List.all_eq_true] at hwr;obtain ⟨hwt0,hwb⟩:=hwr;have hwt:∀ t ∈ st2.Wt,t ∈ j.D:=λt ht=>Mask.qzg hwt0 ht;have hl:=qj0 j.lv vs { j.wr.foldl (λ(st:TSt) r=>st.forget j.rb r) { st with E:=qeW j.D j.qz6 st.E } with Wt:=j.D ++ st.Wt,Wb:=j.wr ++ st.Wb };have e1:(st.qdf j vs).Wt = j.D ++ st.Wt:=hl.1;have e2:(st.qdf j vs).Wb = j.wr ++ st.Wb:=hl.2;refine ⟨λt ht=>by rw [e1]; simp [ht],λr hr=>by rw [e2]; simp [hr],λt ht=>?_,λt ht rs hE=>?_,λr hr=>?_,λr hr hsm=>?_,hf.len,hf.elen⟩
  ·rw [e1] at ht;exact hf.e t λhh=>ht (by simp [hwt t hh])
  ·rw [e1] at ht;simp only [Mask.mem_append,not_or] at ht;unfold TSt.qdf at hE;rcases qp6 j.lv vs _ t with h3 | ⟨v,hv,h3⟩
   ·rw [h3] at hE;have h4:(j.wr.foldl (λ(st:TSt) r=>st.forget j.rb r) { st with E:=qeW j.D j.qz6 st.E }).E.toL[t]? = some (.any rs):=hE;rw [qp0] at h4;simp only at h4;rw [qkF,if_neg ht.1] at h4;exact ⟨rs,h4⟩
   ·rw [h3] at hE;exact absurd (Option.some.inj hE) (hany v hv rs)
  ·rw [e2] at hr;by_cases hm:r ∈ st2.Wb
   ·have:=hwb r hm;simp only [Bool.or_eq_true,decide_eq_true_eq] at this;rcases this with h3 | h3
    ·exact absurd (by simp at h3; simp [h3]) hr
    ·rw [qI,qI];unfold qaJ;have h4:=h2.len;have h5:=hf.len;rw [List.getElem?_eq_none (by simp [qdO]; omega),List.getElem?_eq_none (by simp [qdO]; omega)];exact .inl rfl
   ·exact hf.b r hm
  ·rw [e2] at hr;simp only [List.mem_append,not_or] at hr;unfold TSt.qdf;refine ql0 j.lv vs _ r ?_;obtain ⟨c,hc⟩:=Option.isSome_iff_exists.1 hsm;have hlk:=qfe hc;have h3:qay (j.wr.foldl (λ(st:TSt) r=>st.forget j.rb r) { st with E:=qeW j.D j.qz6 st.E }).all r.lvl r.slot = some (some c):=by
    rw [qhy,if_neg (λhh=>hr.1 hh.1)];exact hlk
   have h4:({ j.wr.foldl (λ(st:TSt) r=>st.forget j.rb r) { st with E:=qeW j.D j.qz6 st.E } with Wt:=j.D ++ st.Wt,Wb:=j.wr ++ st.Wb }:TSt).cont r = some c:=by
    rw [qbg];show (match qay (j.wr.foldl (λ(st:TSt) r=>st.forget j.rb r) { st with E:=qeW j.D j.qz6 st.E }).all r.lvl r.slot with
     | some (some c)=>some c
     | _=>none) = some c
    rw [h3]
   rw [h4]; rfl
 ·cases ho
theorem qxq {st st2:TSt} {s s':St} (hf:Fr2 st.fresh st2 s s'):Fr2 st (st2.merge st) s s' :=
 ⟨λt ht=>by simp [TSt.merge,ht],λr hr=>by simp [TSt.merge,hr],λt ht=>hf.e t λhh=>ht (by simp [TSt.merge,hh]),λt ht rs hE=>hf.an t (λhh=>ht (by simp [TSt.merge,hh])) rs hE,λr hr=>hf.b r λhh=>hr (by simp [TSt.merge,hh]),λr hr hsm=>hf.bn r (λhh=>hr (by simp [TSt.merge,hh])) hsm,hf.len,hf.elen⟩
theorem Rst.fresh {st:TSt} {s:St} (h:Rst st s):Rst st.fresh s:=⟨h.E,h.M⟩
theorem Rst.merge {st st0:TSt} {s:St} (h:Rst st s):Rst (st.merge st0) s:=⟨h.E,h.M⟩
theorem qoh {run:TSt->(R:Type)->(Ex->TSt->Option R)->Option R} {rel:St->Ex->St->Prop} (h:Snd run rel) (j:Option Join):Snd (λst R k=>qyF j st run R k) rel:=by
 intro st R k r s hr hs;simp only [qyF] at hr;cases j with
 | none=>exact h st R k r s hr hs
 | some j =>
  simp only at hr;split at hr
  ·obtain ⟨x,hx,hk⟩:=qd.1 hr;obtain ⟨e,st2,s',hrel,hR,hF,hkk⟩:=h _ _ _ _ s hx hs.fresh;have habn:∀ e,(k e (st2.merge st)).map Sum.inr = some x->rel s e s'->∃ e st' s',rel s e s'/\Rst st' s'/\Fr2 st st' s s'/\k e st' = some r:=λe hkk hrel=>by
    obtain ⟨y,hy,rfl⟩:=qc.1 hkk;simp only [Sum.elim_inr,qb] at hk;subst hk;exact ⟨e,_,s',hrel,hR.merge,qxq hF,hy⟩
   cases e with
   | normal =>
    obtain ⟨y,hy,rfl⟩:=qc.1 hkk;simp only [Sum.elim_inl] at hk;exact ⟨.normal,_,s',hrel,qjo hs hR hF hy,qjy hR hF hy,hk⟩
   | exit id=>exact habn _ hkk hrel
   | ret=>exact habn _ hkk hrel
  ·obtain ⟨x,hx,hk⟩:=qd.1 hr;obtain ⟨e,st2,s',hrel,hR,hF,hkk⟩:=h _ _ _ _ s hx hs.fresh;cases e with
   | normal=>exact ⟨.normal,_,s',hrel,qjo hs hR hF hkk,qjy hR hF hkk,hk⟩
   | exit id=>cases hkk
   | ret=>cases hkk
def TOk (P:Program) (H:Hints) (lib:FuncId->Option (List V->Option V)) (T:qt7):Prop :=
 ∀ g args (R:Type) (k:TV->Option R) r vs,T g args R k = some r->RVL args vs->∃ x v,k x = some r/\RV x v/\qw8 P H lib g vs [] v []
structure OOk (P:Program) (H:Hints) (lib:FuncId->Option (List V->Option V)) (O:TOrc):Prop where
 call:∀ ctx g args M (R:Type) (k:TV->List qK->List Root->Option R) r vs M',O.call ctx g args M R k = some r->RVL args vs->LR M M' ->
  ∃ x N wb v N',k x N wb = some r/\RV x v/\LR N N'/\N.length = M.length/\(∀ l sl,(⟨l,sl⟩:Root) ∉ wb->qaJ N' l sl = qaJ M' l sl/\∀ c,qay M l sl = some (some c)->∃ c',qay N l sl = some (some c'))/\qw8 P H lib g vs M' v N'
 code:∀ ctx f bid c,Snd (λst R k=>O.code ctx f bid c st R k) λs e s'=>Ev (λC=>C.code f bid c s = some (e,s')) P H lib
 born:∀ ctx g args (R:Type) (k:TV->TV->Option R) r vs,O.born ctx g args R k = some r->RVL args vs ->
  ∃ x τ o l v sl,k x (.t (.mset τ) o l) = some r/\qix τ = true/\RV x v/\x.onlyMaps = true/\Ev (λC=>C.born g vs = some (v,sl,kvs τ l)) P H lib
theorem qmE (f:Fl):qh7 f ≠ .own:=by cases f <;> simp [qh7]
theorem qt8 (f:Fl):qjz f = .own ↔ f = .own:=by cases f <;> simp [qjz]
theorem quD (f:Fl):qjr f = .own ↔ f = .own:=by cases f <;> simp [qjr]
theorem qhO:∀ {M:List qK} {L:List qK} {B:qK},qfW M = some (L,B)->M = L ++ [B]
 | [],_,_,h=>by cases h
 | [b],_,_,h=>by simp only [qfW,qb,Prod.mk.injEq] at h; simp [<- h.1,<- h.2]
 | b :: c :: l,L,B,h=>by
  simp only [qfW] at h;obtain ⟨⟨x,y⟩,hxy,h2⟩:=qc.1 h;simp only [Prod.mk.injEq] at h2;obtain ⟨rfl,rfl⟩:=h2;simp [qhO hxy]
theorem qhK:∀ (L:List Level) (B:Level),qen (L ++ [B]) = some (L,B)
 | [],B=>rfl
 | [a],B=>rfl
 | a :: b :: L,B=>by
  have:=qhK (b :: L) B;simp only [List.cons_append] at this ⊢;simp only [qen,this,Option.map_some]
theorem qmM {α:Type}:∀ {M:List α} {n:Nat},M.length = n + 1->∃ L B,M = L ++ [B]
 | [],n,h=>by simp at h
 | [b],n,h=>⟨[],b,rfl⟩
 | b :: c :: l,n,h=>by
  obtain ⟨L,B,e⟩:=qmM (M:=c :: l) (n:=l.length) (by simp);exact ⟨b :: L,B,by rw [e]; rfl⟩
theorem LR.init {M:List qK} {M':List Level} (h:LR M M'):LR (M ++ [[]]) (M' ++ [[]]) where
 len:=by simp [h.len]
 rel:=λl s=>by
  have key:=h.rel l s;unfold qay qaJ at key ⊢;have hl:=h.len;by_cases e:l < M.length
  ·rw [List.getElem?_append_left e,List.getElem?_append_left (by omega)]; exact key
  ·rw [List.getElem?_append_right (by omega),List.getElem?_append_right (by omega),hl];cases l - M.length with
   | zero=>simp [q4,qt,RB]
   | succ n=>simp [RB]
 nd:=λb hb=>by
  simp only [List.mem_append,List.mem_singleton] at hb;rcases hb with hb | rfl
  ·exact h.nd b hb
  ·simp
 mp:=λl s c hc hlt=>by
  have key:=h.mp l s c;unfold qaJ at key hc;by_cases e:l < M'.length
  ·rw [List.getElem?_append_left e] at hc; exact key hc hlt
  ·rw [List.getElem?_append_right (by omega)] at hc;cases hm:l - M'.length with
   | zero=>rw [hm] at hc; simp [qt] at hc
   | succ n=>rw [hm] at hc; simp at hc
theorem LR.front {M:List qK} {M':List Level} {b:qK} {b':Level} (h:LR (M ++ [b]) (M' ++ [b'])):LR M M' where
 len:=by have:=h.len; simp at this; exact this
 rel:=λl s=>by
  have hl:M'.length = M.length:=by have:=h.len; simp at this; exact this
  have key:=h.rel l s;unfold qay qaJ at key ⊢;by_cases e:l < M.length
  ·rw [List.getElem?_append_left e,List.getElem?_append_left (by omega)] at key; exact key
  ·rw [List.getElem?_eq_none (by omega),List.getElem?_eq_none (by omega)]; rfl
 nd:=λc hc=>h.nd c (by simp [hc])
 mp:=λl s c hc hlt=>by
  have key:=h.mp l s c;unfold qaJ at key hc;by_cases e:l < M'.length
  ·rw [List.getElem?_append_left e] at key; exact key hc hlt
  ·rw [List.getElem?_eq_none (by omega)] at hc; cases hc
theorem qxZ (st:TSt) (r:Root) (v:TV):(st.qrd r v).all = st.all.modify r.lvl (λb=>qxc b r.slot (some [v])):=qkL st r [v]
theorem qul {st:TSt} {s:St} (hs:Rst st s) {r:Root} {c0:List TV} (hb:st.cont r = some c0) {x:LoopState} {pe:Option Code} {g:FuncId} {env:List TV} {env':List V} {ps:List Tmp} {a b:Code} (he:RVL env env') :
  Rst (st.qrd r (.lp x pe g env ps a b)) (s.qj r [.lp x pe g env' ps a b]):=by
 have e1:(st.qrd r (.lp x pe g env ps a b)).E = st.E:=(show (st.qj r [_]).E = st.E by unfold TSt.qj; split <;> rfl)
 have e2:(s.qj r [.lp x pe g env' ps a b]).E = s.E:=by unfold St.qj; split <;> rfl
 refine ⟨by rw [e1,e2]; exact hs.E,?_⟩;rw [qxZ,qri];exact LR.qj hs.M _ _ (by rw [qfe hb]; simp) ⟨env',rfl,he⟩ (λ_=>rfl)
theorem qqe (st:TSt) (r:Root) (v:TV) (q:Root) (h:(st.cont q).isSome = true):((st.qrd r v).cont q).isSome = true:=qjc st r [v] q h
theorem qsn {st:TSt} {s:St} (hs:Rst st s) {r:Root} {x:LoopState} {pe:Option Code} {g:FuncId} {env:List TV} {ps:List Tmp} {a b:Code} (h:st.cont r = some [.lp x pe g env ps a b]) :
  ∃ env',s.box r = some [.lp x pe g env' ps a b]/\RVL env env':=by
 have:=hs.M.rel r.lvl r.slot;rw [qfe h] at this;obtain ⟨c',h1,env',rfl,h2⟩:=this;exact ⟨env',by rw [qI]; exact h1,h2⟩
theorem qrX:∀ {E:Env} {E':List V} {ps:List Tmp} {asz:List TV} {vs:List V},RVL E.toL E'->RVL asz vs->RVL (qkb E ps asz).toL (qfC E' ps vs)
 | E,E',[],asz,vs,hE,ha=>by
  cases asz with
  | nil=>simp only [RVL] at ha; subst ha; exact hE
  | cons a asz=>simp only [RVL] at ha; obtain ⟨v,m,rfl,_⟩:=ha; exact hE
 | E,E',t :: ps,[],vs,hE,ha=>by simp only [RVL] at ha; subst ha; exact hE
 | E,E',t :: ps,a :: asz,vs,hE,ha=>by
  simp only [RVL] at ha;obtain ⟨v,m,rfl,h1,h2⟩:=ha;simp only [qkb,qfC];exact qrX (by rw [qf9]; exact RVL.set _ hE h1) h2
theorem qDr {E:List V} {L:List Level} {B:Level} {q:Root} (h:q.lvl < L.length):({ E,L,B }:St).box q = qaJ L q.lvl q.slot:=by
 rw [qI];unfold qaJ qdO;simp only
 rw [List.getElem?_append_left h]
theorem qAU (hO:OOk P H lib O) {d:Tmp} {r:Root} {args:List TV} {args':List V} {st:TSt} {s:St} {R:Type} {k:TV->TSt->Option R} {res:R}
  (ha:RVL args args') (hs:Rst st s) (h:qAH O ctx d r args st R k = some res) :
  ∃ v st' u s',k v st' = some res/\Ev (λC=>ql5 C r args' s = some (u,s')) P H lib/\RV v u/\Rst st' s'/\Fr2 st st' s s'/\st'.E = st.E/\s'.E = s.E:=by
 unfold qAH at h;split at h
 ·rename_i g env ps asz bo hc1;obtain ⟨env',hb1,hre⟩:=qsn hs hc1;split at h
  ·cases h
  ·rename_i hlen;have hlen':¬ args'.length ≠ ps.length:=by rw [ha.length]; exact hlen
   have hE0:RVL (qkb (Env.qh5 env env.length) ps (dullL args)).toL (qfC env' ps (args'.map V.hand)):=by
    refine qrX ?_ (ha.qsL qmE rfl);rw [qna]; simpa using hre
   have h0:Rst { E:=qkb (Env.qh5 env env.length) ps (dullL args),L:=st.L ++ [st.B],B:=[],Wt:=.empty,Wb:=[] } { E:=qfC env' ps (args'.map V.hand),L:=s.L ++ [s.B],B:=[] }:=⟨hE0,hs.M.init⟩
   obtain ⟨e1,t2,s2,hev1,hR2,hF2,h⟩:=hO.code _ _ _ _ _ _ _ _ _ h h0;cases e1 with
   | exit id=>cases h
   | ret=>cases h
   | normal =>
    simp only at h;split at h
    ·rename_i g2 env2 ps2 as2 bo2 hc2;obtain ⟨env2',hb2,hre2⟩:=qsn hR2 hc2;have hset:=qul hR2 hc2 (x:=.busy) (pe:=none) (g:=g2) (ps:=ps2) (a:=as2) (b:=bo2) hre2;obtain ⟨e3,t3,s3,hev2,hR3,hF3,h⟩:=hO.code _ _ _ _ _ _ _ _ _ h hset;split at h
     ·rename_i x9 pe9 g3 env3 ps3 as3 bo3 hc3;obtain ⟨env3',hb3,hre3⟩:=qsn hR3 hc3;have hset3:=qul hR3 hc3 (x:=if e3.code.isNone then .ready else .done) (pe:=e3.code) (g:=g3) (ps:=ps3) (a:=as3) (b:=bo3) hre3;split at h
      ·rename_i L B hsp;have hL3:=qhO hsp;split at h
       ·rename_i hL;have hlen0:=hs.len;have hlA:(s3.qj r [.lp (if e3.code.isNone then .ready else .done) e3.code g3 env3' ps3 as3 bo3]).L.length = L.length + 1:=by
         have:=hset3.len; rw [hL3] at this; rw [this]; simp
        obtain ⟨L',B',hL3'⟩:=qmM hlA;have hL':L'.length = s.L.length:=by rw [hL3'] at hlA; simp at hlA; omega
        have hs3L:s3.L.length = s.L.length + 1:=by
         have:=hF3.len; have:=hF2.len;have e9:(s2.qj r [.lp .busy none g2 env2' ps2 as2 bo2]).L.length = s2.L.length:=by unfold St.qj; split <;> simp
         simp only [List.length_append,List.length_singleton] at *;omega
        have ht2:∀ q,q ∉ t3.Wb->q ∉ t2.Wb:=λq hq hh=>hq (hF3.wb q hh);have hbig:s2.L.length = s.L.length + 1:=by have:=hF2.len; simpa using this
        -- what is not written stays
        have same2:∀ q,q ∉ t3.Wb->s2.box q = ({ E:=qfC env' ps (args'.map V.hand),L:=s.L ++ [s.B],B:=[] }:St).box q:=λq hq=>by
         rcases hF2.b q (ht2 q hq) with h9 | ⟨h9,_⟩
         ·exact h9
         ·simp at h9
        have same3:∀ q,q ∉ t3.Wb->s3.box q = (s2.qj r [.lp .busy none g2 env2' ps2 as2 bo2]).box q:=λq hq=>by
         rcases hF3.b q hq with h9 | ⟨h9,_⟩
         ·exact h9
         ·have e9:(s2.qj r [.lp .busy none g2 env2' ps2 as2 bo2]).L.length = s2.L.length:=by unfold St.qj; split <;> simp
          omega
        have low:∀ q:Root,q.lvl<=s.L.length->({ E:=qfC env' ps (args'.map V.hand),L:=s.L ++ [s.B],B:=[] }:St).box q = s.box q:=λq hq=>by
         rw [qDr (by simp; omega),qI]; rfl
        have hfin:∀ q:Root,q.lvl<=s.L.length->({ s with L:=L',B:=B' }:St).box q = (s3.qj r [.lp (if e3.code.isNone then .ready else .done) e3.code g3 env3' ps3 as3 bo3]).box q:=λq hq=>by
         rw [qI,qI];unfold qaJ qdO;simp only
         rw [hL3',List.getElem?_append_left (l₁:=L' ++ [B']) (by simp; omega)]
        refine ⟨_,_,.val (.bool e3.code.isNone),{ s with L:=L',B:=B' },h,((hev1.and hev2)).imp λC ⟨hC1,hC2⟩=>?_,by simp [RV,RTy],⟨hs.E,?_⟩,⟨λt ht=>ht,λq hq=>by simp [hq],λt ht=>.inl rfl,λt ht rs hE=>⟨rs,hE⟩,λq hq=>.inl ?_,λq hq hsm=>?_,hL',rfl⟩,rfl,rfl⟩
        ·unfold ql5;rw [hb1];simp only
         rw [if_neg hlen',hC1];simp only
         rw [hb2];simp only
         rw [hC2];simp only
         rw [hb3];simp only
         rw [hL3',qhK];simp only [hL',if_true]
        ·have h9:=LR.front hset3.M;rw [hL3,hL3'] at h9;exact h9
        ·simp only [List.mem_append,not_or] at hq;obtain ⟨hq0,hq3,_⟩:=hq;by_cases hlv:q.lvl<=s.L.length
         ·rw [hfin q hlv,q6];by_cases e:q = r
          ·subst e;rw [if_pos rfl,hb3];have hx:e3.code.isNone = true:=by
            cases hx:e3.code.isNone with
            | true=>rfl
            | false=>rw [hx] at hq0; simp at hq0
           have k2:=same2 q hq3;rw [low q hlv,hb1,hb2] at k2;have k3:=same3 q hq3;rw [q6,if_pos rfl,hb2,hb3] at k3;simp only [Option.map_some,qb,List.cons.injEq,V.lp.injEq,and_true,true_and] at k2 k3;obtain ⟨a1,a2,a3,a4,a5⟩:=k2;obtain ⟨_,_,b1,b2,b3,b4,b5⟩:=k3;subst a1 a2 a3 a4 a5 b1 b2 b3 b4 b5;rw [hx,hb1];simp only [Option.map_some,if_true,Option.isNone_iff_eq_none.1 hx]
          ·rw [if_neg e,same3 q hq3,q6,if_neg e,same2 q hq3,low q hlv]
         ·rw [qI,qI];unfold qaJ qdO;simp only
          rw [List.getElem?_eq_none (by simp; omega),List.getElem?_eq_none (by simp; omega)]
        ·simp only [List.mem_append,not_or] at hq;obtain ⟨hq0,hq3,_⟩:=hq;have hlv:q.lvl < (st.L ++ [st.B]).length:=by
          obtain ⟨c,hc⟩:=Option.isSome_iff_exists.1 hsm;have:=qfe hc;unfold qay TSt.all at this;cases hM0:(st.L ++ [st.B])[q.lvl]? with
          | none=>rw [hM0] at this; cases this
          | some b=>exact (List.getElem?_eq_some_iff.1 hM0).1
         have i0:(({ E:=qkb (Env.qh5 env env.length) ps (dullL args),L:=st.L ++ [st.B],B:=[],Wt:=.empty,Wb:=[] }:TSt).cont q).isSome = true:=by
          rw [qbg] at hsm ⊢;unfold qay TSt.all at hsm ⊢;simp only at hsm ⊢;rw [List.getElem?_append_left hlv];exact hsm
         have i1:=hF2.bn q (ht2 q hq3) i0;have i2:=qqe t2 r (.lp .busy none g2 env2 ps2 as2 bo2) q i1;have i3:=hF3.bn q hq3 i2;have i4:=qqe t3 r (.lp (if e3.code.isNone then .ready else .done) e3.code g3 env3 ps3 as3 bo3) q i3;rw [qbg] at i4 ⊢;unfold qay TSt.all at i4 ⊢;rw [hL3,List.getElem?_append_left (l₁:=L ++ [B]) (by simp at hlv ⊢; omega)] at i4;exact i4
       ·cases h
      ·cases h
     ·cases h
    ·cases h
 ·cases h
theorem quf (hT:TOk P H lib T) (hO:OOk P H lib O) {d:Tmp} {fv:TV} {fv':V} {args:List TV} {args':List V} {st:TSt} {s:St} {R:Type} {k:TV->TSt->Option R} {r:R}
  (hf:RV fv fv') (ha:RVL args args') (hs:Rst st s) (h:qrm H J T O ctx f d fv args st R k = some r) :
  ∃ v st' u s',k v st' = some r/\Ev (λC=>qh4 C fv' args' s = some (u,s')/\qcB C fv' = qeT H fv) P H lib/\RV v u/\Rst st' s'/\Fr2 st st' s s'/\st'.E = st.E/\s'.E = s.E/\qef fv' args' = qhq fv args:=by
 unfold qrm at h;split at h
 ·rename_i g first cap;simp only [RV] at hf;obtain ⟨first',cap',rfl,hf1,hc1⟩:=hf;have hall:RVL (first ++ args ++ cap) (first' ++ args' ++ cap'):=(hf1.append ha).append hc1;split at h
  ·rename_i hk;have hpt:=RVL.ptrs_eq _ _ hk hall;have hpure:qef (.fn g first' cap') args' = qhq (.fn g first cap) args:=by
    simp only [qef,qhq,hpt]
   split at h
   ·rename_i hp;have hp':(ptrsL (first' ++ args' ++ cap')).isEmpty = true:=by rw [hpt]; exact hp
    have hshare:RVL (shareL (first ++ args ++ cap)) ((first' ++ args' ++ cap').map V.share):=by
     have:=RVL.share _ _ hall;rw [qa2] at this; exact this
    have fin:∀ {x:TV} {v:V},k (if tightL (first ++ args ++ cap) then x else x.qbw) st = some r->RV x v->qw8 P H lib g ((first' ++ args' ++ cap').map V.share) [] v [] ->
      ∃ v st' u s',k v st' = some r/\Ev (λC=>qh4 C (.fn g first' cap') args' s = some (u,s')/\qcB C (.fn g first' cap') = qeT H (.fn g first cap)) P H lib/\RV v u/\Rst st' s'/\Fr2 st st' s s'/\st'.E = st.E/\s'.E = s.E/\qef (.fn g first' cap') args' = qhq (.fn g first cap) args:=by
     intro x v hkx hr hev;refine ⟨if tightL (first ++ args ++ cap) then x else x.qbw,st,if looseL (first' ++ args' ++ cap') = true then v.qbw else v,s,hkx,(hev.and Ev.qlj).imp λC ⟨hC,hCp⟩=>?_,?_,hs,Fr2.refl _ _,rfl,rfl,hpure⟩
     ·refine ⟨?_,by simp only [qcB,qeT,hCp]⟩;show qgy C g (first' ++ args' ++ cap') s = _;unfold qgy;rw [if_pos hp',hC]
     ·cases htg:tightL (first ++ args ++ cap) with
      | true =>
       rw [RVL.tight _ _ htg hall];simpa using hr
      | false =>
       simp only [qf,if_false];split
       ·exact RV.lo qt8 _ _ hr
       ·exact hr.lo0
    split at h
    ·obtain ⟨x,N,wb,v,N',hkx,hr,hN,hlen,_,hev⟩:=hO.call _ _ _ _ _ _ _ _ [] h hshare ⟨rfl,λl s=>by simp [qay,qaJ,RB],by simp,λl s c h=>by simp [qaJ] at h⟩;have hN0:N = []:=List.eq_nil_of_length_eq_zero (by rw [hlen]; rfl);subst hN0;have hN0':N' = []:=List.eq_nil_of_length_eq_zero (by rw [hN.len]; rfl);subst hN0';exact fin hkx hr hev
    ·obtain ⟨x,v,hkx,hr,hev⟩:=hT _ _ _ _ _ _ h hshare;exact fin hkx hr hev
   ·rename_i hp;have hp':¬ (ptrsL (first' ++ args' ++ cap')).isEmpty = true:=by rw [hpt]; exact hp
    split at h
    ·rename_i hpk;split at h
     ·rename_i xs hxs;split at h
      ·rename_i hxp;obtain ⟨us,hus,hru⟩:=peekTL_ok (bt:=st.box) (bx:=s.box) (λr c hc=>by
        obtain ⟨c',h1,h2⟩:=hs.box hc;exact ⟨c',h1,h2,λhlt=>hs.M.mp r.lvl r.slot c' (by rw [<- qI]; exact h1) hlt⟩) _ _ _ hxs hall
       obtain ⟨x,v,hkx,hr,hev⟩:=hT _ _ _ _ _ _ h hru;split at hkx
       ·rename_i hmine;refine ⟨x,st,v,s,hkx,(hev.and Ev.qlj).imp λC ⟨hC,hCp⟩=>⟨?_,by simp only [qcB,qeT,hCp]⟩,hr,hs,Fr2.refl _ _,rfl,rfl,hpure⟩;show qgy C g (first' ++ args' ++ cap') s = _;have hup:(ptrsL us).isEmpty = true:=by
         rw [List.isEmpty_iff,List.eq_nil_iff_forall_not_mem];intro q hq;have:=RVL.qm _ _ hru q hq;rw [List.isEmpty_iff] at hxp;rw [hxp] at this; cases this
        unfold qgy;rw [if_neg hp',hCp,if_pos hpk,hus];simp only [hup,if_true,hC,RV.qdi x v hmine hr]
       ·cases hkx
      ·cases h
     ·cases h
    rename_i hpk;have hdull:RVL (dullL (first ++ args ++ cap)) ((first' ++ args' ++ cap').map V.hand):=hall.qsL qmE rfl;obtain ⟨x,N,wb,v,N',hkx,hr,hN,hlen,hfr,hev⟩:=hO.call _ _ _ _ _ _ _ _ (s.L ++ [s.B]) h hdull hs.M;split at hkx
    ·rename_i L B hsp;have hNe:=qhO hsp;subst hNe;split at hkx
     ·rename_i hL;obtain ⟨L',B',rfl⟩:=qmM (M:=N') (n:=L.length) (by rw [hN.len]; simp);have hL':L'.length = s.L.length:=by have:=hN.len; have:=hs.len; simp at *; omega
      refine ⟨x,_,v,{ s with L:=L',B:=B' },hkx,(hev.and Ev.qlj).imp λC ⟨hC,hCp⟩=>?_,hr,⟨hs.E,hN⟩,⟨λt ht=>ht,λq hq=>by simp [hq],λt ht=>.inl rfl,λt ht rs hE=>⟨rs,hE⟩,λq hq=>.inl ?_,λq hq hsm=>?_,hL',rfl⟩,rfl,rfl,hpure⟩
      ·refine ⟨?_,by simp only [qcB,qeT,hCp]⟩;show qgy C g (first' ++ args' ++ cap') s = _;unfold qgy;rw [if_neg hp',hCp,if_neg hpk,hC];simp only [qhK,hL',if_true]
      ·rw [qI,qI];simp only [List.mem_append,not_or] at hq;exact (hfr q.lvl q.slot hq.1).1
      ·simp only [List.mem_append,not_or] at hq;obtain ⟨c,hc⟩:=Option.isSome_iff_exists.1 hsm;obtain ⟨c',hc'⟩:=(hfr q.lvl q.slot hq.1).2 c (qfe hc);rw [qbg];show (match qay (L ++ [B]) q.lvl q.slot with
        | some (some c)=>some c
        | _=>none).isSome = true
       rw [hc']; rfl
     ·cases hkx
    ·cases hkx
  ·cases h
 ·rename_i q;simp only [RV] at hf; subst hf;obtain ⟨v,st',u,s',h1,h2,h3,h4,h5,h6,h7⟩:=qAU hO ha hs h;exact ⟨v,st',u,s',h1,h2.imp λC hC=>⟨hC,rfl⟩,h3,h4,h5,h6,h7,rfl⟩
 ·cases h
theorem qel {x:TV} {ys:List V} (h:RVL [x] ys):∃ v,ys = [v]/\RV x v:=by
 simp only [RVL] at h; obtain ⟨v,m,rfl,h1,rfl⟩:=h; exact ⟨v,rfl,h1⟩
def qAX (P:Program) (H:Hints) (f:FuncId) (o:Oper) (xs:List TV) (st:TSt) (R:Type) (k:TV->TSt->Fp->Option R):Option R :=
 if ql1 o.op xs then qoG P H f o xs st R k else match qmQ o.op xs with
  | none=>qdl P H f (qaj H f o) o.op xs none R λv c=>match c with
   | none=>k v st .none
   | some _=>none
  | some r=>if 16384<=r.slot then none else qdl P H f (qaj H f o) o.op xs (st.box r) R λv c=>match c with
   | none=>k v st (.root r (qct P o.op xs).1 (qct P o.op xs).2 false)
   | some c=>if (qxD o.op xs).all (λp=>decide (p.lvl<=r.lvl)) && decide ((qct P o.op xs).1 + (qct P o.op xs).2<=c.length) then k v (st.qj r c) (.root r (qct P o.op xs).1 (qct P o.op xs).2 true) else none
theorem qvc {o:Oper} (h:qj7 o.op = true) (xs:List TV) (st:TSt) (R:Type) (k:TV->TSt->Fp->Option R):qnw P H J T O ctx f o xs st R k = qAX P H f o xs st R k:=by
 unfold qnw;split
 ·rename_i hop; rw [hop] at h; simp [qj7] at h
 ·rename_i hop; rw [hop] at h; simp [qj7] at h
 ·rename_i hop; rw [hop] at h; simp [qj7] at h
 ·rfl
theorem qvj {o:Oper} {c:Call} {fo:Operand} (hop:o.op = .call c) (hc:c.callee = .value fo) (xs:List TV) (st:TSt) (R:Type) (k:TV->TSt->Fp->Option R) :
  qnw P H J T O ctx f o xs st R k = match xs with
   | fv :: args=>if qs0 H fv args then qBN H O ctx o.dst fv args st R k else qrm H J T O ctx f (o.dst.getD 0) fv args st R λv s=>k v s (if qhq fv args then .none else if qeT H fv then .looks else .all)
   | []=>none:=by
 unfold qnw;obtain ⟨cal,a1,a2⟩:=c;simp only at hc;subst hc;simp only [hop];cases xs <;> rfl
theorem LR.push {M:List qK} {M':List Level} {b:qK} {b':Level} {d:Nat} {c:List TV} {c':List V} (h:LR (M ++ [b]) (M' ++ [b'])) (hl:M'.length = M.length) (hd:q4 b d = none) (hc:RC c c') (hmp:d < 16384->qh6 c' = false):LR (M ++ [(d,some c) :: b]) (M' ++ [qc0 d c' b']):=by
 have hkey:∀ k,RB (q4 b k) (qt b' k):=λk=>by
  have:=h.rel M.length k;unfold qay qaJ at this;rw [List.getElem?_append_right (Nat.le_refl _),<- hl,List.getElem?_append_right (Nat.le_refl _)] at this;simpa using this
 have hnone:qt b' d = none:=by
  have h2:=hkey d;rw [hd] at h2;exact h2
 refine ⟨by simp [hl],λl k=>?_,λq hq=>?_,λl k c2 h2 hlt=>?_⟩
 rotate_right
 ·have key:=h.mp l k;unfold qaJ at key h2;by_cases e:l < M'.length
  ·rw [List.getElem?_append_left e] at key h2;exact key c2 h2 hlt
  ·rw [List.getElem?_append_right (by omega)] at key h2;cases hm:l - M'.length with
   | zero =>
    rw [hm] at key h2;simp only [List.getElem?_cons_zero] at key h2;by_cases e2:d = k
    ·subst e2;rw [qjK hnone] at h2;simp only [if_true,qb] at h2;subst h2;exact hmp hlt
    ·rw [qcc e2] at h2;exact key c2 h2 hlt
   | succ n=>rw [hm] at h2; simp at h2
 ·have key:=h.rel l k;unfold qay qaJ at key ⊢;by_cases e:l < M.length
  ·rw [List.getElem?_append_left e,List.getElem?_append_left (by omega)] at key ⊢;exact key
  ·rw [List.getElem?_append_right (by omega),List.getElem?_append_right (by omega),hl] at key ⊢;cases hm:l - M.length with
   | zero =>
    simp only [List.getElem?_cons_zero];by_cases e2:d = k
    ·subst e2; simp only [q4,qjK hnone,if_true]; exact ⟨c',rfl,hc⟩
    ·simp only [q4,qcc e2,if_neg e2]; exact hkey k
   | succ n=>simp [RB]
 ·simp only [List.mem_append,List.mem_singleton] at hq;rcases hq with hq | rfl
  ·exact h.nd q (by simp [hq])
  ·exact qrf hnone (h.nd b' (by simp))
theorem qhd {st:TSt} {s:St} (hs:Rst st s) {d:Nat} (h:q4 st.B d = none):qt s.B d = none:=by
 have:=hs.M.rel st.L.length d;unfold qay qaJ at this;have e1:st.all[st.L.length]? = some st.B:=by simp [TSt.all]
 have e2:(qdO s)[st.L.length]? = some s.B:=by rw [<- hs.len]; simp [qdO]
 rw [e1,e2] at this;simp only at this;rw [h] at this;exact this
theorem qsN {st:TSt} {s:St} (hs:Rst st s) {d:Nat} {c:List TV} {c':List V} (hd:q4 st.B d = none) (hc:RC c c') (hmp:d < 16384->qh6 c' = false) :
  Rst { st with B:=(d,some c) :: st.B,Wb:=⟨st.L.length,d⟩ :: st.Wb } { s with B:=qc0 d c' s.B }/\Fr2 st { st with B:=(d,some c) :: st.B,Wb:=⟨st.L.length,d⟩ :: st.Wb } s { s with B:=qc0 d c' s.B }:=by
 refine ⟨⟨hs.E,LR.push hs.M hs.len hd hc hmp⟩,⟨λt ht=>ht,λr hr=>by simp [hr],λt ht=>.inl rfl,λt ht rs hE=>⟨rs,hE⟩,λr hr=>.inl ?_,λr hr hsm=>?_,rfl,rfl⟩⟩
 case refine_2 =>
  simp only [List.mem_cons,not_or] at hr;obtain ⟨l,sl⟩:=r;unfold TSt.cont at hsm ⊢;simp only at hsm ⊢;by_cases e:l = st.L.length
  ·rw [if_pos e] at hsm ⊢;have:d ≠ sl:=λe2=>hr.1 (by rw [e2,e]);simp only [q4,if_neg this];exact hsm
  ·rw [if_neg e] at hsm ⊢;exact hsm
 simp only [List.mem_cons,not_or] at hr;obtain ⟨l,sl⟩:=r;rw [qI,qI];unfold qaJ qdO;simp only
 have hlen:=hs.len;by_cases e:l < s.L.length
 ·rw [List.getElem?_append_left e,List.getElem?_append_left e]
 ·rw [List.getElem?_append_right (by omega),List.getElem?_append_right (by omega)];cases hm:l - s.L.length with
  | zero =>
   simp only [List.getElem?_cons_zero];have:d ≠ sl:=λe2=>hr.1 (by rw [e2]; congr 1; omega);rw [qcc this]
  | succ n=>simp
theorem qja (st:TSt) (r:Root) (c:List TV):(st.qj r c).E = st.E/\(st.qj r c).Wt = st.Wt/\(st.qj r c).Wb = r :: st.Wb/\(st.qj r c).L.length = st.L.length:=by
 unfold TSt.qj; split <;> simp
theorem qe0 (s:St) (r:Root) (c:List V):(s.qj r c).E = s.E/\(s.qj r c).L.length = s.L.length:=by
 unfold St.qj; split <;> simp
theorem qji {st:TSt} {s:St} (hs:Rst st s) {r:Root} {c0 c:List TV} {c':List V} (hb:st.box r = some c0) (hc:RVL c c') (hmp:r.slot < 16384->qh6 c' = false):Rst (st.qj r c) (s.qj r c')/\Fr2 st (st.qj r c) s (s.qj r c'):=by
 obtain ⟨e1,e2,e3,e4⟩:=qja st r c;obtain ⟨e5,e6⟩:=qe0 s r c';refine ⟨⟨by rw [e1,e5]; exact hs.E,?_⟩,⟨λt ht=>by rw [e2]; exact ht,λq hq=>by rw [e3]; simp [hq],λt ht=>.inl (by rw [e5]),λt ht rs hE=>⟨rs,by rw [<- e1]; exact hE⟩,λq hq=>.inl ?_,λq hq hsm=>qjc st r c q hsm,e6,by rw [e5]⟩⟩
 ·rw [qkL,qri];exact LR.qj hs.M _ _ (by rw [qtl hb]; simp) hc.rc hmp
 ·rw [e3] at hq;simp only [List.mem_cons,not_or] at hq;rw [q6,if_neg hq.1]
theorem qwM {x:V} (h:x.oks = true):qh6 x.cells = false:=by
 unfold V.oks at h;cases hc:x.cells with
 | nil=>rfl
 | cons y l =>
  rw [hc] at h;simp only [List.all_cons,qe] at h;cases y <;> first | rfl | (simp [V.one] at h)
theorem qhi {x:V} {l m:List V}:qh6 (x :: l) = qh6 (x :: m):=by cases x <;> rfl
theorem qpo {cs ys:List V} {off:Nat} (h1:qh6 cs = false) (h2:off = 0\/cs = []->qh6 ys = false):qh6 (qM cs off ys) = false:=by
 unfold qM;cases off with
 | zero =>
  simp only [List.take_zero,List.nil_append,Nat.zero_add];cases ys with
  | nil=>simpa using h1
  | cons y l=>rw [List.cons_append,qhi (m:=l)]; exact h2 (.inl rfl)
 | succ n =>
  cases cs with
  | nil=>simpa using h2 (.inr rfl)
  | cons c l=>simp only [List.take_succ_cons,List.cons_append]; rw [qhi (m:=l)]; exact h1
theorem qwl {g:Fl->Fl} {l:List V} (h:qh6 l = false):qh6 (reflagL g l) = false:=by
 cases l with
 | nil=>rfl
 | cons x l=>cases x with
  | mp=>simp [qh6] at h
  | room s n =>
   simp only [reflagL,V.reflag];by_cases h1:g .own = .own
   ·rw [if_pos h1]; rfl
   ·rw [if_neg h1];by_cases h2:n = 0
    ·rw [if_pos h2]; rfl
    ·rw [if_neg h2]; rfl
  | _=>rfl
theorem qB4 {tk:Bool} {o:Op} {ty:TypeId} {ys:List V} {q:Root} {bx:Option (List V)} {u:V} {c':List V} (hr:rootOf o ys = some q) (hb:∀ c,bx = some c->qh6 c = false)
  (h:qbe P H f tk o ty ys bx = some (u,some c')):qh6 c' = false:=by
 obtain ⟨off,rest,rfl,⟨t,a,rfl⟩ | ⟨t,a,x,rfl⟩⟩:=qb4 hr
 ·cases rest with
  | nil =>
   simp only [qbe] at h;split at h
   ·rename_i cs;split at h
    ·cases h
    ·split at h
     ·obtain ⟨y,_,he⟩:=qc.1 h;cases he;refine qpo (hb cs rfl) λh0=>qwl ?_;have h9:=hb cs rfl;cases cs with
      | nil=>simp [qh6]
      | cons c l =>
       rcases h0 with h0 | h0
       ·subst h0;simp only [List.drop_zero];cases (if qS P t = true then P.cellsOf t else 1) with
        | zero=>rfl
        | succ n=>simp only [List.take_succ_cons]; rw [qhi (m:=l)]; exact h9
       ·cases h0
     ·obtain ⟨y,_,he⟩:=qc.1 h;cases he
   ·cases h
  | cons y l=>simp [qbe] at h
 ·match rest,h with
  | [y],h =>
   simp only [qbe] at h;split at h
   ·rename_i cs;split at h
    ·rename_i hc;simp only [qb,Prod.mk.injEq] at h;obtain ⟨_,rfl⟩:=h;exact qpo (hb _ rfl) λ_=>qwM hc.2.2.2.2
    ·cases h
   ·cases h
  | [],h=>simp [qbe] at h
  | _ :: _ :: _,h=>simp [qbe] at h
theorem qyG {op:Op} {xs:List TV} {ys:List V} (hx:RVL xs ys) (h:ql1 op xs = true):qdJ op ys = true:=by
 unfold ql1 at h;split at h
 ·rfl
 ·rfl
 ·rfl
 ·rfl
 ·simp only [RVL] at hx;obtain ⟨v,m,rfl,h1,rfl⟩:=hx;simp only [RV] at h1;subst h1; rfl
 ·cases h
theorem qyg {op:Op} {xs:List TV} {ys:List V} (hx:RVL xs ys) (hn:¬ ql1 op xs = true) (hm:qdJ op ys = true) :
  qmQ op xs = none/\∀ tk bx (R:Type) (k:TV->Option (List TV)->Option R),qdl P H f tk op xs bx R k = none:=by
 unfold qdJ at hm;split at hm
 ·exact absurd rfl hn
 ·exact absurd rfl hn
 ·exact absurd rfl hn
 ·exact absurd rfl hn
 ·rename_i args argTypes q
  match xs,hx with
  | [x],hx =>
   obtain ⟨v,hv,hr⟩:=qel hx;cases hv;cases x with
   | any rs=>exact ⟨rfl,λ_ _ _ _=>rfl⟩
   | mref r=>exact absurd rfl hn
   | t τ o x=>cases τ <;> simp [RV,RTy] at hr
   | _=>simp [RV] at hr
  | [],hx=>simp [RVL] at hx
  | x :: y :: l,hx =>
   have:=hx.length;simp at this
 ·cases hm
theorem qwr {o:Oper} {xs:List TV} {ys:List V} {st:TSt} {s:St} {R:Type} {k:TV->TSt->Fp->Option R} {r:R} (hx:RVL xs ys) (hs:Rst st s) (h:qoG P H f o xs st R k = some r) :
  ∃ v st' fp u s',k v st' fp = some r/\mapStep P H f o ys s = some (u,s',fp)/\RV v u/\Rst st' s'/\Fr2 st st' s s'/\st'.E = st.E/\s'.E = s.E:=by
 have hset:∀ {q:Root} {τ:Ty} {o':Nat} {l:List τ.den},st.box q = some [.t (.mset τ) o' l]->qix τ = true/\s.box q = some [.mp (kvs τ l)] /\ ¬ q.slot < 16384:=λ{q τ o' l} hb=>by
  obtain ⟨c',hc',hr⟩:=hs.box hb;obtain ⟨v,rfl,hv⟩:=qel hr;simp only [RV,RTy] at hv;obtain ⟨hk,rfl⟩:=hv;refine ⟨hk,hc',λhlt=>?_⟩;have:=hs.M.mp q.lvl q.slot _ (by rw [<- qI]; exact hc') hlt;simp [qh6] at this
 unfold qoG at h;split at h
 ·-- make
  rename_i t ro hop;split at h
  ·rename_i d kt vt hd hu;split at h
   ·rename_i τ hτ;split at h
    ·rename_i hc;obtain ⟨hn,hk,hci⟩:=hc;have hn':q4 st.B (qad d) = none:=by simpa using hn
     have hrv:RVL [.t (.mset τ) 0 []] [.mp []]:=qy.2 ⟨by simp [RV,RTy,hk],qa7⟩;obtain ⟨hR,hF⟩:=qsN hs hn' (RVL.rc hrv) (λhlt=>absurd hlt (by unfold qad; omega));refine ⟨_,_,_,.mref ⟨s.L.length,qad d⟩,_,h,?_,by simp [RV,hs.len],hR,hF,rfl,rfl⟩;have hci':qnc ys = true:=by
      unfold qo4 at hci;split at hci
      ·simp only [RVL] at hx; subst hx; rfl
      ·obtain ⟨v,rfl,hv⟩:=qel hx;simp only [RV,RTy] at hv;subst hv; rfl
      ·cases hci
     unfold mapStep;simp only [hop,hd,hu];rw [if_pos ⟨by rw [qhd hs hn']; rfl,hci'⟩,hs.len]
    ·cases h
   ·cases h
  ·cases h
 ·-- look up
  rename_i t mo ko ok hop;split at h
  ·rename_i q x;split at h
   ·rename_i τ o' l kt vt hb hu;split at h
    ·rename_i hf;split at h
     ·rename_i o2 y hz hy;obtain ⟨v1,m1,rfl,hv1,hx⟩:=(by simpa only [RVL] using hx:∃ v m,ys = v :: m/\RV (.mref q) v/\∃ v' m',m = v' :: m'/\RV x v'/\m' = [])
      obtain ⟨v2,m2,rfl,hv2,rfl⟩:=hx;simp only [RV] at hv1;subst hv1;obtain ⟨hk,hbs,_⟩:=hset hb;obtain ⟨u,hlk,hru⟩:=qz1 (ok:=ok) (l:=l) hu hf hz hy hv2;refine ⟨_,_,_,u,s,h,?_,hru,hs,Fr2.refl _ _,rfl,rfl⟩;unfold mapStep;simp only [hop,hbs,hlk,Option.map_some]
     ·cases h
    ·cases h
   ·cases h
  ·cases h
 ·rename_i t mo ko xo hop;split at h
  ·rename_i q x ob;split at h
   ·rename_i τ o' l kt vt hb hu;split at h
    ·rename_i hf;split at h
     ·rename_i y hy;obtain ⟨v1,m1,rfl,hv1,hx⟩:=(by simpa only [RVL] using hx:∃ v m,ys = v :: m/\RV (.mref q) v/\∃ v' m',m = v' :: m'/\RV x v'/\∃ v'' m'',m' = v'' :: m''/\RV (.t .bool ob true) v''/\m'' = [])
      obtain ⟨v2,m2,rfl,hv2,hx⟩:=hx;obtain ⟨v3,m3,rfl,hv3,rfl⟩:=hx;simp only [RV] at hv1;subst hv1;obtain ⟨hk,hbs,hsl⟩:=hset hb;have hup:=qtM (l:=l) hu hf hy hv2 (by simpa only [RV,RTy] using hv3);have hrv:RVL [.t (.mset τ) 0 (qEe τ l y)] [.mp (kvs τ (qEe τ l y))]:=qy.2 ⟨by simp only [RV,RTy]; exact ⟨hk,rfl⟩,qa7⟩;obtain ⟨hR,hF⟩:=qji hs hb hrv (λhlt=>absurd hlt hsl);refine ⟨_,_,_,.undef,_,h,?_,qcV [],hR,hF,(qja _ _ _).1,(qe0 _ _ _).1⟩;unfold mapStep;simp only [hop,hbs,hup,Option.map_some]
     ·cases h
    ·cases h
   ·cases h
  ·cases h
 ·rename_i t mo ko xo hop;split at h
  ·rename_i q x ob;split at h
   ·rename_i τ o' l kt vt hb hu;split at h
    ·rename_i hf;split at h
     ·rename_i y hy;obtain ⟨v1,m1,rfl,hv1,hx⟩:=(by simpa only [RVL] using hx:∃ v m,ys = v :: m/\RV (.mref q) v/\∃ v' m',m = v' :: m'/\RV x v'/\∃ v'' m'',m' = v'' :: m''/\RV (.t .bool ob true) v''/\m'' = [])
      obtain ⟨v2,m2,rfl,hv2,hx⟩:=hx;obtain ⟨v3,m3,rfl,hv3,rfl⟩:=hx;simp only [RV] at hv1;subst hv1;obtain ⟨hk,hbs,hsl⟩:=hset hb;have hup:=qtM (l:=l) hu hf hy hv2 (by simpa only [RV,RTy] using hv3);have hrv:RVL [.t (.mset τ) 0 (qEe τ l y)] [.mp (kvs τ (qEe τ l y))]:=qy.2 ⟨by simp only [RV,RTy]; exact ⟨hk,rfl⟩,qa7⟩;obtain ⟨hR,hF⟩:=qji hs hb hrv (λhlt=>absurd hlt hsl);refine ⟨_,_,_,.undef,_,h,?_,qcV [],hR,hF,(qja _ _ _).1,(qe0 _ _ _).1⟩;unfold mapStep;simp only [hop,hbs,hup,Option.map_some]
     ·cases h
    ·cases h
   ·cases h
  ·cases h
 ·rename_i args argTypes hop;split at h
  ·rename_i q;split at h
   ·rename_i τ o' l kt vt hb hu;split at h
    ·rename_i hm;obtain ⟨v,rfl,hv⟩:=qel hx;simp only [RV] at hv;subst hv;obtain ⟨hk,hbs,_⟩:=hset hb;refine ⟨_,_,_,.val (.int .i64 (kvs τ l).length),s,h,?_,by simp [RV,RTy,kvs],hs,Fr2.refl _ _,rfl,rfl⟩;unfold mapStep;simp only [hop,hbs,hu,hm,if_true]
    ·cases h
   ·cases h
  ·cases h
 ·cases h
theorem qCJ (hO:OOk P H lib O) {d:Option Tmp} {fv:TV} {fv':V} {args:List TV} {args':List V} {st:TSt} {s:St} {R:Type} {k:TV->TSt->Fp->Option R} {r:R}
  (hf:RV fv fv') (ha:RVL args args') (hs:Rst st s) (h:qAj O ctx d fv args st R k = some r) :
  ∃ v st' fp u s',k v st' fp = some r/\Ev (λC=>qn3 C d fv' args' s = some (u,s',fp)) P H lib/\RV v u/\Rst st' s'/\Fr2 st st' s s'/\st'.E = st.E/\s'.E = s.E:=by
 unfold qAj at h;split at h
 ·rename_i g first cap d;simp only [RV] at hf;obtain ⟨first',cap',rfl,hf1,hc1⟩:=hf;have hall:RVL (first ++ args ++ cap) (first' ++ args' ++ cap'):=(hf1.append ha).append hc1;split at h
  ·rename_i hc;simp only [qe,Option.isNone_iff_eq_none] at hc;obtain ⟨⟨⟨hk,hp⟩,htg⟩,hn⟩:=hc;have hpt:=RVL.ptrs_eq _ _ hk hall;have hp':(ptrsL (first' ++ args' ++ cap')).isEmpty = true:=by rw [hpt]; exact hp
   have hl:=RVL.tight _ _ htg hall;have hshare:RVL (shareL (first ++ args ++ cap)) ((first' ++ args' ++ cap').map V.share):=by
    have:=RVL.share _ _ hall;rw [qa2] at this; exact this
   obtain ⟨x,τ,o,l,v,sl,hkx,hkt,hr,hom,hev⟩:=hO.born _ _ _ _ _ _ _ h hshare;have hrv:RVL [.t (.mset τ) o l] [.mp (kvs τ l)]:=qy.2 ⟨by simp only [RV,RTy]; exact ⟨hkt,rfl⟩,qa7⟩;obtain ⟨hR,hF⟩:=qsN hs hn (RVL.rc hrv) (λhlt=>absurd hlt (by unfold qad; omega));refine ⟨_,_,_,v.adopt ⟨s.L.length,qad d⟩,_,hkx,hev.imp λC hC=>?_,?_,hR,hF,rfl,rfl⟩
   ·unfold qn3;simp only [hC];rw [if_pos (by simp only [qe,Bool.not_eq_true',Option.isNone_iff_eq_none]; exact ⟨⟨hp',hl⟩,qhd hs hn⟩),hs.len]
   ·rw [hs.len]; exact (rv_adopt _ _ _ hom hr).1
  ·cases h
 ·cases h
theorem qx1 {n:Nat} {q:Root} {c:List TV} (l sl:Nat):qay (qBi n q c) l sl = if l = q.lvl/\sl = q.slot/\l < n then some (some c) else none:=by
 unfold qay qBi;simp only [List.getElem?_map];by_cases hl:l < n
 ·rw [List.getElem?_range hl];simp only [Option.map_some];by_cases h1:l = q.lvl
  ·rw [if_pos h1];simp only [q4];by_cases h2:q.slot = sl
   ·rw [if_pos h2,if_pos ⟨h1,h2.symm,hl⟩]
   ·rw [if_neg h2,if_neg (λe=>h2 e.2.1.symm)]
  ·rw [if_neg h1,if_neg (λe=>h1 e.1)]; rfl
 ·rw [List.getElem?_eq_none (by simp; omega),if_neg (λe=>hl e.2.2)]; rfl
theorem qrv {n:Nat} {q:Root} {c:List V} (l sl:Nat):qaJ (qm1 n q c) l sl = if l = q.lvl/\sl = q.slot/\l < n then some c else none:=by
 unfold qaJ qm1;simp only [List.getElem?_map];by_cases hl:l < n
 ·rw [List.getElem?_range hl];simp only [Option.map_some];by_cases h1:l = q.lvl
  ·rw [if_pos h1];simp only [qt];by_cases h2:q.slot = sl
   ·rw [if_pos h2,if_pos ⟨h1,h2.symm,hl⟩]
   ·rw [if_neg h2,if_neg (λe=>h2 e.2.1.symm)]
  ·rw [if_neg h1,if_neg (λe=>h1 e.1)]; rfl
 ·rw [List.getElem?_eq_none (by simp; omega),if_neg (λe=>hl e.2.2)]; rfl
theorem qzI (hO:OOk P H lib O) {d:Tmp} {g:FuncId} {args:List TV} {args':List V} {q:Root} {st:TSt} {s:St} {R:Type} {k:TV->TSt->Option R} {r:R}
  (ha:RVL args args') (hs:Rst st s) (h:qBj O ctx d g args q st R k = some r) :
  ∃ v st' u s',k v st' = some r/\Ev (λC=>qhm C g args' q s = some (u,s')) P H lib/\RV v u/\Rst st' s'/\Fr2 st st' s s'/\st'.E = st.E/\s'.E = s.E:=by
 unfold qBj at h;split at h
 ·rename_i τ o l hb;obtain ⟨c',hc',hcr⟩:=hs.box hb;obtain ⟨mv,rfl,hmv⟩:=qel hcr;simp only [RV,RTy] at hmv;obtain ⟨hkt,rfl⟩:=hmv;have hsl:¬ q.slot < 16384:=λhlt=>by
   have:=hs.M.mp q.lvl q.slot _ (by rw [<- qI]; exact hc') hlt;simp [qh6] at this
  have hLR:LR (qBi (st.L.length + 1) q [.t (.mset τ) o l]) (qm1 (s.L.length + 1) q [.mp (l.map λx=>(qc7 τ x,.bool true))]):=by
   refine ⟨by simp [qBi,qm1,hs.len],λl' sl=>?_,λb hb'=>?_,λl' sl c hc hlt=>?_⟩
   ·rw [qx1,qrv,hs.len];split
    ·exact ⟨_,rfl,hcr⟩
    ·rfl
   ·unfold qm1 at hb';obtain ⟨x,_,rfl⟩:=List.mem_map.1 hb';split <;> simp
   ·rw [qrv] at hc;split at hc
    ·rename_i e; exact absurd (by rw [<- e.2.1]; exact hlt) hsl
    ·cases hc
  have hdull:RVL (dullL args) (args'.map V.hand):=ha.qsL qmE rfl;obtain ⟨x,N,wb,v,N',hkx,hr,hN,hlen,hfr,hev⟩:=hO.call _ _ _ _ _ _ _ _ _ h hdull hLR;split at hkx
  ·rename_i hc;simp only [qe,Bool.not_eq_true',List.isEmpty_iff] at hc;obtain ⟨⟨hkn,hp⟩,hown⟩:=hc;split at hkx
   ·rename_i τ' o' l' hlk;have hrel:=hN.rel q.lvl q.slot;rw [show qay N q.lvl q.slot = some (some [.t (.mset τ') o' l']) from hlk] at hrel;obtain ⟨c2,hc2,hcr2⟩:=hrel;obtain ⟨mv2,rfl,hmv2⟩:=qel hcr2;have hmv2':=hmv2;simp only [RV,RTy] at hmv2';obtain ⟨hkt2,rfl⟩:=hmv2';obtain ⟨hR,hF⟩:=qji hs hb (qy.2 ⟨hmv2,qa7⟩) (λhlt=>absurd hlt hsl);have hvo:v.owns = false:=by
     cases hvo:v.owns with
     | false=>rfl
     | true=>rw [RV.owns x v hr hvo] at hown; cases hown
    refine ⟨x,_,v,_,hkx,hev.imp λC hC=>?_,hr,hR,hF,(qja _ _ _).1,(qe0 _ _ _).1⟩;unfold qhm;simp only [hc',hC];rw [if_pos (by rw [RV.ptrs_eq x v hkn hr,hp,hvo]; rfl)];rw [show qEz N' q = qaJ N' q.lvl q.slot from rfl,hc2]
   ·cases hkx
  ·cases hkx
 ·cases h
theorem qoL {fv:TV} {fv':V} {g:FuncId} {a b:List TV} (h:RV (.fn g a b) fv'):qnR H fv' = H.born g:=by
 simp only [RV] at h;obtain ⟨a',b',rfl,_⟩:=h;rfl
theorem qCI (hO:OOk P H lib O) {d:Option Tmp} {fv:TV} {fv':V} {args:List TV} {args':List V} {st:TSt} {s:St} {R:Type} {k:TV->TSt->Fp->Option R} {r:R}
  (hf:RV fv fv') (ha:RVL args args') (hs:Rst st s) (h:qBN H O ctx d fv args st R k = some r) :
  qmn H fv' args' = true/\∃ v st' fp u s',k v st' fp = some r/\Ev (λC=>qkC H C d fv' args' s = some (u,s',fp)) P H lib/\RV v u/\Rst st' s'/\Fr2 st st' s s'/\st'.E = st.E/\s'.E = s.E:=by
 unfold qBN at h;split at h
 ·rename_i hbn;have hb':qnR H fv' = true:=by
   cases fv <;> first | (simp [qsY] at hbn; done) | (rw [qoL (fv:=.any []) hf]; exact hbn)
  obtain ⟨v,st',fp,u,s',hk,hev,hr,hR,hF,e1,e2⟩:=qCJ hO hf ha hs h;refine ⟨by unfold qmn; rw [hb']; rfl,v,st',fp,u,s',hk,hev.imp λC hC=>?_,hr,hR,hF,e1,e2⟩;unfold qkC;rw [if_pos hb']; exact hC
 ·rename_i hbn;split at h
  ·rename_i g first cap q hq;have hb':qnR H fv' = false:=by
    rw [qoL (fv:=.any []) hf]; simpa [qsY] using hbn
   have hf':=hf;simp only [RV] at hf';obtain ⟨first',cap',rfl,hf1,hc1⟩:=hf';have hall:RVL (first ++ args ++ cap) (first' ++ args' ++ cap'):=(hf1.append ha).append hc1;have hkn:knownL (first ++ args ++ cap) = true:=by
    unfold qlh at hq;simp only at hq;split at hq
    ·assumption
    ·cases hq
   have hq':qi7 (.fn g first' cap') args' = some q:=by rw [qrM hkn hall]; exact hq
   obtain ⟨v,st',u,s',hk,hev,hr,hR,hF,e1,e2⟩:=qzI hO hall hs h;refine ⟨by unfold qmn; rw [hq']; simp,v,st',_,u,s',hk,hev.imp λC hC=>?_,hr,hR,hF,e1,e2⟩;unfold qkC;rw [if_neg (by rw [hb']; simp),hq'];simp only [hC,Option.map_some]
  ·cases h
theorem qzo {o:Oper} {xs:List TV} {ys:List V} {st:TSt} {s:St} {R:Type} {k:TV->TSt->Fp->Option R} {r:R} (hx:RVL xs ys) (hs:Rst st s) (h:qAX P H f o xs st R k = some r) :
  ∃ v st' fp u s',k v st' fp = some r/\qev P H f o ys s = some (u,s',fp)/\RV v u/\Rst st' s'/\Fr2 st st' s s'/\st'.E = st.E/\s'.E = s.E:=by
 unfold qAX at h;split at h
 ·rename_i hmo;obtain ⟨v,st',fp,u,s',hk,hm,hr,hR,hF,e1,e2⟩:=qwr hx hs h;refine ⟨v,st',fp,u,s',hk,?_,hr,hR,hF,e1,e2⟩;unfold qev;rw [if_pos (qyG hx hmo),hm]
 rename_i hmo;have hmo':¬ qdJ o.op ys = true:=λhm=>by
  obtain ⟨h1,h2⟩:=qyg (P:=P) (H:=H) (f:=f) hx hmo hm;rw [h1] at h; simp only [h2] at h; cases h
 split at h
 ·rename_i hr;obtain ⟨z,c,u,c',hk,hsem,hrv,hbo⟩:=qtF (ty:=o.type) (bx:=none) (bx':=none) hx True.intro (by simp) h;split at hk
  ·have hc':c' = none:=hbo;subst hc';have hr':rootOf o.op ys = none:=by
    cases ho:o.op <;> try rfl
    case load t a =>
     rw [ho] at h hr
     match xs,hx,h,hr with
     | [],hx,h,hr=>simp [qdl] at h
     | [x],hx,h,hr =>
      obtain ⟨v,rfl,hv⟩:=qel hx;cases x <;> simp only [qdl] at h <;> try (cases h; done)
      simp only [RV] at hv; obtain ⟨_,l',rfl,_⟩:=hv; rfl
     | x :: y :: xs,hx,h,hr =>
      cases x <;> simp [qdl] at h
    case store t a b =>
     rw [ho] at h hr
     match xs,hx,h,hr with
     | [],hx,h,hr=>simp [qdl] at h
     | [x],hx,h,hr=>cases x <;> simp [qdl] at h
     | [x,y],hx,h,hr =>
      cases x <;> simp only [qdl] at h <;> try (cases h; done)
     | x :: y :: z :: xs,hx,h,hr=>cases x <;> simp [qdl] at h
   refine ⟨z,st,.none,u,s,hk,?_,hrv,hs,Fr2.refl _ _,rfl,rfl⟩;unfold qev;rw [if_neg hmo',hr'];simp only [hsem]
  ·cases hk
 ·rename_i q hr;split at h
  ·cases h
  rename_i hslot;have hslot:q.slot < 16384:=Nat.lt_of_not_le hslot;have hmpq:∀ c,s.box q = some c->qh6 c = false:=λc hc=>hs.M.mp q.lvl q.slot c (by rw [<- qI]; exact hc) hslot;obtain ⟨z,c,u,c',hk,hsem,hrv,hbo⟩:=qtF (ty:=o.type) hx (hs.bx q) hmpq h;have hshape:rootOf o.op ys = some q/\qak P o.op ys = qct P o.op xs/\(∀ p ∈ qn4 o.op ys,p ∈ qxD o.op xs)/\(∀ d,c = some d->∃ c0,st.box q = some c0):=by
   cases ho:o.op <;> rw [ho] at hr <;> try (simp [qmQ] at hr; done)
   case load t a =>
    rw [ho] at h
    match xs,hx,h,hr with
    | [],hx,h,hr=>simp [qdl] at h
    | [x],hx,h,hr =>
     obtain ⟨v,rfl,hv⟩:=qel hx;cases x <;> simp only [qmQ] at hr <;> try (cases hr; done)
     cases hr;simp only [RV] at hv; subst hv;refine ⟨rfl,rfl,λp hp=>by simp [qn4] at hp,λd _=>?_⟩;simp only [qdl] at h;split at h
     ·rename_i cs hcs; exact ⟨cs,hcs⟩
     ·cases h
    | x :: y :: xs,hx,h,hr=>cases x <;> simp [qdl] at h
   case store t a b =>
    rw [ho] at h
    match xs,hx,h,hr with
    | [],hx,h,hr=>simp [qdl] at h
    | [x],hx,h,hr=>cases x <;> simp [qdl] at h
    | [x,y],hx,h,hr =>
     cases x <;> simp only [qmQ] at hr <;> try (cases hr; done)
     cases hr;simp only [RVL] at hx;obtain ⟨v,m,rfl,hv,v2,m2,rfl,hv2,rfl⟩:=hx;simp only [RV] at hv; subst hv;simp only [qdl] at h;split at h
     ·rename_i cs hcs;split at h
      ·rename_i hcond;obtain ⟨hcells,_⟩:=RV.cells hcond.2.2.2 hv2;refine ⟨rfl,?_,λp hp=>?_,λd _=>⟨cs,hcs⟩⟩
       ·simp only [qak,qct,hcells.length]
       ·simp only [qn4] at hp;simp only [qxD];exact RV.qm _ _ hv2 p hp
      ·cases h
     ·cases h
    | x :: y :: z :: xs,hx,h,hr=>cases x <;> simp [qdl] at h
  obtain ⟨hroot,hrange,hwp,hbx⟩:=hshape;split at hk
  ·have hc':c' = none:=hbo;subst hc';refine ⟨z,st,_,u,s,hk,?_,hrv,hs,Fr2.refl _ _,rfl,rfl⟩;unfold qev;rw [if_neg hmo',hroot];simp only [hsem,hrange]
  ·rename_i d;obtain ⟨d',rfl,hd⟩:=hbo;split at hk
   ·rename_i hcond;obtain ⟨c0,hc0⟩:=hbx d rfl;obtain ⟨hR,hF⟩:=qji hs hc0 hd (λ_=>qB4 hroot hmpq hsem);refine ⟨z,_,_,u,s.qj q d',hk,?_,hrv,hR,hF,(qja st q d).1,(qe0 s q d').1⟩;unfold qev;rw [if_neg hmo',hroot];simp only [hsem,hrange];rw [if_pos];simp only [qe,List.all_eq_true,decide_eq_true_eq] at hcond ⊢;exact ⟨λp hp=>hcond.1 p (hwp p hp),by rw [hd.length]; exact hcond.2⟩
   ·cases hk
end Go.Tx
end
section
namespace Go.Tx
open Go Go.Ab
variable {P:Program} {H:Hints} {J:TH} {T:qt7} {O:TOrc} {lib:FuncId->Option (List V->Option V)} {f:FuncId} {ctx:List Tmp}
theorem qxO (p:Bool) (u:Value):qh6 (ofConst p u).cells = false:=by
 have h0:∀ u,qh6 [qdn p u] = false:=λu=>by
  unfold qdn;split
  ·unfold qfR; split <;> rfl
  ·rfl
 have h1:∀ u,qh6 (qdn p u).cells = false\/(∃ cs,u = .agg cs):=λu=>by
  unfold qdn;split
  ·left; unfold qfR; split <;> rfl
  ·left; rfl
 by_cases hu:∃ cs,u = .agg cs
 ·obtain ⟨cs,rfl⟩:=hu;show qh6 (cs.toList.map (qdn p)) = false;cases cs.toList with
  | nil=>rfl
  | cons x l=>rw [List.map_cons,qhi (m:=[])]; exact h0 x
 ·have e:ofConst p u = qdn p u:=by
   unfold ofConst;split
   ·exact absurd ⟨_,rfl⟩ hu
   ·rfl
  rw [e];rcases h1 u with h2 | h2
  ·exact h2
  ·exact absurd h2 hu
theorem qp3 {c:List V} (h:qat c = false):qat (c.map V.qfg) = false:=by
 match c with
 | []=>rfl
 | x :: l =>
  simp only [List.map_cons];unfold V.qfg;split
  ·rfl
  ·cases x <;> first | rfl | (simp [qat] at h)
theorem quy {c:List V} (h:qh6 c = false):qh6 (c.map V.qfg) = false:=by
 match c with
 | []=>rfl
 | x :: l =>
  simp only [List.map_cons];unfold V.qfg;split
  ·rfl
  ·cases x <;> first | rfl | (simp [qh6] at h)
theorem qv2 {ys:List V}:∀ {p:Path} {v u:V},qto ys p v = some u->∃ c l,u = .sl .own c l:=by
 intro p v u h;unfold qto at h;split at h
 ·cases h
 ·split at h
  ·split at h
   ·split at h
    ·split at h
     ·cases h; exact ⟨_,_,rfl⟩
     ·cases h
    ·split at h
     ·obtain ⟨z,_,rfl⟩:=qc.1 h;exact ⟨_,_,rfl⟩
     ·cases h
   ·cases h
  ·cases h
 ·cases h
theorem qBJ {c:List V} {i:Nat} {u:V} (h:qh6 c = false) (hu:qh6 [u] = false):qh6 (c.set i u) = false:=by
 cases c with
 | nil=>rfl
 | cons x l=>cases i with
  | zero=>rw [List.set_cons_zero,qhi (m:=[])]; exact hu
  | succ n=>rw [List.set_cons_succ,qhi (m:=l)]; exact h
theorem qAZ (hT:TOk P H lib T) (hO:OOk P H lib O) {o:Oper} {xs:List TV} {ys:List V} {st:TSt} {s:St} {R:Type} {k:TV->TSt->Fp->Option R} {r:R} (hx:RVL xs ys) (hs:Rst st s)
  (h:qnw P H J T O ctx f o xs st R k = some r) :
  ∃ v st' fp u s',k v st' fp = some r/\Ev (λC=>qbR P H C f o ys s = some (u,s',fp)) P H lib/\RV v u/\Rst st' s'/\Fr2 st st' s s'/\st'.E = st.E/\s'.E = s.E:=by
 rcases qgN o.op with ⟨t,hop⟩ | ⟨t,a,hop⟩ | ⟨c,fo,hop,hc⟩ | hd
 ·unfold qnw at h;simp only [hop] at h;split at h
  ·rename_i d z hd hz;split at h
   ·rename_i hn;have hn':q4 st.B d = none:=by simpa using hn
    obtain ⟨z',hz',_,hcz⟩:=qjk hz;have hmz:qh6 z'.cells = false:=by
     obtain ⟨i,u,_,_,rfl⟩:=qek hz';exact qxO _ u
    obtain ⟨hR,hF⟩:=qsN hs hn' (RVL.rc hcz) (λ_=>hmz);refine ⟨_,_,_,.ptr ⟨s.L.length,d⟩ 0,_,h,.of λC=>?_,by simp [RV,hs.len],hR,hF,rfl,rfl⟩;unfold qbR;simp only [hop,hd,hz'];rw [if_pos (by rw [qhd hs hn']; rfl),hs.len]
   ·cases h
  ·cases h
 ·unfold qnw at h;simp only [hop] at h;split at h
  ·rename_i d x hd;split at h
   ·rename_i hn;have hn':q4 st.B d = none:=by simpa using hn.1
    obtain ⟨v,rfl,hv⟩:=qel hx;obtain ⟨hcells,hok⟩:=RV.cells hn.2.2 hv;obtain ⟨hR,hF⟩:=qsN hs hn' (RVL.rc hcells) (λ_=>qwM hok);refine ⟨_,_,_,.ptr ⟨s.L.length,d⟩ 0,_,h,.of λC=>?_,by simp [RV,hs.len],hR,hF,rfl,rfl⟩;unfold qbR;simp only [hop,hd];rw [if_pos ⟨by rw [qhd hs hn']; rfl,by rw [hcells.length]; exact hn.2.1,hok⟩,hs.len]
   ·cases h
  ·cases h
 ·rw [qvj hop hc] at h;cases xs with
  | nil=>cases h
  | cons fv args =>
   simp only [RVL] at hx;obtain ⟨fv',args',rfl,hfv,ha⟩:=hx;simp only at h;cases hbn:qs0 H fv args with
   | true =>
    rw [if_pos hbn] at h;obtain ⟨hb',v,st',fp,u,s',hk,hev,hr,hR,hF,e1,e2⟩:=qCI hO hfv ha hs h;refine ⟨v,st',fp,u,s',hk,hev.imp λC hC=>?_,hr,hR,hF,e1,e2⟩;rw [qbC hop hc];simp only [hb',if_true];exact hC
   | false =>
    rw [if_neg (by rw [hbn]; simp)] at h;simp only [qs0,Bool.or_eq_false_iff] at hbn;have hb':qmn H fv' args' = false:=by
     have h':=h;unfold qrm at h';split at h'
     ·rename_i g first cap;split at h'
      ·rename_i hkn;have hbn1:qnR H fv' = false:=by rw [qoL (fv:=.any []) hfv]; exact hbn.1
       have hf':=hfv;simp only [RV] at hf';obtain ⟨first',cap',rfl,hf1,hc1⟩:=hf';unfold qmn;rw [hbn1,qrM hkn ((hf1.append ha).append hc1),hbn.2]; rfl
      ·cases h'
     ·have hf':=hfv;simp only [RV] at hf';subst hf';rfl
     ·cases h'
    obtain ⟨v,st',u,s',hk,hev,hr,hR,hF,e1,e2,hp⟩:=quf hT hO hfv ha hs h;refine ⟨v,st',_,u,s',hk,hev.imp λC hC=>?_,hr,hR,hF,e1,e2⟩;rw [qbC hop hc];obtain ⟨hC,hlk⟩:=hC;simp only [hb',qf,if_false,hC,Option.map_some];rw [<- hp,hlk]
 ·rw [qvc hd] at h;obtain ⟨v,st',fp,u,s',hk,hm,hr,hR,hF,e1,e2⟩:=qzo hx hs h;exact ⟨v,st',fp,u,s',hk,.of λC=>by rw [q7 hd]; exact hm,hr,hR,hF,e1,e2⟩
theorem qym {E:Env} {E':List V} (h:RVL E.toL E') (t:Nat):RV (E.get t) (E'.getD t .undef):=by rw [qoB]; exact h.getD t
theorem qBF {o:Oper} {E:Env} {E':List V} (h:RVL E.toL E') (x:Operand):RV (rdT H f o E x) (rd H f o E' x):=by
 cases x with
 | tmp t =>
  simp only [rdT,rd];split
  ·exact qym h t
  ·exact (qym h t).qah
 | const v=>exact qxx _ _
 | global g=>exact qcV []
 | func g=>simp [rdT,rd,RV,RVL]
theorem qDg {o:Oper} {E:Env} {E':List V} (h:RVL E.toL E'):∀ l:List Operand,RVL (l.map (rdT H f o E)) (l.map (rd H f o E'))
 | []=>qa7
 | x :: l=>qy.2 ⟨qBF h x,qDg h l⟩
theorem qlu:∀ (ts:List Tmp) {E:Env} {E':List V},RVL E.toL E'->RVL (qb6 E ts).toL (qv E' ts)
 | [],E,E',h=>h
 | t :: ts,E,E',h=>by
  have h1:RVL (E.set t (E.get t).qah).toL (E'.modify t V.qah):=by
   rw [qrQ];refine qfU (by simp [h.length]) λi x v hx hv=>?_;rw [List.getElem?_modify] at hx hv;obtain ⟨y,hy,rfl⟩:=qc.1 hx;obtain ⟨u,hu,rfl⟩:=qc.1 hv;obtain ⟨u2,hu2,hr⟩:=h.get hy;rw [hu] at hu2; cases hu2;by_cases e:t = i
   ·simp only [e,if_true]; exact hr.qah
   ·simp only [if_neg e]; exact hr
  exact qlu ts h1
theorem quj {ts:List Tmp} {t:Nat} (h:t ∉ ts):∀ E:List V,(qv E ts)[t]? = E[t]?:=by
 induction ts with
 | nil=>intro E; rfl
 | cons u ts ih =>
  intro E;simp only [List.mem_cons,not_or] at h;have e:qv E (u :: ts) = qv (E.modify u V.qah) ts:=rfl;rw [e,ih h.2,List.getElem?_modify];simp [Ne.symm h.1]
theorem qvN (ts:List Tmp) (E:List V):(qv E ts).length = E.length:=qbk ts E
theorem qi6 {st:TSt} {s:St} (hs:Rst st s) (d:Option Tmp) {v:TV} {u:V} (hv:RV v u):Rst (st.put d v) (s.put d u)/\Fr2 st (st.put d v) s (s.put d u):=by
 cases d with
 | none=>exact ⟨hs,Fr2.refl _ _⟩
 | some t =>
  refine ⟨⟨by show RVL (st.E.set t v).toL _; rw [qf9]; exact hs.E.set t hv,hs.M⟩,⟨λx hx=>by simp [TSt.put,hx],λr hr=>hr,λx hx=>.inl ?_,λx hx rs hE=>⟨rs,?_⟩,λr hr=>.inl rfl,λr hr h=>h,rfl,by simp [St.put]⟩⟩
  case refine_2 =>
   simp only [TSt.put,Mask.mem_ins,not_or] at hx;simp only [TSt.put,qf9] at hE
   rwa [List.getElem?_set_ne (Ne.symm hx.1)] at hE
  simp only [TSt.put,Mask.mem_ins,not_or] at hx;simp only [St.put];rw [List.getElem?_set_ne (Ne.symm hx.1)]
theorem qps {E:Env} {E':List V} (h:RVL E.toL E') {ts:List Tmp} {t:Nat} (ht:t ∉ ts.filter (λt=>(E.get t).owns)):(qv E' ts)[t]? = E'[t]?:=by
 rw [qg7];split
 ·rename_i hm;have hno:(E.get t).owns = false:=by
   cases hh:(E.get t).owns with
   | false=>rfl
   | true=>exact absurd (List.mem_filter.2 ⟨hm,hh⟩) ht
  cases hv:E'[t]? with
  | none=>rfl
  | some v =>
   have hr:=qym h t;rw [List.getD_eq_getElem?_getD (l:=E'),hv] at hr;simp only [Option.map_some,qb];refine dull_of_owns v ?_;cases ho:v.owns with
   | false=>rfl
   | true=>have:=RV.owns _ _ hr ho; rw [hno] at this; cases this
 ·rfl
theorem qCo {x:TV} {rs:List Root} (h:x.qah = .any rs):x = .any rs:=by
 cases x with
 | room a s=>rcases a with _ | a <;> simp [TV.qah] at h
 | _=>simp_all [TV.qah]
theorem qhI:∀ (T:List Tmp) (E:Env) (t:Nat) (rs:List Root),(qb6 E T).toL[t]? = some (.any rs)->∃ rs',E.toL[t]? = some (.any rs')
 | [],E,t,rs,h=>⟨rs,h⟩
 | s :: T,E,t,rs,h=>by
  have h':(qb6 (E.set s (E.get s).qah) T).toL[t]? = some (.any rs):=h;obtain ⟨rs',h1⟩:=qhI T _ t rs h';rw [qrQ,List.getElem?_modify] at h1;cases hE:E.toL[t]? with
  | none=>rw [hE] at h1; cases h1
  | some x =>
   rw [hE] at h1;simp only [Option.map_eq_map,Option.map_some,qb] at h1;split at h1
   ·exact ⟨rs',by rw [qCo h1]⟩
   ·exact ⟨rs',by rw [h1]⟩
theorem qmA (hT:TOk P H lib T) (hO:OOk P H lib O) {o:Oper} {st:TSt} {s:St} {R:Type} {k:TSt->Fp->Option R} {r:R} (hs:Rst st s) (h:qkH P H J T O ctx f o st R k = some r) :
  ∃ st' fp s',k st' fp = some r/\Ev (λC=>qfE P H C f o s = some (s',fp)) P H lib/\Rst st' s'/\Fr2 st st' s s'/\∀ t:Nat,t ∉ tmpsOf o->o.dst ≠ some t->s'.E[t]? = s.E[t]?:=by
 unfold qkH at h;split at h
 ·cases h
 ·rename_i hn;have hs1:Rst (if qaj H f o = true then { st with E:=qb6 st.E (tmpsOf o),Wt:=Mask.ofList ((tmpsOf o).filter (λt=>(st.E.get t).owns)) ++ st.Wt } else st) (if qaj H f o = true then { s with E:=qv s.E (tmpsOf o) } else s) /\
    Fr2 st (if qaj H f o = true then { st with E:=qb6 st.E (tmpsOf o),Wt:=Mask.ofList ((tmpsOf o).filter (λt=>(st.E.get t).owns)) ++ st.Wt } else st) s (if qaj H f o = true then { s with E:=qv s.E (tmpsOf o) } else s):=by
   split
   ·refine ⟨⟨qlu _ hs.E,hs.M⟩,⟨λt ht=>by simp [ht],λr hr=>hr,λt ht=>.inl ?_,λt ht rs hE=>?_,λr hr=>.inl rfl,λr hr h=>h,rfl,qvN _ _⟩⟩
    ·simp only [Mask.mem_append,Mask.mem_ofList,not_or] at ht;exact qps hs.E ht.1
    ·exact qhI _ _ _ _ hE
   ·exact ⟨hs,Fr2.refl _ _⟩
  obtain ⟨v,st',fp,u,s',hk,hev,hr,hR,hF,e1,e2⟩:=qAZ hT hO (qDg hs.E _) hs1.1 h;obtain ⟨hR2,hF2⟩:=qi6 hR o.dst hr;refine ⟨_,fp,_,hk,hev.imp λC hC=>?_,hR2,(hs1.2.trans hF).trans hF2,λt h1 h2=>?_⟩
  ·unfold qfE;rw [if_neg hn,hC];rfl
  ·have h3:(s'.put o.dst u).E[t]? = s'.E[t]?:=by
    unfold St.put;cases hd:o.dst with
    | none=>rfl
    | some d =>
     simp only
     rw [List.getElem?_set_ne];rintro rfl; exact h2 hd
   rw [h3,e2];split
   ·exact quj h1 s.E
   ·rfl
theorem qvf {ops:Array Oper} {o:Oper} {st:TSt} {s:St} {R:Type} {yes no:TSt->Option R} {r:R} (hs:Rst st s) (h:qwu ops o st R yes no = some r) :
  ∃ st1 b,qda ops s.E o = some b/\Rst st1 s/\Fr2 st st1 s s/\(if b then yes st1 else no st1) = some r:=by
 unfold qwu at h;unfold qda;split at h
 ·rename_i hg;rw [hg];exact ⟨st,true,rfl,hs,Fr2.refl _ _,h⟩
 ·rename_i j want hg;rw [hg];simp only
  split at h
  ·rename_i t ht;rw [ht];simp only
   split at h
   ·rename_i o' b hb;obtain ⟨v,hv,hr⟩:=hs.E.get (some_get hb (by simp));simp only [RV,RTy] at hr;subst hr;rw [hv];have hset:∀ c,b = c->Rst ({ st with E:=st.E.set t (.t .bool 0 c) }:TSt) s:=λc hc=>⟨by
     rw [qf9];refine qjg hs.E t λu hu=>?_;rw [hv] at hu; cases hu; simp [RV,RTy,hc],hs.M⟩
    have hfr:∀ c,Fr2 st ({ st with E:=st.E.set t (.t .bool 0 c) }:TSt) s s:=λc=>⟨λx hx=>hx,λx hx=>hx,λx hx=>.inl rfl,λx hx rs hE=>⟨rs,by
     simp only [qf9,List.getElem?_set] at hE;split at hE
     ·split at hE <;> cases hE
     ·exact hE⟩,λx hx=>.inl rfl,λx hx h=>h,rfl,rfl⟩
    cases b with
    | true =>
     simp only [cond_true] at h;refine ⟨_,(true == want),rfl,hset true rfl,hfr true,?_⟩;cases want <;> exact h
    | false =>
     simp only [cond_false] at h;refine ⟨_,(false == want),rfl,hset false rfl,hfr false,?_⟩;cases want <;> exact h
   ·rename_i vs hb;obtain ⟨v,hv,hr⟩:=hs.E.get (some_get hb (by simp));simp only [RV] at hr;subst hr;rw [hv];split at h
    ·rename_i h0;exact ⟨st,false,by simp only [h0,if_true],hs,Fr2.refl _ _,h⟩
    ·cases h
   ·cases h
  ·cases h
def qky (p:List (Int × Nat × Nat)):Path:=p.map λe=>(e.1.toNat,e.2.1,e.2.2)
theorem qzL {E:Env} {E':List V} (h:RVL E.toL E') {i:Operand} {n:Int} (hi:qtL E i = some n) (h0:0<=n):idxOf E' i = some n.toNat:=by
 cases i with
 | tmp t =>
  simp only [qtL] at hi;obtain ⟨k,hk⟩:=qoT hi (qym h t);simp only [idxOf,hk];exact qhn h0
 | const v =>
  simp only [qtL] at hi;split at hi
  ·cases hi; simp only [idxOf]; exact qhn h0
  ·cases hi
 | _=>simp [qtL] at hi
theorem qjs {ops:Array Oper} {E:Env} {E':List V} (h:RVL E.toL E'):∀ (n k:Nat) (d:Tmp) (rt:Rt) (p:List (Int × Nat × Nat)) (ptr:Bool),qh2 P H f ops E n k d = some (rt,p,ptr)->(∀ e ∈ p,0<=e.1)->qbV P H f ops E' n k d = some (rt,qky p,ptr):=by
 intro n;induction n with
 | zero=>intro k d rt p ptr hx; simp [qh2] at hx
 | succ n ih =>
  intro k d rt p ptr hx h0;simp only [qh2] at hx;simp only [qbV];split at hx
  ·rename_i hl;rw [if_pos hl];simp only [qb,Prod.mk.injEq] at hx;obtain ⟨rfl,rfl,rfl⟩:=hx;rfl
  ·rename_i hl;rw [if_neg hl];cases hc:qqZ ops k d with
   | none=>rw [hc] at hx; cases hx
   | some c =>
    rw [hc] at hx;try simp only at hx ⊢
    cases hop:(ops[c]?).map Oper.op with
    | none=>rw [hop] at hx; cases hx
    | some op =>
     rw [hop] at hx;try simp only at hx ⊢
     split at hx
     ·rename_i a heq;cases heq;exact ih _ _ _ _ _ hx h0
     ·rename_i t a i heq;cases heq;try simp only
      split at hx
      ·rename_i r q j elem hq hj hu;simp only [qb,Prod.mk.injEq] at hx;obtain ⟨rfl,rfl,rfl⟩:=hx;rw [ih _ _ _ _ _ hq (λe he=>h0 e (by simp [he])),qzL h hj (h0 (j,0,P.cellsOf elem) (by simp)),hu];rfl
      ·cases hx
     ·rename_i t a fd heq;cases heq;try simp only
      split at hx
      ·rename_i r j o s q o' hq ho';simp only [qb,Prod.mk.injEq] at hx;obtain ⟨rfl,rfl,rfl⟩:=hx;rw [ih _ _ _ _ _ hq (λe he=>by
        rcases List.mem_cons.1 he with rfl | he
        ·exact h0 (j,o + o',s) (by simp)
        ·exact h0 e (by simp [he])),ho']
       rfl
      ·cases hx
     ·rename_i t a heq;cases heq;try simp only
      split at hx
      ·cases hx
      ·rename_i hag;rw [if_neg hag];split at hx
       ·rename_i hla;rw [if_pos hla];split at hx
        ·rename_i r q hq;simp only [qb,Prod.mk.injEq] at hx;obtain ⟨rfl,rfl,rfl⟩:=hx;rw [ih _ _ _ _ _ hq h0]
        ·cases hx
       ·rename_i hla;rw [if_neg hla];split at hx
        ·rename_i r off hE;simp only [qb,Prod.mk.injEq] at hx;obtain ⟨rfl,rfl,rfl⟩:=hx;have:=qym h a;rw [hE] at this;simp only [RV] at this;rw [this];rfl
        ·cases hx
     ·cases hx
theorem qxX {τ:Ty} (he:τ.qcv = true) {o:Nat} {e:τ.den} {b:V} (hr:RTy τ o e b) {cs:List TV} {cs':List V} (hc:RVL cs cs') (hlen:cs.length = τ.qbK) (h0:τ.qbK ≠ 0):RV (qpu (ofTy τ o e) cs) (qeF b cs'):=by
 have hd:∀ (hone:τ.qbK = 1),RV (cs.headD (.any [])) (cs'.headD .undef):=λ_=>by
  cases hc':cs with
  | nil=>rw [hc'] at hlen; simp at hlen; omega
  | cons x l =>
   rw [hc'] at hc;simp only [RVL] at hc;obtain ⟨v,m,rfl,h1,_⟩:=hc;exact h1
 cases τ with
 | int k=>simp only [RTy] at hr; subst hr; exact hd rfl
 | bool=>simp only [RTy] at hr; subst hr; exact hd rfl
 | str=>simp only [RTy] at hr; subst hr; exact hd rfl
 | flt=>simp only [RTy] at hr; obtain ⟨_,rfl,_⟩:=hr; exact hd rfl
 | cx=>simp only [RTy] at hr; obtain ⟨_,_,rfl,_⟩:=hr; exact hd rfl
 | mset t=>simp [Ty.qcv] at he
 | sl t=>simp only [RTy] at hr; obtain ⟨f,c,l',rfl,_⟩:=hr; exact hd rfl
 | unit=>exact absurd rfl h0
 | pair a b' =>
  simp only [RTy] at hr; obtain ⟨v1,l,rfl,_⟩:=hr;simp only [ofTy,qpu,qeF,RV];exact ⟨cs',rfl,hc⟩
theorem qwI {α β:Type} {R:α->β->Prop} {l:List α} {l':List β} (h:All2 R l l'):∀ (i:Nat) {a:α} {b:β},R a b->All2 R (l.set i a) (l'.set i b):=by
 induction h with
 | nil=>intro i a b _; exact .nil
 | cons h1 h2 ih =>
  intro i a b hab;cases i with
  | zero=>exact .cons hab h2
  | succ i=>exact .cons h1 (ih i hab)
theorem qBc {ys:List TV} {ys':List V} (hy:RVL ys ys'):∀ (p:List (Int × Nat × Nat)) (x:TV) (v:V) {R:Type} {k:TV->Option R} {r:R},qC0 ys p x R k = some r->RV x v ->
  (∀ e ∈ p,0<=e.1)/\∃ y u,k y = some r/\qto ys' (qky p) v = some u/\RV y u:=by
 intro p;induction p with
 | nil=>intro x v R k r h; unfold qC0 at h; cases h
 | cons q p ih =>
  obtain ⟨i,o,s⟩:=q;intro x v R k r h hx;by_cases hxs:∃ τ lv l,x = .t (.sl τ) lv l
  ·obtain ⟨τ,lv,l,rfl⟩:=hxs;unfold qC0 at h;split at h
   ·rename_i hc;obtain ⟨hown,hcl,hs0,hok,hel⟩:=hc;obtain ⟨e,he,h⟩:=qd.1 h;obtain ⟨h0,hget⟩:=qou he;simp only [RV,RTy] at hx;obtain ⟨fl,c,l',rfl,hfl,hall⟩:=hx;have hf:fl = .own:=hfl.own hown;subst hf;obtain ⟨b,hb,hr⟩:=hall.get hget;obtain ⟨hbl,hbo⟩:=qnk hel hr;have hcells:=(RV.cells (qr9 hel (nx lv) e) (rv_ofTy τ (nx lv) e b hr)).1;have hcl2:(ofTy τ (nx lv) e).cells.length = τ.qbK:=by rw [<- hcells.length,hbl]
    have hn0:τ.qbK ≠ 0:=by rw [hcl]; exact hs0
    have hfin:∀ (cs:List TV) (cs':List V) (e':τ.den),RVL cs cs'->cs.length = τ.qbK->qic τ (nx lv) (qpu (ofTy τ (nx lv) e) cs) = some e' ->
      RV (.t (.sl τ) lv (l.set i.toNat e')) (.sl .own c (l'.set i.toNat (qeF b cs'))):=λcs cs' e' hcs hlen has=>by
     have:=qeb _ _ _ _ _ has (qxX hel hr hcs hlen hn0);simp only [RV,RTy];exact ⟨.own,c,_,rfl,qgb hown,qwI hall _ this⟩
    cases p with
    | nil =>
     simp only at h;split at h
     ·rename_i hle;split at h
      ·rename_i e' has;have hsp:=qll (off:=o) hcells hy;refine ⟨by simp [h0],_,_,h,?_,hfin _ _ e' hsp ?_ has⟩
       ·simp only [qky,List.map_cons,List.map_nil,qto];rw [hb];simp only
        rw [if_pos ⟨by rw [hbl,hcl],hbo⟩,if_pos (by rw [hy.length]; exact hle)]
       ·rw [<- hsp.length,qb5 (by rw [hy.length,hbl,hcl]; exact hle),hbl]
      ·cases h
     ·cases h
    | cons q2 p2 =>
     simp only at h;split at h
     ·rename_i z hz;obtain ⟨z',hz',hrz⟩:=hcells.get hz;obtain ⟨h1,y,u,hk,hupd,hyu⟩:=ih z z' h hrz;split at hk
      ·rename_i e' has;have hset:=hcells.set o hyu;refine ⟨λe he=>?_,_,_,hk,?_,hfin _ _ e' hset (by simp [hcl2]) has⟩
       ·rcases List.mem_cons.1 he with rfl | he
        ·exact h0
        ·exact h1 e he
       ·have hpv:qky ((i,o,s) :: q2 :: p2) = (i.toNat,o,s) :: qky (q2 :: p2):=rfl;have hpn:qky (q2 :: p2) = (q2.1.toNat,q2.2.1,q2.2.2) :: qky p2:=rfl;rw [hpv];rw [hpn] at hupd ⊢;unfold qto;rw [hb];simp only
        rw [if_pos ⟨by rw [hbl,hcl],hbo⟩,hz'];simp only
        rw [hupd]; rfl
      ·cases hk
     ·cases h
   ·cases h
  ·exfalso
   cases x with
   | t τ lv l =>
    cases τ with
    | sl τ=>exact hxs ⟨τ,lv,l,rfl⟩
    | _=>simp [qC0] at h
   | _=>simp [qC0] at h
theorem qDm {x:TV} {v:V} (h:RV x v):RV x.qfg v.qfg:=by
 unfold TV.qfg V.qfg;cases hf:x.firm with
 | true =>
  rw [RV.firm x v hf h];simpa using h
 | false =>
  simp only [qf,if_false];split
  ·exact qcV _
  ·simp only [RV]; exact ⟨λr hr=>RV.qm x v h r hr,qa4 (qy.2 ⟨h,qa7⟩)⟩
theorem qmm:∀ {l:List TV} {l':List V},RVL l l'->RVL (l.map TV.qfg) (l'.map V.qfg)
 | [],l',h=>by simp only [RVL] at h; subst h; exact qa7
 | x :: l,l',h=>by
  simp only [RVL] at h; obtain ⟨v,m,rfl,h1,h2⟩:=h;exact qy.2 ⟨qDm h1,qmm h2⟩
theorem qw3:∀ {l:List TV} {l':List V},RVL l l'->l.all TV.firm = true->l'.map V.qfg = l'
 | [],l',h,_=>by simp only [RVL] at h; subst h; rfl
 | x :: l,l',h,hf=>by
  simp only [RVL] at h; obtain ⟨v,m,rfl,h1,h2⟩:=h;simp only [List.all_cons,qe] at hf;simp only [List.map_cons];rw [qw3 h2 hf.2];have:v.qfg = v:=by unfold V.qfg; rw [RV.firm x v hf.1 h1]; rfl
  rw [this]
theorem qAg {E:Env} {i:Nat} {x:TV} (h:E.toL[i]? = some x) (hf:x.firm = false) (ha:x.isAny = false):i ∈ qDK E :=
 qCx (by simp [TV.isAny]) h (by simp [hf,ha])
theorem qlK:∀ {b:qK} {k:Nat} {c:List TV},q4 b k = some (some c)->c.all TV.firm = false->(⟨0,k⟩:Root) ∈ qv8 b
 | [],k,c,h,_=>by simp [q4] at h
 | (k',none) :: b,k,c,h,hf=>by
  simp only [q4] at h;split at h
  ·cases h
  ·simp only [qv8]; exact qlK h hf
 | (k',some d) :: b,k,c,h,hf=>by
  simp only [q4] at h;simp only [qv8];split at h
  ·rename_i e;cases h;rw [hf];simp [e]
  ·split
   ·exact qlK h hf
   ·exact List.mem_cons_of_mem _ (qlK h hf)
theorem qhc (s:Nat):∀ b:qK,q4 (qAE b) s = (q4 b s).map (Option.map (List.map TV.qfg))
 | []=>rfl
 | (k,c) :: b=>by
  simp only [qAE,List.map_cons,q4];split
  ·rfl
  ·exact qhc s b
theorem qwi {x:TV} (h:x.isAny = true):∃ rs,x = .any rs:=by cases x <;> first | exact ⟨_,rfl⟩ | (simp [TV.isAny] at h)
def qm2 (s:St) (T:List Tmp):St:={ s with E:=(qv s.E T).map V.qfg,B:=qly s.B }
theorem qiV {st:TSt} (hL:st.L = []) (r:Root):st.cont r = if r.lvl = 0 then (match q4 st.B r.slot with | some (some c)=>some c | _=>none) else none:=by
 unfold TSt.cont;rw [hL];simp only [List.length_nil];by_cases h:r.lvl = 0
 ·rw [if_pos h,if_pos h];cases q4 st.B r.slot with
  | none=>rfl
  | some o=>cases o <;> rfl
 ·rw [if_neg h,if_neg h]; simp
theorem qjJ {b:qK} (h:qpU b = true) {k:Nat} {c:List TV} (hl:q4 b k = some (some c)):isRec c = false:=by
 unfold qpU at h;rw [List.all_eq_true] at h;have:=h _ (qd0 hl);simpa using this
theorem qno {st:TSt} {s:St} (h:Rst st s) (hL:st.L = []) (hn0:qpU st.B = true) (T:List Tmp):s.L = []/\qh0 s.B = true/\Rst (st.qcg T) (qm2 s T)/\Fr2 st (st.qcg T) s (qm2 s T):=by
 have hL':s.L = []:=List.eq_nil_of_length_eq_zero (by rw [h.len,hL]; rfl);have hB:∀ k,RB (q4 st.B k) (qt s.B k):=λk=>by
  have:=h.M.rel 0 k;unfold qay qaJ at this;simpa [TSt.all,qdO,hL,hL'] using this
 have hnd:(s.B.map (·.1)).Nodup:=h.M.nd s.B (by simp [qdO]);have hlp:∀ k c,qt s.B k = some c->qat c = false:=λk c hc=>by
  have:=hB k;cases ht:q4 st.B k with
  | none=>rw [ht] at this; simp only [RB] at this; rw [this] at hc; cases hc
  | some o =>
   rw [ht] at this;cases o with
   | none=>exact this c hc
   | some d=>obtain ⟨d',hd',hr⟩:=this; rw [hc] at hd'; cases hd'; exact qa4 (hr.rvl (qjJ hn0 ht))
 have hE:=qlu T h.E;have hlen:(qv s.E T).length = s.E.length:=qbk T s.E;have hfirmE:∀ (t:Nat),t ∉ qDK (qb6 st.E T)->∀ x v,(qb6 st.E T).toL[t]? = some x->(qv s.E T)[t]? = some v->x.firm = true\/∃ rs,x = .any rs:=λt hts x v hx _=>by
  cases hf:x.firm with
  | true=>exact .inl rfl
  | false =>
   cases ha:x.isAny with
   | true=>exact .inr (qwi ha)
   | false=>exact absurd (qAg hx hf ha) hts
 have hmap:((qb6 st.E T).qv1 λ_ v=>v.qfg).toL = (qb6 st.E T).toL.map TV.qfg:=by
  apply List.ext_getElem?;intro i;rw [qsm,List.getElem?_map]
 refine ⟨hL',?_,⟨by show RVL ((qb6 st.E T).qv1 λ_ v=>v.qfg).toL _; rw [hmap]; exact qmm hE,?_⟩,?_⟩
 ·unfold qh0;rw [List.all_eq_true];rintro ⟨k,c⟩ hk;simp only [hlp k c (qhg hnd hk),Bool.not_false]
 ·refine ⟨by simp [TSt.all,qdO,TSt.qcg,qm2,hL,hL'],λl k=>?_,λb hb=>?_,λl k c hc hlt=>?_⟩
  rotate_right
  ·unfold qaJ at hc;simp only [qdO,qm2,hL',List.nil_append] at hc;cases l with
   | zero =>
    simp only [List.getElem?_cons_zero,qc4] at hc;obtain ⟨c0,h1,rfl⟩:=qc.1 hc;exact quy (h.M.mp 0 k c0 (by unfold qaJ; simpa [qdO,hL'] using h1) hlt)
   | succ l=>simp at hc
  ·unfold qay qaJ;simp only [TSt.all,qdO,TSt.qcg,qm2,hL,hL',List.nil_append];cases l with
   | zero =>
    simp only [List.getElem?_cons_zero];rw [qhc,qc4];have:=hB k;cases ht:q4 st.B k with
    | none=>rw [ht] at this; simp only [RB] at this; rw [this] <;> rfl
    | some o =>
     rw [ht] at this;cases o with
     | none =>
      simp only [Option.map_some,Option.map_none];intro c hc;obtain ⟨c0,h1,rfl⟩:=qc.1 hc;exact qp3 (this c0 h1)
     | some d=>obtain ⟨d',hd',hr⟩:=this; rw [hd']; exact ⟨_,rfl,(qmm (hr.rvl (qjJ hn0 ht))).rc⟩
   | succ l=>simp [RB]
  ·simp only [qdO,qm2,hL',List.nil_append,List.mem_singleton] at hb;subst hb;simpa [qly,List.map_map,Function.comp_def] using hnd
 ·refine ⟨λt ht=>by simp [TSt.qcg,ht],λr hr=>by simp [TSt.qcg,hr],λt ht=>?_,λt ht rs hE'=>?_,λr hr=>?_,λr hr hsm=>?_,rfl,by simp [qm2,hlen]⟩
  ·simp only [TSt.qcg,Mask.mem_append,Mask.mem_ofList,not_or] at ht;simp only [qm2,List.getElem?_map];have hEt:=qps h.E ht.1;rw [hEt];cases hv:s.E[t]? with
   | none=>left; rfl
   | some v =>
    simp only [Option.map_some];have hv2:(qv s.E T)[t]? = some v:=by rw [hEt]; exact hv
    have hxt:∃ x,(qb6 st.E T).toL[t]? = some x:=by
     have hlt:t < (qb6 st.E T).toL.length:=by
      have:=(List.getElem?_eq_some_iff.1 hv2).1;rw [<- hE.length]; exact this
     exact ⟨_,List.getElem?_eq_getElem hlt⟩
    obtain ⟨x,hx⟩:=hxt;rcases hfirmE t ht.2.1 x v hx hv2 with hf | ⟨rs,rfl⟩
    ·left
     obtain ⟨v',hv',hr⟩:=hE.get hx;rw [hv2] at hv'; cases hv';unfold V.qfg; rw [RV.firm x v hf hr]; rfl
    ·unfold V.qfg;cases hs:v.soft with
     | false=>left; rfl
     | true =>
      right
      exact ⟨qhI _ _ _ _ hx,rfl⟩
  ·simp only [TSt.qcg,Mask.mem_append,Mask.mem_ofList,not_or] at ht;simp only [TSt.qcg,hmap,List.getElem?_map] at hE';obtain ⟨x,hx,hxa⟩:=qc.1 hE';obtain ⟨v,hv,_⟩:=hE.get hx;rcases hfirmE t ht.2.1 x v hx hv with hf | ⟨rs',rfl⟩
   ·unfold TV.qfg at hxa;rw [hf] at hxa;simp only [if_true] at hxa;subst hxa;simp [TV.firm] at hf
   ·exact qhI _ _ _ _ hx
  ·simp only [TSt.qcg,List.mem_append,not_or] at hr;rw [qfy (st:=qm2 s T) hL',qfy hL'];by_cases h0:r.lvl = 0
   ·rw [if_pos h0,if_pos h0];simp only [qm2,qc4];have:=hB r.slot;cases ht:q4 st.B r.slot with
    | none=>rw [ht] at this; simp only [RB] at this; rw [this]; left; rfl
    | some o =>
     rw [ht] at this;cases o with
     | none =>
      right
      refine ⟨by rw [hL']; rfl,by rw [qiV hL,if_pos h0,ht],by simp,λc hc=>?_⟩;obtain ⟨c0,h1,rfl⟩:=qc.1 hc;exact qp3 (this c0 h1)
     | some d =>
      left
      obtain ⟨d',hd',hrr⟩:=this;rw [hd'];cases hf:d.all TV.firm with
      | true=>simp only [Option.map_some]; rw [qw3 (hrr.rvl (qjJ hn0 ht)) hf]
      | false =>
       exfalso
       refine hr.1 ?_;have:=qlK ht hf;obtain ⟨l,sl⟩:=r;simp only at h0 this;rw [h0]; exact this
   ·rw [if_neg h0,if_neg h0]; left; rfl
  ·rw [qiV hL] at hsm;have hL2:(st.qcg T).L = []:=hL;rw [qiV hL2];by_cases h0:r.lvl = 0
   ·rw [if_pos h0] at hsm ⊢;simp only [TSt.qcg,qhc];cases ht:q4 st.B r.slot with
    | none=>rw [ht] at hsm; cases hsm
    | some o =>
     rw [ht] at hsm;cases o with
     | none=>cases hsm
     | some d=>rfl
   ·rw [if_neg h0] at hsm; cases hsm
theorem qAW {st:TSt} {s:St} (h:Rst st s) (hL:st.L = []) (hn0:qpU st.B = true) (hB0:st.B.all (λp=>decide (p.1 < 16384)) = true) (T:List Tmp):s.L = []/\qt0 s.B = true/\Rst (st.qcg T) (qm2 s T)/\Fr2 st (st.qcg T) s (qm2 s T):=by
 obtain ⟨hL',hnl,hR,hF⟩:=qno h hL hn0 T;refine ⟨hL',?_,hR,hF⟩;have hB:∀ k,RB (q4 st.B k) (qt s.B k):=λk=>by
  have:=h.M.rel 0 k;unfold qay qaJ at this;simpa [TSt.all,qdO,hL,hL'] using this
 have hnd:(s.B.map (·.1)).Nodup:=h.M.nd s.B (by simp [qdO]);have hmp:∀ k c,qt s.B k = some c->qh6 c = false:=λk c hc=>by
  by_cases hlt:k < 16384
  ·have h9:qaJ (qdO s) 0 k = some c:=by unfold qaJ; simpa [qdO,hL'] using hc
   exact h.M.mp 0 k c h9 hlt
  ·have:=hB k;cases ht:q4 st.B k with
   | none=>rw [ht] at this; simp only [RB] at this; rw [this] at hc; cases hc
   | some o =>
    rw [List.all_eq_true] at hB0;have h9:=hB0 _ (qd0 ht);simp only [decide_eq_true_eq] at h9;omega
 unfold qt0;unfold qh0 at hnl;rw [List.all_eq_true] at hnl ⊢;rintro ⟨k,c⟩ hk;have h1:=hnl _ hk;simp only [Bool.not_eq_true'] at h1;simp only [qfV h1 (hmp k c (qhg hnd hk)),Bool.not_false]
theorem qD7 {x:TV} {v:V} (h:RV x v):RV x.qfg v:=by
 unfold TV.qfg;split
 ·exact h
 ·simp only [RV];exact ⟨RV.qm x v h,qa4 (qy.2 ⟨h,qa7⟩)⟩
theorem qsS:∀ {l:List TV} {l':List V},RVL l l'->RVL (l.map TV.qfg) l'
 | [],l',h=>h
 | x :: l,l',h=>by
  simp only [RVL] at h; obtain ⟨v,m,rfl,h1,h2⟩:=h;exact qy.2 ⟨qD7 h1,qsS h2⟩
theorem qwf {st:TSt} {s:St} (h:Rst st s) (hL:st.L = []) (hn0:qpU st.B = true):Rst (st.qcg []) s/\Fr2 st (st.qcg []) s s:=by
 obtain ⟨hL',_,_,hf⟩:=qno h hL hn0 [];have hB:∀ k,RB (q4 st.B k) (qt s.B k):=λk=>by
  have:=h.M.rel 0 k;unfold qay qaJ at this;simpa [TSt.all,qdO,hL,hL'] using this
 have hE:RVL (qb6 st.E []).toL s.E:=qlu [] h.E;have hmap:((qb6 st.E []).qv1 λ_ v=>v.qfg).toL = (qb6 st.E []).toL.map TV.qfg:=by
  apply List.ext_getElem?;intro i;rw [qsm,List.getElem?_map]
 refine ⟨⟨by show RVL ((qb6 st.E []).qv1 λ_ v=>v.qfg).toL _; rw [hmap]; exact qsS hE,⟨by simp [TSt.all,qdO,TSt.qcg,hL,hL'],λl k=>?_,h.M.nd,h.M.mp⟩⟩,⟨hf.wt,hf.wb,λ_ _=>.inl rfl,hf.an,λ_ _=>.inl rfl,hf.bn,rfl,rfl⟩⟩;unfold qay qaJ;simp only [TSt.all,qdO,TSt.qcg,hL,hL',List.nil_append];cases l with
 | zero =>
  simp only [List.getElem?_cons_zero];rw [qhc];have:=hB k;cases ht:q4 st.B k with
  | none=>rw [ht] at this; simp only [RB] at this; rw [this] <;> rfl
  | some o =>
   rw [ht] at this;cases o with
   | none=>exact this
   | some d=>obtain ⟨d',hd',hr⟩:=this; rw [hd']; exact ⟨_,rfl,(qsS (hr.rvl (qjJ hn0 ht))).rc⟩
 | succ l=>simp [RB]
theorem qyA {xs:List Int} {o:Nat} {l:List V} (h:All2 (RTy (.int .i64) o) xs l):qpV l = some xs:=by
 induction h with
 | nil=>rfl
 | cons h1 _ ih =>
  simp only [RTy] at h1;subst h1;simp only [qpV,ih,Option.map_some]
theorem qo0 (o:Nat):∀ xs:List Int,All2 (RTy (.int .i64) o) xs (qem xs)
 | []=>.nil
 | x :: xs=>.cons (by simp only [RTy]) (qo0 o xs)
theorem qBq {F:List Int->Option (List Int)} {t:Tmp} {d:Option Tmp} {st:TSt} {s:St} {R:Type} {k:TSt->Option R} {r:R} (hs:Rst st s) (h:qD6 F t d st R k = some r) :
  ∃ st' s',k st' = some r/\qju F t d s = some s'/\Rst st' s'/\Fr2 st st' s s':=by
 unfold qD6 at h;split at h
 ·rename_i hLn;simp only [qe,List.isEmpty_iff] at hLn;obtain ⟨hL,hn0⟩:=hLn;split at h
  ·rename_i o xs hget;split at h
   ·rename_i ho;obtain ⟨ys,hys,hk⟩:=qd.1 h;obtain ⟨hL',hnl,hR1,hF1⟩:=qno hs hL hn0 [];have hrt:=qym hs.E t;rw [hget] at hrt;simp only [RV,RTy] at hrt;obtain ⟨f,c,l',hv,hfl,hall⟩:=hrt;have hf:=hfl.own ho;subst hf;have hin:=qyA (o:=0) hall;have hnew:RV (.t (.sl (.int .i64)) o ys) (.sl .own c (qem ys)):=by
     simp only [RV,RTy];exact ⟨.own,c,_,rfl,hfl,qo0 0 ys⟩
    have hand:RV (.any []) V.undef:=qcV [];cases hx:xs with
    | nil =>
     obtain ⟨hR0,hF0⟩:=qwf hs hL hn0;obtain ⟨hR2,hF2⟩:=qi6 hR0 (some t) hnew;obtain ⟨hR3,hF3⟩:=qi6 hR2 d hand;refine ⟨_,_,hk,?_,hR3,(hF0.trans hF2).trans hF3⟩;unfold qju;rw [if_pos (by rw [hL',hnl]; rfl),hv];simp only [hin,hys];rw [hx];rfl
    | cons x0 xs0 =>
     obtain ⟨hR2,hF2⟩:=qi6 hR1 (some t) hnew;obtain ⟨hR3,hF3⟩:=qi6 hR2 d hand;refine ⟨_,_,hk,?_,hR3,(hF1.trans hF2).trans hF3⟩;unfold qju;rw [if_pos (by rw [hL',hnl]; rfl),hv];simp only [hin,hys];rw [hx];rfl
   ·cases h
  ·cases h
 ·cases h
def qCT (h:Hole) (s:St):Prop:=∃ c l' b,s.E[h.r]? = some (.sl .own c (l'.set h.j.toNat b))/\All2 (RTy h.τ (nx h.lv)) h.l l'/\b.cells = [b]/\b.oks = true/\(∀ cs,qeF b cs = cs.headD .undef)/\0<=h.j/\h.j.toNat < l'.length/\qbN h.lv = true
def qhU (h:Option Hole) (s:St):Prop:=∀ x,h = some x->qCT x s
theorem qrj {s:St}:qhU none s:=λx h=>by cases h
theorem qxo {o:Oper} {hole:Option Hole} {s s':St} (h:qhU hole s) (hk:∀ t:Nat,t ∉ tmpsOf o->o.dst ≠ some t->s'.E[t]? = s.E[t]?):qhU (qtf o hole) s':=by
 intro x hx;unfold qtf at hx;split at hx
 ·rename_i h0;split at hx
  ·cases hx
  ·rename_i hc;cases hx;simp only [not_or] at hc;obtain ⟨c,l',b,h1,h2⟩:=h x rfl;exact ⟨c,l',b,by rw [hk x.r (by simpa using hc.2) hc.1]; exact h1,h2⟩
 ·cases hx
theorem qAm {o:Oper} {hole:Option Hole} {s:St} (h:qhU hole s) (v:V):qhU (qtf o hole) (s.put o.dst v) :=
 qxo h λt _ h2=>by
  unfold St.put;cases hd:o.dst with
  | none=>rfl
  | some d =>
   simp only
   rw [List.getElem?_set_ne];rintro rfl; exact h2 hd
theorem qBU {hole:Option Hole} {r0:Tmp} {p:List (Int × Nat × Nat)} {x:TV} {v:V} {st:TSt} {s sV:St} {R:Type} {k:TSt->Option R} {r:R} (hh:qhU hole sV) (hx:RV x v) (hs:Rst st s) (h:qBA hole r0 p x st R k = some r) :
  (∀ e ∈ p,0<=e.1)/\∃ st' y,k st' = some r/\qto v.cells (qky p) (sV.E.getD r0 .undef) = some y/\y.soft = false/\Rst st' (s.put (some r0) y)/\Fr2 st st' s (s.put (some r0) y):=by
 unfold qBA at h;split at h
 ·rename_i hl i;split at h
  ·rename_i hr0;subst hr0;split at h
   ·rename_i τ o y;split at h
    ·rename_i e he;cases hd:decide (i = hl.j) with
     | false=>rw [hd] at h; cases h
     | true =>
      rw [hd] at h;simp only [cond_true] at h;have hij:i = hl.j:=of_decide_eq_true hd;subst hij;split at h
      ·rename_i hf;obtain ⟨c,l',b,h1,h2,h3,h4,h5,h6,h7,h8⟩:=hh hl rfl;have hvc:v.cells = [v]:=by
        simp only [RV,RTy] at hx; obtain ⟨f,c,m,rfl,_⟩:=hx; rfl
       have hy:=qeb _ _ _ _ _ he hx;have hnew:RV (.t (.sl hl.τ) hl.lv (hl.l.set hl.j.toNat e)) (.sl .own c (l'.set hl.j.toNat v)):=by
        simp only [RV,RTy];exact ⟨.own,c,_,rfl,qgb h8,qwI h2 _ hy⟩
       obtain ⟨hR2,hF2⟩:=qi6 hs (some hl.r) hnew;refine ⟨by simp [h6],_,_,h,?_,RV.firm _ _ hf hnew,hR2,hF2⟩;have hE:sV.E.getD hl.r .undef = .sl .own c (l'.set hl.j.toNat b):=by rw [List.getD_eq_getElem?_getD,h1]; rfl
       rw [hE,hvc];simp only [qky,List.map_cons,List.map_nil,qto];have hg:(l'.set hl.j.toNat b)[hl.j.toNat]? = some b:=by rw [List.getElem?_set_self h7]
       rw [hg];simp only
       rw [if_pos ⟨by rw [h3]; rfl,h4⟩,if_pos (by simp),h3,h5,List.set_set];simp [qM]
      ·cases h
    ·cases h
   ·cases h
  ·cases h
 ·cases h
theorem qES {ops:Array Oper} {i:Nat} {o:Oper} {st:TSt} {s:St} {hole:Option Hole} {R:Type} {k:TSt->Option R} {r:R} (hs:Rst st s) (hh:qhU hole s) (h:lsT P H f ops i o st hole R k = some r) :
  ∃ st' s',k st' = some r/\qj5 P H f ops i o s = some s'/\Rst st' s'/\Fr2 st st' s s':=by
 unfold lsT at h;split at h
 ·rename_i t d xo hop;simp only at h;split at h
  ·rename_i hc;simp only [qe,decide_eq_true_eq,List.isEmpty_iff] at hc;obtain ⟨⟨⟨⟨⟨⟨⟨⟨⟨hL,hn0⟩,hB0⟩,hdst⟩,hgd⟩,hnd⟩,hs0⟩,hxl⟩,hxo⟩,hxp⟩:=hc;obtain ⟨hL',hnl,hsoft,hfr⟩:=qAW hs hL hn0 hB0 (tmpsOf o);have hrx:=qBF (H:=H) (f:=f) (o:=o) hs.E xo;obtain ⟨hcx,hox⟩:=RV.cells hxo hrx;have hpx:(rd H f o s.E xo).qm = []:=by
    rw [List.eq_nil_iff_forall_not_mem];intro q hq;have:=RV.qm _ _ hrx q hq;rw [hxp] at this; cases this
   have hcond:(s.L.isEmpty && qt0 s.B && o.dst.isNone && o.guard.isNone && qgg (tmpsOf o) && decide (P.cellsOf t ≠ 0) && decide ((rd H f o s.E xo).cells.length = P.cellsOf t) && (rd H f o s.E xo).oks && (rd H f o s.E xo).qm.isEmpty) = true:=by
    simp only [qe,decide_eq_true_eq];exact ⟨⟨⟨⟨⟨⟨⟨⟨by rw [hL']; rfl,hnl⟩,hdst⟩,hgd⟩,hnd⟩,hs0⟩,by rw [hcx.length]; exact hxl⟩,hox⟩,by rw [hpx]; rfl⟩
   have hrev:∀ p:List (Int × Nat × Nat),(qky p).reverse = qky p.reverse:=λp=>by simp [qky]
   split at h
   ·rename_i r0 p hlk;split at h
    ·cases h
    ·rename_i hrT;split at h
     ·obtain ⟨hp0,st',y,hk,hupd,hysoft,hR2,hF2⟩:=qBU hh hrx hsoft h;have hlk':=qjs hs.E _ _ _ _ _ _ hlk hp0;have hsing:(qky p).reverse = qky p:=by
       unfold qBA at h;split at h
       ·rfl
       ·cases h
      refine ⟨_,_,hk,?_,hR2,hfr.trans hF2⟩;unfold qj5;rw [hop];simp only
      rw [if_pos hcond,hlk'];simp only
      rw [if_neg hrT,hsing,hupd];simp only
      rw [hysoft];rfl
     obtain ⟨hp0,y,u,hk,hupd,hyu⟩:=qBc hcx _ _ _ h (qym hs.E r0);split at hk
     ·rename_i hf;have hlk':=qjs hs.E _ _ _ _ _ _ hlk (λe he=>hp0 e (by simpa using he));obtain ⟨hR2,hF2⟩:=qi6 hsoft (some r0) hyu;refine ⟨_,_,hk,?_,hR2,hfr.trans hF2⟩;unfold qj5;rw [hop];simp only
      rw [if_pos hcond,hlk'];simp only
      rw [if_neg hrT,hrev,hupd];simp only
      rw [RV.firm y u hf hyu];rfl
     ·cases hk
   ·rename_i q off p hlk;split at h
    ·rename_i cs hcs;split at h
     ·rename_i z hz;obtain ⟨c',hc',hrc⟩:=hs.box hcs;obtain ⟨z',hz',hrz⟩:=hrc.get hz;obtain ⟨hp0,y,u,hk,hupd,hyu⟩:=qBc hcx _ _ _ h hrz;split at hk
      ·rename_i hf;have hlk':=qjs hs.E _ _ _ _ _ _ hlk (λe he=>hp0 e (by simpa using he));have hsb:(st.qcg (tmpsOf o)).box q = some (cs.map TV.qfg):=by
        have hL2:(st.qcg (tmpsOf o)).L = []:=hL;refine qxb ?_ (qrz (qmm hrc))
        replace hcs:=(qsp hcs).1
        rw [qiV hL] at hcs;rw [qiV hL2];by_cases h0:q.lvl = 0
        ·rw [if_pos h0] at hcs ⊢;simp only [TSt.qcg,qhc];split at hcs
         ·rename_i c hc; cases hcs; rw [hc]; rfl
         ·cases hcs
        ·rw [if_neg h0] at hcs; cases hcs
       have hq0:q.lvl = 0:=by
        rw [qfy hL'] at hc';split at hc'
        ·assumption
        ·cases hc'
       obtain ⟨hR2,hF2⟩:=qji hsoft hsb ((qmm hrc).set off hyu) (λhlt=>qBJ (quy (hs.M.mp q.lvl q.slot c' (by rw [<- qI]; exact hc') hlt)) (by obtain ⟨c9,l9,h9⟩:=qv2 hupd; rw [h9]; rfl));refine ⟨_,_,hk,?_,hR2,hfr.trans hF2⟩;unfold qj5;rw [hop];simp only
       rw [if_pos hcond,hlk'];simp only
       rw [hc'];simp only
       rw [hz'];simp only
       rw [hrev,hupd];simp only
       rw [RV.firm y u hf hyu];simp only [qf,if_false,qb];unfold St.qj qm2;rw [if_pos (by rw [hq0,hL']; rfl)]
      ·cases hk
     ·cases h
    ·cases h
   ·cases h
  ·cases h
 ·cases h
theorem qzz {o:Oper} {E:Env} {E':List V} (h:RVL E.toL E') (hg:qvM H f o E = true):qfz H f o E' = true:=by
 unfold qvM at hg;unfold qfz;simp only [Bool.or_eq_true,qe] at hg ⊢;refine hg.imp id λ⟨h1,h2⟩=>⟨?_,?_⟩
 ·rw [h.length,qkp]; exact h1
 ·split
  ·rename_i t a hop;rw [hop] at h2;simp only [Bool.or_eq_true] at h2 ⊢;refine h2.imp id λh3=>?_;have:=qym h a;cases hx:E.get a with
   | cptr l=>rw [hx] at this; simp only [RV] at this; obtain ⟨f',l',hl',_⟩:=this; rw [hl'] <;> rfl
   | _=>rw [hx] at h3; cases h3
  ·rfl
theorem qos (hT:TOk P H lib T) (hO:OOk P H lib O) {ops:Array Oper} {R:Type} {k:TSt->Option R} {r:R}:∀ (is:List Nat) (st:TSt) (s:St),Rst st s->qyQ P H J T O ctx f ops is st R k = some r ->
  ∃ st' s',k st' = some r/\Ev (λC=>qgV P H C f ops is s = some s') P H lib/\Rst st' s'/\Fr2 st st' s s'
 | [],st,s,hs,h=>⟨st,s,h,.of λC=>rfl,hs,Fr2.refl _ _⟩
 | i :: is,st,s,hs,h=>by
  simp only [qyQ] at h;split at h
  ·cases h
  ·rename_i o ho;obtain ⟨st1,b,hw,hs1,hf1,hb⟩:=qvf hs h;cases b with
   | true =>
    simp only [if_true] at hb;obtain ⟨st2,fp,s2,hk,hev,hR,hF,hkeep⟩:=qmA hT hO hs1 hb;obtain ⟨st3,s3,hk3,hev3,hR3,hF3⟩:=qos hT hO is st2 s2 hR hk;refine ⟨st3,s3,hk3,(hev.and hev3).imp λC hC=>?_,hR3,(hf1.trans hF).trans hF3⟩;simp only [qgV,ho,hw,ql8,hC.1,Option.map_some,hC.2]
   | false =>
    simp only [qf,if_false] at hb;obtain ⟨hR,hF⟩:=qi6 hs1 o.dst (v:=.val undef) (u:=.val undef) (by simp [RV]);obtain ⟨st3,s3,hk3,hev3,hR3,hF3⟩:=qos hT hO is _ _ hR hb;refine ⟨st3,s3,hk3,hev3.imp λC hC=>?_,hR3,(hf1.trans hF).trans hF3⟩;simp only [qgV,ho,hw,hC]
def Cov (l:List (Nat × Foot)) (e:Nat × Foot):Prop:=∃ e' ∈ l,e'.1 = e.1/\e'.2.fp = e.2.fp/\e'.2.looks = e.2.looks/\∀ t ∈ e.2.took,t ∈ e'.2.took
theorem qAB {o:Oper} {E:Env} {E':List V} (h:RVL E.toL E'):∀ t ∈ qgG H f o E',t ∈ qmT H f o E:=λt ht=>by
 unfold qgG at ht;unfold qmT;split at ht
 ·rename_i htk;rw [if_pos htk];simp only [List.mem_filter] at ht ⊢;exact ⟨ht.1,RV.owns _ _ (qym h t) ht.2⟩
 ·cases ht
theorem qqq (hT:TOk P H lib T) (hO:OOk P H lib O) {ops:Array Oper} {R:Type} {k:TSt->List (Nat × Foot)->Option R} {r:R}:∀ (is:List Nat) (st:TSt) (s:St) (acc:List (Nat × Foot)),Rst st s->quc P H J T O ctx f ops is st acc R k = some r ->
  ∃ st' s' fps fpv,k st' fps = some r/\Ev (λC=>qhE P H C f ops is s = some (s',fpv)) P H lib/\Rst st' s'/\Fr2 st st' s s'/\(∀ e ∈ acc,e ∈ fps)/\(∀ e ∈ fpv,Cov fps e)
 | [],st,s,acc,hs,h=>⟨st,s,acc,[],h,.of λC=>rfl,hs,Fr2.refl _ _,λe he=>he,by simp⟩
 | i :: is,st,s,acc,hs,h=>by
  simp only [quc] at h;split at h
  ·cases h
  ·rename_i o ho;obtain ⟨st1,b,hw,hs1,hf1,hb⟩:=qvf hs h;cases b with
   | true =>
    simp only [if_true] at hb;obtain ⟨st2,fp,s2,hk,hev,hR,hF,hkeep⟩:=qmA hT hO hs1 hb;obtain ⟨st3,s3,fps,fpv,hk3,hev3,hR3,hF3,hacc,hcov⟩:=qqq hT hO is st2 s2 _ hR hk;refine ⟨st3,s3,fps,(i,⟨fp,qgG H f o s.E,qbY H f ops o⟩) :: fpv,hk3,(hev.and hev3).imp λC hC=>?_,hR3,(hf1.trans hF).trans hF3,λe he=>hacc e (by simp [he]),λe he=>?_⟩
    ·simp only [qhE,qil,ho,hw,hC.1,Option.map_some,hC.2]
    ·rcases List.mem_cons.1 he with rfl | he
     ·exact ⟨_,hacc _ (List.mem_cons_self ..),rfl,rfl,rfl,λt ht=>qAB hs1.E t ht⟩
     ·exact hcov e he
   | false =>
    simp only [qf,if_false] at hb;obtain ⟨hR,hF⟩:=qi6 hs1 o.dst (v:=.val undef) (u:=.val undef) (by simp [RV]);obtain ⟨st3,s3,fps,fpv,hk3,hev3,hR3,hF3,hacc,hcov⟩:=qqq hT hO is _ _ _ hR hb;refine ⟨st3,s3,fps,(i,⟨.none,[],qbY H f ops o⟩) :: fpv,hk3,hev3.imp λC hC=>?_,hR3,(hf1.trans hF).trans hF3,λe he=>hacc e (by simp [he]),λe he=>?_⟩
    ·simp only [qhE,qil,ho,hw,hC,Option.map_some]
    ·rcases List.mem_cons.1 he with rfl | he
     ·exact ⟨_,hacc _ (List.mem_cons_self ..),rfl,rfl,rfl,λt ht=>by cases ht⟩
     ·exact hcov e he
theorem qEt {ops:Array Oper} {i:Nat} {o:Oper} {st:TSt} {s:St} {R:Type} {k:TSt->Hole->Option R} {r:R} (hs:Rst st s) (h:apT P H f ops i o st R k = some r) :
  ∃ st' s' hole,k st' hole = some r/\qfi P H f ops i o s = some s'/\Rst st' s'/\Fr2 st st' s s'/\qCT hole s':=by
 unfold apT at h;split at h
 ·rename_i argTypes args _ hop;split at h
  ·rename_i d hd;split at h
   ·rename_i r0 j hlk;split at h
    ·cases h
    ·rename_i hrd;simp only [not_or] at hrd;split at h
     ·rename_i τ lv l hE;split at h
      ·rename_i hown;simp only [qe] at hown;obtain ⟨e,he,hk⟩:=qd.1 h;obtain ⟨h0,hget⟩:=qou he;have hlk':=qjs hs.E _ _ _ _ _ _ hlk (λe he=>by simp only [List.mem_singleton] at he; subst he; exact h0);have hr:=qym hs.E r0;rw [hE] at hr;simp only [RV,RTy] at hr;obtain ⟨fl,c,l',hv,hfl,hall⟩:=hr;have hf:fl = .own:=hfl.own hown.1;subst hf;obtain ⟨b,hb,hrb⟩:=hall.get hget;have hrb0:RTy (.sl τ) (nx lv) e b:=hrb;obtain ⟨f2,c2,l2,rfl,hf2,hall2⟩:=hrb;have hf2':f2 = .own:=hf2.own hown.2;subst hf2';have hlen:s.E.length = st.E.n:=by rw [hs.E.length,qkp]
       have hr0lt:r0 < s.E.length:=by
        rcases Nat.lt_or_ge r0 s.E.length with h9 | h9
        ·exact h9
        ·exfalso
         rw [List.getD_eq_getElem?_getD,List.getElem?_eq_none h9] at hv;cases hv
       have hjl:j.toNat < l'.length:=(List.getElem?_eq_some_iff.1 hb).1;have hdl:(V.sl .own c2 l2).qah = .sl .qah c2 (reflagL qae l2):=rfl;let y:V:=.sl .own c (l'.set j.toNat (V.qah (.sl .own c2 l2)))
       have hyp:y.qm = []:=by simp [y,V.qm]
       refine ⟨_,{ s with E:=(s.E.set r0 y).set d (.sl .own c2 l2) },_,hk,?_,⟨?_,hs.M⟩,?_,?_⟩
       ·unfold qfi;rw [hop];simp only
        rw [hd];simp only
        rw [hlk'];simp only [qky,List.map_cons,List.map_nil];rw [if_neg (by simp only [not_or]; exact ⟨hrd.1,by omega⟩),hv];simp only [qCc,hb];simp [y]
       ·show RVL ((st.E.set r0 (.any [])).set d _).toL _;rw [qf9,qf9];refine (hs.E.set r0 ?_).set d ?_
        ·simp only [RV];exact ⟨by rw [hyp]; simp,by simp [y,qat]⟩
        ·simp only [RV]; exact hrb0
       ·refine ⟨λt ht=>by simp [Mask.mem_ins,ht],λq hq=>hq,λt ht=>.inl ?_,λt ht rs hE'=>?_,λq hq=>.inl rfl,λq hq h=>h,rfl,by simp⟩
        ·simp only [Mask.mem_ins,not_or] at ht;simp only
         rw [List.getElem?_set_ne (Ne.symm ht.2.1),List.getElem?_set_ne (Ne.symm ht.1)]
        ·simp only [Mask.mem_ins,not_or] at ht;simp only [qf9] at hE';rw [List.getElem?_set_ne (Ne.symm ht.2.1),List.getElem?_set_ne (Ne.symm ht.1)] at hE';exact ⟨rs,hE'⟩
       ·refine ⟨c,l',V.qah (.sl .own c2 l2),?_,hall,rfl,by simp [hdl,V.oks,V.cells,V.one],λcs=>by rw [hdl]; rfl,h0,hjl,hown.1⟩;simp only
        rw [List.getElem?_set_ne (Ne.symm hrd.1),List.getElem?_set_self hr0lt]
      ·cases h
     ·cases h
   ·cases h
  ·cases h
 ·cases h
theorem qmg (hT:TOk P H lib T) (hO:OOk P H lib O) {ops:Array Oper} {R:Type} {k:TSt->List (Nat × Foot)->Option R} {r:R}:∀ (is:List Nat) (st:TSt) (s:St) (hole:Option Hole) (acc:List (Nat × Foot)),Rst st s->qhU hole s->qj8 P H J T O ctx f ops is st hole acc R k = some r ->
  ∃ st' s' fps fpv,k st' fps = some r/\Ev (λC=>qhH P H C f ops is s = some (s',fpv)) P H lib/\Rst st' s'/\Fr2 st st' s s'/\(∀ e ∈ acc,e ∈ fps)/\(∀ e ∈ fpv,Cov fps e)
 | [],st,s,hole,acc,hs,hh,h=>⟨st,s,acc,[],h,.of λC=>rfl,hs,Fr2.refl _ _,λe he=>he,by simp⟩
 | i :: is,st,s,hole,acc,hs,hh,h=>by
  simp only [qj8] at h;split at h
  ·cases h
  ·rename_i o ho;split at h
   ·rename_i hls;obtain ⟨st2,s2,hk,hst,hR,hF⟩:=qES hs hh h;obtain ⟨st3,s3,fps,fpv,hk3,hev3,hR3,hF3,hacc,hcov⟩:=qmg hT hO is st2 s2 none _ hR qrj hk;refine ⟨st3,s3,fps,(i,⟨.all,[],looksAt ops o⟩) :: fpv,hk3,hev3.imp λC hC=>?_,hR3,hF.trans hF3,λe he=>hacc e (by simp [he]),λe he=>?_⟩
    ·simp only [qhH,qj4,ho,hls,if_true,hst,Option.map_some,hC]
    ·rcases List.mem_cons.1 he with rfl | he
     ·exact ⟨_,hacc _ (List.mem_cons_self ..),rfl,rfl,rfl,λt ht=>ht⟩
     ·exact hcov e he
   ·rename_i hls;have fin:∀ (st:TSt) (s0:St) (hole:Option Hole),Rst st s0->qhU hole s0 ->
      (qwu ops o st R
       (λst=>qkH P H J T O ctx f o st R λst' fp=>qj8 P H J T O ctx f ops is st' (qtf o hole) ((i,⟨fp,qmT H f o st.E,qbY H f ops o⟩) :: acc) R k)
       (λst=>qj8 P H J T O ctx f ops is (st.put o.dst (.val undef)) (qtf o hole) ((i,⟨.none,[],qbY H f ops o⟩) :: acc) R k)) = some r ->
      ∃ st' s' fps fpv,k st' fps = some r/\Ev (λC=>∃ s1 ft rest,qil P H C f ops i s0 = some (s1,ft)/\qhH P H C f ops is s1 = some (s',rest)/\fpv = (i,ft) :: rest) P H lib/\Rst st' s'/\Fr2 st st' s0 s'/\(∀ e ∈ acc,e ∈ fps)/\(∀ e ∈ fpv,Cov fps e):=by
     intro st s0 hole hs hh h;obtain ⟨st1,b,hw,hs1,hf1,hb⟩:=qvf hs h;cases b with
     | true =>
      simp only [if_true] at hb;obtain ⟨st2,fp,s2,hk,hev,hR,hF,hkeep⟩:=qmA hT hO hs1 hb;obtain ⟨st3,s3,fps,fpv,hk3,hev3,hR3,hF3,hacc,hcov⟩:=qmg hT hO is st2 s2 _ _ hR (qxo hh hkeep) hk;refine ⟨st3,s3,fps,(i,⟨fp,qgG H f o s0.E,qbY H f ops o⟩) :: fpv,hk3,(hev.and hev3).imp λC hC=>⟨s2,_,fpv,?_,hC.2,rfl⟩,hR3,(hf1.trans hF).trans hF3,λe he=>hacc e (by simp [he]),λe he=>?_⟩
      ·simp only [qil,ho,hw,hC.1,Option.map_some]
      ·rcases List.mem_cons.1 he with rfl | he
       ·exact ⟨_,hacc _ (List.mem_cons_self ..),rfl,rfl,rfl,λt ht=>qAB hs1.E t ht⟩
       ·exact hcov e he
     | false =>
      simp only [qf,if_false] at hb;obtain ⟨hR,hF⟩:=qi6 hs1 o.dst (v:=.val undef) (u:=.val undef) (by simp [RV]);obtain ⟨st3,s3,fps,fpv,hk3,hev3,hR3,hF3,hacc,hcov⟩:=qmg hT hO is _ _ _ _ hR (qAm hh _) hb;refine ⟨st3,s3,fps,(i,⟨.none,[],qbY H f ops o⟩) :: fpv,hk3,hev3.imp λC hC=>⟨_,_,fpv,?_,hC,rfl⟩,hR3,(hf1.trans hF).trans hF3,λe he=>hacc e (by simp [he]),λe he=>?_⟩
      ·simp only [qil,ho,hw]
      ·rcases List.mem_cons.1 he with rfl | he
       ·exact ⟨_,hacc _ (List.mem_cons_self ..),rfl,rfl,rfl,λt ht=>by cases ht⟩
       ·exact hcov e he
    split at h
    ·rename_i hap;split at h
     ·cases h
     rename_i hilk;obtain ⟨st1,s1,hl,hk,hta,hR,hF,hhl⟩:=qEt hs h;obtain ⟨st3,s3,fps,fpv,hk3,hev3,hR3,hF3,hacc,hcov⟩:=fin st1 s1 (some hl) hR (λx hx=>by cases hx; exact hhl) hk;refine ⟨st3,s3,fps,fpv,hk3,hev3.imp λC ⟨s2,ft,rest,h1,h2,h3⟩=>?_,hR3,hF.trans hF3,hacc,hcov⟩;simp only [qhH,qj4,ho,hls,hap,hilk,hta,if_true,qf,if_false,qa,h1,h2,h3,Option.map_some]
    ·rename_i hap;split at h
     ·rename_i hgt;have hg:=qzz hs.E hgt;obtain ⟨st3,s3,fps,fpv,hk3,hev3,hR3,hF3,hacc,hcov⟩:=fin st s hole hs hh h;refine ⟨st3,s3,fps,fpv,hk3,hev3.imp λC ⟨s2,ft,rest,h1,h2,h3⟩=>?_,hR3,hF3,hacc,hcov⟩;simp only [qhH,qj4,ho,hls,hap,hg,if_true,qf,if_false,h1,h2,h3,Option.map_some]
     ·cases h
theorem qrC {l l' m:List Tmp} (h:∀ t ∈ l,t ∈ l') (hm:meets l m = true):meets l' m = true:=by
 unfold meets at hm ⊢;rw [List.any_eq_true] at hm ⊢;obtain ⟨t,ht,h2⟩:=hm;exact ⟨t,h t ht,h2⟩
theorem qtw {U:List (Nat × Nat)} {fps fpv:List (Nat × Foot)} (hc:∀ e ∈ fpv,Cov fps e) (h:qiM U fps = true):qiM U fpv = true:=by
 unfold qiM at h ⊢;rw [List.all_eq_true] at h ⊢;rintro ⟨i,j⟩ hu;have h1:=h (i,j) hu;simp only [List.all_eq_true] at h1 ⊢;rintro ⟨a,p⟩ ha;obtain ⟨⟨a',p'⟩,hp',hpa,hpf,hpl,hpt⟩:=hc (a,p) ha;simp only at hpa hpf hpl hpt;subst hpa;have h2:=h1 (a',p') hp';simp only [Bool.or_eq_true,List.all_eq_true] at h2 ⊢;rcases h2 with h2 | h2
 ·exact .inl h2
 ·right
  rintro ⟨b,q⟩ hb;obtain ⟨⟨b',q'⟩,hq',hqa,hqf,hql,hqt⟩:=hc (b,q) hb;simp only at hqa hqf hql hqt;subst hqa;have h3:=h2 (b',q') hq';simp only [Bool.not_eq_true'] at h3 ⊢;rcases h3 with h3 | h3
  ·exact .inl h3
  ·right
   cases hcl:Foot.qhA p q with
   | false=>rfl
   | true =>
    have:Foot.qhA p' q' = true:=by
     unfold Foot.qhA at hcl ⊢;simp only [Bool.or_eq_true] at hcl ⊢;rw [<- hpf,<- hqf,<- hpl,<- hql] at hcl;rcases hcl with (h4 | h4) | h4
     ·exact .inl (.inl h4)
     ·exact .inl (.inr (qrC hpt h4))
     ·exact .inr (qrC hqt h4)
    rw [this] at h3; cases h3
theorem qjp {σ ρ:Type} {g:σ->Option (σ ⊕ ρ)} {s:σ} {r:ρ} (h:qA g s = some r):∃ n,qjU g n s = some r:=by
 unfold qA at h;split at h
 ·rename_i hex;cases h;exact ⟨_,Classical.choose_spec (Classical.choose_spec hex)⟩
 ·cases h
theorem qzx {j:Join} {bid:Nat} {c:Code} (ih:Snd (tx P H J T O ctx f bid c) (qCw P H lib f bid c)) {st:TSt} {s0:St} (hst:Rst st s0) {R:Type} {k:Ex->TSt->Option R} {r:R} :
  ∀ (n:Nat) (x:denL (j.ps.map (·.1))) (s:St),Rst (st.fresh.qdf j (ofL j.ps x)) s->Fr2 st.fresh (st.fresh.qdf j (ofL j.ps x)) s0 s ->
   qjU (λx=>match (st.fresh.qdf j (ofL j.ps x)).clear (H.clear f bid) with
      | some st1=>tx P H J T O ctx f bid c st1 (denL (j.ps.map (·.1)) ⊕ R) λe st2=>match e with
       | .normal=>(st2.outs st j).map .inl
       | e=>(k e (st2.merge st)).map .inr
      | none=>none) n x = some r ->
   ∃ e st' s',qCw P H lib f bid (.loop c) s e s'/\Rst st' s'/\Fr2 st st' s0 s'/\k e st' = some r
 | 0,x,s,hs,hf,h=>by simp [qjU] at h
 | n + 1,x,s,hs,hf,h=>by
  simp only [qjU] at h;cases hcl:(st.fresh.qdf j (ofL j.ps x)).clear (H.clear f bid) with
  | none=>rw [hcl] at h; simp at h
  | some st1 =>
   rw [hcl] at h;simp only at h;obtain ⟨s1,hv1,hs1,hf1⟩:=qjF hs hcl;have done:∀ (e:Ex) (st2:TSt) (s2:St),e ≠ .normal->qCw P H lib f bid c s1 e s2->Rst st2 s2->Fr2 st1 st2 s1 s2->k e (st2.merge st) = some r ->
     ∃ e st' s',qCw P H lib f bid (.loop c) s e s'/\Rst st' s'/\Fr2 st st' s0 s'/\k e st' = some r:=by
    intro e st2 s2 hne hev hR hF hk;refine ⟨e,st2.merge st,s2,hev.imp λC hC=>?_,hR.merge,qxq ((hf.trans hf1).trans hF),hk⟩;simp only [ex,hv1,hC];cases e with
    | normal=>exact absurd rfl hne
    | _=>rfl
   split at h
   ·rename_i x' hx';obtain ⟨e,st2,s2,hev,hR,hF,hk⟩:=ih st1 _ _ _ s1 hx' hs1;cases e with
    | normal =>
     obtain ⟨y,hy,hy2⟩:=qc.1 hk;cases hy2;have hF0:Fr2 st.fresh st2 s0 s2:=(hf.trans hf1).trans hF;have hy':st2.outs st.fresh j = some x':=hy;obtain ⟨e',st',s',hev',hR',hF',hk'⟩:=qzx ih hst n x' s2 (qjo hst.fresh hR hF0 hy') (qjy (st:=st.fresh) hR hF0 hy') h;refine ⟨e',st',s',?_,hR',hF',hk'⟩;obtain ⟨n1,h1⟩:=hev;obtain ⟨n2,h2⟩:=hev';refine ⟨max n1 (n2 + 1),λm hm=>?_⟩;have e1:=h1 m (by omega);obtain ⟨m',rfl⟩:∃ m',m = m' + 1:=⟨m - 1,by omega⟩
     have e2:=h2 m' (by omega);have hun:ex P H (qu5 P H lib (m' + 1)) f bid (.loop c) s = (match s.clear (H.clear f bid) with
      | some st=>match ex P H (qu5 P H lib (m' + 1)) f bid c st with
       | some (.normal,s)=>(qu5 P H lib (m' + 1)).code f bid (.loop c) s
       | r=>r
      | none=>none):=by simp only [ex] <;> rfl
     show ex P H (qu5 P H lib (m' + 1)) f bid (.loop c) s = _;rw [hun,hv1];simp only [e1];exact e2
    | exit id =>
     obtain ⟨y,hy,hy2⟩:=qc.1 hk;cases hy2
    | ret =>
     obtain ⟨y,hy,hy2⟩:=qc.1 hk;cases hy2
   ·rename_i y hx';cases h;obtain ⟨e,st2,s2,hev,hR,hF,hk⟩:=ih st1 _ _ _ s1 hx' hs1;cases e with
    | normal =>
     obtain ⟨y,hy,hy2⟩:=qc.1 hk;cases hy2
    | exit id =>
     obtain ⟨y',hy,hy2⟩:=qc.1 hk;cases hy2;exact done _ _ _ (by simp) hev hR hF hy
    | ret =>
     obtain ⟨y',hy,hy2⟩:=qc.1 hk;cases hy2;exact done _ _ _ (by simp) hev hR hF hy
   ·cases h
theorem qBD {j:Join} {st:TSt} {s:St} (hs:Rst st s) (hf:st.qp4 j = true) {x:denL (j.ps.map (·.1))} (hx:asL j.ps (j.lv.map st.get) = some x) :
  Rst (st.fresh.qdf j (ofL j.ps x)) s/\Fr2 st.fresh (st.fresh.qdf j (ofL j.ps x)) s s:=by
 have ho:st.fresh.outs st.fresh j = some x:=by
  unfold TSt.outs;have h1:st.fresh.qp4 j = true:=hf;have h2:st.fresh.wrote j = true:=by
   have:Mask.empty.sub j.D = true:=Mask.qEJ λt ht=>absurd ht Mask.mem_empty;simp [TSt.wrote,TSt.fresh,this]
  have h3:st.fresh.qFd st.fresh j = true:=by
   unfold TSt.qFd;rw [List.all_eq_true];intro r _;cases st.fresh.cont r <;> simp
  rw [h1,h2,h3];exact hx
 exact ⟨qjo hs.fresh hs.fresh (Fr2.refl _ _) ho,qjy (st:=st.fresh) hs.fresh (Fr2.refl _ _) ho⟩
theorem qpi (ops:Array Oper):qiE H ops true = none:=by
 unfold qiE;split
 ·rename_i h _; cases h
 ·rfl
theorem qzp (s:St):s.clear [] = some s:=by
 have h1:qY [] s.B = s.B:=by
  have:∀ B:Level,qY [] B = B:=λB=>by
   induction B with
   | nil=>rfl
   | cons p B ih=>obtain ⟨k,c⟩:=p; simp [qY,ih]
  exact this s.B
 unfold St.clear;simp only [h1,true_or,if_true];rfl
theorem qDv {D:List Tmp} {st st1:TSt} {s:St} (h:Rst st s) (hc:qEk D st = some st1):∃ s1,s.clear D = some s1/\Rst st1 s1/\Fr2 st st1 s s1:=by
 cases D with
 | nil =>
  simp only [qEk,qb] at hc;subst hc;exact ⟨s,qzp s,h,Fr2.refl _ _⟩
 | cons d D=>exact qjF h hc
theorem qhb (L:List qK) (B:qK) (l k:Nat):qay (L ++ [B]) l k = if l = L.length then q4 B k else qay L l k:=by
 unfold qay;by_cases h:l = L.length
 ·subst h; simp
 ·rw [if_neg h];by_cases hlt:l < L.length
  ·rw [List.getElem?_append_left hlt]
  ·rw [List.getElem?_eq_none (by simp; omega),List.getElem?_eq_none (by omega)]
theorem qcM (L:List Level) (B:Level) (l k:Nat):qaJ (L ++ [B]) l k = if l = L.length then qt B k else qaJ L l k:=by
 unfold qaJ;by_cases h:l = L.length
 ·subst h; simp
 ·rw [if_neg h];by_cases hlt:l < L.length
  ·rw [List.getElem?_append_left hlt]
  ·rw [List.getElem?_eq_none (by simp; omega),List.getElem?_eq_none (by omega)]
theorem LR.last {M:List qK} {M':List Level} {b:qK} {b':Level} (h:LR (M ++ [b]) (M' ++ [b'])) (k:Nat):RB (q4 b k) (qt b' k):=by
 have hl:M'.length = M.length:=by have:=h.len; simp at this; exact this
 have:=h.rel M.length k;rw [qhb,qcM,if_pos rfl,if_pos hl.symm] at this;exact this
theorem LR.qC2 {M:List qK} {M':List Level} {b c:qK} {b' c':Level} (h:LR (M ++ [b]) (M' ++ [b'])) (hr:∀ k,RB (q4 c k) (qt c' k)) (hn:(c'.map (·.1)).Nodup) (hm:∀ k x,qt c' k = some x->k < 16384->qh6 x = false):LR (M ++ [c]) (M' ++ [c']):=by
 have hl:M'.length = M.length:=by have:=h.len; simp at this; exact this
 refine ⟨by simp [hl],λl k=>?_,λq hq=>?_,λl k x hx hlt=>?_⟩
 ·have:=h.rel l k;rw [qhb,qcM,hl] at this ⊢;by_cases e:l = M.length
  ·rw [if_pos e,if_pos e]; exact hr k
  ·rw [if_neg e,if_neg e] at this ⊢; exact this
 ·simp only [List.mem_append,List.mem_singleton] at hq;rcases hq with hq | rfl
  ·exact h.nd q (by simp [hq])
  ·exact hn
 ·have:=h.mp l k x;rw [qcM] at this hx;by_cases e:l = M'.length
  ·rw [if_pos e] at hx; exact hm k x hx hlt
  ·rw [if_neg e] at this hx; exact this hx hlt
theorem qBb {M:List qK} {M':List Level} {b:qK} {b':Level} (h:LR (M ++ [b]) (M' ++ [b'])) (hf:qyi b = true) {r:Root} (hr:r ∈ qoa b'):r ∈ qma b:=by
 obtain ⟨k,c,hk,hrc⟩:=qun hr;have hlk:=qhg (h.nd b' (by simp)) hk;have hb:=h.last k;cases ht:q4 b k with
 | none=>rw [ht] at hb; simp only [RB] at hb; rw [hb] at hlk; cases hlk
 | some o =>
  obtain ⟨d,rfl⟩:=qxk hf (qd0 ht);rw [ht] at hb;obtain ⟨d',hd',hr'⟩:=hb;rw [hd'] at hlk; cases hlk;exact qrE (qd0 ht) (hr'.qm r hrc)
theorem qCz (hT:TOk P H lib T) (hO:OOk P H lib O) {bid:Nat} {g:Operand} {ps:Array Tmp} {asz bo:Code} {st:TSt} {R:Type} {k:Ex->TSt->Option R} {r:R} {s:St}
  (h:tx P H J T O ctx f bid (.rangeFunc g ps asz bo) st R k = some r) (hs:Rst st s) :
  ∃ e st' s',qCw P H lib f bid (.rangeFunc g ps asz bo) s e s'/\Rst st' s'/\Fr2 st st' s s'/\k e st' = some r:=by
 simp only [tx] at h;split at h
 ·rename_i hh first cap t ts hgv hps;split at h
  ·rename_i hnb;simp only [qe,Option.isNone_iff_eq_none,decide_eq_true_eq] at hnb;obtain ⟨hn,ht⟩:=hnb;have hlen:=hs.len;have hnV:=qhd hs hn;have hg:=qBF (H:=H) (f:=f) (o:=default) hs.E g;rw [hgv] at hg;simp only [RV] at hg;obtain ⟨first',cap',hV,hf1,hc1⟩:=hg;have hE:RVL (dullL st.E.toL) (s.E.map V.qah):=by
    have:=hs.E.qah; rw [qa2] at this; exact this
   have hR1:Rst { st with B:=(t,some [.lp .ready none f (dullL st.E.toL) (t :: ts) asz bo]) :: st.B,Wb:=⟨st.L.length,t⟩ :: st.Wb } { s with B:=(t,[.lp .ready none f (s.E.map V.qah) (t :: ts) asz bo]) :: s.B }:=by
    refine ⟨hs.E,LR.qC2 hs.M (λq=>?_) ?_ (λq x hx hlt=>?_)⟩
    ·simp only [q4,qt];by_cases e:t = q
     ·rw [if_pos e,if_pos e]; exact ⟨_,rfl,_,rfl,hE⟩
     ·rw [if_neg e,if_neg e]; exact hs.M.last q
    ·have:=hs.M.nd s.B (by simp [qdO]);simp only [List.map_cons,List.nodup_cons];refine ⟨λhm=>?_,this⟩;obtain ⟨⟨k',c⟩,hp,hp2⟩:=List.mem_map.1 hm;simp only at hp2; subst hp2;rw [qhg this hp] at hnV; cases hnV
    ·simp only [qt] at hx;by_cases e:t = q
     ·rw [if_pos e] at hx; cases hx; rfl
     ·rw [if_neg e] at hx;refine hs.M.mp s.L.length q x ?_ hlt;unfold qdO;rw [qcM,if_pos rfl]; exact hx
   have hfv:RV (.fn hh first cap) (.fn hh first' cap'):=by simp only [RV]; exact ⟨_,_,rfl,hf1,hc1⟩
   have hyl:RVL [.yld ⟨st.L.length,t⟩] [.yld ⟨s.L.length,t⟩]:=by rw [hlen]; exact qy.2 ⟨by simp only [RV],qa7⟩
   obtain ⟨v,st2,u,s2,hk,hev,_,hR2,hF2,hE2,hE2',_⟩:=quf hT hO hfv hyl hR1 h;simp only at hk hE2 hE2';split at hk
   ·rename_i hcond;simp only [qe] at hcond;obtain ⟨hok,hfull⟩:=hcond;have hlen2:=hR2.len;have hlen3:s2.L.length = s.L.length:=hF2.len;have hcl:∀ q,RB (q4 (qaZ [t] st2.B) q) (qt (qY [t] s2.B) q):=λq=>by
     rw [qf5,qa3];by_cases e : [t].contains q = true
     ·rw [if_pos e,if_pos e]; rfl
     ·rw [if_neg e,if_neg e]; exact hR2.M.last q
    have hM3:LR (st2.L ++ [qaZ [t] st2.B]) (s2.L ++ [qY [t] s2.B]):=by
     refine LR.qC2 hR2.M hcl ((hR2.M.nd s2.B (by simp [qdO])).sublist ((qmY [t] s2.B).map _)) (λq x hx hlt=>?_);rw [qa3] at hx;split at hx
     ·cases hx
     ·refine hR2.M.mp s2.L.length q x ?_ hlt;unfold qdO;rw [qcM,if_pos rfl]; exact hx
    have hokV:qdX s.L.length [t] (qoa (qY [t] s2.B)) = true:=by
     unfold qdX at hok ⊢;rw [List.all_eq_true] at hok ⊢;intro q hq;rw [hlen];exact hok q (qBb hM3 hfull hq)
    have hvB:∀ {x pe g3 env3 ps3 as3 bo3},q4 st2.B t = some (some [.lp x pe g3 env3 ps3 as3 bo3])->∃ env3',qt s2.B t = some [.lp x pe g3 env3' ps3 as3 bo3]:=λhl=>by
     have:=hR2.M.last t;rw [hl] at this;obtain ⟨c',h1,env',rfl,_⟩:=this;exact ⟨env',h1⟩
    have hrest:Rst { st2 with B:=qaZ [t] st2.B,Wb:=st.Wb ++ st2.Wb.filter (λq=>!decide (q = ⟨st.L.length,t⟩)) } { s with L:=s2.L,B:=qY [t] s2.B }/\Fr2 st { st2 with B:=qaZ [t] st2.B,Wb:=st.Wb ++ st2.Wb.filter (λq=>!decide (q = ⟨st.L.length,t⟩)) } s { s with L:=s2.L,B:=qY [t] s2.B }:=by
     refine ⟨⟨by have:=hR2.E; rw [hE2'] at this; exact this,hM3⟩,⟨λx hx=>hF2.wt x hx,λx hx=>by simp [hx],λx hx=>.inl rfl,λx hx rs hr=>⟨rs,by rw [<- hE2]; exact hr⟩,λq hq=>?_,λq hq hsm=>?_,hlen3,rfl⟩⟩
     ·have eB:∀ q:Root,q ≠ ⟨st.L.length,t⟩->({ s with L:=s2.L,B:=qY [t] s2.B }:St).box q = s2.box q:=λq hq=>by
       rw [qI,qI];unfold qdO;rw [qcM,qcM];by_cases e:q.lvl = s2.L.length
       ·rw [if_pos e,if_pos e,qa3,if_neg];intro hc;simp only [List.contains_cons,List.contains_nil,Bool.or_false,beq_iff_eq] at hc;exact hq (by cases q; simp only at hc e ⊢; subst hc; rw [e,hlen3,hlen])
       ·rw [if_neg e,if_neg e]
      have eS:∀ q:Root,q ≠ ⟨st.L.length,t⟩->({ s with B:=(t,[.lp .ready none f (s.E.map V.qah) (t :: ts) asz bo]) :: s.B }:St).box q = s.box q:=λq hq=>by
       rw [qI,qI];unfold qdO;rw [qcM,qcM];by_cases e:q.lvl = s.L.length
       ·rw [if_pos e,if_pos e];simp only [qt];rw [if_neg];intro hc;exact hq (by cases q; simp only at hc e ⊢; subst hc; rw [e,hlen])
       ·rw [if_neg e,if_neg e]
      by_cases e:q = ⟨st.L.length,t⟩
      ·subst e;left
       rw [qI,qI];unfold qdO;rw [qcM,qcM];simp only
       rw [if_pos (by omega),if_pos hlen.symm,qa3,if_pos (by simp),hnV]
      ·have hq2:q ∉ st2.Wb:=λhm=>hq (by
        simp only [List.mem_append,List.mem_filter];exact .inr ⟨hm,by simp [e]⟩)
       rw [eB q e];rcases hF2.b q hq2 with h9 | ⟨h9,h10,h11,h12⟩
       ·left; rw [h9,eS q e]
       ·right
        refine ⟨h9,?_,by rw [h11,eS q e],h12⟩;rw [qbg] at h10 ⊢;unfold TSt.all at h10 ⊢;rw [qhb] at h10 ⊢;by_cases e2:q.lvl = st.L.length
        ·simp only [e2,if_true,q4] at h10 ⊢;rw [if_neg (by intro hc; exact e (by cases q; simp only at hc e2 ⊢; subst hc; rw [e2]))] at h10;exact h10
        ·simp only [e2,if_false] at h10 ⊢;exact h10
     ·by_cases e:q = ⟨st.L.length,t⟩
      ·subst e;rw [qbg] at hsm;unfold TSt.all at hsm;rw [qhb,if_pos rfl,hn] at hsm;cases hsm
      ·have hq2:q ∉ st2.Wb:=λhm=>hq (by
        simp only [List.mem_append,List.mem_filter];exact .inr ⟨hm,by simp [e]⟩)
       have i1:=hF2.bn q hq2 (by
        rw [qbg] at hsm ⊢;unfold TSt.all at hsm ⊢;rw [qhb] at hsm ⊢;by_cases e2:q.lvl = st.L.length
        ·simp only [e2,if_true,q4] at hsm ⊢;rw [if_neg (by intro hc; exact e (by cases q; simp only at hc e2 ⊢; subst hc; rw [e2]))];exact hsm
        ·simp only [e2,if_false] at hsm ⊢;exact hsm)
       rw [qbg] at i1 ⊢;unfold TSt.all at i1 ⊢;rw [qhb] at i1 ⊢;by_cases e2:q.lvl = st2.L.length
       ·simp only [e2,if_true] at i1 ⊢;rw [qf5,if_neg]
        ·exact i1
        ·intro hc;simp only [List.contains_cons,List.contains_nil,Bool.or_false,beq_iff_eq] at hc;exact e (by cases q; simp only at hc e2 ⊢; subst hc; rw [e2]; congr 1; omega)
       ·simp only [e2,if_false] at i1 ⊢;exact i1
    have hnV':(qt s.B t).isNone = true:=by rw [hnV]; rfl
    split at hk
    ·rename_i hl;obtain ⟨env3',hb⟩:=hvB hl;exact ⟨.normal,_,_,hev.imp λC ⟨hC,_⟩=>by simp only [ex,hV,hps,hnV',if_true,hC,hokV,hb],hrest.1,hrest.2,hk⟩
    ·rename_i hl;obtain ⟨env3',hb⟩:=hvB hl;exact ⟨.ret,_,_,hev.imp λC ⟨hC,_⟩=>by simp only [ex,hV,hps,hnV',if_true,hC,hokV,hb],hrest.1,hrest.2,hk⟩
    ·rename_i id _ _ _ _ _ hl;obtain ⟨env3',hb⟩:=hvB hl;exact ⟨.exit _,_,_,hev.imp λC ⟨hC,_⟩=>by simp only [ex,hV,hps,hnV',if_true,hC,hokV,hb],hrest.1,hrest.2,hk⟩
    ·cases hk
   ·cases hk
  ·cases h
 ·cases h
theorem qqU (hT:TOk P H lib T) (hO:OOk P H lib O):∀ (c:Code) (bid:Nat),Snd (tx P H J T O ctx f bid c) (qCw P H lib f bid c)
 | .skip,bid=>λst R k r s h hs=>⟨.normal,st,s,.of λC=>rfl,hs,Fr2.refl _ _,h⟩
 | .ret,bid=>λst R k r s h hs=>⟨.ret,st,s,.of λC=>rfl,hs,Fr2.refl _ _,h⟩
 | .exit id,bid=>λst R k r s h hs=>⟨.exit id,st,s,.of λC=>rfl,hs,Fr2.refl _ _,h⟩
 | .seq a b,bid=>λst R k r s h hs=>by
  simp only [tx] at h;obtain ⟨e,st1,s1,hev,hR,hF,hk⟩:=qqU hT hO a bid st _ _ r s h hs;cases e with
  | normal =>
   obtain ⟨e2,st2,s2,hev2,hR2,hF2,hk2⟩:=qqU hT hO b bid st1 _ _ r s1 hk hR;exact ⟨e2,st2,s2,(hev.and hev2).imp λC hC=>by simp only [ex,hC.1,hC.2],hR2,hF.trans hF2,hk2⟩
  | exit id=>exact ⟨.exit id,st1,s1,hev.imp λC hC=>by simp only [ex,hC],hR,hF,hk⟩
  | ret=>exact ⟨.ret,st1,s1,hev.imp λC hC=>by simp only [ex,hC],hR,hF,hk⟩
 | .cond c a b,bid=>λst R k r s h hs=>by
  simp only [tx] at h;refine qoh (rel:=qCw P H lib f bid (.cond c a b)) ?_ _ st R k r s h hs;intro st R k r s h hs;have hr:=qBF (H:=H) (f:=f) (o:=default) hs.E c;simp only at h;split at h
  ·rename_i o t ht;rw [ht] at hr;simp only [RV,RTy] at hr;cases t with
   | true =>
    obtain ⟨e2,st2,s2,hev2,hR2,hF2,hk2⟩:=qqU hT hO a bid st _ _ r s h hs;exact ⟨e2,st2,s2,hev2.imp λC hC=>by simp only [ex,hr,if_true,hC],hR2,hF2,hk2⟩
   | false =>
    obtain ⟨e2,st2,s2,hev2,hR2,hF2,hk2⟩:=qqU hT hO b bid st _ _ r s h hs;exact ⟨e2,st2,s2,hev2.imp λC hC=>by simp only [ex,hr,qf,if_false,hC],hR2,hF2,hk2⟩
  ·cases h
 | .block id c,bid=>λst R k r s h hs=>by
  simp only [tx] at h;refine qoh (rel:=qCw P H lib f bid (.block id c)) ?_ _ st R k r s h hs;intro st R k r s h hs;obtain ⟨e,st1,s1,hev,hR,hF,hk⟩:=qqU hT hO c id st _ _ r s h hs;cases e with
  | exit i =>
   simp only at hk;split at hk
   ·rename_i hi;exact ⟨.normal,st1,s1,hev.imp λC hC=>by simp only [ex,hC,hi,if_true],hR,hF,hk⟩
   ·rename_i hi;exact ⟨.exit i,st1,s1,hev.imp λC hC=>by simp only [ex,hC,hi,if_false],hR,hF,hk⟩
  | normal=>exact ⟨.normal,st1,s1,hev.imp λC hC=>by simp only [ex,hC],hR,hF,hk⟩
  | ret=>exact ⟨.ret,st1,s1,hev.imp λC hC=>by simp only [ex,hC],hR,hF,hk⟩
 | .region id ops draw,bid=>λst R k r s h hs=>by
  simp only [tx] at h;refine qoh (rel:=qCw P H lib f bid (.region id ops draw)) ?_ _ st R k r s h hs;intro st R k r s h hs;simp only [qtU,qx5] at h;cases hpre:qEk (H.pre f id) st with
  | none=>rw [hpre] at h; cases h
  | some sta =>
  rw [hpre] at h;simp only at h;obtain ⟨sa,hcl,hs,hf0⟩:=qDv hs hpre;cases hnt:qiE H ops draw with
  | some p =>
   obtain ⟨F,t,e,d⟩:=p;rw [hnt] at h;simp only at h;split at h
   ·rename_i hlt;obtain ⟨hR0,hF0⟩:=qi6 hs (some e) (qcV []);obtain ⟨st1,s1,hk,hts,hR,hF⟩:=qBq hR0 h;have hlt':e < sa.E.length:=by rw [hs.E.length,qkp]; exact hlt
    exact ⟨.normal,st1,s1,.of λC=>by simp only [ex,hcl,hnt,hts,if_pos hlt',Option.map_some],hR,(hf0.trans hF0).trans hF,hk⟩
   ·cases h
  | none =>
  rw [hnt] at h;simp only at h;cases hls:qyD H f ops with
  | true =>
   rw [hls] at h;simp only [if_true] at h;split at h
   ·rename_i hok;obtain ⟨st1,s1,fps,fpv,hk,hev,hR,hF,_,hcov⟩:=qmg hT hO _ sta sa none [] hs qrj h;split at hk
    ·rename_i hnc;refine ⟨.normal,st1,s1,hev.imp λC hC=>?_,hR,hf0.trans hF,hk⟩;have hnc':(!draw || qiM (H.pairs f id) fpv) = true:=by
      simp only [Bool.or_eq_true] at hnc ⊢;exact hnc.imp (λh=>h) λh=>qtw hcov h
     simp only [ex,hcl,hnt,hls,if_true,hok,hC,hnc']
    ·cases hk
   ·cases h
  | false =>
  rw [hls] at h;simp only [qf,if_false] at h;split at h
  ·rename_i hd;split at h
   ·rename_i hok;split at h
    ·rename_i hU;obtain ⟨st1,s1,hk,hev,hR,hF⟩:=qos hT hO _ sta sa hs h;rw [hU] at hok;exact ⟨.normal,st1,s1,hev.imp λC hC=>by simp only [ex,hcl,hnt,qpi,hls,qf,if_false,hd,if_true,hU,hok,hC,Option.map_some],hR,hf0.trans hF,hk⟩
    ·rename_i U hU;obtain ⟨st1,s1,fps,fpv,hk,hev,hR,hF,_,hcov⟩:=qqq hT hO _ sta sa [] hs h;split at hk
     ·rename_i hnc;have hnc':=qtw hcov hnc;refine ⟨.normal,st1,s1,hev.imp λC hC=>?_,hR,hf0.trans hF,hk⟩;simp only [ex,hcl,hnt,qpi,hls,qf,if_false,hd,if_true,hok];cases hp:H.pairs f id with
      | nil=>exact absurd hp (by simpa using hU)
      | cons u U' =>
       rw [hp] at hnc';simp only [hC,hnc',if_true]
     ·cases hk
   ·cases h
  ·rename_i hd;obtain ⟨st1,s1,hk,hev,hR,hF⟩:=qos hT hO _ sta sa hs h;exact ⟨.normal,st1,s1,hev.imp λC hC=>by simp only [ex,hcl,hnt,hls,qf,if_false]; rw [if_neg hd,hC]; rfl,hR,hf0.trans hF,hk⟩
 | .loop c,bid=>λst R k r s h hs=>by
  simp only [tx] at h;split at h
  ·rename_i j hj;split at h
   ·rename_i hf;obtain ⟨x0,hx0,h⟩:=qd.1 h;obtain ⟨n,hn⟩:=qjp h;obtain ⟨h1,h2⟩:=qBD hs hf hx0;exact qzx (qqU hT hO c bid) hs n x0 s h1 h2 hn
   ·cases h
  ·split at h
   ·rename_i st1 hcl;obtain ⟨s1,hv1,hs1,hf1⟩:=qjF hs hcl;obtain ⟨e,st2,s2,hev,hR,hF,hk⟩:=qqU hT hO c bid st1 _ _ r s1 h hs1;cases e with
    | normal =>
     obtain ⟨e3,st3,s3,hev3,hR3,hF3,hk3⟩:=hO.code ctx f bid (.loop c) st2 _ _ r s2 hk hR;exact ⟨e3,st3,s3,(hev.and hev3).imp λC hC=>by simp only [ex,hv1,hC.1,hC.2],hR3,(hf1.trans hF).trans hF3,hk3⟩
    | exit id=>exact ⟨.exit id,st2,s2,hev.imp λC hC=>by simp only [ex,hv1,hC],hR,hf1.trans hF,hk⟩
    | ret=>exact ⟨.ret,st2,s2,hev.imp λC hC=>by simp only [ex,hv1,hC],hR,hf1.trans hF,hk⟩
   ·cases h
 | .rangeFunc ..,bid=>λst R k r s h hs=>qCz hT hO h hs
 | .scope _,bid=>λst R k r s h hs=>by simp [tx] at h
 | .label _,bid=>λst R k r s h hs=>by simp [tx] at h
 | .goto _,bid=>λst R k r s h hs=>by simp [tx] at h
 | .refuse _,bid=>λst R k r s h hs=>by simp [tx] at h
end Go.Tx
end
section
namespace Go.Tx
open Go Go.Ab
variable {P:Program} {H:Hints} {J:TH} {T:qt7} {O:TOrc} {lib:FuncId->Option (List V->Option V)} {f:FuncId} {ctx:List Tmp}
theorem qhG {st:TSt} {s:St} (hs:Rst st s):∀ (l:List ResultVar) (rs:List TV),qgF (l.map (qkI P st)) = some rs->∃ rs',qg3 (l.map (qep P s)) = some rs'/\RVL rs rs'
 | [],rs,h=>by simp only [List.map_nil,qgF,qb] at h; subst h; exact ⟨[],rfl,qa7⟩
 | v :: l,rs,h=>by
  simp only [List.map_cons] at h;cases h1:qkI P st v with
  | none=>rw [h1] at h; simp [qgF] at h
  | some x =>
   rw [h1] at h;simp only [qgF] at h;obtain ⟨rs0,h2,rfl⟩:=qc.1 h;obtain ⟨rs',h3,hr⟩:=qhG hs l rs0 h2;have:∃ u,qep P s v = some u/\RV x u:=by
    cases v with
    | tmp t =>
     simp only [qkI,qb] at h1;subst h1;exact ⟨_,rfl,qym hs.E t⟩
    | cell a t =>
     simp only [qkI] at h1;split at h1
     ·rename_i r off hE;have hg:=qym hs.E a;rw [hE] at hg;simp only [RV] at hg;split at h1
      ·rename_i cs hcs;split at h1
       ·rename_i hsl;obtain ⟨cs',hcs',hc⟩:=hs.box hcs;obtain ⟨u,hu,hr⟩:=qeN h1 (hc.drop off);refine ⟨u,?_,hr⟩;have hlp:=qfV (qa4 hc) (hs.M.mp r.lvl r.slot cs' (by rw [<- qI]; exact hcs') hsl);simp only [qep,hg,hcs',hlp,qf,if_false,hu]
       ·cases h1
      ·cases h1
     ·cases h1
   obtain ⟨u,hu,hru⟩:=this;refine ⟨u :: rs',?_,qy.2 ⟨hru,hr⟩⟩;simp only [List.map_cons,hu,qg3,h3,Option.map_some]
theorem qm7 {st:TSt} {s:St} (hs:Rst st s):∀ (l:List ResultVar) (ks:List (Bool × Nat × Nat)),qmN (l.map (qg4 st)) = some ks->l.map (qL s) = ks
 | [],ks,h=>by simp only [List.map_nil,qmN,qb] at h; subst h; rfl
 | v :: l,ks,h=>by
  simp only [List.map_cons] at h;cases h1:qg4 st v with
  | none=>rw [h1] at h; simp [qmN] at h
  | some x =>
   rw [h1] at h;simp only [qmN] at h;obtain ⟨ks0,h2,rfl⟩:=qc.1 h;have:qL s v = x:=by
    cases v with
    | tmp t=>simp only [qg4,qb] at h1; subst h1; rfl
    | cell a t =>
     simp only [qg4] at h1;split at h1
     ·rename_i r off hE;have hg:=qym hs.E a;rw [hE] at hg;simp only [RV] at hg;cases h1;simp only [qL,hg]
     ·cases h1
   simp only [List.map_cons,this,qm7 hs l ks0 h2]
theorem qmi:∀ {rs:List TV} {rs':List V},RVL rs rs'->RV (qdG rs) (packed rs')
 | [],rs',h=>by simp only [RVL] at h; subst h; simp [qdG,packed,RV,RVL]
 | [x],rs',h=>by obtain ⟨v,rfl,hv⟩:=qel h; exact hv
 | x :: y :: rs,rs',h=>by
  have h0:=h;simp only [RVL] at h;obtain ⟨v,m,rfl,_,v2,m2,rfl,_,_⟩:=h;simp only [qdG,packed,RV];exact ⟨_,rfl,h0⟩
theorem qDU (hT:TOk P H lib T) (hO:OOk P H lib O) {args:List TV} {M:List qK} {R:Type} {k:TV->List qK->List Root->Option R} {r:R} {vs:List V} {M':List Level}
  (h:runT P H J T O ctx f args M R k = some r) (ha:RVL args vs) (hM:LR M M') :
  ∃ x N wb v N',k x N wb = some r/\RV x v/\LR N N'/\N.length = M.length/\(∀ l sl,(⟨l,sl⟩:Root) ∉ wb->qaJ N' l sl = qaJ M' l sl/\∀ c,qay M l sl = some (some c)->∃ c',qay N l sl = some (some c'))/\J.lib f = false/\Ev (λC=>qEo P H C f vs M' = some (v,N')) P H lib:=by
 unfold runT at h;split at h
 ·cases h
 ·rename_i hlib;split at h
  ·rename_i fn hfn;split at h
   ·rename_i c hbody;have hE:RVL (Env.qh5 args fn.ntmps).toL (vs ++ List.replicate (fn.ntmps - vs.length) .undef):=by
     rw [qna,ha.length]; exact ha.append (RVL.replicate (qcV []) _)
    have h0:Rst { E:=Env.qh5 args fn.ntmps,L:=M,B:=[],Wt:=.empty,Wb:=[] } { E:=vs ++ List.replicate (fn.ntmps - vs.length) .undef,L:=M',B:=[] }:=⟨hE,hM.init⟩
    have hsnd:Snd (λst R k=>tx P H J T O ctx f 0 c st R λe st=>match e with
     | .normal=>k .normal st
     | .ret=>k .normal st
     | _=>none) (λs e s'=>e = .normal/\Ev (λC=>∃ e,(e = .normal\/e = .ret)/\ex P H C f 0 c s = some (e,s')) P H lib):=by
     intro st R k r s h hs;obtain ⟨e,st1,s1,hev,hR,hF,hk⟩:=qqU hT hO c 0 st _ _ r s h hs;cases e with
     | normal=>exact ⟨.normal,st1,s1,⟨rfl,hev.imp λC hC=>⟨.normal,.inl rfl,hC⟩⟩,hR,hF,hk⟩
     | ret=>exact ⟨.normal,st1,s1,⟨rfl,hev.imp λC hC=>⟨.ret,.inr rfl,hC⟩⟩,hR,hF,hk⟩
     | exit id=>cases hk
    obtain ⟨e,st1,s1,⟨_,hev⟩,hR,hF,hk⟩:=qoh hsnd _ _ _ _ _ _ h h0;split at hk
    ·rename_i rs ks hrs hks;have hlen:=hR.len;have hlen2:=hF.len;have hML:=hM.len;simp only at hlen2;have frame:∀ l sl,(⟨l,sl⟩:Root) ∉ st1.Wb->qaJ s1.L l sl = qaJ M' l sl/\∀ c,qay M l sl = some (some c)->∃ c',qay st1.L l sl = some (some c'):=λl sl hl=>by
      refine ⟨?_,λc hc=>?_⟩
      ·by_cases e:l < s1.L.length
       ·rcases hF.b ⟨l,sl⟩ hl with this | ⟨h9,_⟩
        ·rw [qI,qI] at this;unfold qaJ qdO at this;simp only at this;unfold qaJ;rw [List.getElem?_append_left e,List.getElem?_append_left (by omega)] at this;exact this
        ·simp only at h9; omega
       ·unfold qaJ;rw [List.getElem?_eq_none (by omega),List.getElem?_eq_none (by omega)]
      ·have hlt:l < M.length:=by
        unfold qay at hc;cases hM0:M[l]? with
        | none=>rw [hM0] at hc; cases hc
        | some b=>exact (List.getElem?_eq_some_iff.1 hM0).1
       have hbx:(({ E:=Env.qh5 args fn.ntmps,L:=M,B:=[],Wt:=.empty,Wb:=[] }:TSt).cont ⟨l,sl⟩).isSome = true:=by
        rw [qbg];unfold qay TSt.all;simp only
        rw [List.getElem?_append_left hlt];unfold qay at hc;rw [hc]; rfl
       obtain ⟨c',hc'⟩:=Option.isSome_iff_exists.1 (hF.bn ⟨l,sl⟩ hl hbx);have h10:=qfe hc';refine ⟨c',?_⟩;unfold qay TSt.all at h10;simp only at h10;rw [List.getElem?_append_left (by omega)] at h10;exact h10
     split at hk
     ·rename_i hc;simp only [qe] at hc;obtain ⟨⟨hkn,hpt⟩,hko⟩:=hc;obtain ⟨rs',hrs',hrr⟩:=qhG hR _ _ hrs;have hkeys:=qm7 hR _ _ hks;have hpeq:=RVL.ptrs_eq _ _ hkn hrr;refine ⟨_,_,_,packed (if M'.isEmpty && !ownsL rs' then reflagL qjr rs' else rs'),s1.L,hk,?_,hR.M.front,by omega,frame,by simpa using hlib,hev.imp ?_⟩
      ·split
       ·exact qmi (RVL.qqD quD rfl _ _ hrr)
       ·exact qmi hrr
      ·rintro C ⟨e,he,hC⟩;unfold qEo;simp only [hfn,hbody,hC];rw [if_pos he,hrs'];simp only
       rw [if_pos];simp only [hpeq,hkeys,qe];rw [hML];exact ⟨hpt,hko⟩
     ·split at hk
      ·rename_i hc;simp only [qe,Bool.not_eq_true'] at hc;obtain ⟨⟨⟨hkn,hem⟩,hko⟩,hpt⟩:=hc;split at hk
       ·rename_i xs hxs;split at hk
        ·rename_i hc2;simp only [qe] at hc2;obtain ⟨hkx,hpx⟩:=hc2;obtain ⟨rs',hrs',hrr⟩:=qhG hR _ _ hrs;have hkeys:=qm7 hR _ _ hks;have hpeq:=RVL.ptrs_eq _ _ hkn hrr;obtain ⟨us,hus,hru⟩:=peekTL_ok (bt:=st1.box) (bx:=s1.box) (λr c hc=>by
          obtain ⟨c',h1,h2⟩:=hR.box hc;exact ⟨c',h1,h2,λhlt=>hR.M.mp r.lvl r.slot c' (by rw [<- qI]; exact h1) hlt⟩) _ _ _ hxs hrr
         have hpu:=RVL.ptrs_eq _ _ hkx hru;have hem':M'.isEmpty = true:=by
          rw [List.isEmpty_iff] at hem ⊢;subst hem;exact List.eq_nil_of_length_eq_zero (by rw [hML]; rfl)
         refine ⟨_,_,_,packed us,s1.L,hk,qmi hru,hR.M.front,by omega,frame,by simpa using hlib,hev.imp ?_⟩;rintro C ⟨e,he,hC⟩;unfold qEo;simp only [hfn,hbody,hC];rw [if_pos he,hrs'];simp only
         have hn1:¬ (((ptrsL rs').all λr=>decide (r.lvl < M'.length)) && qrU M'.length (fn.results.toList.map (qL s1))) = true:=by
          rw [hpeq,hML,hpt]; simp
         rw [if_neg hn1,if_pos (by rw [hem',hkeys,hML,hko]; rfl),hus];simp only [hpu,hpx,if_true]
        ·cases hk
       ·cases hk
      ·cases hk
    ·cases hk
   ·cases h
  ·cases h
theorem qoU:∀ {rs:List TV},onlyMapsTL rs = true->(qdG rs).onlyMaps = true
 | [],_=>rfl
 | [x],h=>by simpa [qdG,onlyMapsTL] using h
 | x :: y :: l,h=>by simpa only [qdG,TV.onlyMaps] using h
theorem qAx (hT:TOk P H lib T) (hO:OOk P H lib O) {args:List TV} {R:Type} {k:TV->TV->Option R} {r:R} {vs:List V}
  (h:qzW P H J T O ctx f args R k = some r) (ha:RVL args vs) :
  ∃ x τ o l v sl,k x (.t (.mset τ) o l) = some r/\qix τ = true/\RV x v/\x.onlyMaps = true/\Ev (λC=>qzc P H C f vs = some (v,sl,kvs τ l)) P H lib:=by
 unfold qzW at h;split at h
 ·cases h
 ·split at h
  ·rename_i fn hfn;split at h
   ·rename_i c hbody;have hE:RVL (Env.qh5 args fn.ntmps).toL (vs ++ List.replicate (fn.ntmps - vs.length) .undef):=by
     rw [qna,ha.length]; exact ha.append (RVL.replicate (qcV []) _)
    have hM0:LR [] []:=⟨rfl,λl s=>by simp [qay,qaJ,RB],by simp,λl s c h=>by simp [qaJ] at h⟩
    have h0:Rst { E:=Env.qh5 args fn.ntmps,L:=[],B:=[],Wt:=.empty,Wb:=[] } { E:=vs ++ List.replicate (fn.ntmps - vs.length) .undef,L:=[],B:=[] }:=⟨hE,hM0.init⟩
    obtain ⟨e,st1,s1,hev,hR,hF,hk⟩:=qqU hT hO c 0 _ _ _ r _ h h0;have key:(match qgF (fn.results.toList.map (qkI P st1)) with
     | some rs=>match peekTL st1.box rs with
      | some xs=>match ptrsTL xs with
       | [q]=>if q.lvl = 0 then (match st1.box q with
        | some [.t (.mset τ) o l]=>if knownL xs && onlyMapsTL xs then k (qdG xs) (.t (.mset τ) o l) else none
        | _=>none) else none
       | _=>none
      | none=>none
     | none=>none) = some r/\(e = .normal\/e = .ret):=by
     cases e with
     | normal=>exact ⟨hk,.inl rfl⟩
     | ret=>exact ⟨hk,.inr rfl⟩
     | exit id=>cases hk
    obtain ⟨hk2,he⟩:=key;split at hk2
    ·rename_i rs hrs;split at hk2
     ·rename_i xs hxs;split at hk2
      ·rename_i q hq;split at hk2
       ·rename_i hl0;split at hk2
        ·rename_i τ o l hbx;split at hk2
         ·rename_i hc;simp only [qe] at hc;obtain ⟨hkn,hom⟩:=hc;obtain ⟨rs',hrs',hrr⟩:=qhG hR _ _ hrs;obtain ⟨us,hus,hru⟩:=peekTL_ok (bt:=st1.box) (bx:=s1.box) (λr c hc=>by
           obtain ⟨c',h1,h2⟩:=hR.box hc;exact ⟨c',h1,h2,λhlt=>hR.M.mp r.lvl r.slot c' (by rw [<- qI]; exact h1) hlt⟩) _ _ _ hxs hrr
          have hpeq:=RVL.ptrs_eq _ _ hkn hru;obtain ⟨c',hc',hcr⟩:=hR.box hbx;obtain ⟨v,rfl,hv⟩:=qel hcr;simp only [RV,RTy] at hv;obtain ⟨hkt,rfl⟩:=hv;have hom':=(rvl_adopt q _ _ hom hru).2;refine ⟨_,τ,o,l,packed us,q.slot,hk2,hkt,qmi hru,qoU hom,hev.imp λC hC=>?_⟩;unfold qzc;simp only [hfn,hbody,hC];rw [if_pos he,hrs'];simp only [hus,hpeq,hq];rw [if_pos hl0,hc'];simp only [hom',if_true];rfl
         ·cases hk2
        ·cases hk2
       ·cases hk2
      ·cases hk2
     ·cases hk2
    ·cases hk2
   ·cases h
  ·cases h
theorem qwS (hT:TOk P H lib T) (hJ:∀ g,J.lib g = false->lib g = none):∀ n,OOk P H lib (qpW P H J T n)
 | 0=>⟨λctx g args M R k r vs M' h=>by simp [qpW] at h,λctx f bid c st R k r s h=>by simp [qpW] at h,λctx g args R k r vs h=>by simp [qpW] at h⟩
 | n + 1=>by
  have ih:=qwS hT hJ n;refine ⟨λctx g args M R k r vs M' h ha hM=>?_,λctx f bid c st R k r s h hs=>?_,λctx g args R k r vs h ha=>?_⟩
  rotate_right
  ·simp only [qpW] at h;obtain ⟨x,τ,o,l,v,sl,hk,hkt,hr,hom,hev⟩:=qAx hT ih h ha;refine ⟨x,τ,o,l,v,sl,hk,hkt,hr,hom,?_⟩;obtain ⟨n1,h1⟩:=hev;refine ⟨n1 + 1,λm hm=>?_⟩;obtain ⟨m',rfl⟩:∃ m',m = m' + 1:=⟨m - 1,by omega⟩
   exact h1 m' (by omega)
  ·simp only [qpW] at h;obtain ⟨x,N,wb,v,N',hk,hr,hN,hlen,hfr,hl,hev⟩:=qDU hT ih h ha hM;refine ⟨x,N,wb,v,N',hk,hr,hN,hlen,hfr,?_⟩;obtain ⟨n1,h1⟩:=hev;refine ⟨n1 + 1,λm hm=>?_⟩;obtain ⟨m',rfl⟩:∃ m',m = m' + 1:=⟨m - 1,by omega⟩
   have:=h1 m' (by omega);simp only [qu5,hJ g hl];exact this
  ·simp only [qpW] at h;obtain ⟨e,st',s',hev,hR,hF,hk⟩:=qqU hT ih c bid st _ _ r s h hs;refine ⟨e,st',s',?_,hR,hF,hk⟩;obtain ⟨n1,h1⟩:=hev;refine ⟨n1 + 1,λm hm=>?_⟩;obtain ⟨m',rfl⟩:∃ m',m = m' + 1:=⟨m - 1,by omega⟩
   exact h1 m' (by omega)
def qfw (P:Program) (H:Hints) (lib:FuncId->Option (List V->Option V)) (e:Entry):Prop :=
 ∀ x y,e.F x = some y->∀ vs,RVL (qlT e.ps x) vs->∃ v,qw8 P H lib e.g vs [] v []/\RV (qss e.rs y) v
theorem qyV {τ:Ty} {cs:List TV} {x:τ.den} {l':List V} (h:qvZ τ cs = some x) (hr:RVL cs l'):RVL (ofTy τ 1000 x).cells l':=by
 unfold qvZ at h;split at h
 ·rename_i h1;split at h
  ·rename_i c;obtain ⟨u,rfl,hu⟩:=qel hr;have h2:=rv_ofTy _ _ _ _ (qeb _ _ _ _ _ h hu);have h3:(ofTy τ 1000 x).cells = [ofTy τ 1000 x]:=by cases τ <;> first | rfl | simp [Ty.one] at h1
   rw [h3]; exact qy.2 ⟨h2,qa7⟩
  ·cases h
 ·rename_i h1;have h2:=rv_ofTy _ _ _ _ (qeb _ _ _ _ (.agg l') h (by simp only [RV]; exact ⟨l',rfl,hr⟩));cases τ with
  | unit=>simp only [ofTy,TV.cells,RV] at h2 ⊢; obtain ⟨m,e,hm⟩:=h2; cases e; exact hm
  | pair a b=>simp only [ofTy,TV.cells,RV] at h2 ⊢; obtain ⟨m,e,hm⟩:=h2; cases e; exact hm
  | mset t=>simp [qic] at h
  | _=>simp [Ty.one] at h1
theorem qvm {c:Cp} {w:TV} {x:c.den} {v:V} (h:qDB c w = some x) (hr:RV w v):RV (qET c x) v:=by
 cases c with
 | v τ=>exact rv_ofTy _ _ _ _ (qeb _ _ _ _ _ h hr)
 | p τ =>
  cases w <;> simp only [qDB] at h <;> try (cases h; done)
  rename_i sh cs;cases sh with
  | false=>simp only [qDB] at h; cases h
  | true =>
   simp only [qDB] at h;simp only [RV] at hr;obtain ⟨f,l',rfl,hf,hsh,hl⟩:=hr;simp only [qET,RV];exact ⟨f,l',rfl,hf,hsh,qyV h hl⟩
theorem qxn:∀ (cs:List Cp) (l:List TV) (x:denC cs) (l':List V),quV cs l = some x->RVL l l'->RVL (qBl cs x) l'
 | [],l,x,l',h,hr=>by
  cases l with
  | nil=>simpa [qBl] using hr
  | cons=>simp [quV] at h
 | [c],l,x,l',h,hr=>by
  match l,h,hr with
  | [v],h,hr =>
   obtain ⟨u,rfl,h1⟩:=qel hr;exact qy.2 ⟨qvm h h1,qa7⟩
  | [],h,hr=>simp [quV] at h
  | _ :: _ :: _,h,hr=>simp [quV] at h
 | c :: q :: ps,l,x,l',h,hr=>by
  match l,h,hr with
  | [],h,hr=>simp [quV] at h
  | v :: l,h,hr =>
   simp only [quV] at h;obtain ⟨y,hy,h⟩:=qd.1 h;obtain ⟨z,hz,h⟩:=qd.1 h;simp only [qb] at h;subst h;simp only [RVL] at hr;obtain ⟨u,m,rfl,h1,h2⟩:=hr;exact qy.2 ⟨qvm hy h1,qxn (q :: ps) l _ _ hz h2⟩
theorem qA9 {p:Pm} {w:TV} {x:p.den} {v:V} (h:qEl p w = some x) (hr:RV w v):RV (qFg p x) v:=by
 cases p with
 | ty τ=>exact rv_ofTy _ _ _ _ (qeb _ _ _ _ _ h hr)
 | ptr τ=>exact qvm (c:=.p τ) h hr
 | fn g cs =>
  cases w <;> simp only [qEl] at h <;> try (cases h; done)
  rename_i g' first cap;cases first with
  | cons y ys=>simp only [qEl] at h; cases h
  | nil =>
   simp only [qEl] at h;split at h
   ·rename_i hg;subst hg;simp only [RV] at hr;obtain ⟨a',b',rfl,ha,hb⟩:=hr;simp only [RVL] at ha;subst ha;simp only [qFg,RV];exact ⟨[],b',rfl,qa7,qxn _ _ _ _ h hb⟩
   ·cases h
theorem qs9:∀ (ps:List Pm) (l:List TV) (x:denP ps) (l':List V),qum ps l = some x->RVL l l'->RVL (qlT ps x) l'
 | [],l,x,l',h,hr=>by
  cases l with
  | nil=>simpa [qlT] using hr
  | cons=>simp [qum] at h
 | [p],l,x,l',h,hr=>by
  match l,h,hr with
  | [v],h,hr =>
   obtain ⟨u,rfl,h1⟩:=qel hr;exact qy.2 ⟨qA9 h h1,qa7⟩
  | [],h,hr=>simp [qum] at h
  | _ :: _ :: _,h,hr=>simp [qum] at h
 | p :: q :: ps,l,x,l',h,hr=>by
  match l,h,hr with
  | [],h,hr=>simp [qum] at h
  | v :: l,h,hr =>
   simp only [qum] at h;obtain ⟨y,hy,h⟩:=qd.1 h;obtain ⟨z,hz,h⟩:=qd.1 h;simp only [qb] at h;subst h;simp only [RVL] at hr;obtain ⟨u,m,rfl,h1,h2⟩:=hr;exact qy.2 ⟨qA9 hy h1,qs9 (q :: ps) l _ _ hz h2⟩
theorem qDj:∀ {l:List Entry},(∀ e ∈ l,qfw P H lib e)->TOk P H lib (qyR l)
 | [],_=>λg args R k r vs h=>by simp [qyR] at h
 | e :: l,he=>λg args R k r vs h ha=>by
  have ih:=qDj (l:=l) λe' h'=>he e' (by simp [h']);simp only [qyR] at h;split at h
  ·rename_i hg;subst hg;split at h
   ·rename_i x hx;obtain ⟨y,hy,hk⟩:=qd.1 h;obtain ⟨v,hev,hr⟩:=he e (by simp) x y hy vs (qs9 _ _ _ _ hx ha);exact ⟨_,v,hk,hr,hev⟩
   ·exact ih _ _ _ _ _ _ h ha
  ·exact ih _ _ _ _ _ _ h ha
theorem qn:TOk P H lib (qyR []):=qDj (by simp)
theorem qh {e:Entry} {l:List Entry} (h:qfw P H lib e) (h':TOk P H lib (qyR l)):TOk P H lib (qyR (e :: l)):=λg args R k r vs hh ha=>by
 simp only [qyR] at hh;split at hh
 ·rename_i hg;subst hg;split at hh
  ·rename_i x hx;obtain ⟨y,hy,hk⟩:=qd.1 hh;obtain ⟨v,hev,hr⟩:=h x y hy vs (qs9 _ _ _ _ hx ha);exact ⟨_,v,hk,hr,hev⟩
  ·exact h' _ _ _ _ _ _ hh ha
 ·exact h' _ _ _ _ _ _ hh ha
theorem qBr {rs:List (Ty × Nat)} {x:TV} {y:denL (rs.map (·.1))} {v:V} (h:qzn rs x = some y) (hr:RV x v):RV (qss rs y) v:=by
 match rs,y,h with
 | [p],y,h =>
  simp only [qzn] at h;have:=qwK [p] [x] y [v] h (qy.2 ⟨hr,qa7⟩);simp only [qss];obtain ⟨τ,o⟩:=p;simp only [ofL] at this ⊢;exact (qy.1 this).1
 | [],y,h =>
  cases x <;> simp only [qzn] at h <;> try (cases h; done)
  rename_i l _;simp only [RV] at hr;obtain ⟨l',rfl,hl⟩:=hr;have:=qwK [] l y l' h hl;simp only [qss,ofL,qdG,RV];exact ⟨l',rfl,this⟩
 | p :: q :: rs,y,h =>
  cases x <;> simp only [qzn] at h <;> try (cases h; done)
  rename_i l _;simp only [RV] at hr;obtain ⟨l',rfl,hl⟩:=hr;have:=qwK (p :: q :: rs) l y l' h hl;have hpk:∀ m:List TV,2<=m.length->qdG m = .tuple m:=λm hm=>by
   match m,hm with
   | _ :: _ :: _,_=>rfl
  simp only [qss];rw [hpk _ (by rw [qjw _ _ _ h]; have:=qjw _ _ _ h; obtain ⟨τ,o⟩:=p; cases rs <;> simp [ofL] at this <;> omega)];simp only [RV];exact ⟨l',rfl,this⟩
theorem qtj (hT:TOk P H lib T) (hJ:∀ g,J.lib g = false->lib g = none) (n:Nat) (g:FuncId) (ps:List Pm) (rs:List (Ty × Nat)) (F:denP ps->Option (denL (rs.map (·.1))))
  (h:∀ x,fnT P H J T n g (qlT ps x) rs = F x):qfw P H lib ⟨g,ps,rs,F⟩:=by
 intro x y hy vs hvs;simp only at hy hvs;rw [<- h x] at hy;unfold fnT at hy;obtain ⟨w,N,wb,v,N',hk,hr,hN,hlen,_,hev⟩:=(qwS hT hJ n).call _ _ _ _ _ _ _ _ [] hy hvs ⟨rfl,λl s=>by simp [qay,qaJ,RB],by simp,λl s c h=>by simp [qaJ] at h⟩;have hN0:N = []:=List.eq_nil_of_length_eq_zero (by rw [hlen]; rfl);subst hN0;have hN0':N' = []:=List.eq_nil_of_length_eq_zero (by rw [hN.len]; rfl);subst hN0';exact ⟨v,hev,qBr hk hr⟩
theorem qxI (hm:P.follows .mixedOrders = true) (qdL:qlP P H)
  (hlib:∀ g h args r,lib g = some h->h args = some r->qdk P g args [] r []) {e:Entry} (he:qfw P H lib e) {x:denP e.ps} {y:denL (e.rs.map (·.1))} (h:e.F x = some y) {vs:List V} (hv:RVL (qlT e.ps x) vs) :
  ∃ v,qdk P e.g vs [] v []/\RV (qss e.rs y) v:=by
 obtain ⟨v,⟨n,hev⟩,hr⟩:=he x y h vs hv;exact ⟨v,(qvA hm qdL hlib n).call _ _ _ _ _ (hev n (Nat.le_refl _)),hr⟩
end Go.Tx
end
section
namespace Go.Tx
open Go Go.Ab Go.RowKit Go.ChangeShapes Go.WideShapes Go.Deep
def Rng (N:Nat):(τ:Ty)->τ.den->Prop
 | .int k,n=>k.min<=n/\n<=k.max
 | .bool,_=>True
 | .str,s=>s.length<=N
 | .flt,_=>True
 | .cx,_=>True
 | .mset _,_=>True
 | .sl t,l=>l.length<=N/\∀ e ∈ l,Rng N t e
 | .unit,_=>True
 | .pair a b,x=>Rng N a x.1/\Rng N b x.2
def qEA (N:Nat):(τs:List Ty)->denP (τs.map .ty)->Prop
 | [],_=>True
 | [τ],x=>Rng N τ x
 | τ :: q :: l,x=>Rng N τ x.1/\qEA N (q :: l) x.2
def cx0 (w:World):Cx:={ β:=λ_=>none,ω:=λb=>match w.heap[b]? with
 | some (.cells c _ _)=>some (c.size,true)
 | _=>none }
structure Sm {H:Type} (N:Nat) (S:DataW H->Prop):Prop where
 slice:∀ es sp,S (.slice es sp)->es.length<=maxLen->es.length<=N/\∀ e ∈ es,S e
 agg:∀ ps,S (.agg ps)->∀ p ∈ ps,S p
 str:∀ b,S (.lit (.string b))->b.length<=maxLen->b.length<=N
def qw0 (N:Nat) (w:World) (τ:Ty) (v:Value):Prop:=∃ y u,Rng N τ y/\RTy τ 1000 y u/\Rep w (cx0 w) u v []
section
variable (P:Program)
def okT:Nat->TypeId->Bool
 | 0,_=>false
 | d + 1,t=>decide (t < P.types.size) && match P.underlying t with
  | some (.slice e)=>decide (P.cellsOf e ≠ 0) && ((qb8 P d e).map List.length == some (P.cellsOf e)) && okT d e
  | some (.struct fields)=>fields.toList.all λfd=>okT d fd.type
  | some (.array _ e)=>okT d e
  | some (.float _) | some (.complex _)=>false
  | _=>true
end
variable {H:Type} {enc:TypeId × Value->H} {P:Program} {w:World} {base:Nat} {held:Bool}
theorem glue {α β:Type} {R:α->β->Prop}:∀ (css:List (List α)) (szs:List Nat) (vals:List β),css.length = szs.length->vals.length = szs.sum ->
  (∀ (j:Nat) c s,css[j]? = some c->szs[j]? = some s->All2 R c ((vals.drop (szs.take j).sum).take s))->All2 R css.flatten vals
 | [],szs,vals,h1,h2,_=>by
  have:szs = []:=List.eq_nil_of_length_eq_zero (by simpa using h1.symm);subst this;have:vals = []:=List.eq_nil_of_length_eq_zero (by simpa using h2);subst this;exact .nil
 | c :: css,[],vals,h1,_,_=>by simp at h1
 | c :: css,s :: szs,vals,h1,h2,h=>by
  have h0:=h 0 c s rfl rfl;simp only [List.take_zero,List.sum_nil,List.drop_zero] at h0;have hr:=glue css szs (vals.drop s) (by simpa using h1) (by simp only [List.length_drop,h2,List.sum_cons]; omega) λj c' s' hc hs=>by
   have:=h (j + 1) c' s' (by simpa using hc) (by simpa using hs);simpa [List.take_succ_cons,List.sum_cons,List.drop_drop] using this
  have:=h0.append hr;simpa [List.flatten_cons] using this
theorem qv4 {N:Nat}:∀ (cs:List Ty) (vals:List Value),All2 (qw0 N w) cs vals->∃ (y:(cs.foldr Ty.pair .unit).den) (us:List V),Rng N _ y/\RTy (cs.foldr Ty.pair .unit) 1000 y (.agg us)/\RepL w (cx0 w) us vals []
 | [],vals,h=>by cases h; exact ⟨(),[],trivial,by simp [RTy],by simp [RepL]⟩
 | c :: cs,vals,h=>by
  cases h with
  | cons h1 h2 =>
   obtain ⟨y,u,hy,hu,hr⟩:=h1;obtain ⟨ys,us,hys,hus,hrs⟩:=qv4 cs _ h2;refine ⟨(y,ys),u :: us,⟨hy,hys⟩,?_,?_⟩
   ·simp only [List.foldr_cons,RTy]; exact ⟨u,us,rfl,hu,hus⟩
   ·simp only [RepL]; exact ⟨_,_,[],[],rfl,rfl,hr,hrs⟩
theorem qvn {d:Nat} {e:TypeId} {σ:Ty} (hc:qb8 P d e = some [σ]) (hs:∀ fs,P.underlying e ≠ some (.struct fs)) (ha:∀ n q,P.underlying e ≠ some (.array n q)):σ.one = true:=by
 cases d with
 | zero=>simp [qb8] at hc
 | succ d =>
  simp only [qb8] at hc;split at hc
  ·cases hc; rfl
  ·cases hc; rfl
  ·cases hc; rfl
  ·cases hc; rfl
  ·cases hc; rfl
  ·split at hc
   ·cases hc; rfl
   ·cases hc; rfl
   ·cases hc; rfl
   ·cases hc
  ·rename_i fs hfs; exact absurd hfs (hs _)
  ·rename_i n e' hfs; exact absurd hfs (ha _ _)
  ·cases hc
def qEi (P:Program) (e:TypeId) (cs:List Ty):Option Ty:=match P.underlying e with
 | some (.struct _)=>some (cs.foldr Ty.pair .unit)
 | some (.array ..)=>some (cs.foldr Ty.pair .unit)
 | _=>match cs with
  | [τ]=>some τ
  | _=>none
theorem qDS {N:Nat} {d:Nat} {e:TypeId} {cs:List Ty} {τ:Ty} (hc:qb8 P d e = some cs) (hτ:qEi P e cs = some τ) {vals:List Value} (h:All2 (qw0 N w) cs vals) :
  ∃ (y:τ.den) (u:V) (v:Value),Rng N τ y/\RTy τ 1000 y u/\Rep w (cx0 w) u v []/\v.cells.toList = vals:=by
 have agg:τ = cs.foldr Ty.pair .unit->∃ (y:τ.den) (u:V) (v:Value),Rng N τ y/\RTy τ 1000 y u/\Rep w (cx0 w) u v []/\v.cells.toList = vals:=by
  rintro rfl;obtain ⟨y,us,hy,hu,hr⟩:=qv4 cs vals h;exact ⟨y,.agg us,.agg vals.toArray,hy,hu,by simp only [Rep]; exact ⟨vals,rfl,hr⟩,by simp [Value.cells]⟩
 unfold qEi at hτ;split at hτ
 ·cases hτ; exact agg rfl
 ·cases hτ; exact agg rfl
 ·rename_i hns hna;have hns':=hns;have hna':=hna;split at hτ
  ·cases hτ;have hone:=qvn hc (λfs hh=>hns' fs hh) (λn q hh=>hna' n q hh)
   match vals,h with
   | v :: _,.cons h1 .nil =>
    obtain ⟨y,u,hy,hu,hr⟩:=h1;refine ⟨y,u,v,hy,hu,hr,?_⟩;rw [qcK (qkG (qAM hone hu) hr)]
  ·cases hτ
theorem qAl {b:Nat} {e:Nat} {fz:Bool} (h:(cx0 w).ω b = some (e,fz)):fz = true/\b < w.heap.size/\∃ c t fr,w.heap[b]? = some (.cells c t fr)/\e = c.size:=by
 simp only [cx0] at h;split at h
 ·rename_i c t fr hc;cases h;exact ⟨rfl,(Array.getElem?_eq_some_iff.1 hc).1,c,t,fr,hc,rfl⟩
 ·cases h
theorem qm4 {a:Addr} {v:Value} (h:w.cell? a = some v):a.spot = none/\∃ c t fr,w.heap[a.block]? = some (.cells c t fr)/\c[a.off]? = some v:=by
 unfold World.cell? at h;split at h
 ·rename_i c t fr hc;split at h
  ·cases h
  ·rename_i hs;exact ⟨by simpa using hs,c,t,fr,hc,h⟩
 ·cases h
theorem qy4 {N:Nat} {τ:Ty} {b off len cap s:Nat} (hs:0 < s) (hlc:len<=cap) (hcap:cap ≠ 0) (hτ:τ.qcv = true) (hn:τ.qbK = s)
  (hel:∀ i,i < cap->∃ vals:List Value,vals.length = s/\(∀ j,j < s->w.cell? ⟨b,off + i * s + j,none⟩ = vals[j]?)/\(i < len->∃ (y:τ.den) (u:V) (v:Value),Rng N τ y/\RTy τ 1000 y u/\Rep w (cx0 w) u v []/\v.cells.toList = vals)) :
  ∃ (l:List τ.den) (us:List V),l.length = len/\(∀ y ∈ l,Rng N τ y)/\All2 (RTy τ 1000) l us/\Rep w (cx0 w) (.sl .shared false us) (.slice (some ⟨b,off,none⟩) len cap) []:=by
 have key:∀ n,n<=len->∃ (l:List τ.den) (us:List V) (vals:List Value),l.length = n/\(∀ y ∈ l,Rng N τ y)/\All2 (RTy τ 1000) l us/\RepE w (cx0 w) s us vals []/\vals.length = n * s/\(∀ j v,vals[j]? = some v->w.cell? ⟨b,off + j,none⟩ = some v):=by
  intro n;induction n with
  | zero=>exact λ_=>⟨[],[],[],rfl,by simp,.nil,by simp [RepE],by simp,by simp⟩
  | succ n ih =>
   intro hle;obtain ⟨l,us,vals,h1,h2,h3,h4,h5,h6⟩:=ih (by omega);obtain ⟨vs,hvl,hvc,hy⟩:=hel n (by omega);obtain ⟨y,u,v,hry,hu,hr,hcv⟩:=hy (by omega);refine ⟨l ++ [y],us ++ [u],vals ++ vs,by simp [h1],?_,h3.append (.cons hu .nil),?_,by simp [h5,hvl,Nat.succ_mul],?_⟩
   ·intro z hz;simp only [List.mem_append,List.mem_singleton] at hz;rcases hz with hz | rfl
    ·exact h2 z hz
    ·exact hry
   ·have h7:RepE w (cx0 w) s [u] vs []:=by
     simp only [RepE];exact ⟨v,[],[],[],by simp [hcv],by rw [<- hvl,<- hcv]; simp,rfl,hr,rfl,rfl⟩
    simpa using qhC h4 h7
   ·intro j v hj;by_cases hlt:j < vals.length
    ·rw [List.getElem?_append_left hlt] at hj; exact h6 j v hj
    ·rw [List.getElem?_append_right (by omega)] at hj;have hjs:=(List.getElem?_eq_some_iff.1 hj).1;have:=hvc (j - vals.length) (by omega);rw [hj] at this;rw [<- this];congr 2
     omega
 obtain ⟨l,us,vals,h1,h2,h3,h4,h5,h6⟩:=key len (Nat.le_refl _);refine ⟨l,us,h1,h2,h3,?_⟩;have hlen:=h3.length;have hcells:=qeL hτ h3
 -- the block
 obtain ⟨vs,hvl,hvc,_⟩:=hel 0 (by omega);have hc0:=hvc 0 (by omega);have hv0:∃ v0,vs[0]? = some v0:=⟨vs[0]'(by omega),List.getElem?_eq_getElem (by omega)⟩
 obtain ⟨v0,hv0⟩:=hv0;rw [hv0] at hc0;obtain ⟨_,c,t,fr,hblk,hoff⟩:=qm4 hc0;simp only [Nat.zero_mul,Nat.add_zero] at hblk hoff;have hoff':=(Array.getElem?_eq_some_iff.1 hoff).1;simp only [Rep];refine ⟨qy3 h3,.inr ⟨b,off,cap,s,vals,[],?_,?_,by simp,?_,hs,?_,h6,⟨c.size,true,?_,?_,rfl⟩,h4,by simp,by simp⟩⟩
 ·rw [hlen,h1]
 ·rw [hlen,h1]; exact hlc
 ·rw [hlen,h1]; exact h5
 ·intro x hx; rw [(hcells x hx).1]; exact hn
 ·simp only [cx0,hblk]
 ·by_cases h0:vals.length = 0
  ·rw [h0]; omega
  ·have:∃ v1,vals[vals.length - 1]? = some v1:=⟨vals[vals.length - 1]'(by omega),List.getElem?_eq_getElem (by omega)⟩
   obtain ⟨v1,hv1⟩:=this;obtain ⟨_,c',t',fr',hblk',hoff1⟩:=qm4 (h6 _ _ hv1);simp only at hblk' hoff1;rw [hblk] at hblk';cases hblk'
   have:=(Array.getElem?_eq_some_iff.1 hoff1).1;omega
theorem qxP {d:Nat} {e:TypeId} {cs:List Ty} {τ:Ty} (hc:qb8 P d e = some cs) (hτ:qEi P e cs = some τ) (hones:∀ c ∈ cs,c.one = true):τ.qcv = true/\τ.qbK = cs.length:=by
 have agg:∀ cs:List Ty,(∀ c ∈ cs,c.one = true)->(cs.foldr Ty.pair .unit).qqd = true/\(cs.foldr Ty.pair .unit).qcv = true/\(cs.foldr Ty.pair .unit).qbK = cs.length:=by
  intro cs;induction cs with
  | nil=>intro _; exact ⟨rfl,rfl,rfl⟩
  | cons c cs ih =>
   intro h;obtain ⟨h1,_,h3⟩:=ih λc' hc'=>h c' (by simp [hc']);simp only [List.foldr_cons,Ty.qqd,Ty.qcv,Ty.qbK,h c (by simp),h1,h3,Bool.and_self,List.length_cons];exact ⟨trivial,trivial,trivial⟩
 unfold qEi at hτ;split at hτ
 ·cases hτ; exact ⟨(agg cs hones).2.1,(agg cs hones).2.2⟩
 ·cases hτ; exact ⟨(agg cs hones).2.1,(agg cs hones).2.2⟩
 ·split at hτ
  ·cases hτ;have h1:=hones τ (by simp);cases τ <;> first | exact ⟨rfl,rfl⟩ | simp [Ty.one] at h1
  ·cases hτ
theorem qoH {α β:Type} {g:α->Option β}:∀ {l:List α} {r:List β},l.mapM g = some r->r.length = l.length/\∀ (i:Nat) (a:α),l[i]? = some a->∃ b,r[i]? = some b/\g a = some b
 | [],r,h=>by simp at h; subst h; exact ⟨rfl,by simp⟩
 | a :: l,r,h=>by
  simp only [List.mapM_cons,Option.bind_eq_bind,qd] at h;obtain ⟨b,hb,r',hr',h⟩:=h;cases h;obtain ⟨h1,h2⟩:=qoH hr';refine ⟨by simp [h1],λi x hi=>?_⟩;cases i with
  | zero=>simp at hi; subst hi; exact ⟨b,rfl,hb⟩
  | succ n=>obtain ⟨c,hc,hg⟩:=h2 n x (by simpa using hi); exact ⟨c,by simpa using hc,hg⟩
theorem qgP:∀ (d:Nat) (t:TypeId) (cs:List Ty),qb8 P d t = some cs->∀ c ∈ cs,c.one = true
 | 0,t,cs,h=>by simp [qb8] at h
 | d + 1,t,cs,h=>by
  simp only [qb8] at h;split at h
  ·cases h; simp [Ty.one]
  ·cases h; simp [Ty.one]
  ·cases h; simp [Ty.one]
  ·cases h; simp [Ty.one]
  ·cases h; simp [Ty.one]
  ·split at h
   ·cases h; simp [Ty.one]
   ·cases h; simp [Ty.one]
   ·cases h; simp [Ty.one]
   ·cases h
  ·rename_i fields _;obtain ⟨css,hcss,rfl⟩:=qc.1 h;obtain ⟨h1,h2⟩:=qoH hcss;intro c hc;obtain ⟨q,hq,hcq⟩:=List.mem_flatten.1 hc;obtain ⟨i,hi⟩:=List.mem_iff_getElem?.1 hq;have hlt:i < fields.toList.length:=by have:=(List.getElem?_eq_some_iff.1 hi).1; omega
   obtain ⟨b,hb,hg⟩:=h2 i _ (List.getElem?_eq_getElem hlt);rw [hi] at hb; cases hb;exact qgP d _ _ hg c hcq
  ·obtain ⟨q,hq,rfl⟩:=qc.1 h;intro c hc;obtain ⟨q',hq',hcq⟩:=List.mem_flatten.1 hc;obtain ⟨_,rfl⟩:=List.mem_replicate.1 hq';exact qgP d _ _ hq c hcq
  ·cases h
end Go.Tx
end
section
namespace Go.Tx
open Go Go.Ab Go.RowKit Go.ChangeShapes Go.WideShapes Go.Deep
variable {H:Type} {enc:TypeId × Value->H} {P:Program} {w:World} {base:Nat} {held:Bool}
theorem qvl {d:Nat} {e:TypeId} {cs1 cs:List Ty} (hc:qb8 P d e = some cs1) (h:(match qb8 P d e,P.underlying e with
   | some cs,some (.struct _)=>some [Ty.sl (cs.foldr .pair .unit)]
   | some cs,some (.array ..)=>some [.sl (cs.foldr .pair .unit)]
   | some [τ],_=>some [.sl τ]
   | _,_=>none) = some cs):∃ τ,cs = [.sl τ]/\qEi P e cs1 = some τ:=by
 rw [hc] at h;unfold qEi;cases hu:P.underlying e with
 | none=>rw [hu] at h; simp only at h ⊢; split at h <;> simp_all
 | some dd =>
  rw [hu] at h;cases dd <;> simp only at h ⊢ <;> first | (simp only [qb] at h; exact ⟨_,h.symm,rfl⟩) | (split at h <;> simp_all)
theorem qz3 {X:Cx}:Rep w X (.sl .shared false []) (.slice none 0 0) []:=by simp [Rep,ptrsL]
theorem qA7 {X:Cx} (a:Addr):Rep w X (.sl .shared false []) (.slice (some a) 0 0) []:=by simp [Rep,ptrsL]
theorem qjL (hl:laidOutB P = true) {N:Nat} {S:DataW H->Prop} (hS:Sm N S):∀ (d:Nat) (t:TypeId) (cs:List Ty),qb8 P d t = some cs->okT P d t = true->∀ (fuel:Nat) (vals:List Value) (x:DataW H × List MemPlace),S x.1 ->
  DataW.trod enc P w base (λ_=>true) held fuel t vals = some x->All2 (qw0 N w) cs vals
 | 0,t,cs,hc,_,fuel,vals,x,hx,h=>by simp [qb8] at hc
 | d + 1,t,cs,hc,hok,fuel,vals,x,hx,h=>by
  simp only [qb8] at hc;simp only [okT,qe,decide_eq_true_eq] at hok;split at hc
  ·rename_i k hu;cases hc;obtain ⟨n,rfl,rfl,hwf⟩:=DataW.trod_int hu h;refine .cons ⟨n,.val (.int k n),?_,by simp [RTy],by simp [Rep]⟩ .nil;simp only [Rng];simp only [Lit.wf,qe,decide_eq_true_eq] at hwf;exact hwf
  ·rename_i hu;cases hc;obtain ⟨b,rfl,rfl⟩:=DataW.trod_bool hu h;exact .cons ⟨b,.val (.bool b),trivial,by simp [RTy],by simp [Rep]⟩ .nil
  ·rename_i hu;cases hc;obtain ⟨s,rfl,rfl,hs⟩:=DataW.trod_string hu h;have hsl:s.data.toList.length<=maxLen:=by
    have e:s.data.toList.length = s.size:=Array.length_toList;rw [e]; exact hs
   exact .cons ⟨s.data.toList,.val (.string s),hS.str _ hx hsl,by simp [RTy],by simp [Rep]⟩ .nil
  ·rename_i hu; rw [hu] at hok; simp at hok
  ·rename_i hu; rw [hu] at hok; simp at hok
  ·rename_i e hu;obtain ⟨ht,hoe⟩:=hok;rw [hu] at hoe;simp only [qe,decide_eq_true_eq,beq_iff_eq] at hoe;cases hce:qb8 P d e with
   | none=>rw [hce] at hc; simp at hc
   | some cs1 =>
    obtain ⟨τ,rfl,hτ⟩:=qvl hce (by rw [hce]; rw [hce] at hc; exact hc);obtain ⟨hel,hnc⟩:=qxP hce hτ (qgP d e cs1 hce);rcases open_slice hu h with ⟨rfl,rfl⟩ | ⟨a,len,cap,m,n,D,Pl,rfl,hb,hlc,hcm,hm,rfl,hx'⟩
    ·exact .cons ⟨[],.sl .shared false [],⟨Nat.zero_le _,by simp⟩,by simp only [RTy]; exact ⟨_,_,[],rfl,qiZ rfl (by simp) (λ_=>rfl),.nil⟩,qz3⟩ .nil
    ·simp only [if_true] at hm;subst hm;obtain ⟨hN,hSe⟩:=hS.slice _ _ hx (by simp; omega);by_cases hcap:m = 0
     ·subst hcap;have hlen:len = 0:=by omega
      subst hlen;exact .cons ⟨[],.sl .shared false [],⟨Nat.zero_le _,by simp⟩,by simp only [RTy]; exact ⟨_,_,[],rfl,qiZ rfl (by simp) (λ_=>rfl),.nil⟩,qA7 a⟩ .nil
     ·have hspot:a.spot = none:=by
       obtain ⟨cs',hcs',_⟩:=hx' 0 (by omega);obtain ⟨_,hl1,hc1⟩:=World.cells?_some hcs';have h0:=hc1 0 (by omega);simp only [Nat.zero_mul] at h0;have:∃ v0,cs'[0]? = some v0:=⟨cs'[0]'(by omega),List.getElem?_eq_getElem (by omega)⟩
       obtain ⟨v0,hv0⟩:=this;rw [hv0] at h0;have:=(qm4 h0).1;simpa [Addr.add] using this
      obtain ⟨b,off,spot⟩:=a;simp only at hspot;subst hspot;have hsz:∀ i,i < m->∃ vals:List Value,vals.length = P.cellsOf e/\(∀ j,j < P.cellsOf e->w.cell? ⟨b,off + i * P.cellsOf e + j,none⟩ = vals[j]?) /\
        (i < len->∃ (y:τ.den) (u:V) (v:Value),Rng N τ y/\RTy τ 1000 y u/\Rep w (cx0 w) u v []/\v.cells.toList = vals):=λi hi=>by
       obtain ⟨cs',hcs',htr⟩:=hx' i hi;obtain ⟨_,hl1,hc1⟩:=World.cells?_some hcs';refine ⟨cs',hl1,λj hj=>?_,λhil=>?_⟩
       ·rw [<- hc1 j hj,Addr.add_lit,Addr.add_lit]
       ·have hSi:S (D i):=hSe _ (List.mem_map.2 ⟨i,List.mem_range.2 hil,rfl⟩);exact qDS hce hτ (qjL hl hS d e cs1 hce hoe.2 n cs' _ hSi htr)
      have hn:τ.qbK = P.cellsOf e:=by
       have:=hoe.1.2;rw [hce] at this;simp only [Option.map_some,qb] at this;rw [hnc,this]
      obtain ⟨l,us,h1,h2,h3,h4⟩:=qy4 (Nat.pos_of_ne_zero hoe.1.1) hlc hcap hel hn hsz;exact .cons ⟨l,.sl .shared false us,⟨by rw [h1]; simpa using hN,h2⟩,by simp only [RTy]; exact ⟨_,_,us,rfl,qiZ rfl (by simp) (λ_=>rfl),h3⟩,h4⟩ .nil
  ·rename_i fields hu;obtain ⟨ht,hoe⟩:=hok;rw [hu] at hoe;simp only [List.all_eq_true] at hoe;obtain ⟨css,hcss,rfl⟩:=qc.1 hc;obtain ⟨hl1,hget⟩:=qoH hcss;obtain ⟨xs,n,_,rfl,hvl,hxl,hxs⟩:=DataW.trod_struct hu h;obtain ⟨_,hsum,hoff⟩:=kid_struct hl ht hu;refine glue css (fields.toList.map λf=>P.cellsOf f.type) vals (by simp [hl1]) (by rw [hvl,hsum]) λj c s hcj hsj=>?_;rw [List.getElem?_map] at hsj;obtain ⟨fd,hfd,rfl⟩:=qc.1 hsj;obtain ⟨c',hc',hg⟩:=hget j fd hfd;rw [hcj] at hc'; cases hc';have hx1:=hxs j fd (by simpa using hfd);rw [hoff j fd hfd,List.map_take] at hx1;have hj:j < xs.length:=by rw [hxl]; have:=(List.getElem?_eq_some_iff.1 hfd).1; simpa using this
   rw [List.getElem?_eq_getElem hj] at hx1;exact qjL hl hS d fd.type c hg (hoe fd (List.mem_of_getElem? hfd)) n _ _ (hS.agg _ hx _ (List.mem_map.2 ⟨xs[j],List.getElem_mem hj,rfl⟩)) hx1
  ·rename_i n' e hu;obtain ⟨ht,hoe⟩:=hok;rw [hu] at hoe;simp only at hoe;obtain ⟨cs1,hce,rfl⟩:=qc.1 hc;obtain ⟨_,hsum⟩:=kid_array hl ht hu;cases fuel with
   | zero=>simp [DataW.trod] at h
   | succ fuel =>
    unfold DataW.trod at h;rw [hu] at h;simp only at h;split at h
    ·rename_i hvl;obtain ⟨xs,hxs,rfl⟩:=qc.1 h;obtain ⟨hxl,hget⟩:=qoH hxs;refine glue _ (List.replicate n' (P.cellsOf e)) vals (by simp) (by rw [hvl,hsum]; simp) λj c s hcj hsj=>?_;have hjn:j < n':=by have:=(List.getElem?_eq_some_iff.1 hcj).1; simpa using this
     rw [List.getElem?_replicate,if_pos hjn] at hcj hsj;cases hcj; cases hsj
     obtain ⟨b,hb,hg⟩:=hget j j (by simp [hjn]);have htk:((List.replicate n' (P.cellsOf e)).take j).sum = j * P.cellsOf e:=by
      rw [List.take_replicate]; simp [Nat.min_eq_left (Nat.le_of_lt hjn)]
     rw [htk];exact qjL hl hS d e cs1 hce hoe fuel _ _ (hS.agg _ hx _ (List.mem_map.2 ⟨b,List.mem_of_getElem? hb,rfl⟩)) hg
    ·cases h
  ·cases hc
theorem qB7 (hl:laidOutB P = true) {N:Nat} {S:DataW H->Prop} (hS:Sm N S) {t:TypeId} {τ:Ty} (hτ:qCP P t = some τ) (hok:okT P 10 t = true) {v:Value} {d:DataW H} {ps:List MemPlace} {b0:Nat} (hval:Value.okWide P w .any b0 t v)
  (h:DataW.Trod enc P w base (λ_=>true) held t v d ps) (hd:S d):qw0 N w τ v:=by
 obtain ⟨fuel,hf⟩:=h;unfold qCP at hτ;split at hτ
 ·rename_i cs hc;have hall:=qjL hl hS 10 t cs hc hok fuel _ _ hd hf;split at hτ
  ·rename_i ha;cases hτ;obtain ⟨y,us,hy,hu,hr⟩:=qv4 cs _ hall;have hv:∃ c,v = .agg c:=by
    unfold qS at ha;unfold Value.okWide at hval;split at ha
    ·rename_i fs hfs; rw [hfs] at hval; obtain ⟨c,hc,_⟩:=hval; exact ⟨c,hc⟩
    ·rename_i n e hfs; rw [hfs] at hval; obtain ⟨c,hc,_⟩:=hval; exact ⟨c,hc⟩
    ·cases ha
   obtain ⟨c,rfl⟩:=hv;refine ⟨y,.agg us,hy,hu,?_⟩;simp only [Rep];exact ⟨c.toList,by simp,by simpa [Value.cells] using hr⟩
  ·rename_i ha
   match cs,hτ,hall with
   | τ' :: cs',hτ,hall =>
    simp only [List.head?_cons,qb] at hτ;subst hτ;have hone:=qgP 10 t _ hc τ' (by simp);have hv:v.cells.toList = [v]:=by
     cases v with
     | agg c =>
      exfalso
      unfold qS at ha;unfold Value.okWide at hval;split at hval
      ·rename_i fs hfs; rw [hfs] at ha; simp at ha
      ·rename_i n e hfs; rw [hfs] at ha; simp at ha
      ·unfold Cell.okWide Cell.ok at hval;split at hval;all_goals first | (rename_i h1 h2; cases h2; done) | skip
       all_goals (split at hval <;> first | (exact hval.elim) | (rename_i h1 h2; cases h2))
     | _=>rfl
    rw [hv] at hall;cases hall with
    | cons h1 h2=>exact h1
 ·cases hτ
theorem qtS (hl:laidOutB P = true) {N:Nat} {S:DataW H->Prop} (hS:Sm N S) {b0:Nat}:∀ (ts:List TypeId) (τs:List Ty) (vs:List Value) (ds:List (DataW H)) (ps:List MemPlace),ts.mapM (qCP P) = some τs->ts.all (okT P 10) = true ->
  (∀ (j:Nat) t v,ts[j]? = some t->vs[j]? = some v->Value.okWide P w .any b0 t v)->DataW.TrodAll enc P w base (λ_=>true) held ts vs ds ps->(∀ d ∈ ds,S d) ->
  ∃ x us,qEA N τs x/\RVL (qlT (τs.map .ty) x) us/\RepL w (cx0 w) us vs []
 | [],τs,vs,ds,ps,hm,_,_,h,_=>by
  simp at hm; subst hm;obtain ⟨rfl,_,_⟩:=trodAll_nil h;exact ⟨(),[],trivial,qa7,by simp [RepL]⟩
 | t :: ts,τs,vs,ds,ps,hm,hok,hval,h,hd=>by
  simp only [List.mapM_cons,Option.bind_eq_bind,qd] at hm;obtain ⟨τ,hτ,τs',hm',he⟩:=hm;cases he;simp only [List.all_cons,qe] at hok;obtain ⟨v,vs',d,ds',p,q,rfl,rfl,rfl,h1,h2⟩:=trodAll_cons h;obtain ⟨y,u,hy,hu,hr⟩:=qB7 hl hS hτ hok.1 (hval 0 t v rfl rfl) h1 (hd d (by simp));obtain ⟨x,us,hx,hus,hrs⟩:=qtS hl hS ts τs' vs' ds' q hm' hok.2 (λj t' v' a b=>hval (j + 1) t' v' (by simpa using a) (by simpa using b)) h2 λd' hd'=>hd d' (by simp [hd']);have hR:RepL w (cx0 w) (u :: us) (v :: vs') []:=by simp only [RepL]; exact ⟨v,vs',[],[],rfl,rfl,hr,hrs⟩
  cases τs' with
  | nil=>exact ⟨y,u :: us,hy,(qy.2 ⟨rv_ofTy _ _ _ _ hu,hus⟩:RVL (ofTy τ 1000 y :: []) (u :: us)),hR⟩
  | cons τ2 τs2=>exact ⟨(y,x),u :: us,⟨hy,hx⟩,(qy.2 ⟨rv_ofTy _ _ _ _ hu,hus⟩:RVL (ofTy τ 1000 y :: qlT ((τ2 :: τs2).map .ty) x) (u :: us)),hR⟩
theorem qlQ (hl:laidOutB P = true) {W W':World} (hb:Below W.heap.size W W'):∀ {ts:List TypeId} {vs:List Value} {ds:List (DataW H)} {ps:List MemPlace},ts.all (λt=>P.readableRec t && decide (t < P.types.size)) = true ->
  DataW.TrodAll enc P W 0 (λ_=>true) true ts vs ds ps->(∀ x ∈ ps,x.block < W.heap.size)->∀ sp:Nat->Bool,(∀ p ∈ ps,sp p.block = true)->DataW.TrodAll enc P W' 0 sp true ts vs ds ps
 | [],[],[],ps,_,h,_,sp,_=>h
 | t :: ts,v :: vs,d :: ds,ps,hr,⟨p,q,h1,h2,e⟩,hlt,sp,hsp=>by
  simp only [List.all_cons,qe,decide_eq_true_eq] at hr;subst e;refine ⟨p,q,?_,qlQ hl hb hr.2 h2 (λx hx=>hlt x (List.mem_append_right _ hx)) sp (λx hx=>hsp x (List.mem_append_right _ hx)),rfl⟩;exact WideElems.Trod_stays hl hr.1.1 hr.1.2 h1 (λx hx=>hb.same (hlt x (List.mem_append_left _ hx))) (λx hx=>hsp x (List.mem_append_left _ hx))
theorem qFr {w:World}:LRel [] w (cx0 w) (λ_=>[]) where
 box:=λr c h=>by simp [qb0] at h
 boxD:=λ_ _=>rfl
 inj:=λr r' b h=>by simp [qb0] at h
 lin:=λ_=>Lin.nil
 dis:=λ_ _ _ b hb=>by cases hb
 ptrB:=λr c h=>by simp [qb0] at h
 up:=λr c h=>by simp [qb0] at h
 dom:=λb e fz h=>(qAl h).2.1
theorem qzS {H0:Hints} {lib:FuncId->Option (List V->Option V)} (hm:P.follows .mixedOrders = true) (qdL:qlP P H0)
  (hlib:∀ g h args r,lib g = some h->h args = some r->qdk P g args [] r []) (hl:laidOutB P = true) {N:Nat} {S:DataW H->Prop} (hS:Sm N S) {k:FuncId} {fn:Func} (hfn:P.funcs[k]? = some fn) (hbody:fn.body.isSome = true)
  {ts:List TypeId} {τs:List Ty} (hts:ts.mapM (qCP P) = some τs) (hok:ts.all (okT P 10) = true) {F:denP (τs.map .ty)->Option Bool}
  (he:qfw P H0 lib ⟨k,τs.map .ty,[(.bool,0)],F⟩) (hF:∀ x,qEA N τs x->F x = some true)
  {W:World} {args:Array Value} {ds:List (DataW H)} {ps:List MemPlace} {b0:Nat} (hval:∀ (j:Nat) t v,ts[j]? = some t->args.toList[j]? = some v->Value.okWide P W .any b0 t v)
  (h:DataW.TrodAll enc P W 0 (λ_=>true) true ts args.toList ds ps) (hd:∀ d ∈ ds,S d) :
  Calls P k args W λe W'=>e = .returned (.bool true)/\Below W.heap.size W W':=by
 obtain ⟨x,us,hx,hus,hrs⟩:=qtS hl hS ts τs args.toList ds ps hts hok hval h hd;obtain ⟨v,hcall,hr⟩:=qxI hm qdL hlib he (x:=x) (y:=true) (hF x hx) hus;simp only [qss,ofL,qdG,ofTy,RV,RTy] at hr;subst hr;have hp:ptrsL us = []:=by
  apply List.eq_nil_iff_forall_not_mem.2;intro q hq;have hk:∀ (τs:List Ty) (x:denP (τs.map .ty)),ptrsTL (qlT (τs.map .ty) x) = []:=by
   have h1:∀ (τ:Ty) (y:τ.den),(ofTy τ 1000 y).qm = []/\ptrsTL (ofTyC τ 1000 y) = []:=by
    intro τ;induction τ with
    | pair a b iha ihb=>intro y; simp [ofTy,ofTyC,TV.qm,ptrsTL,(iha y.1).1,(ihb y.2).2]
    | _=>intro y; simp [ofTy,ofTyC,TV.qm,ptrsTL]
   intro τs;induction τs with
   | nil=>intro x; rfl
   | cons τ τs ih =>
    intro x;cases τs with
    | nil=>show ptrsTL [ofTy τ 1000 x] = []; simp [ptrsTL,(h1 τ x).1]
    | cons τ2 τs2=>show ptrsTL (ofTy τ 1000 x.1 :: qlT ((τ2 :: τs2).map .ty) x.2) = []; simp only [ptrsTL,(h1 τ x.1).1,List.nil_append]; exact ih x.2
  have:=RVL.qm _ _ hus q hq;rw [hk] at this; cases this
 rcases hcall W (cx0 W) args.toList (λ_=>[]) hrs qFr (λq hq=>by rw [hp] at hq; cases hq) (λ_ b e fz h=>(qAl h).1) with ⟨_,hc⟩ | ⟨_,v,w',hv,_⟩
 ·refine (by simpa using hc:Calls P k args W _).mono ?_;rintro e W' ⟨v,rfl,X',O',Or,hrep,_,_,_,_,_,_,haft⟩;simp only [Rep] at hrep;obtain ⟨rfl,_⟩:=hrep;refine ⟨rfl,⟨haft.os,haft.tape,haft.out,haft.size,λb hb=>?_⟩⟩;exact (haft.kept b hb (by rintro (⟨r,h1,_⟩ | ⟨r,h1⟩) <;> simp [qb0] at h1)).1
 ·exfalso
  have hbs:fn.body.isNone = false:=by cases hb:fn.body <;> simp_all
  simp only [callFunc,Sem.run_bind,run_program,Result.andThen_ok,hfn,qdL.1 k fn hfn hbody,hbs,qf,if_false,Sem.run_pure] at hv;cases hv
end Go.Tx
end
section
namespace Go.Proofs.YtbcdgfgacigaoaaGreat.Hn
open Go
def qFk:List (List Nat):=[[],[],[],[13,25,26,33],[37,47,49,67,71,76,81,88,91,95,102,110,132,135,138,140,141,147,148,151,152],[27,34,36,44,97,98,101,105,108],[15,25,26,37,68,73],[30,38,42,47,132,137,152,156],[22,28,36,42,43,46,47,54,55,62],[45,51,53,61,64,67,73,75,83,111,121,123,135,140,146,161],[24,30,36,44,50,51,54,55,62,66,76,79,88,92],[53,59,65,77,79,87,90,93,99,101,109,115,121,184,188,189,193],[11,16,21,30,33,35,40,55,64,68,72,76,84,88],[6],[15,34,74,78,87],[],[10],[49,50],[],[6],[13,28,32,37,41,42,47],[],[],[15,30,38,44,46,50,55,59],[13,21],[19,24,26,28,32,33],[],[22,25,30,32,34],[17],[11,19],[10,19],[5,10],[11,17,30],[5,10],[],[],[35,39],[20,48],[10,18,50,52],[78,80],[6],[],[],[18],[20,32],[],[],[],[],[],[33,35],[],[8,17],[11,26,27,41,42],[],[14,24,33,46],[8],[],[],[11],[6,13],[14,21,22,36,37],[13,20,33],[8],[],[],[10],[13],[],[],[],[],[],[9],[12,28],[],[],[],[38,54,73,83,93,95],[13],[6],[],[],[],[12],[26,29,36],[],[],[],[],[25],[51,55,56,59],[48,52,53,56],[33,37,38,41],[],[],[],[10,16],[37],[17,48,59],[],[],[],[],[],[9],[21],[],[5,10],[13],[48,58,64,77],[27,28,55,70],[],[26,45],[11],[34,60],[],[],[],[15,23,29,32],[20,21,24],[],[],[51,76,84],[9,17,18],[],[35],[],[18,44],[33,43,53,71],[15,22],[74],[37],[24,36,37,40],[],[66,91,92],[23],[],[29,39,40,43],[17,20],[30,38,62,64,68],[38,50,57,73],[],[16,17,21,29],[],[],[16,23,31,32,35],[],[],[],[17,20,33],[],[],[],[],[],[17],[8,12],[16],[21,31,37,44,45],[],[],[27],[16,18],[],[],[],[],[],[4],[],[],[56,57,67,74,80],[32,34,41],[],[23,29,30,33],[],[],[],[],[21,22,28],[16,23,31,32,35],[],[17],[25,26],[],[20,26],[],[],[19],[],[12],[17],[25,26],[15],[],[],[],[],[],[],[],[],[],[],[],[],[],[],[],[]]
def qEs:List (List (Nat × List Nat)):=[[],
 [],
 [],
 [],
 [],
 [],
 [],
 [(0,[13,14,15,16,17,60,61,62,63,64,65,66,67,68,69,70,71,72,73,74,75,76,77,78,79,80,81,82,83,84,85,86,87,88,89,90,91,92,93,94,95,96,97,98,99,100,101,102,103,104,105,106,107,108,109,110,111,112,113,114,115,116,117,118,119,120,121,122,123,124,125,126,127,128,129,130,131,132,133,134,135,136,137,138,139,140,141,142,143,144,145,146,147,148,149,150,151,152,153,154,155,156,157,158,159,160,161,162,163,164,165,166,167,168,169,170]),(2,[15,74,75,76,77,78,79,80,81,82,83,84,85,86,87,88,89,90,91,92,93,94,95,96,97,98,99,100,101,102,103,104,105,106,107,108,109,110,111,112,113,114,115,116,117,118,119,120,121,122,123,124,125,126,127,128])],
 [],
 [(0,[17,18,104,105,106,107,108,109,110,111,112,113,114,115,116,117,118,119,120,121,122,123,124,125,126,127,128,129,130,131,132,133,134,135,136]),(2,[17,22,23,155,156,157,158,159,160,161,162,163,164,165,166,167,168,169,170,171,172,173,174,175,176,177,178])],
 [],
 [(0,[22,23,130,131,132,133,134,135,136,137,138,139,140,141,142,143,144,145,146,147,148,149,150,151,152,153,154,155,156,157,158,159,160,161,162,163,164,165,166,167,168,169,170,171,172,173,174,175,176,177,178,179,180]),(2,[23,136,137,138,139,140,141,142,143,144,145,146,147,148,149,150,151,152,153,154,155,156,157,158,159,160,161,162,163,164,165,166,167,168,169,170,171,172,173,174,175,176,177,178,179,180])],
 [],
 [],
 [(0,[11,13,14,39,40,41,42,43,44,45,46,47,48,49,50,51,52,53,54,55])],
 [],
 [],
 [(0,[30,31,32,33,34,35,36,37,38,39,40,41,42,43,44,45,46,47,48])],
 [],
 [],
 [(0,[31,32,33,34,35,36,37,38,39,40,41,42,43,44,45,46])],
 [],
 [],
 [(0,[13,14,31,32,33,34,35,36,37,38,39,40,41,42,43,44,45,46,47,48,49,50,51,52,53,54,55,56,57,58,59])],
 [],
 [(0,[12,13,14,15,16,17,18,19,20,21,22,23,24,25,26,27,28,29,30,31,32])],
 [(0,[11,12,13,14,15,16,17,18,19,20,21,22,23,24,25,26])],
 [(0,[11,12,13,14,15,16,17,18,19,20,21,22,23,24,25,26,27,28,29,30,31,32,33,34])],
 [],
 [(0,[5,6,7,8,9,10,11,12,13,14,15,16,17,18])],
 [],
 [],
 [],
 [],
 [(0,[10,11,12,13,14,15,16,17,18,19,20,21])],
 [(0,[11,12,13,14,15,16,17,18,19,20,21,22,23,24,25])],
 [(0,[7,8,9,10,11,12,13,14,15,16,17,18,19,20,21,22,23,24,25,26,27,28,29,30,31,32,33,34,35,36,37,38]),(2,[15,16,17,18,19,20,21,22,23,24,25,26,27,28,29,30,31,32,33,34])],
 [(0,[14,15,16,17,18,19,20,21,22,23,24,25,26,27,28,29,30,31,32,33,34,35,36,37,38,39,40,41,42,43,44,45,46,47])],
 [],
 [(0,[8,27,28,29,30,31,32,33,34,35,36,37,38,39,40,41,42,43,44,45,46,47,48,49,50,51,52,53,54,55,56,57,58,59,60,61,62,63,64,65,66,67,68,69,70,71,72,73,74,75,76,77]),(2,[33,34,35,36,37,38,39,40,41,42,43,44,45,46,47,48,49,50,51,52,53,54,55,56,57,58,59,60,61,62,63,64,65,66,67,68,69,70,71,72,73,74,75,76,77])],
 [],
 [],
 [],
 [(0,[5,6,7,8,9,10,11,12,13,14,15,16,17])],
 [(0,[14,15,16,17,18,19,20,21,22,23,24,25,26,27,28,29,30,31])],
 [],
 [],
 [],
 [],
 [],
 [(0,[5,6,7,8,9,10,11,12,13,14,15,16,17,18,19,20,21,22,23,24,25,26,27,28,29,30,31,32,33,34]),(2,[13,14,15,16,17,18,19,20,21,22,23,24,25,26,27,28,29,30,31])],
 [],
 [],
 [],
 [],
 [],
 [],
 [],
 [],
 [],
 [],
 [],
 [],
 [],
 [],
 [],
 [],
 [],
 [],
 [(0,[5,10,11,12,13,14,15,16,17,18,19,20,21,22,23,24,25,26,27,28,29,30,31,32,33,34,35])],
 [],
 [],
 [],
 [],
 [(0,[16,17,18,19,20,21,22,23,24,25,26,27,28])],
 [],
 [(0,[11,12,13,14,15,16,17,18,19,20,21,22,23,24,25,26])],
 [(0,[10,11,12,13,14,15,16,17,18,19,20,21])],
 [(0,[7,8,9,10,48,49,50,51,52,53,54,55,56,57,58,59,60,61,62,63,64,65,66,67,68,69,70,71,72,73,74,75,76,77,78,79,80,81,82,83,84,85,86,87,88])],
 [(0,[4,8,9,10,11,12,13,14])],
 [],
 [],
 [],
 [],
 [],
 [(0,[8,9,15,16,17,18,19,20,21,22,23,24,25,26,27,28,29,30,31,32,33,34,35]),(2,[9,19,20,21,22,23,24,25,26,27,28,29,30,31,32,33,34])],
 [],
 [],
 [],
 [],
 [(0,[7,8,9,10,11,12,13,14,15,16,17,18,19,20,21,22,23,24])],
 [(0,[7,8,9,10,11,12,13,14,15,16,17,18,19,20,21,22,23,24,25,26,27,28,29,30,31,32,33,34,35,36,37,38,39,40,41,42,43,44,45,46,47,48,49,50,51,52,53,54,55,56,57,58]),(2,[9,10,19,20,21,22,23,24,25,26,27,28,29,30,31,32,33,34,35,36,37,38,39,40,41,42,43,44,45,46,47,48,49,50,51,52,53,54]),(4,[27,28,29,30,31,32,33,34,35,36,37,38,39,40,41,42,43,44,45,46,47,48,49,50])],
 [(0,[7,8,9,10,11,12,13,14,15,16,17,18,19,20,21,22,23,24,25,26,27,28,29,30,31,32,33,34,35,36,37,38,39,40,41,42,43,44,45,46,47,48,49,50,51,52,53,54,55]),(2,[9,10,17,18,19,20,21,22,23,24,25,26,27,28,29,30,31,32,33,34,35,36,37,38,39,40,41,42,43,44,45,46,47,48,49,50,51]),(4,[25,26,27,28,29,30,31,32,33,34,35,36,37,38,39,40,41,42,43,44,45,46,47])],
 [(0,[5,6,7,8,9,10,11,12,13,14,15,16,17,18,19,20,21,22,23,24,25,26,27,28,29,30,31,32,33,34,35,36,37,38,39,40]),(2,[7,14,15,16,17,18,19,20,21,22,23,24,25,26,27,28,29,30,31,32,33,34,35,36])],
 [],
 [],
 [],
 [],
 [(0,[9,10,18,19,20,21,22,23,24,25,26,27,28,29,30,31])],
 [(0,[7,8,9,10,14,15,16,17,18,19,20,21,22,23,24,25,26,27,28,29,30,31,32,33,34,35,36,37,38,39,40,41,42,43,44,45,46,47,48,49,50,51,52,53,54,55,56,57,58]),(2,[7,9,10,20,21,22,23,24,25,26,27,28,29,30,31,32,33,34,35,36,37,38,39,40,41,42,43,44,45,46,47])],
 [],
 [],
 [],
 [],
 [],
 [],
 [(0,[15,16,17,18,19,20,21,22,23,24,25,26,27,28,29,30,31,32])],
 [(0,[15,16,17,18,19,20,21,22,23,24,25,26,27])],
 [],
 [],
 [(0,[8,9,10,13,14,16,25,26,27,28,29,30,31,32,33,34,35,36,37,38]),(2,[9,13,14,15,16,45,46,47,48,49,50,51,52,53,54,55,56,57,58,59,60,61,62,63,64,65,66,67,68,69,70,71,72,73,74,75,76]),(4,[9,13,15,16,51,52,53,54,55,56,57,58,59,60,61,62,63])],
 [],
 [],
 [(0,[5,12,13,14,15,16,17,18,19,20,21,22,23,24,25,26,27,28,29,30,31,32,33,34,35,36,37,38,39,40,41,42,43,44,45]),(2,[27,28,29,30,31,32,33,34,35,36,37,38,39,40,41,42,43,44,45])],
 [],
 [(0,[11,22,23,24,25,26,27,28,29,30,31,32,33,34,35,36,37,38,39,40,41,42,43,44,45,46,47,48,49,50,51,52,53,54,55,56,57,58,59])],
 [],
 [],
 [],
 [(0,[4,5,6,7,11,12,13,14,15,16,17,18,19,20,21,22,23,24,25,26,27,28,29,30,31]),(2,[5,7,18,19,20,21,22,23,24,25,26,27])],
 [(0,[7,8,9,10,11,12,13,14,15,16,17,18,19,20,21,22,23])],
 [],
 [],
 [(0,[7,8,9,19,20,21,22,23,24,25,26,27,28,29,30,31,32,33,34,35,36,37,38,39,40,41,42,43,44,45,46,47,48,49,50,51,52,53,54,55,56,57,58,59,60,61,62,63,64,65,66,67,68,69,70,71,72,73,74,75,76,77,78]),(2,[9,26,27,28,29,30,31,32,33,34,35,36,37,38,39,40,41,42,43,44,45,46,47,48,49,50,51,52,53,54,55,56,57,58,59,60,61])],
 [(0,[7,8,9,10,11,12,13,14,15,16])],
 [],
 [],
 [],
 [(0,[7,9,10,15,16,17,18,19,20,21,22,23,24,25,26,27,28,29,30,31,32]),(2,[7,9,10,21,22,23,24,25,26,27,28,29,30,31])],
 [(0,[7,10,29,30,31,32,33,34,35,36,37,38,39,40]),(2,[7,10,12,50,51,52,53,54,55,56,57,58,59,60,61,62,63,64,65,66,67,68,69,70]),(4,[7,10,12,56,57,58,59,60,61,62,63,64,65,66,67,68,69])],
 [(0,[6,7,11,12,13,14,15,16,17,18,19,20,21,22,23])],
 [(0,[18,19,20,21,22,23,24,25,26,27,28,29,30]),(2,[8,33,34,35,36,37,38,39,40,41,42,43,44,45,46,47,48,49,50,51,52,53,54,55,56,57,58,59,60,61,62,63,64,65,66,67,68,69,70,71,72,73]),(4,[38,39,40,41,42,43,44,45,46,47,48,49,50,51,52,53,54,55,56,57,58,59,60,61,62,63,64,65,66,67,68,69,70,71,72,73])],
 [(0,[6,7,8,9,10,11,12,13,14,15,16,17,18,19,20,21,22,23,24,25,26,27,28,29,30,31,32,33,34,35,36,37]),(2,[13,14,15,16,17,18,19,20,21,22,23,24,25,26,27,28,29,30,31,32,33,34,35,36,37])],
 [(0,[7,8,9,10,11,12,13,14,15,16,17,18,19,20,21,22,23,24,25,26,27,28,29,30,31,32,33,34,35,36,37,38,39]),(2,[15,16,17,18,19,20,21,22,23,24,25,26,27,28,29,30,31,32,33,34,35])],
 [(0,[4,5,6,24,25,26,27,28,29,30,31,32,33,34,35,36,37,38,39,40,41,42,43,44,45,46,47,48,49,50,51,52,53,54,55,56,57,58,59,60,61,62,63,64,65,66,67,68,69,70,71,72,73,74,75,76,77,78,79,80,81,82,83]),(2,[64,65,66,67,68,69,70,71,72,73,74,75,76,77,78,79,80,81,82,83])],
 [(0,[7,10,13,14,15,16,17,18,19,20,21,22,23,24,25,26,27,28,29,30,31,32,33,34,35,36,37,38,39,40,41,42,43,44,45,46]),(2,[10,19,20,21,22,23,24,25,26,27,28,29,30,31,32,33,34,35,36,37,38,39,40,41,42,43,44,45,46]),(4,[10,11,51,52,53,54,55,56,57,58,59,60,61,62,63,64,65,66,67,68,69,70,71,72,73,74,75,76,77,78,79,80,81,82,83,84,85,86,87,88,89,90,91,92,93,94,95]),(6,[57,58,59,60,61,62,63,64,65,66,67,68,69,70,71,72,73,74,75,76,77,78,79,80,81,82,83,84,85,86,87,88,89])],
 [(0,[4,5,13,14,15,16,17,18,19,20,21,22,23,24,25,26,27,28,29,30,31,32])],
 [],
 [(0,[9,10,11,12,13,14,15,16,17,18,19,20,21,22,23,24,25,26,27,28,29,30,31,32,33,34,35,36,37,38,39,40,41,42]),(2,[20,21,22,23,24,25,26,27,28,29,30,31,32,33,34,35,36,37,38])],
 [],
 [(0,[5,6,7,12,13,14,15,16,17,18,19,20,21,22,23,24,25,26,27,28,29,30,31,32,33,34,35,36,37,38,39,40,41,42,43,44,45,46,47,48,49,50,51,52,53,54,55,56,57,58,59,60,61,62,63,64,65,66,67]),(2,[7,36,37,38,39,40,41,42,43,44,45,46,47,48,49,50,51,52,53,54,55,56,57,58,59,60,61])],
 [(0,[60,61,62,63,64,65,66,67,68,69,70,71,72])],
 [],
 [(0,[6,7,12,13,14,15,16,17,18,19,20,21,22,23,24,25,26,27,28])],
 [(0,[11,12,13,14,15,16,17,18,19,20,21,22,23,24,25])],
 [],
 [(0,[5,6,8,12,13,14,15,16,17,18,19,20,21,22]),(2,[5,8,28,29,30,31,32,33,34])],
 [],
 [],
 [],
 [(0,[8,9,13,14,15,16,17,18,19,20,21,22,23,24,25,26,27,28,29,30,31,32])],
 [(0,[5,9,10,11,12,13,14,15,16,17,18]),(2,[12,13,14,15,16,17])],
 [],
 [(0,[8,12,13,14,15,16,17,18,19,20,21,22,23,24,25])],
 [],
 [(0,[5,6,7,8,9,10])],
 [(0,[5,9,10,11,12,13,14,15,16,17,18])],
 [],
 [(0,[4,5,9,10,11,12,13,14,15,16,17,18,19,20,21,22])],
 [(0,[5,6,7,8,25,26,27,28,29,30,31,32,33,34,35,36,37,38,39,40,41,42,43,44,45,46])],
 [],
 [],
 [],
 [],
 [],
 [],
 [],
 [],
 [],
 [],
 [],
 [(0,[5,10,11,12,13,14,15,16,17,18,19,20,21])],
 [(0,[8,9,10,25,26,27,28,29,30,31,32,33,34,35,36,37,38,39,40,41,42,43,44,45,46,47,48,49,50,51,52,53,54,55,56,57,58,59,60,61,62,63,64,65,66,67,68,69,70,71]),(2,[10,38,39,40,41,42,43,44,45,46,47,48,49,50,51,52,53,54,55,56,57,58])],
 [(0,[8,9,10,11,12,13,14,15,16,17,18,19,20,21,22,23,24,25,26,27,28,29,30,31,32,33,34,35,36,37,38,39,40])],
 [(0,[19,20,21,22,23,24,25,26,27,28,29,30,31,32,33,34,35,36,37,38,39,40])],
 [(0,[8,9,10,11,12,13,14,15,16,17,18,19,20,21,22,23,24,25,26,27,28,29,30,31,32])],
 [],
 [(0,[5,14,15,16,17,18,19,20,21,22,23,24,25])],
 [],
 [],
 [(0,[6,18,19,20,21,22,23,24,25,26,27])],
 [(0,[5,6,8,12,13,14,15,16,17,18,19,20,21,22]),(2,[5,8,28,29,30,31,32,33,34])],
 [],
 [(0,[5,9,10,11,12,13,14,15,16,17,18])],
 [],
 [],
 [(0,[8,9,14,15,16,17,18,19,20,21,22,23,24,25,26,27,28,29,30,31,32,33])],
 [],
 [],
 [(0,[6,7,8,9,10,11,12,13,14,15,16,17])],
 [],
 [],
 [(0,[5,9,10,11,12,13,14,15,16,17,18])],
 [],
 [],
 [],
 [],
 [],
 [],
 [],
 [],
 [],
 [],
 [],
 [],
 [],
 [],
 [],
 [],
 [],
 []]
def qFC:List (List Nat):=[[],[],[],[],[],[],[],[],[],[133,136],[],[164,166,167,178],[],[],[],[],[],[],[],[],[],[],[],[],[],[],[],[],[],[],[],[],[],[],[],[],[],[],[],[39,41,42,77],[],[],[],[],[],[],[],[],[],[],[],[],[],[],[],[],[],[],[],[],[],[],[],[],[],[],[],[],[],[],[],[],[],[],[],[],[],[],[],[],[],[],[],[],[],[21,23,25,26,33],[],[],[],[],[],[],[],[],[],[],[],[],[22,30],[],[],[],[],[],[],[],[],[],[],[],[29,37],[],[],[],[],[],[],[],[],[],[15,19],[],[],[53,61,62,78],[],[],[],[],[],[],[],[],[],[],[],[],[],[],[],[],[],[],[],[],[],[],[],[],[],[],[],[],[],[],[],[],[],[],[],[],[],[],[],[],[],[],[],[],[],[],[],[],[59,62],[],[],[],[],[],[],[],[],[],[],[],[],[],[],[],[],[],[],[],[],[],[],[],[],[],[],[],[],[],[],[],[],[],[],[],[],[],[]]
def qCv:List Nat:=[101,146,181,184,193]
def qFu:List Nat:=[85,161,185]
def qFA:List Nat:=[]
def qAj:List Nat:=[]
def qEk:List (Nat × List (Nat × List Nat)):=[]
def qEN (f:Nat):Option (List Int->Option (List Int)):=none
def qEu:List (List (Nat × List (Nat × Nat))):=[[],
 [],
 [],
 [(9,[(3,4),(3,6),(11,13)])],
 [(1,[(1,3)]),(6,[(0,7),(1,7),(3,7),(5,7)]),(7,[(0,7),(1,7),(3,7),(5,7)])],
 [(7,[(0,3),(1,3),(2,3)])],
 [(12,[(1,4),(2,4),(1,8),(2,8),(4,8),(5,8)])],
 [(23,[(3,10),(6,10),(3,12),(6,12),(10,12),(11,12)]),(26,[(3,6),(4,6),(11,14),(12,14)]),(28,[(0,5),(3,5),(4,5),(0,10),(3,10),(4,10),(5,10)]),(29,[(5,6),(5,12),(6,12),(7,12),(9,12),(10,12)])],
 [(6,[(0,2),(1,2)]),(13,[(3,4),(3,5)])],
 [(8,[(0,2),(1,2)]),(14,[(0,2),(1,2)]),(23,[(1,3),(1,6)])],
 [(7,[(1,2)]),(14,[(3,5)])],
 [(11,[(1,2)]),(17,[(1,2)]),(31,[(3,14),(7,14),(3,22),(7,22),(14,22),(18,22)]),(32,[(3,8),(3,11),(3,12),(8,12),(11,12),(3,13)])],
 [],
 [],
 [(9,[(2,6),(4,6),(2,8),(4,8),(2,9),(4,9)]),(16,[(2,12),(3,12),(5,12),(7,12),(10,12)])],
 [(1,[(1,4),(2,4)])],
 [],
 [(8,[(4,8),(4,9)]),(9,[(2,4)])],
 [],
 [],
 [],
 [(1,[(1,4),(2,4)])],
 [],
 [],
 [],
 [],
 [(6,[(3,7)])],
 [],
 [],
 [],
 [],
 [],
 [],
 [],
 [],
 [(6,[(3,7)])],
 [(9,[(0,4),(0,7),(0,11),(4,11),(7,11),(0,12)])],
 [(6,[(2,5),(2,10),(5,10),(2,14),(5,14),(10,14),(2,17),(5,17),(10,17),(14,17),(2,22),(5,22),(10,22),(14,22),(17,22)])],
 [(5,[(1,7),(3,7),(5,7),(1,10),(3,10),(5,10),(7,10),(1,15),(3,15),(5,15),(7,15),(10,15),(11,15),(1,17),(3,17),(5,17),(7,17),(10,17),(11,17),(15,17),(16,17),(1,18),(3,18),(5,18),(7,18),(10,18),(11,18),(15,18),(16,18),(17,18)])],
 [(11,[(3,8),(3,11),(3,14),(8,14),(11,14),(3,18),(8,18),(11,18),(14,18),(3,22),(8,22),(11,22),(14,22),(3,26),(8,26),(11,26),(14,26),(18,26),(22,26),(3,30),(8,30),(11,30),(14,30),(18,30),(22,30),(26,30),(3,34),(8,34),(11,34),(14,34),(18,34),(22,34),(26,34),(3,37)])],
 [],
 [],
 [],
 [],
 [(6,[(4,8)])],
 [(1,[(1,3),(1,6),(3,6),(4,6),(1,8),(3,8),(4,8),(6,8)])],
 [],
 [(1,[(1,3),(1,6),(3,6),(4,6),(1,8),(3,8),(4,8),(6,8),(1,12),(3,12),(4,12),(6,12),(8,12),(9,12),(10,12),(1,14),(3,14),(4,14),(6,14),(8,14),(9,14),(10,14),(12,14)])],
 [(1,[(1,3),(1,6),(3,6),(4,6),(1,8),(3,8),(4,8),(6,8)])],
 [],
 [],
 [],
 [(5,[(1,3),(1,6),(3,6),(4,6)])],
 [(6,[(1,3),(1,6),(3,6),(4,6),(1,8),(3,8),(4,8),(6,8)])],
 [(1,[(1,3),(1,4)])],
 [(4,[(0,2),(0,4)]),(7,[(1,3),(1,5),(3,5),(1,6)]),(8,[(2,4),(2,7),(4,7),(5,7)])],
 [],
 [],
 [(2,[(1,4),(1,6),(4,6)])],
 [],
 [(4,[(1,7),(1,8)])],
 [(7,[(2,8),(3,8),(6,8)])],
 [(7,[(2,7),(3,7)])],
 [],
 [(2,[(0,4),(1,4),(3,4)])],
 [(2,[(1,4),(1,5)])],
 [],
 [],
 [],
 [(7,[(2,8),(5,8),(2,9),(5,9),(2,11),(5,11),(8,11),(9,11),(10,11)])],
 [],
 [],
 [],
 [],
 [],
 [],
 [(6,[(3,7)])],
 [],
 [(1,[(6,9),(1,15),(6,15),(9,15),(13,15)]),(16,[(0,1),(0,2),(1,2),(0,5),(1,5),(1,6)])],
 [],
 [],
 [],
 [],
 [],
 [(2,[(1,2),(1,3)])],
 [(8,[(5,9)])],
 [],
 [],
 [],
 [(1,[(0,2),(0,4)])],
 [],
 [(13,[(0,4),(0,7),(0,11),(4,11),(7,11),(0,14),(4,14),(7,14),(0,15),(4,15),(7,15),(0,16)])],
 [(13,[(0,4),(0,7),(0,11),(4,11),(7,11),(0,14),(4,14),(7,14),(0,15)])],
 [],
 [],
 [],
 [],
 [(2,[(0,4),(0,6),(0,9),(4,9),(6,9),(0,11),(0,13)])],
 [(5,[(5,6)])],
 [(9,[(2,5),(2,12),(5,12),(2,18),(5,18),(12,18)])],
 [],
 [],
 [],
 [(1,[(1,3),(1,5),(3,5),(4,5)])],
 [],
 [],
 [(6,[(4,8)])],
 [],
 [],
 [],
 [(5,[(2,6)]),(16,[(0,1),(0,5),(1,5),(0,6)]),(18,[(3,7),(4,7)])],
 [(1,[(1,4),(2,4),(1,7),(2,7),(4,7),(5,7),(1,10),(2,10),(4,10),(5,10),(7,10)]),(6,[(6,8),(2,15),(6,15),(8,15),(10,15),(13,15),(2,17),(6,17),(8,17),(10,17),(13,17),(15,17),(2,26),(6,26),(8,26),(10,26),(13,26),(15,26),(17,26),(18,26),(21,26),(24,26)])],
 [],
 [],
 [],
 [(2,[(1,2),(1,5)]),(8,[(5,8),(5,16),(8,16),(11,16),(5,19),(8,19),(11,19),(16,19)])],
 [],
 [(1,[(0,2),(0,4)])],
 [(1,[(0,4),(3,4)])],
 [],
 [],
 [(1,[(1,4),(2,4)])],
 [],
 [(9,[(5,7),(5,10),(5,12),(7,12),(10,12),(5,15),(7,15),(10,15)]),(11,[(3,9),(3,13)])],
 [],
 [(2,[(0,2),(1,2)]),(4,[(0,1)]),(6,[(0,1),(0,3),(1,3),(2,3),(0,4),(1,4),(2,4),(3,4)])],
 [(6,[(1,3),(1,5),(3,5),(1,6)]),(11,[(1,3),(1,5),(3,5),(1,6)]),(12,[(1,3),(1,5),(3,5),(1,6)])],
 [],
 [(11,[(0,2),(0,4)])],
 [(1,[(1,5),(2,5),(3,5)])],
 [],
 [(19,[(2,11),(5,11),(9,11),(2,14),(5,14),(9,14),(2,18),(5,18),(9,18)])],
 [(7,[(3,10),(6,10),(3,13),(6,13)])],
 [(9,[(4,8),(7,8)])],
 [(8,[(1,6),(4,6),(1,9),(4,9)])],
 [(8,[(4,12),(8,12),(4,16),(8,16)]),(17,[(4,14),(8,14),(4,18),(8,18)])],
 [],
 [],
 [],
 [(5,[(2,5)])],
 [(5,[(3,6)]),(12,[(3,7),(3,12),(7,12),(3,18),(7,18),(12,18)])],
 [(3,[(6,9),(1,15),(6,15),(9,15),(13,15),(1,20),(6,20),(9,20),(13,20),(15,20),(18,20),(1,29),(6,29),(9,29),(13,29),(15,29),(18,29),(20,29),(21,29),(24,29),(25,29),(27,29),(1,31),(6,31),(9,31),(13,31),(15,31),(18,31),(20,31),(21,31),(24,31),(25,31),(27,31),(29,31)])],
 [],
 [],
 [(6,[(3,7)])],
 [],
 [],
 [],
 [(2,[(2,6),(3,6)])],
 [(1,[(0,5),(3,5),(4,5),(0,8),(3,8),(4,8),(5,8),(6,8),(7,8)])],
 [],
 [],
 [],
 [(5,[(0,1),(0,4),(0,5),(1,5),(4,5),(0,8),(0,9)])],
 [],
 [],
 [],
 [],
 [(3,[(1,2),(1,5)])],
 [],
 [],
 [(1,[(4,8),(4,12),(8,12),(4,17),(8,17),(12,17),(14,17),(4,22),(8,22),(12,22),(14,22),(17,22)])],
 [],
 [],
 [],
 [(1,[(0,4),(3,4)])],
 [],
 [(1,[(0,1),(0,2)])],
 [],
 [],
 [],
 [(1,[(0,2),(1,2)]),(3,[(0,1),(0,2),(1,2),(0,3),(0,4),(1,4),(2,4),(3,4),(0,5),(0,7),(1,7),(2,7),(3,7),(4,7),(5,7),(6,7)]),(4,[(0,1),(1,2)])],
 [(18,[(0,1)])],
 [],
 [(8,[(3,7)]),(10,[(3,7)])],
 [(6,[(3,6)])],
 [(1,[(0,8),(3,8),(7,8),(0,10),(3,10),(7,10),(8,10),(0,13),(3,13),(7,13),(8,13),(0,17),(3,17),(7,17),(8,17),(0,18),(3,18),(7,18),(8,18),(10,18),(13,18),(17,18)])],
 [(6,[(3,7)])],
 [],
 [],
 [],
 [],
 [],
 [],
 [],
 [],
 [(5,[(0,1),(0,4),(0,7),(0,11),(1,11),(4,11),(7,11),(0,12),(1,12),(4,12),(7,12),(0,13)])],
 [],
 [],
 [],
 [],
 [],
 [],
 [],
 [],
 [],
 [],
 [],
 [],
 [],
 [],
 [],
 [],
 [],
 [],
 [],
 [],
 [],
 [],
 [],
 []]
def qE4:List (Nat × List (Nat × Nat))->Nat->List (Nat × Nat)
 | [],_=>[]
 | (k,c) :: l,b=>if k = b then c else qE4 l b
def look:List (Nat × List Nat)->Nat->List Nat
 | [],_=>[]
 | (k,c) :: l,b=>if k = b then c else look l b
def qEK:List (Nat × List (Nat × List Nat))->Nat->List (Nat × List Nat)
 | [],_=>[]
 | (k,c) :: l,b=>if k = b then c else qEK l b
def hints:Ab.Hints:={
 take:=λf t=>(qFk.getD f []).contains t
 clear:=λf b=>look (qEs.getD f []) b
 precise:=λf=>qCv.contains f
 pairs:=λf b=>qE4 (qEu.getD f []) b
 link:=λf t=>(qFC.getD f []).contains t
 qlj:=λf=>qFu.contains f
 mapT:=λt=>qFA.contains t
 born:=λf=>qAj.contains f
 turn:=qEN
 pre:=λf b=>look (qEK qEk f) b }
end Go.Proofs.YtbcdgfgacigaoaaGreat.Hn
end
section
namespace Go.Ab
open Go
variable {P:Program}
def qwA:Value->Value->Bool
 | .int k n,.int k' n'=>decide (k = k') && decide (n = n')
 | .bool b,.bool b'=>b == b'
 | .slice none 0 0,.slice none 0 0=>true
 | .string s,.string s'=>decide (s.data.toList = s'.data.toList)
 | _,_=>false
mutual
def V.same:V->V->Bool
 | .val a,.val b=>qwA a b
 | .sl f c l,.sl f' c' l'=>decide (f = f') && c == c' && sameL l l'
 | .agg l,.agg l'=>sameL l l'
 | .tuple l,.tuple l'=>sameL l l'
 | _,_=>false
def sameL:List V->List V->Bool
 | [],[]=>true
 | x :: l,y :: l'=>x.same y && sameL l l'
 | _,_=>false
end
theorem qye {a b:Value} (h:qwA a b = true):a = b:=by
 unfold qwA at h;split at h
 ·simp_all
 ·simp_all
 ·rfl
 ·rename_i s s';have h1:=of_decide_eq_true h;obtain ⟨⟨l⟩⟩:=s;obtain ⟨⟨l'⟩⟩:=s';simp only at h1;rw [h1]
 ·cases h
mutual
theorem same_eq:∀ (x y:V),x.same y = true->x = y
 | .val a,y,h=>by cases y <;> simp only [V.same] at h <;> first | (rw [qye h]) | cases h
 | .sl f c l,y,h=>by
  cases y <;> simp only [V.same] at h <;> try (cases h; done)
  simp only [qe,decide_eq_true_eq,beq_iff_eq] at h;rw [h.1.1,h.1.2,sameL_eq _ _ h.2]
 | .agg l,y,h=>by
  cases y <;> simp only [V.same] at h <;> try (cases h; done)
  rw [sameL_eq _ _ h]
 | .tuple l,y,h=>by
  cases y <;> simp only [V.same] at h <;> try (cases h; done)
  rw [sameL_eq _ _ h]
 | .undef,y,h | .ptr ..,y,h | .cptr ..,y,h | .fn ..,y,h | .yld _,y,h | .mref _,y,h | .bsl ..,y,h | .mp _,y,h | .iface ..,y,h | .lp ..,y,h | .room ..,y,h=>by cases y <;> simp [V.same] at h
theorem sameL_eq:∀ (l m:List V),sameL l m = true->l = m
 | [],[],_=>rfl
 | [],y :: m,h=>by simp [sameL] at h
 | x :: l,[],h=>by simp [sameL] at h
 | x :: l,y :: m,h=>by
  simp only [sameL,qe] at h;rw [same_eq x y h.1,sameL_eq l m h.2]
end
structure Ran where
 g:FuncId
 args:List V
 r:V
def qDL (t:List Ran) (g:FuncId):Option (List V->Option V) :=
 if t.any (λe=>decide (e.g = g)) then some (λargs=>(t.find? λe=>decide (e.g = g) && sameL e.args args).map (·.r)) else none
theorem qBm {t:List Ran} (h:∀ e ∈ t,qdk P e.g e.args [] e.r []):∀ g f args r,qDL t g = some f->f args = some r->qdk P g args [] r []:=by
 intro g f args r hf hr;unfold qDL at hf;split at hf
 ·cases hf;obtain ⟨e,he,rfl⟩:=qc.1 hr;have h1:=List.find?_some he;simp only [qe,decide_eq_true_eq] at h1;rw [<- h1.1,<- sameL_eq _ _ h1.2];exact h e (List.mem_of_find?_eq_some he)
 ·cases hf
theorem qq3 {H:Hints} (hm:P.follows .mixedOrders = true) (qdL:qlP P H) {t:List Ran} (ht:∀ e ∈ t,qdk P e.g e.args [] e.r []) (n:Nat) (e:Ran)
  (h:(match (qu5 P H (qDL t) n).call e.g e.args [] with | some (r,[])=>r.same e.r | _=>false) = true):qdk P e.g e.args [] e.r []:=by
 split at h
 ·rename_i r hr;rw [<- same_eq _ _ h];exact (qvA hm qdL (qBm ht) n).call _ _ _ _ _ hr
 ·cases h
end Go.Ab
end
section
namespace Go.Proofs.YtbcdgfgacigaoaaGreat
open Go Go.Ab
theorem turns:qse Tryz.prog Hn.hints:=λg F h=>by simp only [Hn.hints,Hn.qEN] at h; cases h
theorem follows:Tryz.prog.follows .mixedOrders = true:=by kernel_rfl
theorem qDP : (Tryz.prog.funcs.toList.all fun fn => !fn.body.isSome || !(fn.name == "runtime.NumGoroutine")) = true := by kernel_rfl
theorem qdL:qlP Tryz.prog Hn.hints:=⟨λg fn h hb=>by
 have:=List.all_eq_true.1 qDP fn (by rw [Array.mem_toList_iff]; exact Array.mem_of_getElem? h);rw [hb] at this;simpa using this,turns⟩
def vi (n:Int):V:=.val (.int .i64 n)
def r0:Ran:=⟨59,[.sl .shared false [.sl .shared false [.agg [vi (1),vi (0)],.agg [vi (0),vi (1)]],.sl .shared false [.agg [vi (0),vi (0)],.agg [vi (2),vi (0)]]]],.tuple [.agg [vi (2),.sl .own false [.sl .own false [.agg [vi (2),vi (0)],.agg [vi (0),vi (-1)]],.sl .own false [.agg [vi (0),vi (0)],.agg [vi (1),vi (0)]]]],vi (0)]⟩
theorem qFn:qdk Tryz.prog r0.g r0.args [] r0.r []:=qq3 (t:=[]) (H:=Hn.hints) follows qdL (by simp) 200 r0 (by kernel_rfl)
def r1:Ran:=⟨14,[.agg [.sl .shared false [.sl .shared false [.agg [vi (1),vi (0)]],.sl .shared false [.agg [vi (0),vi (1)]],.sl .shared false [.agg [vi (2),vi (0)]]],.sl .shared false [.sl .shared false [.agg [vi (2),vi (0)]],.sl .shared false [.agg [vi (0),vi (2)]],.sl .shared false [.agg [vi (5),vi (0)]]]],vi (0)],.tuple [.agg [vi (98),vi (99)],vi (0)]⟩
theorem qFx:qdk Tryz.prog r1.g r1.args [] r1.r []:=qq3 (t:=[]) (H:=Hn.hints) follows qdL (by simp) 200 r1 (by kernel_rfl)
def r2:Ran:=⟨23,[.agg [.sl .shared false [.sl .shared false [.agg [vi (2),vi (0)]]],.sl .shared false [.sl .shared false [.agg [vi (1),vi (0)]]],vi (1),vi (2),vi (3)],.sl .shared false [.agg [vi (10),vi (0)]],.sl .shared false [.agg [vi (0),vi (0)]],vi (0)],.tuple [vi (2),vi (0)]⟩
theorem qFo:qdk Tryz.prog r2.g r2.args [] r2.r []:=qq3 (t:=[]) (H:=Hn.hints) follows qdL (by simp) 200 r2 (by kernel_rfl)
def r3:Ran:=⟨73,[.sl .shared false [vi (2),vi (-2),vi (1)]],.tuple [.sl .own false [.sl .qah false [vi (2),vi (-2),vi (1)],.sl .qah false [vi (3),vi (-2)],.sl .own false [vi (1)]],vi (0)]⟩
theorem qFv:qdk Tryz.prog r3.g r3.args [] r3.r []:=qq3 (t:=[]) (H:=Hn.hints) follows qdL (by simp) 200 r3 (by kernel_rfl)
def r4:Ran:=⟨74,[.agg [.sl .shared false [vi (4),vi (0),vi (0)],.sl .shared false [vi (0),vi (0),vi (1)],vi (1),vi (6)]],.tuple [vi (4),vi (0)]⟩
theorem qFE:qdk Tryz.prog r4.g r4.args [] r4.r []:=qq3 (t:=[]) (H:=Hn.hints) follows qdL (by simp) 200 r4 (by kernel_rfl)
def rs:List Ran:=[r0,r1,r2,r3,r4]
theorem qFl:∀ e ∈ rs,qdk Tryz.prog e.g e.args [] e.r []:=by
 intro e he;simp only [rs,List.mem_cons,List.mem_nil_iff,or_false] at he;rcases he with rfl | rfl | rfl | rfl | rfl
 ·exact qFn
 ·exact qFx
 ·exact qFo
 ·exact qFv
 ·exact qFE
def aw:Ran:=⟨12,[],.val (.bool true)⟩
theorem qCD:qdk Tryz.prog 12 [] [] (.val (.bool true)) []:=qq3 (H:=Hn.hints) follows qdL qFl 200 aw (by kernel_rfl)
end Go.Proofs.YtbcdgfgacigaoaaGreat
end
section
namespace Go.Tx
open Go Go.Ab Go.RowKit Go.ChangeShapes Go.WideShapes Go.Deep
section
variable {H:Type} {enc:TypeId × Value->H} {P:Program}
theorem qsh {f:Func} {s:ChangeSpec} {apart fresh handsOn again:Bool} {W W':World} {args:Array Value} {v:Value} {ds gs:List (DataW H)} {before pa pv:List MemPlace}
  (hW:DataW.Whole enc P f.params.toList s.vars apart W args.toList ds gs before)
  (hres:∀ (b:Nat) (sp:Nat->Bool) (hd:Bool),DataW.TrodAll enc P W' b sp hd f.resultTypes.toList (v.resultList f.resultTypes.size) (s.fn H (ds ++ gs)).results [])
  (hargs:∀ sp:Nat->Bool,(∀ p ∈ before,sp p.block = true)->DataW.TrodAll enc P W' 0 sp true f.params.toList args.toList (s.fn H (ds ++ gs)).args pa)
  (hvars:∀ sp:Nat->Bool,(∀ p ∈ before,sp p.block = true)->DataW.TrodVars enc P W' sp s.vars (s.fn H (ds ++ gs)).vars pv)
  (hps:before = pa ++ pv) (hb:Below W.heap.size W W')
  (hok:∀ (j:Nat) (t:TypeId) (r:Value),f.resultTypes[j]? = some t->(v.resultList f.resultTypes.size)[j]? = some r->Value.okWide P W' .any 0 t r) :
  s.post enc P f apart fresh handsOn again W args v W':=by
 have hlt:∀ p ∈ before,p.block < W.heap.size:=λp hp=>hW.lt p hp;have hold:∀ p ∈ before,(λb=>decide (b < W.heap.size)) p.block = true:=λp hp=>by simpa using hlt p hp
 refine ⟨ds,gs,before,[],pa,pv,hW,hres _ _ _,hargs _ hold,hvars _ hold,World.keptBut_mono (λp hp=>⟨hp,?_⟩) (hb.frame (· ∈ before)),λ_=>?_⟩
 ·rw [hps,List.mem_append] at hp;exact Or.inr hp
 ·obtain ⟨_,_,_,_,_,hz,hn⟩:=hW;refine ⟨hok,_,_,([] ++ pa) ++ pv,⟨[] ++ pa,pv,trodAll_append (hargs _ (λ_ _=>rfl)) (hres _ _ _),hvars _ (λ_ _=>rfl),rfl,?_,?_⟩,?_⟩
  ·intro b off hp;have hin:MemPlace.cell b off ∈ before:=by rw [hps]; simpa using hp
   rw [hb.frozen (hlt _ hin)];exact hz b off hin
  ·intro ha;have:=hn ha;rw [hps] at this;simpa using this
  ·intro p hp _;rw [hps];simpa using hp
theorem qqb:∀ {ts:List TypeId} {vs:List Value} {ds:List (DataW H)} {ps:List MemPlace} {w:World} {b:Nat} {sp:Nat->Bool} {hd:Bool},DataW.TrodAll enc P w b sp hd ts vs ds ps->ds.length = ts.length
 | [],[],[],_,_,_,_,_,_=>rfl
 | [],[],d :: ds,_,_,_,_,_,h=>h.elim
 | [],v :: vs,_,_,_,_,_,_,h=>by cases h
 | t :: ts,[],_,_,_,_,_,_,h=>by cases h
 | t :: ts,v :: vs,[],_,_,_,_,_,h=>by cases h
 | t :: ts,v :: vs,d :: ds,ps,w,b,sp,hd,⟨p,q,h1,h2,e⟩=>by simp [qqb h2]
end
theorem qEC {H:Type}:Sm (H:=H) maxLen (λ_=>True) where
 slice:=λes sp _ h=>⟨h,λ_ _=>trivial⟩
 agg:=λ_ _ _ _=>trivial
 str:=λ_ _ h=>h
theorem quE {P:Program} {H0:Hints} {lib:FuncId->Option (List V->Option V)} (hm:P.follows .mixedOrders = true) (qdL:qlP P H0)
  (hlib:∀ g h args r,lib g = some h->h args = some r->qdk P g args [] r []) (hl:laidOutB P = true) {k:FuncId} {fn:Func} (hfn:P.funcs[k]? = some fn) (hbody:fn.body.isSome = true)
  {ts:List TypeId} {τs:List Ty} (hps:fn.params.toList = ts) (hts:ts.mapM (qCP P) = some τs) (hok:ts.all (okT P 10) = true) (hrd:ts.all (λt=>P.readableRec t && decide (t < P.types.size)) = true)
  {tb:TypeId} (hres:fn.resultTypes = #[tb]) (htb:P.underlying tb = some .bool) {F:denP (τs.map .ty)->Option Bool}
  (he:qfw P H0 lib ⟨k,τs.map .ty,[(.bool,0)],F⟩) (hF:∀ x,qEA maxLen τs x->F x = some true)
  {s:ChangeSpec} (hv:s.vars = []) (hs:∀ (H:Type) (ds:List (DataW H)),ds.length = ts.length->s.fn H ds = { results:=[.lit (.bool true)],args:=ds })
  (H:Type) (enc:TypeId × Value->H) (W:World) (base:Nat) (args:Array Value) (ds gs:List (DataW H)) (before:List MemPlace)
  (hval:∀ (j:Nat) t v,fn.params[j]? = some t->args[j]? = some v->Value.okWide P W .any base t v)
  (hW:DataW.Whole enc P fn.params.toList s.vars false W args.toList ds gs before) :
  Calls P k args W λe W'=>∃ v,e = .returned v/\s.post enc P fn false true false false W args v W':=by
 have hW':=hW;have hlt:∀ p ∈ before,p.block < W.heap.size:=λp hp=>hW.lt p hp;obtain ⟨p,q,hA,hV,rfl,hfz,hnd⟩:=hW;rw [hv] at hV;obtain ⟨rfl,rfl⟩:=trodVars_none hV;rw [hps] at hA;have hlen:=qqb hA;have hval':∀ (j:Nat) t v,ts[j]? = some t->args.toList[j]? = some v->Value.okWide P W .any base t v:=λj t v h1 h2 =>
  hval j t v (by rw [<- hps] at h1; simpa using h1) (by simpa using h2)
 refine (qzS hm qdL hlib hl qEC hfn hbody hts hok he hF hval' hA (λ_ _=>trivial)).mono λe W' ⟨h1,hb⟩=>?_;subst h1;have hfs:s.fn H (ds ++ []) = { results:=[.lit (.bool true)],args:=ds }:=by rw [List.append_nil]; exact hs H ds hlen
 refine ⟨_,rfl,qsh (pa:=p) (pv:=[]) hW' ?_ ?_ ?_ rfl hb ?_⟩
 ·intro b sp hd;rw [hfs,hres];exact trodAll_mk1 (shut_bool htb true)
 ·intro sp hsp;rw [hfs,hps];exact qlQ hl hb hrd hA (λx hx=>hlt x (by simpa using hx)) sp (λx hx=>hsp x (by simpa using hx))
 ·intro sp _;rw [hfs,hv];rfl
 ·exact ok_one hres rfl (okWide_bool_mk htb true)
end Go.Tx
namespace Go.Proofs.YtbcdgfgacigaoaaGreat
open Go Go.Ab Go.Tx
theorem own:ownKnob Tryz.prog.godebug = none:=by kernel_rfl
theorem qCm:laidOutB Tryz.prog = true:=by kernel_rfl
end Go.Proofs.YtbcdgfgacigaoaaGreat
end
section
namespace Go.Tx
open Go
theorem qm0 {n:Int} (h1 : -9223372036854775808<=n) (h2:n<=9223372036854775807):IntKind.wrap .i64 n = n:=by
 rw [IntKind.wrap_i64]; omega
theorem qgR {α:Type} (l:List α):idx l 0 = l[0]?:=by simp [idx]
theorem qaA {α:Type} {l:List α} {i:Nat} {a:α} (h:l[i]? = some a):idx l (i:Int) = some a:=by simp [idx,h]
theorem qwG {α:Type} {l l2:List α} (h:l.length + l2.length<=4294967296):app l l2 = some (l ++ l2):=by simp [app,h]
section
variable {σ ρ:Type} {f:σ->Option (σ ⊕ ρ)}
theorem qmC:∀ {n m:Nat} {s:σ} {r:ρ},qjU f n s = some r->n<=m->qjU f m s = some r
 | 0,m,s,r,h,_=>by simp [qjU] at h
 | n + 1,0,s,r,h,hm=>by omega
 | n + 1,m + 1,s,r,h,hm=>by
  simp only [qjU] at h ⊢;cases hf:f s with
  | none=>rw [hf] at h; cases h
  | some x =>
   rw [hf] at h;cases x with
   | inl s'=>exact qmC h (by omega)
   | inr r'=>exact h
theorem qsG {n:Nat} {s:σ} {r:ρ} (h:qjU f n s = some r):qA f s = some r:=by
 have hex:∃ n r,qjU f n s = some r:=⟨n,r,h⟩
 cases hl:qA f s with
 | none=>exfalso; unfold qA at hl; rw [dif_pos hex] at hl; cases hl
 | some r' =>
  obtain ⟨m,hm⟩:=qjp hl;have h1:=qmC h (Nat.le_max_left n m);have h2:=qmC hm (Nat.le_max_right n m);rw [<- h1,<- h2]
theorem qpF {s s':σ} (h:f s = some (.inl s')):qA f s = qA f s':=by
 cases hl:qA f s' with
 | some r =>
  obtain ⟨n,hn⟩:=qjp hl;exact qsG (n:=n + 1) (by simp [qjU,h,hn])
 | none =>
  cases hl2:qA f s with
  | none=>rfl
  | some r =>
   obtain ⟨n,hn⟩:=qjp hl2;cases n with
   | zero=>simp [qjU] at hn
   | succ n =>
    simp only [qjU,h] at hn;rw [qsG hn] at hl;cases hl
theorem qgj {s:σ} {r:ρ} (h:f s = some (.inr r)):qA f s = some r:=qsG (n:=1) (by simp [qjU,h])
theorem qCG (n:Nat) (I:Nat->σ->Prop) (Q:ρ->Prop)
  (hs:∀ i s,i<=n->I i s->(∃ s',f s = some (.inl s')/\i < n/\I (i + 1) s')\/(∃ r,f s = some (.inr r)/\Q r)) {s:σ} (h0:I 0 s):∃ r,qA f s = some r/\Q r:=by
 have h:∀ k i s,n - i = k->i<=n->I i s->∃ r,qA f s = some r/\Q r:=by
  intro k;induction k with
  | zero =>
   intro i s hk hi hI;rcases hs i s hi hI with ⟨s',_,h,_⟩ | ⟨r,h,hq⟩
   ·omega
   ·exact ⟨r,qgj h,hq⟩
  | succ k ih =>
   intro i s hk hi hI;rcases hs i s hi hI with ⟨s',h,hlt,hI'⟩ | ⟨r,h,hq⟩
   ·obtain ⟨r,hr,hq⟩:=ih (i + 1) s' (by omega) (by omega) hI';exact ⟨r,by rw [qpF h,hr],hq⟩
   ·exact ⟨r,qgj h,hq⟩
 exact h n 0 s (by omega) (by omega) h0
end
def qdm {α ρ:Type} (g:Nat->α->Option ρ):Nat->List α->Option ρ
 | _,[]=>none
 | k,a :: l=>match g k a with
  | some r=>some r
  | none=>qdm g (k + 1) l
def qCa {ρ:Type}:Option ρ->Unit ⊕ ρ
 | some r=>.inr r
 | none=>.inl ()
def stp {ρ:Type} (i:Nat):Option ρ->Int ⊕ (Unit ⊕ ρ)
 | some r=>.inr (.inr r)
 | none=>.inl ((i:Int) + 1)
theorem qBg {α ρ:Type} (l:List α) {f:Int->Option (Int ⊕ (Unit ⊕ ρ))} (g:Nat->α->Option ρ)
  (h:∀ (i:Nat) (a:α),l[i]? = some a->f i = some (stp i (g i a)))
  (he:f l.length = some (.inr (.inl ()))):qA f 0 = some (qCa (qdm g 0 l)):=by
 have key:∀ (l2 l1:List α),l1 ++ l2 = l->qA f (l1.length:Nat) = some (qCa (qdm g l1.length l2)):=by
  intro l2;induction l2 with
  | nil =>
   intro l1 e;have:l1 = l:=by simpa using e
   subst this;rw [qgj he]; rfl
  | cons a l2 ih =>
   intro l1 e;have hi:l[l1.length]? = some a:=by rw [<- e]; simp
   have hf:=h _ _ hi;simp only [qdm];cases hg:g l1.length a with
   | some r=>rw [hg] at hf; rw [qgj hf]; rfl
   | none =>
    rw [hg] at hf;rw [qpF hf];have:=ih (l1 ++ [a]) (by simp [e]);simpa using this
 simpa using key l [] rfl
end Go.Tx
end
section
namespace Go.Tx
open Go
def Ok {α:Type} (o:Option α) (Q:α->Prop):Prop:=∃ a,o = some a/\Q a
section
variable {α β σ ρ τ:Type}
theorem q9 {a:α} {Q:α->Prop}:Ok (some a) Q ↔ Q a:=⟨λ⟨_,h,hq⟩=>by cases h; exact hq,λh=>⟨a,rfl,h⟩⟩
theorem ok_none {Q:α->Prop}:Ok (none:Option α) Q ↔ False:=⟨λ⟨_,h,_⟩=>(by cases h),λh=>h.elim⟩
theorem ok_eq {o:Option α} {a:α}:Ok o (λr=>r = a) ↔ o = some a:=⟨λ⟨_,h,hq⟩=>by rw [h,hq],λh=>⟨a,h,rfl⟩⟩
theorem Ok.eq {o:Option α} {a:α} (h:Ok o (λr=>r = a)):o = some a:=ok_eq.1 h
theorem Ok.mono {o:Option α} {P Q:α->Prop} (h:Ok o P) (hq:∀ a,P a->Q a):Ok o Q:=by obtain ⟨a,h1,h2⟩:=h; exact ⟨a,h1,hq a h2⟩
theorem Ok.bind {o:Option α} {k:α->Option β} {P:α->Prop} {Q:β->Prop} (h:Ok o P) (hk:∀ a,P a->Ok (k a) Q):Ok (o.bind k) Q:=by
 obtain ⟨a,h1,h2⟩:=h; rw [h1]; exact hk a h2
theorem qfv {o:Option α} {k:α->Option β} {Q:β->Prop}:Ok (o.bind k) Q ↔ Ok o λa=>Ok (k a) Q:=by
 cases o with
 | none=>simp [ok_none]
 | some a=>simp [q9]
theorem qcw {l:List α} {n:Int} (d:α) (h0:0<=n) (h1:n < l.length):idx l n = some (l.getD n.toNat d):=by
 unfold idx;rw [if_pos h0];have:n.toNat < l.length:=by omega
 simp [this]
theorem qCR {l l2:List α} (h:l.length + l2.length<=4294967296):app l l2 = some (l ++ l2):=qwG h
theorem qee {l:List α} {a:α} (h:l.length<=4294967295):app l [a] = some (l ++ [a]):=qwG (by simp; omega)
theorem qvB {l2:List α} (h:l2.length<=4294967296):app [] l2 = some l2:=by rw [qwG (by simpa using h)]; rfl
theorem qxG {l:List α} {a b:Int} (h:0<=a/\a<=b/\b<=l.length):slc l a b = some ((l.take b.toNat).drop a.toNat):=by unfold slc; rw [if_pos h]
theorem qDk {z:α} {n:Int} (h:0<=n/\n<=4294967296):mkS z n = some (List.replicate n.toNat z):=by unfold mkS; rw [if_pos h]
def Rnd (o:Option (σ ⊕ ρ)) (I:σ->Prop) (Q:ρ->Prop):Prop:=Ok o λx=>match x with
 | .inl s=>I s
 | .inr r=>Q r
theorem qaF {s:σ} {I:σ->Prop} {Q:ρ->Prop}:Rnd (some (.inl s)) I Q ↔ I s:=q9
theorem qam {r:ρ} {I:σ->Prop} {Q:ρ->Prop}:Rnd (some (.inr r):Option (σ ⊕ ρ)) I Q ↔ Q r:=q9
theorem qtk {o:Option α} {k:α->Option (σ ⊕ ρ)} {I:σ->Prop} {Q:ρ->Prop}:Rnd (o.bind k) I Q ↔ Ok o λa=>Rnd (k a) I Q:=qfv
theorem qbc {f:σ->Option (σ ⊕ ρ)} (n:Nat) (I:Nat->σ->Prop) (Q:ρ->Prop) {s:σ} (h0:I 0 s)
  (hs:∀ i s,i<=n->I i s->Rnd (f s) (λs'=>i < n/\I (i + 1) s') Q):Ok (qA f s) Q:=by
 obtain ⟨r,h1,h2⟩:=qCG n I Q (λi s hi hI=>by
  obtain ⟨x,hx,h⟩:=hs i s hi hI;cases x with
  | inl s'=>exact .inl ⟨s',hx,h⟩
  | inr r=>exact .inr ⟨r,hx,h⟩) h0
 exact ⟨r,h1,h2⟩
theorem qpA {o:Option (α ⊕ β)} {k:α->Option β} {Q:β->Prop}:Ok (o.bind (Sum.elim k some)) Q ↔ Ok o λx=>match x with
  | .inl a=>Ok (k a) Q
  | .inr b=>Q b:=by
 rw [qfv];cases o with
 | none=>simp [ok_none]
 | some x=>cases x <;> simp [q9]
end
theorem qwZ {α σ ρ:Type} {o:Option (α ⊕ (σ ⊕ ρ))} {k:α->Option (σ ⊕ ρ)} {I:σ->Prop} {Q:ρ->Prop}:Rnd (o.bind (Sum.elim k some)) I Q ↔ Ok o λx=>match x with
  | .inl a=>Rnd (k a) I Q
  | .inr b=>match b with
   | .inl s=>I s
   | .inr r=>Q r:=by
 cases o with
 | none=>simp [Rnd,ok_none]
 | some x=>cases x with
  | inl a=>simp only [qa,Sum.elim_inl,q9]
  | inr b=>simp only [qa,Sum.elim_inr,q9]; unfold Rnd; rw [q9]
theorem qgt {α:Type} {l:List α} {i:Nat} {a d:α} (h:l[i]? = some a):l.getD i d = a:=by simp [h]
theorem qci {α:Type} {l:List α} {i:Nat} (d:α) (h:i < l.length):l.take (i + 1) = l.take i ++ [l.getD i d]:=by
 rw [List.take_add_one]; simp [h]
end Go.Tx
end
section
namespace Go.Tx
open Go
section
variable {α β ρ τ:Type}
theorem qf3 {l:List α} {i:Nat} {a:α} (h:l[i]? = some a):i < l.length:=(List.getElem?_eq_some_iff.1 h).1
theorem qe4 (l:List α) (K:Int->Option (Int ⊕ (Unit ⊕ ρ))) (g:Nat->α->Option ρ) (h:∀ (i:Nat) (a:α),l[i]? = some a->K i = some (stp i (g i a))) :
  qA (λs=>bif decide (s < (l.length:Int)) then K s else some (.inr (.inl ()))) 0 = some (qCa (qdm g 0 l)):=by
 refine qBg l g (λi a hi=>?_) ?_
 ·have:=qf3 hi;have e:decide ((i:Int) < (l.length:Int)) = true:=by simp <;> omega
  simp only [e,cond_true];exact h i a hi
 ·simp
theorem qcl {o:Option ρ} {k:Unit->Option ρ}:(some (qCa o)).bind (Sum.elim k some) = (match o with
  | some r=>some r
  | none=>k ()):=by cases o <;> rfl
theorem qcU {g:Nat->α->Option ρ}:∀ {l:List α} {k:Nat},qdm g k l = none ↔ ∀ i a,l[i]? = some a->g (k + i) a = none
 | [],k=>by simp [qdm]
 | a :: l,k=>by
  simp only [qdm];cases hg:g k a with
  | some r =>
   simp only [reduceCtorEq,false_iff];intro h;have:=h 0 a rfl;simp [hg] at this
  | none =>
   simp only
   rw [qcU (l:=l) (k:=k + 1)];constructor
   ·intro h i b hb;cases i with
    | zero=>simp at hb; subst hb; simpa using hg
    | succ i=>have:=h i b (by simpa using hb); rw [<- this]; congr 1; omega
   ·intro h i b hb;have:=h (i + 1) b (by simpa using hb);rw [<- this]; congr 1; omega
theorem qeX {g:Nat->α->Option ρ} {r:ρ}:∀ {l:List α} {k:Nat},qdm g k l = some r->∃ i a,l[i]? = some a/\g (k + i) a = some r/\∀ j b,j < i->l[j]? = some b->g (k + j) b = none
 | [],k,h=>by simp [qdm] at h
 | a :: l,k,h=>by
  simp only [qdm] at h;cases hg:g k a with
  | some r' =>
   rw [hg] at h;simp only [qb] at h;subst h;exact ⟨0,a,rfl,by simpa using hg,λj b hj=>by omega⟩
  | none =>
   rw [hg] at h;obtain ⟨i,b,h1,h2,h3⟩:=qeX (l:=l) (k:=k + 1) h;refine ⟨i + 1,b,by simpa using h1,by rw [<- h2]; congr 1; omega,λj c hj hc=>?_⟩;cases j with
   | zero=>simp at hc; subst hc; simpa using hg
   | succ j=>have:=h3 j c (by omega) (by simpa using hc); rw [<- this]; congr 1; omega
theorem qwc (l:List α) (pf:α->Option Bool) (p:α->Bool) (h:∀ x ∈ l,pf x = some (p x)) (hl:l.length<=1000000000) :
  ((qA (λ(s2:Int) =>
   bif decide (s2 < (l.length:Int)) then
    (idx l s2).bind λx3 =>
    (pf x3).bind λx4 =>
    bif x4 then
     some (.inr (.inr s2))
    else
     some (.inl (IntKind.wrap .i64 (s2 + 1)))
   else
    some (.inr (.inl ()))) 0).bind (Sum.elim (λ(p5:Unit) =>
  some (-1)) some)).bind (λx1=>some (decide (x1>=0))) = some (l.any p):=by
 rw [qe4 l _ (λi a=>if p a then some (i:Int) else none) (λi a hi=>by
  have:=qf3 hi;rw [qaA hi];simp only [qa];rw [h a (List.mem_of_getElem? hi)];simp only [qa];cases hp:p a
  ·simp only [cond_false,qf,if_false,stp]; rw [qm0 (by omega) (by omega)]
  ·simp [stp]),qcl]
 cases hf:qdm (λi a=>if p a then some (i:Int) else none) 0 l with
 | none =>
  rw [qcU] at hf;have:l.any p = false:=by
   rw [List.any_eq_false];intro x hx;obtain ⟨i,hi⟩:=List.mem_iff_getElem?.1 hx;have:=hf i x hi;simpa using this
  rw [this]; rfl
 | some r =>
  obtain ⟨i,a,h1,h2,_⟩:=qeX hf;have hp:p a = true:=by
   cases hp:p a
   ·simp [hp] at h2
   ·rfl
  have:l.any p = true:=List.any_eq_true.2 ⟨a,List.mem_of_getElem? h1,hp⟩;rw [this];simp only [hp,if_true,qb] at h2;simp only [qa];have:decide (r>=0) = true:=by simp <;> omega
  rw [this]
def qvE:List Int->Int
 | []=>0
 | e :: l=>if e = 0 then qvE l else e
theorem qr0:∀ (l:List Int) (k:Nat),qdm (λ_ e=>if e = 0 then none else some e) k l = if qvE l = 0 then none else some (qvE l)
 | [],k=>rfl
 | e :: l,k=>by
  simp only [qdm,qvE];by_cases h:e = 0
  ·simp only [h,if_true]; exact qr0 l (k + 1)
  ·simp [h]
theorem qzK (l:List Int) (hl:l.length<=1000000000) :
  (qA (λ(s2:Int) =>
   bif decide (s2 < (l.length:Int)) then
    (idx l s2).bind λx3 =>
    bif !(decide (x3 = 0)) then
     some (.inr (.inr x3))
    else
     some (.inl (IntKind.wrap .i64 (s2 + 1)))
   else
    some (.inr (.inl ()))) 0).bind (Sum.elim (λ(p4:Unit)=>some 0) some) = some (qvE l):=by
 rw [qe4 l _ (λ_ e=>if e = 0 then none else some e) (λi a hi=>by
  have:=qf3 hi;rw [qaA hi];simp only [qa];by_cases h:a = 0
  ·simp only [h,decide_true,Bool.not_true,cond_false,if_true,stp]; rw [qm0 (by omega) (by omega)]
  ·simp [h,stp]),qcl,qr0]
 by_cases h:qvE l = 0
 ·simp [h]
 ·simp [h]
end
end Go.Tx
end
section
namespace Go.Tx
open Go
theorem qk6 {f:Int × Int->Option ((Int × Int) ⊕ Int)} (hf:∀ s,f s = if s.2 = 0 then some (.inr s.1) else some (.inl (s.2,s.1.tmod s.2))):∀ (n:Nat) (a b:Int),b.natAbs<=n->∃ r,qA f (a,b) = some r/\r.natAbs = Int.gcd a b:=by
 intro n;induction n with
 | zero =>
  intro a b hb;have:b = 0:=by omega
  subst this;exact ⟨a,qgj (by rw [hf]; simp),by simp⟩
 | succ n ih =>
  intro a b hb;by_cases h0:b = 0
  ·subst h0;exact ⟨a,qgj (by rw [hf]; simp),by simp⟩
  ·have hlt:(a.tmod b).natAbs < b.natAbs:=by
    rw [Int.natAbs_tmod]; exact Nat.mod_lt _ (by omega)
   obtain ⟨r,h1,h2⟩:=ih b (a.tmod b) (by omega);refine ⟨r,by rw [qpF (s':=(b,a.tmod b)) (by rw [hf]; simp [h0])]; exact h1,?_⟩;rw [h2];unfold Int.gcd;rw [Int.natAbs_tmod,Nat.gcd_comm,<- Nat.gcd_rec,Nat.gcd_comm]
def qip:Nat->List Int->Nat
 | g,[]=>g
 | g,n :: l=>qip (Nat.gcd g n.natAbs) l
def qu6 (l:List Int):Nat:=qip 0 l
theorem qff (g:Nat) (n:Int):∀ (l:List Int),qip g (l ++ [n]) = Nat.gcd (qip g l) n.natAbs:=by
 intro l;induction l generalizing g with
 | nil=>rfl
 | cons m l ih=>simp only [List.cons_append,qip]; exact ih _
theorem qsP (a b:Int):qu6 [a,b] = Int.gcd a b:=by simp [qu6,qip,Int.gcd]
theorem qrZ (a b c:Int):qu6 [a,b,c] = Nat.gcd (Int.gcd a b) c.natAbs:=by simp [qu6,qip,Int.gcd]
theorem qkE {B:Nat}:∀ {l:List Int} {g:Nat},g<=B->(∀ x ∈ l,x.natAbs<=B)->qip g l<=B
 | [],g,hg,_=>hg
 | n :: l,g,hg,h=>by
  simp only [qip];refine qkE ?_ λx hx=>h x (by simp [hx]);have h1:=h n (by simp);by_cases hg0:g = 0
  ·subst hg0; simpa using h1
  ·exact Nat.le_trans (Nat.le_of_dvd (by omega) (Nat.gcd_dvd_left g n.natAbs)) hg
theorem qt3:∀ {l:List Int} {g:Nat},qip g l = 0 ↔ g = 0/\∀ x ∈ l,x = 0
 | [],g=>by simp [qip]
 | n :: l,g=>by
  simp only [qip,qt3 (l:=l),Nat.gcd_eq_zero_iff,List.mem_cons,forall_eq_or_imp];constructor
  ·rintro ⟨⟨h1,h2⟩,h3⟩; exact ⟨h1,by omega,h3⟩
  ·rintro ⟨h1,h2,h3⟩; exact ⟨⟨h1,by omega⟩,h3⟩
theorem qcm:∀ (l:List Int) (g:Nat),qip g l ∣ g
 | [],g=>Nat.dvd_refl g
 | n :: l,g=>Nat.dvd_trans (qcm l _) (Nat.gcd_dvd_left ..)
theorem qjn:∀ {l:List Int} {g:Nat} {x:Int},x ∈ l->((qip g l:Nat):Int) ∣ x
 | n :: l,g,x,hx=>by
  rcases List.mem_cons.1 hx with rfl | hx
  ·have h1:=Nat.dvd_trans (qcm l (Nat.gcd g x.natAbs)) (Nat.gcd_dvd_right ..);exact Int.ofNat_dvd_left.2 h1
  ·exact qjn (l:=l) hx
theorem qoi {d:Nat}:∀ {l:List Int} {g:Nat},d ∣ g->(∀ x ∈ l,(d:Int) ∣ x)->d ∣ qip g l
 | [],g,hg,_=>hg
 | n :: l,g,hg,h=>qoi (l:=l) (Nat.dvd_gcd hg (Int.ofNat_dvd_left.1 (h n (by simp)))) λx hx=>h x (by simp [hx])
theorem quY (l:List Int) (hl:l.length<=1000000000) (hb:∀ x ∈ l,x.natAbs<=4611686018427387904) :
  (qA (λ(s2:(Int × Int)) =>
   bif decide (s2.2 < (l.length:Int)) then
    (idx l s2.2).bind λx3 =>
    (qA (λ(s5:(Int × Int)) =>
      bif !(decide (s5.2 = 0)) then
       bif decide (s5.2 = 0) then
        none
       else
        some (.inl (s5.2,s5.1.tmod s5.2))
      else
       some (.inr s5.1)) (s2.1,x3)).bind λ(p6:Int) =>
    some (.inl (p6,IntKind.wrap .i64 (s2.2 + 1)))
   else
    some (.inr s2.1)) (0,0)).bind (λ(p7:Int)=>some (max p7 (IntKind.wrap .i64 (0 - p7)))) = some (qu6 l:Int):=by
 refine Ok.eq ?_;rw [qfv];refine (qbc l.length (λi (s:Int × Int)=>s.2 = (i:Int)/\s.1.natAbs = qu6 (l.take i)) (λr:Int=>r.natAbs = qu6 l) ⟨rfl,rfl⟩ ?_).mono ?_
 ·rintro i ⟨g,s⟩ hi ⟨h1,h2⟩;simp only at h1 h2;subst h1;by_cases hlt:i < l.length
  ·have e0:decide ((i:Int) < (l.length:Int)) = true:=by simp <;> omega
   simp only [e0,cond_true];rw [qcw 0 (by omega) (by omega)];simp only [qa,Int.toNat_natCast];obtain ⟨r,h3,h4⟩:=qk6 (f:=λ(s5:(Int × Int))=>bif !(decide (s5.2 = 0)) then bif decide (s5.2 = 0) then none else some (.inl (s5.2,s5.1.tmod s5.2)) else some (.inr s5.1)) (λs=>by
    by_cases h:s.2 = 0 <;> simp [h]) (l.getD i 0).natAbs g (l.getD i 0) (Nat.le_refl _)
   rw [h3];simp only [qa];rw [qm0 (by omega) (by omega),qaF];refine ⟨hlt,by simp,?_⟩;rw [h4,qci 0 hlt];unfold qu6 at h2 ⊢;rw [qff,<- h2];rfl
  ·have:i = l.length:=by omega
   subst this;have e0:decide ((l.length:Int) < (l.length:Int)) = false:=by simp
   simp only [e0,cond_false];rw [qam];simpa using h2
 ·intro r hr;have hle:qu6 l<=4611686018427387904:=qkE (by omega) hb;rw [qm0 (by omega) (by omega),q9];omega
theorem qBM (a b:Int) (ha:a.natAbs<=4611686018427387904) (hb:b.natAbs<=4611686018427387904) :
  Ok (qA (λ(s2:(Int × Int)) =>
   bif !(decide (s2.2 = 0)) then
    bif decide (s2.2 = 0) then
     none
    else
     some (.inl (s2.2,s2.1.tmod s2.2))
   else
    some (.inr s2.1)) (a,b)) λr=>r.natAbs = Int.gcd a b:=by
 obtain ⟨r,h1,h2⟩:=qk6 (f:=λ(s2:(Int × Int))=>bif !(decide (s2.2 = 0)) then bif decide (s2.2 = 0) then none else some (.inl (s2.2,s2.1.tmod s2.2)) else some (.inr s2.1)) (λs=>by
  by_cases h:s.2 = 0 <;> simp [h]) b.natAbs a b (Nat.le_refl _)
 exact ⟨r,h1,h2⟩
theorem qC5 {a b:Int} {B:Nat} (ha:a.natAbs<=B) (hb:b.natAbs<=B):Int.gcd a b<=B:=by
 have:=qkE (B:=B) (l:=[a,b]) (g:=0) (by omega) (by simp [ha,hb]);have e:=qsP a b;unfold qu6 at e;omega
end Go.Tx
end
section
namespace Go.Tx
open Go
section
variable {α:Type}
theorem sq_nonneg (z:Int):0<=z * z:=by
 rcases Int.le_total 0 z with hz | hz
 ·exact Int.mul_nonneg hz hz
 ·have:=Int.mul_nonneg (show 0 <= -z by omega) (show 0 <= -z by omega); rwa [Int.neg_mul_neg] at this
theorem qs4 {z:Int} (h:z * z = 0):z = 0:=by
 rcases Int.mul_eq_zero.1 h with h | h <;> exact h
theorem qaQ {a b A B:Int} (h1 : -A<=a/\a<=A) (h2 : -B<=b/\b<=B) : -(A * B)<=a * b/\a * b<=A * B:=by
 have hA:0<=A:=by omega
 have hB:0<=B:=by omega
 have e:(a * b).natAbs = a.natAbs * b.natAbs:=Int.natAbs_mul a b;have h3:a.natAbs * b.natAbs<=A.natAbs * B.natAbs:=Nat.mul_le_mul (by omega) (by omega);have h4:((A.natAbs * B.natAbs:Nat):Int) = A * B:=by
  rw [Int.natCast_mul]; congr 1 <;> omega
 omega
end
end Go.Tx
end
section
namespace Go.Tx
open Go
section
variable {α β:Type}
def mkL (n:Nat) (f:Nat->α):List α:=(List.range n).map f
theorem qW (n:Nat) (f:Nat->α):(mkL n f).length = n:=by simp [mkL]
theorem qcn {n:Nat} (f:Nat->α) {k:Nat} (h:k < n):(mkL n f)[k]? = some (f k):=by simp [mkL,h]
theorem qlM {n:Nat} (f:Nat->α) {k:Nat} (d:α) (h:k < n):(mkL n f).getD k d = f k:=qgt (qcn f h)
theorem qxC (f:Nat->α):mkL 0 f = []:=rfl
theorem qhN (n:Nat) (f:Nat->α):mkL (n + 1) f = mkL n f ++ [f n]:=by simp [mkL,List.range_succ]
theorem qdt {n:Nat} {f g:Nat->α} (h:∀ k,k < n->f k = g k):mkL n f = mkL n g:=List.map_congr_left λk hk=>h k (by simpa using hk)
theorem qmG {n:Nat} {f:Nat->α} {x:α} (h:x ∈ mkL n f):∃ k,k < n/\x = f k:=by
 obtain ⟨k,hk,rfl⟩:=List.mem_map.1 h;exact ⟨k,by simpa using hk,rfl⟩
theorem qsq {n:Nat} {f:Nat->α} {k:Nat} (h:k < n):f k ∈ mkL n f:=List.mem_map.2 ⟨k,by simpa using h,rfl⟩
theorem qti (l:List α) (d:α):l = mkL l.length λk=>l.getD k d:=by
 apply List.ext_getElem?;intro k;by_cases h:k < l.length
 ·rw [qcn _ h]; simp [h]
 ·rw [List.getElem?_eq_none (by omega),List.getElem?_eq_none (by rw [qW]; omega)]
theorem qoZ {l:List α} {n:Nat} {f:Nat->α} (hl:l.length = n) (h:∀ k,k < n->l[k]? = some (f k)):l = mkL n f:=by
 apply List.ext_getElem?;intro k;by_cases hk:k < n
 ·rw [qcn _ hk,h k hk]
 ·rw [List.getElem?_eq_none (by omega),List.getElem?_eq_none (by rw [qW]; omega)]
theorem qbf {l:List α} {i:Nat} {d:α} (h:i < l.length):l.getD i d ∈ l:=by
 have:l[i]? = some (l.getD i d):=by simp [h]
 exact List.mem_of_getElem? this
theorem qd1 {l:List α} {i:Nat} (d:α) (h:i < l.length):l[i]? = some (l.getD i d):=by simp [h]
theorem qnx {K:List β × Int->Option ((List β × Int) ⊕ List β)} (n:Nat) (f:Nat->β)
  (h:∀ i,i < n->K (mkL i f,(i:Int)) = some (.inl (mkL i f ++ [f i],(i:Int) + 1))) (he:K (mkL n f,(n:Int)) = some (.inr (mkL n f))):qA K ([],0) = some (mkL n f):=by
 refine Ok.eq (qbc n (λi (s:List β × Int)=>s = (mkL i f,(i:Int))) (λr=>r = mkL n f) rfl ?_);rintro i s hi rfl;by_cases hlt:i < n
 ·rw [h i hlt,qaF];exact ⟨hlt,by rw [qhN]; rfl⟩
 ·have:i = n:=by omega
  subst this;rw [he,qam]
theorem qDu {K:List β × Int->Option ((List β × Int) ⊕ List β)} (l:List α) (f:α->β)
  (h:∀ (i:Nat) a out,l[i]? = some a->out.length = i->K (out,(i:Int)) = some (.inl (out ++ [f a],(i:Int) + 1))) (he:∀ out,out.length = l.length->K (out,(l.length:Int)) = some (.inr out)):qA K ([],0) = some (l.map f):=by
 refine Ok.eq (qbc l.length (λi (s:List β × Int)=>s = ((l.take i).map f,(i:Int))) (λr=>r = l.map f) (by simp) ?_);rintro i s hi rfl;by_cases hlt:i < l.length
 ·have ha:l[i]? = some l[i]:=by simp [hlt]
  rw [h i _ _ ha (by simp; omega),qaF];refine ⟨hlt,?_⟩;have e:(l.take (i + 1)).map f = (l.take i).map f ++ [f l[i]]:=by rw [List.take_add_one,ha]; simp only [List.map_append,Option.toList_some,List.map_cons,List.map_nil]
  rw [e]; rfl
 ·have:i = l.length:=by omega
  subst this;rw [he _ (by simp),qam];simp
theorem qxa {l m:List α} (d:α):(l.length = m.length/\∀ i,i < l.length->l.getD i d = m.getD i d) ↔ l = m:=by
 constructor
 ·rintro ⟨h1,h2⟩;rw [qti l d,qti m d,h1];exact qdt λk hk=>h2 k (by omega)
 ·rintro rfl; exact ⟨rfl,λ_ _=>rfl⟩
theorem qt6 [DecidableEq α] {l m:List α} (d:α) (hl:l.length = m.length) (hb:l.length<=1000000000) (e:α->α->Bool) (he:∀ a b,a ∈ l->b ∈ m->(e a b = true ↔ a = b)) {K:Int->Option (Int ⊕ (Unit ⊕ Bool))}
  (h:∀ i,i < l.length->K (i:Int) = some (if e (l.getD i d) (m.getD i d) = true then .inl ((i:Int) + 1) else .inr (.inr false))) :
  (qA (λs=>bif decide (s < (l.length:Int)) then K s else some (.inr (.inl ()))) 0).bind (Sum.elim (λ(p5:Unit)=>some true) some) = some (decide (l = m)):=by
 refine Ok.eq (qpA.2 ?_);refine (qbc l.length (λi (s:Int)=>s = (i:Int)/\∀ j,j < i->l.getD j d = m.getD j d) (λr=>(r = .inl ()/\∀ j,j < l.length->l.getD j d = m.getD j d)\/(r = .inr false/\∃ j,j < l.length/\l.getD j d ≠ m.getD j d)) ⟨rfl,by simp⟩ ?_).mono ?_
 ·rintro i s hi ⟨rfl,hI⟩;by_cases hlt:i < l.length
  ·have e0:decide ((i:Int) < (l.length:Int)) = true:=by simp <;> omega
   simp only [e0,cond_true];rw [h i hlt];have hm:=he (l.getD i d) (m.getD i d) (qbf hlt) (qbf (by omega));by_cases c:e (l.getD i d) (m.getD i d) = true
   ·rw [if_pos c,qaF];refine ⟨hlt,by simp,λj hj=>?_⟩;by_cases hji:j < i
    ·exact hI j hji
    ·have:j = i:=by omega
     subst this; exact hm.1 c
   ·rw [if_neg c,qam];exact .inr ⟨rfl,i,hlt,λh=>c (hm.2 h)⟩
  ·have:i = l.length:=by omega
   subst this;have e0:decide ((l.length:Int) < (l.length:Int)) = false:=by simp
   simp only [e0,cond_false];rw [qam];exact .inl ⟨rfl,hI⟩
 ·rintro r (⟨rfl,h1⟩ | ⟨rfl,j,hj,hne⟩)
  ·simp only [q9]; rw [eq_comm,decide_eq_true_iff]; exact (qxa d).1 ⟨hl,h1⟩
  ·simp only; rw [eq_comm,decide_eq_false_iff_not]
   exact λh=>hne (by rw [h])
end
end Go.Tx
end
section
namespace Go.Tx
open Go
abbrev G:=Int × Int × Unit
def g0:G:=(0,0,())
def g1:G:=(1,0,())
def qcy (a b:G):G:=(a.1 + b.1,a.2.1 + b.2.1,())
def qiq (a b:G):G:=(a.1 - b.1,a.2.1 - b.2.1,())
def qw (a b:G):G:=(a.1 * b.1 - a.2.1 * b.2.1,a.1 * b.2.1 + a.2.1 * b.1,())
def qio (a:G):G:=(-a.1,-a.2.1,())
def qU (a:G):G:=(a.1,-a.2.1,())
theorem qi2 {a b:G} (h1:a.1 = b.1) (h2:a.2.1 = b.2.1):a = b:=by
 obtain ⟨x,y,_⟩:=a; obtain ⟨x',y',_⟩:=b; simp only at h1 h2; rw [h1,h2]
theorem qBz {a b:G}:a = b ↔ a.1 = b.1/\a.2.1 = b.2.1:=⟨λh=>by rw [h]; exact ⟨rfl,rfl⟩,λh=>qi2 h.1 h.2⟩
theorem qFM (a:G):(a.1,a.2.1,()) = a:=rfl
def Bd (B:Int) (a:G):Prop:=(-B<=a.1/\a.1<=B)/\(-B<=a.2.1/\a.2.1<=B)
theorem Bd.mono {A B:Int} {a:G} (h:Bd A a) (hAB:A<=B):Bd B a:=by unfold Bd at *; omega
theorem qvo {B:Int} (h:0<=B):Bd B g0:=by unfold Bd g0; simp <;> omega
theorem qC3 {B:Int} (h:1<=B):Bd B g1:=by unfold Bd g1; simp <;> omega
theorem Bd.add {A B:Int} {a b:G} (h:Bd A a) (h':Bd B b):Bd (A + B) (qcy a b):=by unfold Bd qcy at *; simp only <;> omega
theorem Bd.sub {A B:Int} {a b:G} (h:Bd A a) (h':Bd B b):Bd (A + B) (qiq a b):=by unfold Bd qiq at *; simp only <;> omega
theorem Bd.neg {A:Int} {a:G} (h:Bd A a):Bd A (qio a):=by unfold Bd qio at *; simp only <;> omega
theorem Bd.qAh {A:Int} {a:G} (h:Bd A a):Bd A (qU a):=by unfold Bd qU at *; simp only <;> omega
theorem Bd.mul {A B:Int} {a b:G} (h:Bd A a) (h':Bd B b):Bd (2 * (A * B)) (qw a b):=by
 obtain ⟨h1,h2⟩:=h;obtain ⟨h3,h4⟩:=h';have p1:=qaQ h1 h3;have p2:=qaQ h2 h4;have p3:=qaQ h1 h4;have p4:=qaQ h2 h3;unfold Bd qw;simp only
 generalize A * B = Q at *;omega
theorem qyH {n:Int} (h1 : -9223372036854775808<=n) (h2:n<=9223372036854775807):IntKind.wrap .i64 n = n:=qm0 h1 h2
theorem qEM {A B:Int} {a b:G} (h:Bd A a) (h':Bd B b) (hb:2 * (A * B)<=9000000000000000000) :
  ((IntKind.wrap .i64 (IntKind.wrap .i64 (a.1 * b.1) - IntKind.wrap .i64 (a.2.1 * b.2.1)),IntKind.wrap .i64 (IntKind.wrap .i64 (a.1 * b.2.1) + IntKind.wrap .i64 (a.2.1 * b.1)),()):G) = qw a b:=by
 obtain ⟨h1,h2⟩:=h;obtain ⟨h3,h4⟩:=h';have p1:=qaQ h1 h3;have p2:=qaQ h2 h4;have p3:=qaQ h1 h4;have p4:=qaQ h2 h3;unfold qw;generalize A * B = Q at *;rw [qyH (n:=a.1 * b.1) (by omega) (by omega),qyH (n:=a.2.1 * b.2.1) (by omega) (by omega),qyH (n:=a.1 * b.2.1) (by omega) (by omega),qyH (n:=a.2.1 * b.1) (by omega) (by omega),qyH (by omega) (by omega),qyH (by omega) (by omega)]
theorem qE5 {A B:Int} {a b:G} (h:Bd A a) (h':Bd B b) (hb:A + B<=9000000000000000000) :
  ((IntKind.wrap .i64 (a.1 + b.1),IntKind.wrap .i64 (a.2.1 + b.2.1),()):G) = qcy a b:=by
 unfold Bd at h h';unfold qcy;rw [qyH (by omega) (by omega),qyH (by omega) (by omega)]
theorem qDD {A B:Int} {a b:G} (h:Bd A a) (h':Bd B b) (hb:A + B<=9000000000000000000) :
  ((IntKind.wrap .i64 (a.1 - b.1),IntKind.wrap .i64 (a.2.1 - b.2.1),()):G) = qiq a b:=by
 unfold Bd at h h';unfold qiq;rw [qyH (by omega) (by omega),qyH (by omega) (by omega)]
theorem quu (a:G):qcy a g0 = a:=qi2 (by simp [qcy,g0]) (by simp [qcy,g0])
theorem qhr (a:G):qcy g0 a = a:=qi2 (by simp [qcy,g0]) (by simp [qcy,g0])
theorem qfn (a b:G):qw a b = qw b a:=qi2 (by simp only [qw]; grind) (by simp only [qw]; grind)
theorem qeO (a b c:G):qw (qw a b) c = qw a (qw b c):=qi2 (by simp only [qw]; grind) (by simp only [qw]; grind)
theorem qBE (a b c:G):qw (qcy a b) c = qcy (qw a c) (qw b c):=qi2 (by simp only [qw,qcy]; grind) (by simp only [qw,qcy]; grind)
theorem qBf (a:G):qw a g0 = g0:=qi2 (by simp [qw,g0]) (by simp [qw,g0])
theorem qy2 (a:G):qw g0 a = g0:=qi2 (by simp [qw,g0]) (by simp [qw,g0])
theorem qCK (a:G):qw g1 a = a:=qi2 (by simp [qw,g1]) (by simp [qw,g1])
theorem qBR (a:G):qw a g1 = a:=qi2 (by simp [qw,g1]) (by simp [qw,g1])
theorem qvO (a b:G):qiq a b = qcy a (qio b):=qi2 (by simp only [qiq,qcy,qio]; omega) (by simp only [qiq,qcy,qio]; omega)
theorem quz (a:G):qiq g0 a = qio a:=qi2 (by simp [qiq,qio,g0]) (by simp [qiq,qio,g0])
def qdZ:Nat->(Nat->G)->G
 | 0,_=>g0
 | n + 1,f=>qcy (qdZ n f) (f n)
theorem qbn {n:Nat} {f h:Nat->G} (e:∀ k,k < n->f k = h k):qdZ n f = qdZ n h:=by
 induction n with
 | zero=>rfl
 | succ n ih=>simp only [qdZ]; rw [ih λk hk=>e k (by omega),e n (by omega)]
theorem Bd.sum {B:Int} {f:Nat->G}:∀ {n:Nat},(∀ k,k < n->Bd B (f k))->Bd (n * B) (qdZ n f)
 | 0,_=>qvo (by simp)
 | n + 1,h=>by
  have h1:=Bd.sum (n:=n) λk hk=>h k (by omega);have e:((n + 1:Nat):Int) * B = n * B + B:=by rw [Int.natCast_add,Int.add_mul]; simp
  rw [e];exact h1.add (h n (by omega))
theorem qjD (n:Nat) (hn:n<=1000) {A:Int} (hA:0<=A) (hAn:n * A<=9000000000000000000) (f:Nat->G) (hf:∀ k,k < n->Bd A (f k)) {K:Int × Int × Int->Option ((Int × Int × Int) ⊕ (Int × Int))}
  (h:∀ k,k < n->∀ a b:Int,Bd (k * A) (a,b,())->K ((k:Int),a,b) = some (.inl (IntKind.wrap .i64 ((k:Int) + 1),(qcy (a,b,()) (f k)).1,(qcy (a,b,()) (f k)).2.1)))
  (he:∀ a b:Int,K ((n:Int),a,b) = some (.inr (a,b))):qA K (0,0,0) = some ((qdZ n f).1,(qdZ n f).2.1):=by
 refine Ok.eq (qbc n (λi (s:Int × Int × Int)=>s = ((i:Int),(qdZ i f).1,(qdZ i f).2.1)) (λr=>r = ((qdZ n f).1,(qdZ n f).2.1)) rfl ?_);rintro i s hi rfl;by_cases hlt:i < n
 ·have hb:Bd (i * A) (qdZ i f):=Bd.sum λk hk=>hf k (by omega);rw [h i hlt _ _ hb,qyH (by omega) (by omega),qaF];exact ⟨hlt,rfl⟩
 ·have:i = n:=by omega
  subst this;rw [he,qam]
abbrev Mx:=List (List G)
def mx (n c:Nat) (f:Nat->Nat->G):Mx:=mkL n λi=>mkL c λk=>f i k
def ent (m:Mx) (i k:Nat):G:=(m.getD i []).getD k g0
def qEm (n c:Nat) (m:Mx):Prop:=m.length = n/\∀ r ∈ m,r.length = c
theorem qbF (n c:Nat) (f:Nat->Nat->G):(mx n c f).length = n:=qW _ _
theorem qBe {n c i:Nat} (f:Nat->Nat->G) (h:i < n):(mx n c f).getD i [] = mkL c λk=>f i k:=qlM _ _ h
theorem qih {n c i:Nat} (f:Nat->Nat->G) (h:i < n):(mx n c f)[i]? = some (mkL c λk=>f i k):=qcn _ h
theorem qzr {n c i k:Nat} (f:Nat->Nat->G) (h:i < n) (hk:k < c):ent (mx n c f) i k = f i k:=by unfold ent; rw [qBe f h,qlM _ _ hk]
theorem qjM {n c:Nat} {f h:Nat->Nat->G} (e:∀ i k,i < n->k < c->f i k = h i k):mx n c f = mx n c h:=qdt λi hi=>qdt λk hk=>e i k hi hk
theorem qqA (n c:Nat) (f:Nat->Nat->G):qEm n c (mx n c f):=⟨qbF _ _ _,λr hr=>by obtain ⟨i,hi,rfl⟩:=qmG hr; exact qW _ _⟩
theorem qpa {n c:Nat} {m:Mx} (h:qEm n c m):m = mx n c (ent m):=by
 refine qoZ h.1 λi hi=>?_;rw [qd1 [] (by rw [h.1]; exact hi)];congr 1
 refine qoZ (h.2 _ (qbf (by rw [h.1]; exact hi))) λk hk=>?_;rw [qd1 g0 (by rw [h.2 _ (qbf (by rw [h.1]; exact hi))]; exact hk)];rfl
theorem qEE {n c:Nat} {f h:Nat->Nat->G} (e:mx n c f = mx n c h):∀ i k,i < n->k < c->f i k = h i k:=λi k hi hk=>by
 rw [<- qzr f hi hk,e,qzr h hi hk]
def BdM (B:Int) (m:Mx):Prop:=∀ r ∈ m,∀ z ∈ r,Bd B z
def BdF (B:Int) (n c:Nat) (f:Nat->Nat->G):Prop:=∀ i k,i < n->k < c->Bd B (f i k)
theorem qvQ {B:Int} {n c:Nat} {m:Mx} (h:BdM B m) (hr:qEm n c m):BdF B n c (ent m):=λi k hi hk=>by
 have h1:m.getD i [] ∈ m:=qbf (by rw [hr.1]; exact hi);exact h _ h1 _ (qbf (by rw [hr.2 _ h1]; exact hk))
theorem qCQ {B:Int} {n c:Nat} {f:Nat->Nat->G}:BdM B (mx n c f) ↔ BdF B n c f:=by
 constructor
 ·intro h i k hi hk;exact h _ (qsq (f:=λi=>mkL c λk=>f i k) hi) _ (qsq (f:=λk=>f i k) hk)
 ·intro h r hr z hz;obtain ⟨i,hi,rfl⟩:=qmG hr;obtain ⟨k,hk,rfl⟩:=qmG hz;exact h i k hi hk
theorem qhs (n c:Nat) (hn:n<=1000) (hc:c<=1000) (ask:Int->Int->Option G) (f:Nat->Nat->G) (h:∀ i k,i < n->k < c->ask i k = some (f i k)) :
  ((mkS ([]:List G) (n:Int)).bind λx1 =>
   bif decide ((n:Int) = (n:Int)) then
    (qA (λ(s3:(Mx × Int)) =>
      bif decide (s3.2 < (x1.length:Int)) then
       (qA (λ(s5:(Mx × Int)) =>
         bif decide (s5.2 < (c:Int)) then
          (idx s5.1 s3.2).bind λx6 =>
          (ask s3.2 s5.2).bind λx7 =>
          (idx s5.1 s3.2).bind λx8 =>
          (app x8 ([x7])).bind λx9 =>
          (idx s5.1 s3.2).bind λx10 =>
          bif decide (s3.2 = s3.2) then
           let l11:Mx:=List.set s5.1 s3.2.toNat x9
           some (.inl (l11,IntKind.wrap .i64 (s5.2 + 1)))
          else
           none
         else
          some (.inr s5.1)) (s3.1,0)).bind λ(p12:Mx) =>
       some (.inl (p12,IntKind.wrap .i64 (s3.2 + 1)))
      else
       some (.inr s3.1)) (x1,0)).bind λ(p13:Mx) =>
    some p13
   else
    none) = some (mx n c f):=by
 have e1:decide ((n:Int) = (n:Int)) = true:=by simp
 rw [qDk (by omega),qa,e1,cond_true];have hlen:(List.replicate ((n:Int).toNat) ([]:List G)).length = n:=by simp
 rw [hlen];let row (i:Nat):List G:=mkL c λk=>f i k
 refine Ok.eq ?_;rw [qfv];refine (qbc n (λi (s:Mx × Int)=>s = (mkL n λj=>if j < i then row j else [],(i:Int))) (λr=>r = mx n c f) ?_ ?_).mono (λa ha=>by rw [ha]; exact q9.2 rfl)
 ·congr 1
  refine (qoZ (by simp) λk hk=>?_);simp [hk]
 ·rintro i s hi rfl;by_cases hlt:i < n
  ·have e0:decide ((i:Int) < (n:Int)) = true:=by simp <;> omega
   simp only [e0,cond_true];rw [qtk];refine (qbc c (λk (s:Mx × Int)=>s = (mkL n λj=>if j < i then row j else if j = i then (row i).take k else [],(k:Int))) (λr=>r = mkL n λj=>if j < i + 1 then row j else []) ?_ ?_).mono ?_
   ·congr 1
    refine qdt λj hj=>?_;by_cases c1:j < i
    ·rw [if_pos c1,if_pos c1]
    ·rw [if_neg c1,if_neg c1]; simp
   ·rintro k s hk rfl;by_cases hlt2:k < c
    ·have e2:decide ((k:Int) < (c:Int)) = true:=by simp <;> omega
     have hat:idx (mkL n λj=>if j < i then row j else if j = i then (row i).take k else []) (i:Int) = some ((row i).take k):=by
      rw [qaA (qcn _ hlt)];simp
     simp only [e2,cond_true,hat,qa,h i k hlt hlt2,decide_true,Int.toNat_natCast];have hrl:(row i).length = c:=qW _ _;rw [qee (by simp [hrl]; omega)];simp only [qa];rw [qyH (by omega) (by omega),qaF];refine ⟨hlt2,?_⟩;congr 1
     refine qoZ (by simp [qW]) λj hj=>?_;rw [List.getElem?_set,qW];by_cases c1:i = j
     ·subst c1;rw [if_pos rfl,if_pos hj];simp only [Nat.lt_irrefl,if_false,if_true];rw [qci g0 (by rw [hrl]; exact hlt2)];have:(row i).getD k g0 = f i k:=qlM _ _ hlt2;rw [this]
     ·rw [if_neg c1,qcn _ hj];have:¬ j = i:=λe=>c1 e.symm;simp [this]
    ·have:k = c:=by omega
     subst this;have e2:decide ((k:Int) < (k:Int)) = false:=by simp
     simp only [e2,cond_false];rw [qam];refine qdt λj hj=>?_;by_cases c1:j < i
     ·rw [if_pos c1,if_pos (by omega)]
     ·rw [if_neg c1];by_cases c2:j = i
      ·subst c2;rw [if_pos rfl,if_pos (by omega),List.take_of_length_le (by rw [show (row j).length = k from qW _ _]; omega)]
      ·rw [if_neg c2,if_neg (by omega)]
   ·rintro r rfl;rw [qyH (by omega) (by omega),qaF];exact ⟨hlt,rfl⟩
  ·have:i = n:=by omega
   subst this;have e0:decide ((i:Int) < (i:Int)) = false:=by simp
   simp only [e0,cond_false];rw [qam];exact qdt λj hj=>by rw [if_pos hj]
def skip (r i:Nat):Nat:=if i < r then i else i + 1
def minor (f:Nat->Nat->G) (r c i k:Nat):G:=f (skip r i) (skip c k)
theorem qAQ {α:Type} {n c:Nat} (f:Nat->α) (h:c < n):((mkL n f).take c).drop 0 ++ ((mkL n f).take n).drop (c + 1) = mkL (n - 1) λk=>f (skip c k):=by
 refine qoZ (by simp [qW]; omega) λk hk=>?_;have hl:(mkL n f).length = n:=qW _ _;rw [List.drop_zero,List.take_of_length_le (l:=mkL n f) (i:=n) (by omega)];unfold skip;by_cases c1:k < c
 ·rw [List.getElem?_append_left (by rw [List.length_take]; omega),List.getElem?_take_of_lt c1,qcn f (by omega),if_pos c1]
 ·rw [List.getElem?_append_right (by rw [List.length_take]; omega),List.length_take,hl,Nat.min_eq_left (by omega),List.getElem?_drop,if_neg c1];rw [show c + 1 + (k - c) = k + 1 by omega,qcn f (by omega)]
def qgz:Nat->(Nat->Nat->G)->G
 | 0,_=>g1
 | n + 1,f=>qdZ (n + 1) λk=>if k % 2 = 1 then qio (qw (f 0 k) (qgz n (minor f 0 k))) else qw (f 0 k) (qgz n (minor f 0 k))
theorem qe1 {B:Int} {n:Nat} {f:Nat->Nat->G} {r c:Nat} (h:BdF B (n + 1) (n + 1) f):BdF B n n (minor f r c):=λi k hi hk=>h _ _ (by unfold skip; split <;> omega) (by unfold skip; split <;> omega)
def dB (B:Int):Nat->Int
 | 0=>1
 | n + 1=>((n + 1:Nat):Int) * (2 * (B * dB B n))
theorem qlJ {B:Int} (h:0<=B):∀ n,0<=dB B n
 | 0=>by simp [dB]
 | n + 1=>by
  simp only [dB];have:=Int.mul_nonneg h (qlJ h n);exact Int.mul_nonneg (by omega) (by omega)
theorem qpc {B:Int} (hB:0<=B):∀ (n:Nat) (f:Nat->Nat->G),BdF B n n f->Bd (dB B n) (qgz n f)
 | 0,f,_=>qC3 (by simp [dB])
 | n + 1,f,h=>by
  simp only [qgz,dB];refine Bd.sum λk hk=>?_;have h1:=(h 0 k (by omega) hk).mul (qpc hB n _ (qe1 (r:=0) (c:=k) h));split
  ·exact h1.neg
  ·exact h1
def qR (n:Nat) (f h:Nat->Nat->G) (i k:Nat):G:=qdZ n λj=>qw (f i j) (h j k)
end Go.Tx
end
