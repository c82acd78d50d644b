/-
  ONE LAW OF A CHAPTER: its program side is run by an interpreter that is proved sound; what it computes is shown to be what the law says. No conditions. Part 3 of 8.
-/
import Derived.Test.YteiciemjanhdcaaGreatDoorMscb
set_option linter.unusedSimpArgs false
set_option linter.unusedVariables false
set_option linter.unnecessarySimpa false
section
namespace Go.Ab
open Go
variable {P:Program} {H:Hints} {f:FuncId} {C:Orc} {w:World} {X:Cx}
theorem FOk.fence {F:Fence} {X0:Cx} {Md:Md} {n:Nat} (h:FOk F X0 Md n):F = Fence.wide\/∃ l,F = Fence.wide.inRound l:=by
 rcases h.1 with h | ⟨r,l,h,_⟩
 ·exact .inl h
 ·exact .inr ⟨l,h⟩
theorem vcall_keepE {g:FuncId} {args:List V} {st s:St} {z:V} (h:vcall C g args st = some (z,s)):s.E = st.E:=by
 unfold vcall at h;split at h
 ·split at h
  ·cases h; rfl
  ·cases h
 split at h
 ·split at h
  ·split at h
   ·split at h
    ·split at h
     ·cases h; rfl
     ·cases h
    ·cases h
   ·cases h
  ·cases h
 ·split at h
  ·split at h
   ·split at h
    ·cases h; rfl
    ·cases h
   ·cases h
  ·cases h
theorem peekL_mem {bx:Root->Option (List V)} {x:V} (hx:peekV bx x = none):∀ l:List V,x ∈ l->peekL bx l = none
 | [],h=>by simp at h
 | y :: l,h=>by
  simp only [peekL];rcases List.mem_cons.1 h with rfl | h
  ·rw [hx]
  ·rw [peekL_mem hx l h]; split <;> simp_all
theorem peekL_yld {bx:Root->Option (List V)} {r:Root} (first cap:List V):peekL bx (first ++ [.yld r] ++ cap) = none :=
 peekL_mem (x:=.yld r) (by simp [peekV]) _ (by simp)
theorem enter_ok {F:Fence} {w0:World} {X0:Cx} {Md:Md} {n:Nat} {st:St} {a:Act} (hF:FOk F X0 Md n) (hS:SimD w0 X0 Md n st a w) (fn:FuncId) {ps:Array Tmp} {t:Tmp} {ts:List Tmp} (hps:ps.toList = t :: ts) {asz bo:Code} (hnb:lookB st.B t = none) :
  ∃ l mark w1 X1 O1,(Instr.enterLoop fn a.tmps ps asz bo F.round).run P w = .ok (l,mark) w1/\Rel { st with B:=(t,[.lp .ready none f (st.E.map V.dull) (t :: ts) asz bo]) :: st.B } a.tmps w1 X1 O1 /\
   Fr w0 X0 Md n { st with B:=(t,[.lp .ready none f (st.E.map V.dull) (t :: ts) asz bo]) :: st.B } w1 X1 O1/\MarkOk w0 w1 X1 (mark ++ a.defers)/\X1.β ⟨st.L.length,t⟩ = some l:=by
 obtain ⟨X,O,h,hFr,hM⟩:=hS
 -- laying the record in a world
 have lay:∀ (w':World) (O':Pl->List Nat) (df:Nat),Rel st a.tmps w' X O'->Fr w0 X0 Md n st w' X O' ->
   Rel { st with B:=(t,[.lp .ready none f (st.E.map V.dull) (t :: ts) asz bo]) :: st.B } a.tmps (w'.alloc (.loop { state:=.ready,pending:=none,fn,tmps:=a.tmps,params:=ps,assign:=asz,body:=bo,defers:=df })) (X.setβ ⟨st.L.length,t⟩ w'.heap.size) (addO O' ⟨st.L.length,t⟩ []) /\
   Fr w0 X0 Md n { st with B:=(t,[.lp .ready none f (st.E.map V.dull) (t :: ts) asz bo]) :: st.B } (w'.alloc (.loop { state:=.ready,pending:=none,fn,tmps:=a.tmps,params:=ps,assign:=asz,body:=bo,defers:=df })) (X.setβ ⟨st.L.length,t⟩ w'.heap.size) (addO O' ⟨st.L.length,t⟩ []):=by
  intro w' O' df h' hFr';have hptr:∀ r ∈ ptrsL [V.lp .ready none f (st.E.map V.dull) (t :: ts) asz bo],(st.box r).isSome = true:=λr hr=>by
   have:r ∈ ptrsL (st.E.map V.dull):=by simpa [ptrsL,V.ptrs] using hr
   exact h'.ptrE r (ptrs_dullE this)
  refine ⟨h'.addBox hnb (.inr (.inl ⟨.ready,none,f,st.E.map V.dull,t :: ts,asz,bo,_,rfl,heap_alloc_new w' _,rfl,rfl,rfl,hps,rfl,rfl,?_,rfl⟩)) hptr,Fr.addBox h' hFr' hnb⟩;refine RepL.ext (ext_setβ (R:=ptrsL (st.E.map V.dull)) (λhm=>?_) h'.dom (λk hk=>heap_alloc_old w' _ hk)) _ _ _ (λ_ h=>h) (by simp) (repL_env h');have:=h'.ptrE _ (ptrs_dullE hm);simp [St.box,hnb] at this
 have mk:∀ (w':World) (D:List Deferred) (o:Obj),MarkOk w0 w' X D->MarkOk w0 (w'.alloc o) (X.setβ ⟨st.L.length,t⟩ w'.heap.size) D:=λw' D o hM' =>
  hM'.of λk hk _ _=>⟨heap_alloc_old w' _ (Array.getElem?_eq_some_iff.1 hk).1,rfl⟩
 rcases hF.1 with rfl | ⟨r,l,rfl,hrl,hβ,hkd⟩
 ·-- outermost
  have heff:Eff w X (w.alloc (.deferred (some []))) X [] :=
   ⟨by simp,λb hb _=>heap_alloc_old w _ hb,λ_ _ _=>rfl,by simp,rfl,λb e fz hb=>by have:=h.dom b e fz hb; simp; omega,rfl,rfl,rfl⟩
  have h1:=h.put (T:=[]) (Oin:=[]) (O':=[]) (z:=.undef) (v:=undef) none (by simp) heff (by simp [Rep]) Lin.nil (by simp) (by simp [V.ptrs]);have hF1:=Fr.put (z:=.undef) h hFr (T:=[]) (Oin:=[]) (O':=[]) none (by simp) heff (by simp);change Rel st a.tmps _ X _ at h1
  change Fr w0 X0 Md n st _ X _ at hF1
  obtain ⟨h2,hF2⟩:=lay _ _ w.heap.size h1 hF1;refine ⟨_,_,_,_,_,run_enterLoop_outer fn a.tmps ps asz bo,h2,hF2,mk _ _ _ ?_,by simp [Cx.setβ]⟩;obtain ⟨ks,hD,hnd,hks⟩:=hM;refine ⟨w.heap.size :: ks,by rw [hD]; rfl,?_,λk hk=>?_⟩
  ·refine List.nodup_cons.2 ⟨λhm=>?_,hnd⟩;have:=(Array.getElem?_eq_some_iff.1 (hks _ hm).2.1).1;omega
  ·rcases List.mem_cons.1 hk with rfl | hk
   ·refine ⟨hFr.size,heap_alloc_new w _,?_⟩;cases hω:X.ω w.heap.size with
    | none=>rfl
    | some p=>have:=h.dom w.heap.size p.1 p.2 hω; omega
   ·obtain ⟨h3,h4,h5⟩:=hks k hk;exact ⟨h3,by rw [heap_alloc_old w _ (Array.getElem?_eq_some_iff.1 h4).1]; exact h4,h5⟩
 ·-- within a round
  have hb:X.β r = some l:=by rw [hFr.β r hrl,hβ]
  have hk:=hFr.live r hrl;rw [hkd] at hk;obtain ⟨c,hc,hlp⟩:=Option.map_eq_some_iff.1 hk;obtain ⟨b,hb',_,_,hbx⟩:=h.box r c hc;rw [hb] at hb'; cases hb';have hlo:∃ lo,w.heap[l]? = some (.loop lo):=by
   rcases hbx with ⟨cs,t,_,h2⟩ | ⟨s,pe,g,env,ps,asg,body,lo,_,h1,_⟩ | ⟨es,ents,ck,rfl,_⟩
   ·rw [isLoop_rep h2] at hlp; cases hlp
   ·exact ⟨lo,h1⟩
   ·cases hlp
  obtain ⟨lo,hlo⟩:=hlo;obtain ⟨h2,hF2⟩:=lay w O lo.defers h hFr;exact ⟨_,_,_,_,_,run_enterLoop_inner hlo fn a.tmps ps asz bo,h2,hF2,mk _ _ _ hM,by simp [Cx.setβ]⟩
theorem rangeFunc_ok (hC:OrcOk P C) {bid:Nat} {g:Operand} {ps:Array Tmp} {asz bo:Code} {st st':St} {e:Ex} (hx:ex P H C f bid (.rangeFunc g ps asz bo) st = some (e,st')):CodeOk P (.rangeFunc g ps asz bo) st e st':=by
 intro F w0 X0 Md n a w hFO hS;show (Code.rangeFunc g ps asz bo).wpIn F 0 P _ a w;simp only [ex] at hx;split at hx
 ·rename_i h first cap t ts hfv hps;split at hx
  ·rename_i hnb;have hnb:lookB st.B t = none:=by simpa using hnb
   split at hx
   ·rename_i z s hcall;split at hx
    ·rename_i hok;refine wpIn_rangeFunc λfn hfn=>?_;obtain ⟨l,mark,w1,X1,O1,hent,hR1,hF1,hM1,hβ1⟩:=enter_ok (P:=P) (f:=f) hFO hS fn hps (asz:=asz) (bo:=bo) hnb;obtain ⟨X,O,hR,hFr,_⟩:=hS
     -- the function's value
     have hg:=rd_default (H:=H) (f:=f) hR1 g;have hE1:({ st with B:=(t,[.lp .ready none f (st.E.map V.dull) (t :: ts) asz bo]) :: st.B }:St).E = st.E:=rfl;rw [hE1,hfv] at hg;simp only [Rep] at hg;obtain ⟨va,vc,A1,A2,hgv,hA,ha1,ha2⟩:=hg;simp only [List.nil_eq,List.append_eq_nil_iff] at hA;obtain ⟨rfl,rfl⟩:=hA
     -- a new base
     obtain ⟨Md2,hF3,_,lift⟩:=rebase' (df:=mark ++ a.defers) hR1 hF1 hM1;have hlen:st.L.length = n:=hFr.lev;have hr0:st.box ⟨st.L.length,t⟩ = none:=by simp [St.box,hnb]
     have hyl:({ st with B:=(t,[.lp .ready none f (st.E.map V.dull) (t :: ts) asz bo]) :: st.B }:St).box ⟨st.L.length,t⟩ = some [.lp .ready none f (st.E.map V.dull) (t :: ts) asz bo]:=by
      rw [box_cons,if_pos rfl]
     have hargs:RepL w1 X1 (first ++ [.yld ⟨st.L.length,t⟩] ++ cap) (va ++ [.func (.yield l) #[] #[]] ++ vc) []:=by
      have h2:RepL w1 X1 [.yld ⟨st.L.length,t⟩] [.func (.yield l) #[] #[]] []:=by
       simp only [RepL,Rep];exact ⟨_,_,[],[],rfl,rfl,⟨rfl,l,hβ1,rfl⟩,rfl,rfl⟩
      exact repL_append (repL_append ha1 h2) ha2
     have hcall':vcall C h (first ++ [.yld ⟨st.L.length,t⟩] ++ cap) { st with B:=(t,[.lp .ready none f (st.E.map V.dull) (t :: ts) asz bo]) :: st.B } = some (z,s):=hcall;have hdoes:=call_ok (d:=none) hC.call hR1 hF3 (T:=[]) rfl hargs (by simp) Lin.nil (λq hq=>by
      rw [ptrsL_append,ptrsL_append] at hq;simp only [List.mem_append] at hq;have hin:∀ q,q ∈ (rd H f default st.E g).ptrs->(({ st with B:=(t,[.lp .ready none f (st.E.map V.dull) (t :: ts) asz bo]) :: st.B }:St).box q).isSome = true:=λq hq=>hR1.ptrE q (rd_ptrs (E:=st.E) hq);rcases hq with (hq | hq) | hq
      ·exact hin q (by rw [hfv]; simp [V.ptrs,hq])
      ·simp only [ptrsL,V.ptrs,List.append_nil,List.mem_singleton] at hq;subst hq; rw [hyl]; rfl
      ·exact hin q (by rw [hfv]; simp [V.ptrs,hq])) hcall'
     rcases hdoes with ⟨hent2,hcalls⟩ | ⟨hno,_⟩
     ·have hres:(resolve a.eval (rangeCall g l) 0).run P w1 = .ok { target:=.fn (.func h) vc.toArray,args:=va.toArray ++ #[.func (.yield l) #[] #[]] } w1:=by
       simp only [resolve,hgv,Deferred.ofValue,Sem.run_pure];congr 3
       simp [Act.eval]
      have harr:(va ++ [Value.func (.yield l) #[] #[]] ++ vc).toArray = va.toArray ++ #[Value.func (.yield l) #[] #[]] ++ vc.toArray:=by apply Array.ext'; simp
      rw [harr] at hent2 hcalls;refine ⟨l,mark,w1,_,w1,h,_,w1,hent,hres,λ_ _=>fn_wide hFO.fence _,hent2,λhd=>by rcases hFO.fence with rfl | ⟨l,rfl⟩ <;> simp [Fence.wide,Fence.inRound] at hd,?_⟩;have hpost:CallsIn Fence.wide (0 - 1) P h (va.toArray ++ #[.func (.yield l) #[] #[]] ++ vc.toArray) w1 (rangePost F 0 P l (λe' a' w'=>e' = e.exit'/\SimD w0 X0 Md n st' a' w') { a with defers:=mark ++ a.defers }):=by
       refine callsIn_wide.2 (hcalls.mono ?_);rintro e1 w3 ⟨v,rfl,X4,O4,hR4,hF4,hβ4⟩;change Rel s a.tmps w3 X4 O4 at hR4
       change Fr w1 X1 Md2 n s w3 X4 O4 at hF4
       have hsE:s.E = st.E:=(vcall_keepE hcall' :)
       have hsL:s.L.length = st.L.length:=by rw [hF4.lev,hlen]
       have hb4:X4.β ⟨st.L.length,t⟩ = some l:=by rw [hβ4 _ (Nat.le_refl _),hβ1]
       have key:∀ s0 pe g0 env0 ps0 as0 bo0,lookB s.B t = some [.lp s0 pe g0 env0 ps0 as0 bo0]->s0 ≠ .busy ->
         ∃ w4,(Instr.endLoop l).run P w3 = .ok pe w4/\SimD w0 X0 Md n { st with L:=s.L,B:=clearB [t] s.B } { a with defers:=mark ++ a.defers } w4:=by
        intro s0 pe g0 env0 ps0 as0 bo0 hl0 hnbusy;have hbx:s.box ⟨st.L.length,t⟩ = some [.lp s0 pe g0 env0 ps0 as0 bo0]:=by
         unfold St.box; rw [if_pos hsL.symm]; exact hl0
        obtain ⟨lo,hw,hst0,hpe0,_,_,_,_,_,hset⟩:=lp_set hR4 hF4 hbx hb4;obtain ⟨hR5,hF5⟩:=hset .exhausted pe;have hrun:=run_endLoop (P:=P) hw (by rw [hst0]; exact hnbusy);have hs':s.setBox ⟨st.L.length,t⟩ [.lp .exhausted pe g0 env0 ps0 as0 bo0] = { s with B:=setB s.B t [.lp .exhausted pe g0 env0 ps0 as0 bo0] }:=by
         unfold St.setBox; rw [if_pos hsL.symm]
        rw [hs'] at hR5 hF5;have hcl:∀ (B:Level) c,clearB [t] (setB B t c) = clearB [t] B:=by
         intro B c;induction B with
         | nil=>rfl
         | cons p B ih =>
          obtain ⟨k,d⟩:=p;simp only [setB];by_cases hk:k = t
          ·subst hk; simp [clearB]
          ·simp only [hk,if_false,clearB,ih]
        obtain ⟨hR6,hF6⟩:=drop_boxes hR5 hF5 (D:=[t]) (by
          show okPtrs s.L.length [t] (ptrsL s.E) = true;rw [hsE,hsL];refine List.all_eq_true.2 λr hr=>?_;have h1:=hR.ptrE r hr;by_cases h2:r.lvl = st.L.length
          ·have h3:r.slot ≠ t:=λe=>by
            have:r = ⟨st.L.length,t⟩:=by cases r; simp_all
            rw [this,hr0] at h1; cases h1
           simp [h3]
          ·simp [h2]) (by
          show okPtrs s.L.length [t] (ptrsB (clearB [t] (setB s.B t _))) = true;rw [hcl,hsL]; exact hok)
        refine ⟨_,by rw [hrun,hpe0],?_⟩;refine lift _ a.tmps _ ⟨X4,dropO (setO O4 ⟨st.L.length,t⟩ []) s.L.length [t],?_⟩;have hfin:({ st with L:=s.L,B:=clearB [t] s.B }:St) = { s with B:=clearB [t] (setB s.B t [.lp .exhausted pe g0 env0 ps0 as0 bo0]) }:=by rw [hcl,<- hsE]
        rw [hfin];exact ⟨hR6,hF6⟩
       show ∃ jump w4,(Instr.endLoop l).run P w3 = .ok jump w4/\_;split at hx
       ·rename_i g0 env0 ps0 as0 bo0 hl0;simp only [Option.some.injEq,Prod.mk.injEq] at hx;obtain ⟨rfl,rfl⟩:=hx;obtain ⟨w4,h1,h2⟩:=key _ _ _ _ _ _ _ hl0 (by simp);exact ⟨none,w4,h1,rfl,h2⟩
       ·rename_i g0 env0 ps0 as0 bo0 hl0;simp only [Option.some.injEq,Prod.mk.injEq] at hx;obtain ⟨rfl,rfl⟩:=hx;obtain ⟨w4,h1,h2⟩:=key _ _ _ _ _ _ _ hl0 (by simp);exact ⟨some .ret,w4,h1,wpIn_ret ⟨rfl,h2⟩⟩
       ·rename_i id g0 env0 ps0 as0 bo0 hl0;simp only [Option.some.injEq,Prod.mk.injEq] at hx;obtain ⟨rfl,rfl⟩:=hx;obtain ⟨w4,h1,h2⟩:=key _ _ _ _ _ _ _ hl0 (by simp);exact ⟨some (.exit id),w4,h1,wpIn_exit ⟨rfl,h2⟩⟩
       ·cases hx
      rcases hFO.fence with rfl | ⟨l',rfl⟩
      ·exact hpost
      ·exact hpost
     ·rcases hno with hno | hno
      ·rw [ptrsL_append,ptrsL_append] at hno;simp [ptrsL,V.ptrs] at hno
      ·have:=peekL_yld (bx:=({ st with B:=(t,[.lp .ready none f (st.E.map V.dull) (t :: ts) asz bo]) :: st.B }:St).box) (r:=⟨st.L.length,t⟩) first cap;rw [this] at hno; cases hno
    ·cases hx
   ·cases hx
  ·cases hx
 ·cases hx
end Go.Ab
end
section
namespace Go.Ab
open Go
variable {P:Program} {w w':World} {X:Cx}
structure Wrote (w:World) (X:Cx) (w':World) (b:Nat):Prop where
 ω:∃ e,X.ω b = some (e,false)
 kept:∀ k,k ≠ b->w'.heap[k]? = w.heap[k]?
mutual
theorem Rep.other {b:Nat} (h:Wrote w X w' b):∀ (x:V) (v:Value) (O:List Nat),x.soft = false->b ∉ O->Rep w X x v O->Rep w' X x v O
 | .undef,_,_,_,_,hr=>by simpa only [Rep] using hr
 | .val _,_,_,_,_,hr=>by simpa only [Rep] using hr
 | .ptr ..,_,_,_,_,hr=>by simpa only [Rep] using hr
 | .yld _,_,_,_,_,hr=>by simpa only [Rep] using hr
 | .mref _,_,_,_,_,hr=>by simpa only [Rep] using hr
 | .bsl ..,_,_,_,_,hr=>by simpa only [Rep] using hr
 | .room s n,v,O,hs,hb,hr=>by
  simp only [Rep] at hr ⊢;obtain ⟨b1,cap,hv,hn,hs0,rfl,hω,c,t,hc,hsz⟩:=hr;exact ⟨b1,cap,hv,hn,hs0,rfl,hω,c,t,by rw [h.kept b1 (λe=>hb (by simp [e]))]; exact hc,hsz⟩
 | .cptr f cs,v,O,hs,hb,hr=>by
  simp only [V.soft,Bool.or_eq_false_iff,decide_eq_false_iff_not] at hs;obtain ⟨hs1,hs2⟩:=hs;simp only [Rep] at hr ⊢;obtain ⟨h0,b1,off,vals,hv,hsg,⟨e,fz,hω,hle,hsh⟩,hl,hno⟩:=hr;have hf:f = .shared:=by cases f <;> simp_all
  have hne:b1 ≠ b:=λe'=>by
   obtain ⟨e0,hω0⟩:=h.ω;rw [e',hω0] at hω; cases hω;exact absurd (hsh hf) (by simp)
  refine ⟨h0,b1,off,vals,hv,λi u hi=>?_,⟨e,fz,hω,hle,hsh⟩,RepL.other h cs vals [] hs2 (by simp) hl,hno⟩;rw [cell_of_heap (h.kept b1 hne)]; exact hsg i u hi
 | .sl f c l,v,O,hs,hb,hr=>by
  simp only [V.soft,Bool.or_eq_false_iff] at hs;obtain ⟨hs1,hs2⟩:=hs;simp only [Rep] at hr ⊢;obtain ⟨hnp,hr⟩:=hr;refine ⟨hnp,?_⟩;rcases hr with hr | ⟨b1,off,cap,s,vals,O',hv,hcap,hc,hlen,hs0,hxs,hsg,hf,he,ho,ho'⟩
  ·exact .inl hr
  ·have hne:l ≠ []\/f = .own->b1 ≠ b:=by
    intro hor e;subst e;obtain ⟨e0,hω0⟩:=h.ω;obtain ⟨e1,fz,hω1,_,hm⟩:=hf;rw [hω0] at hω1; cases hω1;cases f with
    | own=>exact hb (by rw [ho rfl]; simp)
    | shared=>cases hm
    | dull =>
     rcases hor with hl | hl
     ·cases l with
      | nil=>exact hl rfl
      | cons a l=>simp at hs1
     ·cases hl
   refine .inr ⟨b1,off,cap,s,vals,O',hv,hcap,hc,hlen,hs0,hxs,?_,?_,RepE.other h s l vals O' hs2 ?_ he,ho,ho'⟩
   ·intro i u hi;cases l with
    | nil =>
     have:vals = []:=List.eq_nil_of_length_eq_zero (by simpa using hlen);subst this; simp at hi
    | cons a l =>
     have:=hne (.inl (by simp));rw [cell_of_heap (h.kept b1 this)]; exact hsg i u hi
   ·obtain ⟨e1,fz,hω1,hle,hm⟩:=hf;refine ⟨e1,fz,hω1,hle,?_⟩;cases f with
    | own =>
     obtain ⟨h1,h2,⟨c',t,h3,h4⟩,h5⟩:=hm;exact ⟨h1,h2,⟨c',t,by rw [h.kept b1 (hne (.inr rfl))]; exact h3,h4⟩,h5⟩
    | dull=>trivial
    | shared=>exact hm
   ·intro hb';by_cases hown:f = .own
    ·exact hb (by rw [ho hown]; simp [hb'])
    ·rw [(ho' hown).2] at hb'; simp at hb'
 | .fn f a c,v,O,hs,hb,hr=>by
  simp only [V.soft,Bool.or_eq_false_iff] at hs;simp only [Rep] at hr ⊢;obtain ⟨va,vc,O1,O2,hv,rfl,h1,h2⟩:=hr;simp only [List.mem_append,not_or] at hb;exact ⟨va,vc,O1,O2,hv,rfl,RepL.other h a va O1 hs.1 hb.1 h1,RepL.other h c vc O2 hs.2 hb.2 h2⟩
 | .iface t x,v,O,hs,hb,hr=>by
  simp only [V.soft] at hs;simp only [Rep] at hr ⊢;obtain ⟨u,hv,h1⟩:=hr;exact ⟨u,hv,Rep.other h x u O hs hb h1⟩
 | .agg l,v,O,hs,hb,hr=>by
  simp only [V.soft] at hs;simp only [Rep] at hr ⊢;obtain ⟨vals,hv,h1⟩:=hr;exact ⟨vals,hv,RepL.other h l vals O hs hb h1⟩
 | .tuple l,v,O,hs,hb,hr=>by
  simp only [V.soft] at hs;simp only [Rep] at hr ⊢;obtain ⟨vals,hv,h1⟩:=hr;exact ⟨vals,hv,RepL.other h l vals O hs hb h1⟩
 | .lp ..,_,_,_,_,hr=>by simp only [Rep] at hr
 | .mp _,_,_,_,_,hr=>by simp only [Rep] at hr
theorem RepL.other {b:Nat} (h:Wrote w X w' b):∀ (l:List V) (vals:List Value) (O:List Nat),softL l = false->b ∉ O->RepL w X l vals O->RepL w' X l vals O
 | [],_,_,_,_,hr=>by simpa only [RepL] using hr
 | x :: l,vals,O,hs,hb,hr=>by
  simp only [softL,Bool.or_eq_false_iff] at hs;simp only [RepL] at hr ⊢;obtain ⟨u,vs,O1,O2,hv,rfl,h1,h2⟩:=hr;simp only [List.mem_append,not_or] at hb;exact ⟨u,vs,O1,O2,hv,rfl,Rep.other h x u O1 hs.1 hb.1 h1,RepL.other h l vs O2 hs.2 hb.2 h2⟩
theorem RepE.other {b:Nat} (h:Wrote w X w' b) (s:Nat):∀ (l:List V) (vals:List Value) (O:List Nat),softL l = false->b ∉ O->RepE w X s l vals O->RepE w' X s l vals O
 | [],_,_,_,_,hr=>by simpa only [RepE] using hr
 | x :: l,vals,O,hs,hb,hr=>by
  simp only [softL,Bool.or_eq_false_iff] at hs;simp only [RepE] at hr ⊢;obtain ⟨u,vs,O1,O2,hv,hsz,rfl,h1,h2⟩:=hr;simp only [List.mem_append,not_or] at hb;exact ⟨u,vs,O1,O2,hv,hsz,rfl,Rep.other h x u O1 hs.1 hb.1 h1,RepE.other h s l vs O2 hs.2 hb.2 h2⟩
end
theorem softL_mem {l:List V} (h:softL l = false):∀ x ∈ l,x.soft = false:=by
 induction l with
 | nil=>simp
 | cons a l ih =>
  simp only [softL,Bool.or_eq_false_iff] at h;intro x hx;rcases List.mem_cons.1 hx with rfl | hx
  ·exact h.1
  ·exact ih h.2 x hx
theorem softL_of {l:List V} (h:∀ x ∈ l,x.soft = false):softL l = false:=by
 induction l with
 | nil=>rfl
 | cons a l ih =>
  simp only [softL,Bool.or_eq_false_iff];exact ⟨h a (by simp),ih λx hx=>h x (by simp [hx])⟩
theorem RepE.hole {s:Nat}:∀ {l:List V} {vals:List Value} {O:List Nat} (j:Nat) {e:V},RepE w X s l vals O->l[j]? = some e ->
  ∃ u O1 Oe O2,O = O1 ++ Oe ++ O2/\Rep w X e u Oe/\u.cells.size = s/\(∀ i,i < s->vals[j * s + i]? = u.cells.toList[i]?)/\j * s + s<=vals.length /\
   ∀ (w':World) (b:Nat) (e':V) (u':Value) (Oe':List Nat),Wrote w X w' b->b ∉ O1->b ∉ O2->softL (l.set j e') = false->Rep w' X e' u' Oe'->u'.cells.size = s ->
    ∃ vals',RepE w' X s (l.set j e') vals' (O1 ++ Oe' ++ O2)/\vals'.length = vals.length/\∀ i,vals'[i]? = if j * s<=i/\i < j * s + s then u'.cells.toList[i - j * s]? else vals[i]?
 | [],vals,O,j,e,h,hj=>by simp at hj
 | y :: l,vals,O,0,e,h,hj=>by
  simp only [RepE] at h;obtain ⟨u,vs,A,B,rfl,hsz,rfl,h1,h2⟩:=h;simp at hj; subst hj;have hl:u.cells.toList.length = s:=by simpa using hsz
  refine ⟨u,[],A,B,by simp,h1,hsz,λi hi=>?_,by simp [hsz],λw' b e' u' Oe' hw hb1 hb2 hs hr hsz'=>?_⟩
  ·rw [Nat.zero_mul,Nat.zero_add,List.getElem?_append_left (by omega)]
  ·simp only [List.set_cons_zero,softL,Bool.or_eq_false_iff] at hs;have hl':u'.cells.toList.length = s:=by simpa using hsz'
   refine ⟨u'.cells.toList ++ vs,?_,by simp [hsz,hsz'],λi=>?_⟩
   ·simp only [List.set_cons_zero,RepE,List.nil_append];exact ⟨u',vs,Oe',B,rfl,hsz',rfl,hr,RepE.other hw s l vs B hs.2 hb2 h2⟩
   ·simp only [Nat.zero_mul,Nat.zero_add,Nat.zero_le,true_and,Nat.sub_zero];split
    ·rw [List.getElem?_append_left (by omega)]
    ·rw [List.getElem?_append_right (by omega),List.getElem?_append_right (by omega),hl,hl']
 | y :: l,vals,O,j + 1,e,h,hj=>by
  simp only [RepE] at h;obtain ⟨u0,vs,A,B,rfl,hsz0,rfl,h1,h2⟩:=h;obtain ⟨u,O1,Oe,O2,rfl,hr,hsz,hc,hle,hk⟩:=RepE.hole (j:=j) h2 (by simpa using hj);have hl:u0.cells.toList.length = s:=by simpa using hsz0
  refine ⟨u,A ++ O1,Oe,O2,by simp,hr,hsz,λi hi=>?_,by rw [List.length_append,hl,Nat.succ_mul]; omega,λw' b e' u' Oe' hw hb1 hb2 hs hr' hsz'=>?_⟩
  ·rw [show (j + 1) * s + i = s + (j * s + i) by rw [Nat.succ_mul]; omega,List.getElem?_append_right (by omega),hl,Nat.add_sub_cancel_left];exact hc i hi
  ·simp only [List.set_cons_succ,softL,Bool.or_eq_false_iff] at hs;simp only [List.mem_append,not_or] at hb1;obtain ⟨vals',h3,h4,h5⟩:=hk w' b e' u' Oe' hw hb1.2 hb2 hs.2 hr' hsz';refine ⟨u0.cells.toList ++ vals',?_,by simp [h4],λi=>?_⟩
   ·simp only [List.set_cons_succ,RepE];exact ⟨u0,vals',A,O1 ++ Oe' ++ O2,rfl,hsz0,by simp,Rep.other hw y u0 A hs.1 hb1.1 h1,h3⟩
   ·rw [Nat.succ_mul];by_cases hi:i < s
    ·rw [if_neg (by omega),List.getElem?_append_left (by omega),List.getElem?_append_left (by omega)]
    ·rw [List.getElem?_append_right (by omega),List.getElem?_append_right (by omega),h5 (i - u0.cells.toList.length),hl];by_cases h6:j * s<=i - s/\i - s < j * s + s
     ·rw [if_pos h6,if_pos (by omega)];congr 1; omega
     ·rw [if_neg h6,if_neg (by omega)]
theorem RepL.hole:∀ {l:List V} {vals:List Value} {O:List Nat} (j:Nat) {z:V},RepL w X l vals O->l[j]? = some z ->
  ∃ u O1 Oz O2,O = O1 ++ Oz ++ O2/\Rep w X z u Oz/\vals[j]? = some u /\
   ∀ (w':World) (b:Nat) (z':V) (Oz':List Nat),Wrote w X w' b->b ∉ O1->b ∉ O2->softL (l.set j z') = false->Rep w' X z' u Oz'->RepL w' X (l.set j z') vals (O1 ++ Oz' ++ O2)
 | [],vals,O,j,z,h,hj=>by simp at hj
 | y :: l,vals,O,0,z,h,hj=>by
  simp only [RepL] at h;obtain ⟨u,vs,A,B,rfl,rfl,h1,h2⟩:=h;simp at hj; subst hj;refine ⟨u,[],A,B,by simp,h1,by simp,λw' b z' Oz' hw hb1 hb2 hs hr=>?_⟩;simp only [List.set_cons_zero,softL,Bool.or_eq_false_iff] at hs;simp only [List.set_cons_zero,RepL,List.nil_append];exact ⟨u,vs,Oz',B,rfl,rfl,hr,RepL.other hw l vs B hs.2 hb2 h2⟩
 | y :: l,vals,O,j + 1,z,h,hj=>by
  simp only [RepL] at h;obtain ⟨u0,vs,A,B,rfl,rfl,h1,h2⟩:=h;obtain ⟨u,O1,Oz,O2,rfl,hr,hv,hk⟩:=RepL.hole (j:=j) h2 (by simpa using hj);refine ⟨u,A ++ O1,Oz,O2,by simp,hr,by simpa using hv,λw' b z' Oz' hw hb1 hb2 hs hr'=>?_⟩;simp only [List.set_cons_succ,softL,Bool.or_eq_false_iff] at hs;simp only [List.mem_append,not_or] at hb1;simp only [List.set_cons_succ,RepL];exact ⟨u0,vs,A,O1 ++ Oz' ++ O2,rfl,by simp,Rep.other hw y u0 A hs.1 hb1.1 h1,hk w' b z' Oz' hw hb1.2 hb2 hs.2 hr'⟩
theorem one_cells {c:V} (h:c.one = true):c.cells = [c]:=by cases c <;> first | rfl | (simp [V.one] at h)
theorem recell_agg {e:V} {cs:List V} (h:∃ l,e = .agg l):recell e cs = .agg cs:=by obtain ⟨l,rfl⟩:=h; rfl
theorem recell_one {e:V} {cs:List V} (h:∀ l,e ≠ .agg l):recell e cs = cs.headD .undef:=by cases e <;> first | rfl | exact absurd rfl (h _)
theorem rep_recell {e:V} {cs:List V} {vals:List Value} {O:List Nat} (hlen:cs.length = e.cells.length) (hone:cs.all V.one = true) (h:RepL w X cs vals O) :
  ∃ u,Rep w X (recell e cs) u O/\u.cells.toList = vals/\(recell e cs).cells = cs/\(recell e cs).soft = softL cs/\(recell e cs).ptrs = ptrsL cs/\(recell e cs).oks = true:=by
 by_cases hx:∃ l,e = .agg l
 ·rw [recell_agg hx];refine ⟨.agg vals.toArray,?_,by simp [Value.cells],rfl,by simp [V.soft],by simp [V.ptrs],by simpa [V.oks,V.cells] using hone⟩;simp only [Rep]; exact ⟨vals,rfl,h⟩
 ·have hx':∀ l,e ≠ .agg l:=λl e'=>hx ⟨l,e'⟩;rw [cells_of_not_agg hx'] at hlen;rw [recell_one hx']
  match cs,hlen with
  | [c],_ =>
   simp only [List.all_cons,List.all_nil,Bool.and_true] at hone;simp only [RepL] at h;obtain ⟨u,vs,O1,O2,rfl,rfl,h1,rfl,rfl⟩:=h;refine ⟨u,by simpa using h1,by rw [cells_of_one (rep_one hone h1)],one_cells hone,by simp [softL],by simp [ptrsL],?_⟩;show c.oks = true;unfold V.oks; rw [one_cells hone]; simp [hone]
def SlF (w:World):Value->Path->Value->Prop
 | v,[],u=>u = v
 | v,(j,o,s) :: p,u=>∃ b off len cap z,v = .slice (some ⟨b,off,none⟩) len cap/\j < len/\w.cell? ⟨b,off + j * s + o,none⟩ = some z/\SlF w z p u
theorem SlF.snoc {j o s:Nat} {z:Value} {b off len cap:Nat}:∀ {p:Path} {v:Value},SlF w v p (.slice (some ⟨b,off,none⟩) len cap)->j < len->w.cell? ⟨b,off + j * s + o,none⟩ = some z->SlF w v (p ++ [(j,o,s)]) z
 | [],v,h,hj,hc=>by
  simp only [SlF] at h; subst h;exact ⟨b,off,len,cap,z,rfl,hj,hc,rfl⟩
 | (j1,o1,s1) :: p,v,h,hj,hc=>by
  simp only [SlF] at h;obtain ⟨b1,off1,len1,cap1,z1,h1,h2,h3,h4⟩:=h;exact ⟨b1,off1,len1,cap1,z1,h1,h2,h3,SlF.snoc h4 hj hc⟩
theorem spliceV_at {α:Type} {cs new:List α} {off:Nat} (h:off + new.length<=cs.length) (i:Nat):(cs.take off ++ new ++ cs.drop (off + new.length))[i]? = if off<=i/\i < off + new.length then new[i - off]? else cs[i]?:=by
 have h1:(cs.take off).length = off:=by simp <;> omega
 by_cases hi:i < off
 ·rw [if_neg (by omega),List.append_assoc,List.getElem?_append_left (by omega),List.getElem?_take,if_pos hi]
 ·by_cases hj:i < off + new.length
  ·rw [if_pos ⟨by omega,hj⟩,List.getElem?_append_left (by simp; omega),List.getElem?_append_right (by omega),h1]
  ·rw [if_neg (by omega),List.getElem?_append_right (by simp; omega),List.getElem?_drop];congr 1
   simp <;> omega
theorem own_open {c:Bool} {l:List V} {v:Value} {O:List Nat} {j s:Nat} {e:V} (h:Rep w X (.sl .own c l) v O) (he:l[j]? = some e) (hs:e.cells.length = s) :
  ∃ b off cap vals O',v = .slice (some ⟨b,off,none⟩) l.length cap/\O = b :: O'/\l.length<=cap/\(c = true->cap = l.length)/\vals.length = l.length * s/\0 < s/\(∀ x ∈ l,x.cells.length = s)/\Seg w b off vals /\
   X.ω b = some (off + vals.length,false)/\Spare w b off cap s/\(vals.length = 0->cap = 0)/\RepE w X s l vals O'/\ptrsL l = []:=by
 simp only [Rep] at h;obtain ⟨hnp,h⟩:=h;rcases h with ⟨rfl,_⟩ | ⟨b,off,cap,s',vals,O',hv,hcap,hc,hlen,hs0,hxs,hsg,⟨e1,fz,hω,hle,h1,h2,h3,h4⟩,hE,ho,_⟩
 ·simp at he
 ·have:s' = s:=by rw [<- hs]; exact (hxs e (List.mem_of_getElem? he)).symm
  subst this;subst h1;exact ⟨b,off,cap,vals,O',hv,ho trivial,hcap,hc,hlen,hs0,hxs,hsg,by rw [hω,h2],h3,h4,hE,hnp⟩
theorem own_close {c:Bool} {l:List V} {j s b off cap:Nat} {e':V} {vals vals':List Value} {O'':List Nat} (hcap:l.length<=cap) (hc:c = true->cap = l.length) (hlen:vals.length = l.length * s) (hs0:0 < s) (hxs:∀ x ∈ l,x.cells.length = s)
  (hω:X.ω b = some (off + vals.length,false)) (h0:vals.length = 0->cap = 0) (hnp:ptrsL l = []) (he:e'.cells.length = s) (hep:e'.ptrs = []) (hlen':vals'.length = vals.length) (hsg:Seg w' b off vals') (hsp:Spare w' b off cap s) (hE:RepE w' X s (l.set j e') vals' O'') :
  Rep w' X (.sl .own c (l.set j e')) (.slice (some ⟨b,off,none⟩) l.length cap) (b :: O''):=by
 simp only [Rep,List.length_set];refine ⟨?_,.inr ⟨b,off,cap,s,vals',O'',rfl,hcap,hc,by rw [hlen',hlen],hs0,?_,hsg,⟨off + vals.length,false,hω,by omega,rfl,by omega,hsp,λh=>h0 (by omega)⟩,hE,λ_=>rfl,λh=>absurd rfl h⟩⟩
 ·rw [List.eq_nil_iff_forall_not_mem];intro r hr;obtain ⟨x,hx,hr1⟩:=mem_ptrsL.1 hr;rcases List.mem_or_eq_of_mem_set hx with hx | rfl
  ·have:r ∈ ptrsL l:=mem_ptrsL.2 ⟨x,hx,hr1⟩;rw [hnp] at this; simp at this
  ·rw [hep] at hr1; simp at hr1
 ·intro x hx;rcases List.mem_or_eq_of_mem_set hx with hx | rfl
  ·exact hxs x hx
  ·exact he
theorem ptrs_noelem {l:List V} (h:ptrsL l = []) {e:V} (he:e ∈ l):e.ptrs = []:=by
 rw [List.eq_nil_iff_forall_not_mem];intro r hr;have:r ∈ ptrsL l:=mem_ptrsL.2 ⟨e,he,hr⟩;rw [h] at this; simp at this
theorem ptrsL_nil_of {l:List V} (h:∀ x ∈ l,x.ptrs = []):ptrsL l = []:=by
 rw [List.eq_nil_iff_forall_not_mem];intro r hr;obtain ⟨x,hx,hr⟩:=mem_ptrsL.1 hr;rw [h x hx] at hr; simp at hr
theorem cells_ptrs {e:V} (h:e.ptrs = []):ptrsL e.cells = []:=by
 cases e <;> simp_all [V.cells,V.ptrs,ptrsL]
theorem upd_ok {ys:List V} {yv:List Value} {Oy:List Nat} (hyr:RepL w X ys yv Oy) (hyone:ys.all V.one = true) (hyp:ptrsL ys = []) {j o s:Nat}:∀ (p:Path) (x y:V) (v:Value) (O:List Nat) {b off len cap:Nat},
  updF ys (p ++ [(j,o,s)]) x = some y->y.soft = false->Rep w X x v O->Lin (O ++ Oy)->SlF w v p (.slice (some ⟨b,off,none⟩) len cap) ->
  b ∈ O/\j < len/\(∃ e,X.ω b = some (e,false))/\(∃ arr ty,w.heap[b]? = some (.cells arr ty (0,0))/\off + j * s + o + ys.length<=arr.size)/\y.one = true/\y.ptrs = [] /\
  ∀ w',Wrote w X w' b->(∀ i,w'.cell? ⟨b,i,none⟩ = if off + j * s + o<=i/\i < off + j * s + o + ys.length then yv[i - (off + j * s + o)]? else w.cell? ⟨b,i,none⟩) ->
   (∀ c t,w.heap[b]? = some (.cells c t (0,0))->∃ c',w'.heap[b]? = some (.cells c' t (0,0))/\c'.size = c.size)->∃ O',Rep w' X y v O'/\∀ k,O'.count k<=O.count k + Oy.count k
 | [],x,y,v,O,b,off,len,cap,hu,hsoft,hr,hlin,hsl=>by
  simp only [List.nil_append] at hu;simp only [SlF] at hsl;unfold updF at hu;split at hu
  ·rename_i heq; cases heq
  ·rename_i j' o' s' p' c l heq;simp only [List.cons.injEq,Prod.mk.injEq] at heq;obtain ⟨⟨rfl,rfl,rfl⟩,rfl⟩:=heq;split at hu
   ·rename_i e he;split at hu
    ·rename_i hck;obtain ⟨hes,hok⟩:=hck;simp only at hu;split at hu
     ·rename_i hle;simp only [Option.some.injEq] at hu;subst hu;obtain ⟨b1,off1,cap1,vals,O1,rfl,rfl,hcap,hc,hlen,hs0,hxs,hsg,hω,hsp,h0,hE,hnp⟩:=own_open hr he hes;cases hsl;obtain ⟨u,A,Oe,B,rfl,hre,husz,hval,hjle,hclose⟩:=RepE.hole j hE he;obtain ⟨hcells,_⟩:=rep_cells hok hre;have hjl:j < l.length:=(List.getElem?_eq_some_iff.1 he).1;have hul:u.cells.toList.length = s:=by simpa using husz
      have hyl:yv.length = ys.length:=(repL_length _ _ _ hyr).symm;have hbig:off + j * s + o + ys.length<=off + cap * s:=by
       have:(j + 1) * s<=cap * s:=Nat.mul_le_mul_right s (by omega);rw [Nat.succ_mul] at this; omega
      obtain ⟨arr,ty,harr,hsize⟩:=hsp;have hone:(splice e.cells o ys).all V.one = true:=by
       rw [List.all_eq_true];intro z hz;unfold splice at hz;simp only [List.mem_append] at hz;have hok':∀ z ∈ e.cells,z.one = true:=List.all_eq_true.1 hok;rcases hz with (hz | hz) | hz
       ·exact hok' z (List.mem_of_mem_take hz)
       ·exact List.all_eq_true.1 hyone z hz
       ·exact hok' z (List.mem_of_mem_drop hz)
      have hlen2:(splice e.cells o ys).length = e.cells.length:=splice_length (by omega);have hep:∀ z ∈ splice e.cells o ys,z.ptrs = []:=by
       intro z hz;have hecp:=cells_ptrs (ptrs_noelem hnp (List.mem_of_getElem? he));unfold splice at hz;simp only [List.mem_append] at hz;rcases hz with (hz | hz) | hz
       ·exact ptrs_noelem hecp (List.mem_of_mem_take hz)
       ·exact ptrs_noelem hyp hz
       ·exact ptrs_noelem hecp (List.mem_of_mem_drop hz)
      refine ⟨by simp,hjl,⟨_,hω⟩,⟨arr,ty,harr,by omega⟩,rfl,by simp [V.ptrs],λw' hw hcell hobj=>?_⟩;obtain ⟨Ob,hspl,hcnt⟩:=repL_splice (off:=o) hcells hyr;have hsoft2:softL (l.set j (recell e (splice e.cells o ys))) = false:=by
       simp only [V.soft,Bool.or_eq_false_iff] at hsoft; exact hsoft.2
      have hlt:j < (l.set j (recell e (splice e.cells o ys))).length:=by simpa using hjl
      have hbO:∀ k,(b :: (A ++ Oe ++ B) ++ Oy).count k<=1:=hlin;have hb1:=hbO b;simp only [List.cons_append,List.count_cons_self,List.count_append] at hb1;have hbOb:b ∉ Ob:=λhm=>by
       have:=hcnt b; have:=List.count_pos_iff.2 hm; omega
      obtain ⟨u0,hu0,_,_,hsf,_⟩:=rep_recell (e:=e) hlen2 hone hspl;have hcs:softL (splice e.cells o ys) = false:=by
       rw [<- hsf];exact softL_mem hsoft2 _ (List.mem_of_getElem? (by rw [List.getElem?_set_self hjl]))
      have hspl':=RepL.other hw _ _ _ hcs hbOb hspl;obtain ⟨u',hu',hu'c,hrc,_,hrp,_⟩:=rep_recell (e:=e) hlen2 hone hspl';obtain ⟨vals',hE',hl',hget⟩:=hclose w' b _ u' Ob hw (λhm=>by have:=List.count_pos_iff.2 hm; omega) (λhm=>by have:=List.count_pos_iff.2 hm; omega) hsoft2 hu' (by
       have:u'.cells.toList.length = s:=by rw [hu'c]; simp <;> omega
       simpa using this)
      refine ⟨b :: (A ++ Ob ++ B),own_close hcap hc hlen hs0 hxs hω h0 hnp (by rw [hrc,hlen2,hes]) (by rw [hrp]; exact ptrsL_nil_of hep) hl' ?_ ?_ hE',λk=>?_⟩
      ·intro i z hz;rw [hget i] at hz;rw [hcell (off + i)];by_cases hi:j * s<=i/\i < j * s + s
       ·rw [if_pos hi,hu'c,spliceV_at (by omega)] at hz;by_cases hi2:o<=i - j * s/\i - j * s < o + yv.length
        ·rw [if_pos hi2] at hz;rw [if_pos (by omega)];rw [<- hz]; congr 1; omega
        ·rw [if_neg hi2] at hz;rw [if_neg (by omega)];refine hsg i z ?_;have:=hval (i - j * s) (by omega);rw [show j * s + (i - j * s) = i by omega] at this;rw [this]; exact hz
       ·rw [if_neg hi] at hz;rw [if_neg (by omega)];exact hsg i z hz
      ·obtain ⟨c',hc1,hc2⟩:=hobj arr ty harr;exact ⟨c',ty,hc1,by omega⟩
      ·have:=hcnt k;simp only [List.count_cons,List.count_append] at this ⊢;omega
     ·cases hu
    ·cases hu
   ·cases hu
  ·cases hu
 | (j1,o1,s1) :: p,x,y,v,O,b,off,len,cap,hu,hsoft,hr,hlin,hsl=>by
  obtain ⟨q,qs,hq⟩:∃ q qs,p ++ [(j,o,s)] = q :: qs:=by
   cases p with
   | nil=>exact ⟨_,_,rfl⟩
   | cons a p=>exact ⟨_,_,rfl⟩
  simp only [List.cons_append] at hu;unfold updF at hu;split at hu
  ·rename_i heq; cases heq
  ·rename_i j' o' s' p' c l heq;simp only [List.cons.injEq,Prod.mk.injEq] at heq;obtain ⟨⟨rfl,rfl,rfl⟩,rfl⟩:=heq;split at hu
   ·rename_i e he;split at hu
    ·rename_i hck;obtain ⟨hes,hok⟩:=hck;split at hu
     ·rename_i hnil; rw [hq] at hnil; cases hnil
     ·split at hu
      ·rename_i z hz;obtain ⟨z',hz',rfl⟩:=Option.map_eq_some_iff.1 hu;obtain ⟨b1,off1,cap1,vals,O1,rfl,rfl,hcap,hc,hlen,hs0,hxs,hsg,hω,hsp,h0,hE,hnp⟩:=own_open hr he hes;obtain ⟨u,A,Oe,B,rfl,hre,husz,hval,hjle,hclose⟩:=RepE.hole j1 hE he;obtain ⟨hcells,_⟩:=rep_cells hok hre;have hjl:j1 < l.length:=(List.getElem?_eq_some_iff.1 he).1;have hul:u.cells.toList.length = s1:=by simpa using husz
       obtain ⟨uz,A2,Oz,B2,rfl,hrz,huz,hclose2⟩:=RepL.hole o1 hcells hz;have ho1:o1 < s1:=by rw [<- hul]; exact (List.getElem?_eq_some_iff.1 huz).1
       simp only [SlF] at hsl;obtain ⟨b2,off2,len2,cap2,zz,heq,hj2,hc2,hsl2⟩:=hsl;cases heq;have hcell1:w.cell? ⟨b1,off1 + j1 * s1 + o1,none⟩ = some uz:=by
        rw [Nat.add_assoc];exact hsg _ _ (by rw [hval o1 ho1]; exact huz)
       rw [hcell1] at hc2; cases hc2;have hsoft2:softL (l.set j1 (recell e (e.cells.set o1 z'))) = false:=by
        simp only [V.soft,Bool.or_eq_false_iff] at hsoft; exact hsoft.2
       have hbO:∀ k,(b1 :: (A ++ (A2 ++ Oz ++ B2) ++ B) ++ Oy).count k<=1:=hlin;have hoz:o1 < e.cells.length:=(List.getElem?_eq_some_iff.1 hz).1
       -- the inner list
       have hstep:∀ (hz's:z'.soft = false),_:=λhz's=>upd_ok hyr hyone hyp p z z' uz Oz (b:=b) (off:=off) (len:=len) (cap:=cap) hz' hz's hrz (λk=>by
        have:=hbO k; simp only [List.cons_append,List.count_cons,List.count_append] at this ⊢; omega) hsl2
       have hz's:z'.soft = false:=by
        have h1:(recell e (e.cells.set o1 z')).soft = false:=softL_mem hsoft2 _ (List.mem_of_getElem? (by rw [List.getElem?_set_self hjl]));have hm:z' ∈ e.cells.set o1 z':=List.mem_of_getElem? (i:=o1) (by rw [List.getElem?_set_self hoz]);by_cases hx:∃ l0,e = .agg l0
        ·rw [recell_agg hx] at h1;simp only [V.soft] at h1;exact softL_mem h1 _ hm
        ·have hx':∀ l0,e ≠ .agg l0:=λl0 e'=>hx ⟨l0,e'⟩;rw [recell_one hx'] at h1;rw [cells_of_not_agg hx'] at h1 hoz;have:o1 = 0:=by simpa using hoz
         subst this;simpa using h1
       obtain ⟨hbz,hjlen,hωb,harr,hone',hptr',hk⟩:=hstep hz's;have hbc:=hbO b;have hbpos:=List.count_pos_iff.2 hbz;simp only [List.cons_append,List.count_cons,List.count_append] at hbc;have hbne:b ≠ b1:=λe'=>by subst e'; simp at hbc; omega
       refine ⟨by simp [hbz],hjlen,hωb,harr,rfl,by simp [V.ptrs],λw' hw hcell hobj=>?_⟩;obtain ⟨Oz',hrz',hcnt⟩:=hk w' hw hcell hobj;have hone:(e.cells.set o1 z').all V.one = true:=by
        rw [List.all_eq_true];intro y hy;rcases List.mem_or_eq_of_mem_set hy with hy | rfl
        ·exact List.all_eq_true.1 hok y hy
        ·exact hone'
       have hcs:softL (e.cells.set o1 z') = false:=by
        have h1:(recell e (e.cells.set o1 z')).soft = false:=softL_mem hsoft2 _ (List.mem_of_getElem? (by rw [List.getElem?_set_self hjl]));by_cases hx:∃ l0,e = .agg l0
        ·rw [recell_agg hx] at h1;simpa only [V.soft] using h1
        ·have hx':∀ l0,e ≠ .agg l0:=λl0 e'=>hx ⟨l0,e'⟩;rw [cells_of_not_agg hx'] at hoz ⊢;have:o1 = 0:=by simpa using hoz
         subst this;simp [softL,hz's]
       have hcl:=hclose2 w' b z' Oz' hw (λhm=>by have:=List.count_pos_iff.2 hm; omega) (λhm=>by have:=List.count_pos_iff.2 hm; omega) hcs hrz';obtain ⟨u',hu',hu'c,hrc,_,hrp,_⟩:=rep_recell (e:=e) (by simp) hone hcl;obtain ⟨vals',hE',hl',hget⟩:=hclose w' b _ u' _ hw (λhm=>by have:=List.count_pos_iff.2 hm; omega) (λhm=>by have:=List.count_pos_iff.2 hm; omega) hsoft2 hu' (by
        have:u'.cells.toList.length = s1:=by rw [hu'c]; exact hul
        simpa using this)
       have hvals:∀ i:Nat,vals'[i]? = vals[i]?:=λi=>by
        rw [hget i];split
        ·rename_i hi;rw [hu'c];have:=hval (i - j1 * s1) (by omega);rw [show j1 * s1 + (i - j1 * s1) = i by omega] at this;exact this.symm
        ·rfl
       have hepc:=cells_ptrs (ptrs_noelem hnp (List.mem_of_getElem? he));refine ⟨b1 :: (A ++ (A2 ++ Oz' ++ B2) ++ B),own_close hcap hc hlen hs0 hxs hω h0 hnp (by rw [hrc]; simpa using hes) (by
        rw [hrp];refine ptrsL_nil_of λy hy=>?_;rcases List.mem_or_eq_of_mem_set hy with hy | rfl
        ·exact ptrs_noelem hepc hy
        ·exact hptr') hl' ?_ ?_ hE',λk=>?_⟩
       ·intro i y hy;rw [hvals i] at hy;rw [cell_of_heap (hw.kept b1 (Ne.symm hbne))];exact hsg i y hy
       ·obtain ⟨arr1,ty1,ha1,ha2⟩:=hsp;exact ⟨arr1,ty1,by rw [hw.kept b1 (Ne.symm hbne)]; exact ha1,ha2⟩
       ·have:=hcnt k;simp only [List.count_cons,List.count_append] at this ⊢;omega
      ·cases hu
    ·cases hu
   ·cases hu
  ·cases hu
end Go.Ab
end
section
namespace Go.Ab
open Go
variable {P:Program} {H:Hints} {f:FuncId} {w w':World} {X:Cx}
theorem rel_shrink {st':St} {tmps:Array Value} {Ob:Pl->List Nat} (hsize:tmps.size = st'.E.length)
  (henv:∀ t x,st'.E[t]? = some x->∃ v,tmps[t]? = some v/\∃ A,Rep w' X x v A/\∀ k,A.count k<=(Ob (.tmp t)).count k)
  (hbox:∀ r c,st'.box r = some c->∃ b,X.β r = some b/\b < w'.heap.size/\X.ω b = none/\∃ A,BoxR w' X b c A/\∀ k,A.count k<=(Ob (.box r)).count k)
  (inj:∀ r r' b,(st'.box r).isSome = true->(st'.box r').isSome = true->X.β r = some b->X.β r' = some b->r = r') (hlin:∀ p,Lin (Ob p)) (hdis:∀ p q,p ≠ q->∀ b ∈ Ob p,b ∉ Ob q)
  (ptrE:∀ r ∈ ptrsL st'.E,(st'.box r).isSome = true) (ptrB:∀ r c,st'.box r = some c->∀ r' ∈ ptrsL c,(st'.box r').isSome = true) (up:∀ r c,st'.box r = some c->∀ r' ∈ ptrsL c,r'.lvl<=r.lvl) (dom:Dom w' X) :
  ∃ O',Rel st' tmps w' X O'/\∀ p k,(O' p).count k<=(Ob p).count k:=by
 have key:∀ p:Pl,∃ A:List Nat,(∀ k,A.count k<=(Ob p).count k)/\(match p with
   | .tmp t=>(∀ x,st'.E[t]? = some x->∃ v,tmps[t]? = some v/\Rep w' X x v A)/\(st'.E[t]? = none->A = [])
   | .box r=>(∀ c,st'.box r = some c->∃ b,X.β r = some b/\b < w'.heap.size/\X.ω b = none/\BoxR w' X b c A)/\(st'.box r = none->A = [])):=by
  intro p;cases p with
  | tmp t =>
   cases hx:st'.E[t]? with
   | none=>exact ⟨[],by simp,And.intro (λx hx'=>by rw [hx] at hx'; cases hx') (λ_=>rfl)⟩
   | some x =>
    obtain ⟨v,hv,A,hr,hc⟩:=henv t x hx;exact ⟨A,hc,And.intro (λy hy=>by rw [hx] at hy; cases hy; exact ⟨v,hv,hr⟩) (λh=>by rw [hx] at h; cases h)⟩
  | box r =>
   cases hx:st'.box r with
   | none=>exact ⟨[],by simp,And.intro (λx hx'=>by rw [hx] at hx'; cases hx') (λ_=>rfl)⟩
   | some c =>
    obtain ⟨b,h1,h2,h3,A,h4,hc⟩:=hbox r c hx;exact ⟨A,hc,And.intro (λy hy=>by rw [hx] at hy; cases hy; exact ⟨b,h1,h2,h3,h4⟩) (λh=>by rw [hx] at h; cases h)⟩
 obtain ⟨O',hO'⟩:=Classical.axiomOfChoice key;have hR:Rel st' tmps w' X O':={
  size:=hsize
  env:=λt x hx=>(hO' (.tmp t)).2.1 x hx
  envD:=λt ht=>(hO' (.tmp t)).2.2 (List.getElem?_eq_none ht)
  box:=λr c hr=>(hO' (.box r)).2.1 c hr
  boxD:=λr hr=>(hO' (.box r)).2.2 hr
  inj:=inj
  lin:=λp k=>Nat.le_trans ((hO' p).1 k) (hlin p k)
  dis:=λp q hpq b hb hq=>hdis p q hpq b (List.count_pos_iff.1 (Nat.lt_of_lt_of_le (List.count_pos_iff.2 hb) ((hO' p).1 b))) (List.count_pos_iff.1 (Nat.lt_of_lt_of_le (List.count_pos_iff.2 hq) ((hO' q).1 b)))
  ptrE:=ptrE
  ptrB:=ptrB
  up:=up
  dom:=dom }
 exact ⟨O',hR,λp k=>(hO' p).1 k⟩
theorem rep_hard {b:Nat} (h:Wrote w X w' b) {x:V} {v:Value} {O:List Nat} (hb:b ∉ O) (hr:Rep w X x v O):∃ A,Rep w' X x.hard v A/\∀ k,A.count k<=O.count k:=by
 unfold V.hard;cases hs:x.soft with
 | true=>exact ⟨[],by simp [Rep],by simp⟩
 | false=>exact ⟨O,by simpa using Rep.other h x v O hs hb hr,λ_=>Nat.le_refl _⟩
theorem repL_hard {b:Nat} (h:Wrote w X w' b):∀ {l:List V} {vals:List Value} {O:List Nat},b ∉ O->RepL w X l vals O->∃ A,RepL w' X (l.map V.hard) vals A/\∀ k,A.count k<=O.count k
 | [],vals,O,hb,hr=>⟨[],by simp only [RepL] at hr; simp [RepL,hr.1],by simp⟩
 | x :: l,vals,O,hb,hr=>by
  simp only [RepL] at hr;obtain ⟨u,vs,O1,O2,rfl,rfl,h1,h2⟩:=hr;simp only [List.mem_append,not_or] at hb;obtain ⟨A,h3,h4⟩:=rep_hard h hb.1 h1;obtain ⟨B,h5,h6⟩:=repL_hard h hb.2 h2;refine ⟨A ++ B,by simp only [List.map_cons,RepL]; exact ⟨u,vs,A,B,rfl,rfl,h3,h5⟩,λk=>?_⟩;have:=h4 k; have:=h6 k;simp only [List.count_append] <;> omega
theorem repL_hardHole:∀ {l:List V} {vals:List Value} {O:List Nat} (j:Nat) {z:V},RepL w X l vals O->l[j]? = some z ->
  ∃ u O1 Oz O2,O = O1 ++ Oz ++ O2/\Rep w X z u Oz/\vals[j]? = some u /\
   ∀ (w':World) (b:Nat) (z':V) (Oz':List Nat),Wrote w X w' b->b ∉ O1->b ∉ O2->Rep w' X z' u Oz'->∃ A,RepL w' X ((l.map V.hard).set j z') vals A/\∀ k,A.count k<=O1.count k + Oz'.count k + O2.count k
 | [],vals,O,j,z,h,hj=>by simp at hj
 | y :: l,vals,O,0,z,h,hj=>by
  simp only [RepL] at h;obtain ⟨u,vs,A,B,rfl,rfl,h1,h2⟩:=h;simp at hj; subst hj;refine ⟨u,[],A,B,by simp,h1,by simp,λw' b z' Oz' hw hb1 hb2 hr=>?_⟩;obtain ⟨C,h3,h4⟩:=repL_hard hw hb2 h2;refine ⟨Oz' ++ C,by simp only [List.map_cons,List.set_cons_zero,RepL]; exact ⟨u,vs,Oz',C,rfl,rfl,hr,h3⟩,λk=>?_⟩;have:=h4 k;simp only [List.count_append,List.count_nil] <;> omega
 | y :: l,vals,O,j + 1,z,h,hj=>by
  simp only [RepL] at h;obtain ⟨u0,vs,A,B,rfl,rfl,h1,h2⟩:=h;obtain ⟨u,O1,Oz,O2,rfl,hr,hv,hk⟩:=repL_hardHole (j:=j) h2 (by simpa using hj);refine ⟨u,A ++ O1,Oz,O2,by simp,hr,by simpa using hv,λw' b z' Oz' hw hb1 hb2 hr'=>?_⟩;simp only [List.mem_append,not_or] at hb1;obtain ⟨C,h3,h4⟩:=hk w' b z' Oz' hw hb1.2 hb2 hr';obtain ⟨D,h5,h6⟩:=rep_hard hw hb1.1 h1;refine ⟨D ++ C,by simp only [List.map_cons,List.set_cons_succ,RepL]; exact ⟨u0,vs,D,C,rfl,rfl,h5,h3⟩,λk=>?_⟩;have:=h4 k; have:=h6 k;simp only [List.count_append] <;> omega
theorem hard_ptrs {x:V} {r:Root} (h:r ∈ x.hard.ptrs):r ∈ x.ptrs:=by
 unfold V.hard at h;split at h
 ·simp [V.ptrs] at h
 ·exact h
theorem hardL_ptrs {l:List V} {r:Root} (h:r ∈ ptrsL (l.map V.hard)):r ∈ ptrsL l:=by
 obtain ⟨x,hx,hr⟩:=mem_ptrsL.1 h;obtain ⟨y,hy,rfl⟩:=List.mem_map.1 hx;exact mem_ptrsL.2 ⟨y,hy,hard_ptrs hr⟩
theorem lookB_hard (s:Nat):∀ B:Level,lookB (hardB B) s = (lookB B s).map (List.map V.hard)
 | []=>rfl
 | (k,c) :: B=>by
  simp only [hardB,List.map_cons,lookB];split
  ·rfl
  ·exact lookB_hard s B
theorem lookB_noLp {s:Nat} {c:List V}:∀ {B:Level},noLpB B = true->lookB B s = some c->isLp c = false
 | [],_,h=>by simp [lookB] at h
 | (k,c') :: B,hn,h=>by
  simp only [noLpB,List.all_cons,Bool.and_eq_true,Bool.not_eq_true'] at hn;simp only [lookB] at h;split at h
  ·cases h; exact hn.1
  ·exact lookB_noLp hn.2 h
def RootVal (w:World) (X:Cx) (tmps:Array Value):Rt->Value->Prop
 | .tmp r,v=>tmps.getD r undef = v
 | .box q off,v=>∃ b,X.β q = some b/\w.cell? ⟨b,off,none⟩ = some v
def PtrR (w:World) (v0:Value):Path->Nat->Nat->Prop
 | [],_,_=>False
 | (j,o,s) :: p,b,k=>∃ off len cap,SlF w v0 p.reverse (.slice (some ⟨b,off,none⟩) len cap)/\j < len/\k = off + j * s + o
def rowAt (arr:Array Value) (k:Nat) (yv:List Value):Array Value:=(arr.toList.take k ++ yv ++ arr.toList.drop (k + yv.length)).toArray
theorem wrote_row {b k:Nat} {arr:Array Value} {ty:TypeId} {yv:List Value} (hω:∃ e,X.ω b = some (e,false)) (ha:w.heap[b]? = some (.cells arr ty (0,0))) (hle:k + yv.length<=arr.size) :
  Wrote w X (w.setRow b (rowAt arr k yv)) b/\(∀ i,(w.setRow b (rowAt arr k yv)).cell? ⟨b,i,none⟩ = if k<=i/\i < k + yv.length then yv[i - k]? else w.cell? ⟨b,i,none⟩) /\
   (∀ c t,w.heap[b]? = some (.cells c t (0,0))->∃ c',(w.setRow b (rowAt arr k yv)).heap[b]? = some (.cells c' t (0,0))/\c'.size = c.size):=by
 have hset:=setRow_heap w b arr (rowAt arr k yv) ty (0,0) ha;refine ⟨⟨hω,λk' hk'=>setRow_other w b k' _ hk'⟩,λi=>?_,λc t hc=>?_⟩
 ·simp only [World.cell?,hset,ha];have h1:(rowAt arr k yv)[i]? = (rowAt arr k yv).toList[i]?:=by simp
  have h2:arr[i]? = arr.toList[i]?:=by simp
  simp only [h1,h2];unfold rowAt;exact spliceV_at (by simpa using hle) i
 ·rw [ha] at hc; cases hc;refine ⟨_,hset,?_⟩;unfold rowAt; simp <;> omega
theorem reverse_snoc {a:Nat × Nat × Nat} {p:Path}:(a :: p).reverse = p.reverse ++ [a]:=by simp
theorem ls_world {w0:World} {X0:Cx} {Md:Md} {n:Nat} {st st':St} {D:List Deferred} {tmps:Array Value} {O:Pl->List Nat} (h:Rel st tmps w X O) (hF:Fr w0 X0 Md n st w X O) (hz:n = 0->∀ b e fz,X0.ω b = some (e,fz)->fz = true) (hM:MarkOk w0 w X D) (hL:st.L = []) {b:Nat}
  (hw:Wrote w X w' b) (hbO:∃ p,b ∈ O p) (hsz:w'.heap.size = w.heap.size) (hos:w'.os = w.os) (hout:w'.output = w.output) (htape:w'.tape = w.tape)
  {Ob:Pl->List Nat} (hOb:∀ p k,k ∈ Ob p->∃ q,k ∈ O q) {O':Pl->List Nat} (hO':∀ p k,(O' p).count k<=(Ob p).count k) (hL':st'.L = []) (hlive:∀ r,(st'.box r).map isLoop = (st.box r).map isLoop) :
  Fr w0 X0 Md n st' w' X O'/\MarkOk w0 w' X D:=by
 obtain ⟨p0,hp0⟩:=hbO;obtain ⟨e0,hω⟩:=hw.ω;have hn:n = 0:=by rw [<- hF.lev,hL]; rfl
 refine ⟨{ gl:=hF.gl,gm:=hF.gm,size:=by rw [hsz]; exact hF.size,kept:=?_,grew:=?_,β:=hF.β,own:=?_,boxM:=?_,lev:=by rw [hL',hn]; rfl,live:=?_,os:=by rw [hos,hF.os],out:=by rw [hout,hF.out],tape:=by rw [htape,hF.tape] },?_⟩
 ·intro k hk hMk;obtain ⟨h1,h2⟩:=hF.kept k hk hMk;refine ⟨?_,h2⟩;by_cases hkb:k = b
  ·subst hkb;rcases hF.own p0 k hp0 with h3 | h3
   ·omega
   ·exact absurd h3 hMk
  ·rw [hw.kept k hkb,h1]
 ·intro k e fz hω0;obtain ⟨e1,fz1,h1,h2,h3,h4⟩:=hF.grew k e fz hω0;refine ⟨e1,fz1,h1,h2,h3,λi v hi hc=>?_⟩;by_cases hkb:k = b
  ·subst hkb;have:=h3 (hz hn _ _ _ hω0);rw [hω] at h1;cases h1; cases this
  ·rw [cell_of_heap (hw.kept k hkb)]; exact h4 i v hi hc
 ·intro p k hk;obtain ⟨q,hq⟩:=hOb p k (List.count_pos_iff.1 (Nat.lt_of_lt_of_le (List.count_pos_iff.2 hk) (hO' p k)));exact hF.own q k hq
 ·intro r k hr hb;refine hF.boxM r k ?_ hb;have:=congrArg Option.isSome (hlive r);simpa [hr] using this.symm
 ·intro r hr; rw [hlive]; exact hF.live r hr
 ·exact hM.of λk hk hωk _=>⟨hw.kept k (λe=>by subst e; rw [hω] at hωk; cases hωk),rfl⟩
theorem box_L0 {st:St} (hL:st.L = []) (r:Root):st.box r = if r.lvl = 0 then lookB st.B r.slot else none:=by
 unfold St.box; simp [hL]
theorem lookB_setB (s s':Nat) (c:List V):∀ B:Level,lookB (setB B s c) s' = if s' = s then (lookB B s).map (λ_=>c) else lookB B s'
 | []=>by simp [setB,lookB]
 | (k,d) :: B=>by
  simp only [setB];by_cases h1:k = s
  ·subst h1;simp only [if_true,lookB];by_cases h2:s' = k
   ·simp [h2]
   ·simp [h2,Ne.symm h2]
  ·simp only [h1,if_false,lookB];rw [lookB_setB s s' c B];by_cases h2:s' = s
   ·subst h2; simp [h1]
   ·by_cases h3:k = s'
    ·simp [h3,h2]
    ·simp [h3,h2]
theorem isLoop_hard' {c:List V} (h:isLoop c = false):isLoop (c.map V.hard) = false:=by
 match c with
 | []=>rfl
 | x :: l =>
  simp only [List.map_cons];unfold V.hard;split
  ·rfl
  ·cases x <;> first | rfl | (simp [isLoop] at h)
theorem lookB_noLoop {s:Nat} {c:List V}:∀ {B:Level},noLoopB B = true->lookB B s = some c->isLoop c = false
 | [],_,h=>by simp [lookB] at h
 | (k,c') :: B,hn,h=>by
  simp only [noLoopB,List.all_cons,Bool.and_eq_true,Bool.not_eq_true'] at hn;simp only [lookB] at h;split at h
  ·cases h; exact hn.1
  ·exact lookB_noLoop hn.2 h
theorem noLoop_of {B:Level} (h:noLpB B = true):noLoopB B = true:=by
 unfold noLpB at h;unfold noLoopB;rw [List.all_eq_true] at h ⊢;intro p hp;have:=h p hp;simp only [Bool.not_eq_true'] at this ⊢;exact isLoop_of this
theorem ls_state {w0:World} {X0:Cx} {Md:Md} {n:Nat} {st st':St} {D:List Deferred} {tmps:Array Value} {O:Pl->List Nat} (h:Rel st tmps w X O) (hF:Fr w0 X0 Md n st w X O) (hz:n = 0->∀ b e fz,X0.ω b = some (e,fz)->fz = true) (hM:MarkOk w0 w X D) (hL:st.L = []) (hnl:noLoopB st.B = true)
  {b:Nat} (hw:Wrote w X w' b) (hsz:w'.heap.size = w.heap.size) (hos:w'.os = w.os) (hout:w'.output = w.output) (htape:w'.tape = w.tape)
  {T:List Tmp} {Ox:List Nat} (hin:∀ k ∈ Ox,∃ t ∈ T,k ∈ O (.tmp t)) (hlx:Lin Ox) {pl:Pl} (hpl:∀ t ∈ T,pl ≠ .tmp t) (hb:b ∈ O pl) (hlen:st'.E.length = st.E.length) (hL':st'.L = [])
  (henv:∀ t x',st'.E[t]? = some x'->(pl ≠ .tmp t/\∃ x0,(dullAt st.E T)[t]? = some x0/\x' = x0.hard)\/(pl = .tmp t/\x'.ptrs = []/\∃ v,tmps[t]? = some v/\∃ A,Rep w' X x' v A/\∀ k,A.count k<=(O pl).count k + Ox.count k))
  (hbs:∀ q,(st'.box q).isSome = (st.box q).isSome)
  (hbox:∀ q c',st'.box q = some c'->∃ c,st.box q = some c/\((pl ≠ .box q/\c' = c.map V.hard)\/(pl = .box q/\(isLp c = false/\isLp c' = false)/\(∀ r ∈ ptrsL c',r ∈ ptrsL c)/\∀ arr:List Value,RepL w X c arr (O (.box q))->(∀ bq,X.β q = some bq->∀ i,w.cell? ⟨bq,i,none⟩ = arr[i]?)->∃ A,RepL w' X c' arr A/\∀ k,A.count k<=(O pl).count k + Ox.count k))) :
  ∃ O',Rel st' tmps w' X O'/\Fr w0 X0 Md n st' w' X O'/\MarkOk w0 w' X D:=by
 have h1:=h.taken T;generalize hO1:putO O T none st.E.length [] = O1 at h1;have hO1':∀ p k,k ∈ O1 p->k ∈ O p/\∀ t ∈ T,p ≠ .tmp t:=λp k hk=>by
  rw [<- hO1] at hk;cases p with
  | tmp t =>
   simp only [putO] at hk;rw [if_neg (by simp)] at hk;split at hk
   ·simp at hk
   ·rename_i hn;exact ⟨hk,λt' ht' e=>hn (by cases e; exact ht')⟩
  | box r=>exact ⟨hk,λt' _ e=>by cases e⟩
 have hO1c:∀ p k,(O1 p).count k<=(O p).count k:=λp k=>by
  rw [<- hO1];cases p with
  | tmp t =>
   simp only [putO];rw [if_neg (by simp)];split
   ·simp
   ·exact Nat.le_refl _
  | box r=>exact Nat.le_refl _
 have hbn:∀ p,p ≠ pl->b ∉ O1 p:=λp hp hk=>h.dis p pl hp b (hO1' p b hk).1 hb;have hxpl:∀ k ∈ Ox,k ∉ O pl:=λk hk hkp=>by
  obtain ⟨t,ht,hkt⟩:=hin k hk;exact h.dis pl (.tmp t) (hpl t ht) k hkp hkt
 have hx1:∀ k ∈ Ox,∀ p,k ∉ O1 p:=λk hk p hkp=>by
  obtain ⟨t,ht,hkt⟩:=hin k hk;obtain ⟨h2,h3⟩:=hO1' p k hkp;exact h.dis p (.tmp t) (h3 t ht) k h2 hkt
 have hlpB:∀ q c,st.box q = some c->isLoop c = false:=λq c hq=>by
  rw [box_L0 hL] at hq;split at hq
  ·exact lookB_noLoop hnl hq
  ·cases hq
 have hrel:=rel_shrink (w':=w') (X:=X) (tmps:=tmps) (st':=st') (Ob:=λp=>if p = pl then O pl ++ Ox else O1 p) (by rw [hlen]; exact h.size) ?_ ?_ ?_ ?_ ?_ ?_ ?_ ?_ ?_
 ·obtain ⟨O',hR,hc⟩:=hrel;obtain ⟨hF',hM'⟩:=ls_world (st':=st') (O':=O') h hF hz hM hL hw ⟨pl,hb⟩ hsz hos hout htape (Ob:=λp=>if p = pl then O pl ++ Ox else O1 p) (λp k hk=>by
   by_cases hp:p = pl
   ·simp only [hp,if_true,List.mem_append] at hk;rcases hk with hk | hk
    ·exact ⟨pl,hk⟩
    ·obtain ⟨t,_,hkt⟩:=hin k hk; exact ⟨_,hkt⟩
   ·simp only [hp,if_false] at hk;exact ⟨p,(hO1' p k hk).1⟩) hc hL' (λq=>by
   cases hq:st.box q with
   | none =>
    have:=hbs q;rw [hq] at this;cases hq':st'.box q with
    | none=>rfl
    | some c=>rw [hq'] at this; simp at this
   | some c =>
    have:=hbs q;rw [hq] at this;obtain ⟨c',hc'⟩:=Option.isSome_iff_exists.1 (by simpa using this:(st'.box q).isSome = true);obtain ⟨c2,h2,h3⟩:=hbox q c' hc';rw [hq] at h2; cases h2;rw [hc',Option.map_some,Option.map_some,hlpB q c hq];rcases h3 with ⟨_,rfl⟩ | ⟨_,h3,_⟩
    ·rw [isLoop_hard' (hlpB q c hq)]
    ·rw [isLoop_of h3.2])
  exact ⟨O',hR,hF',hM'⟩
 ·intro t x' hx';rcases henv t x' hx' with ⟨hne,x0,h2,rfl⟩ | ⟨rfl,_,v,hv,A,hr,hA⟩
  ·obtain ⟨v,hv,hr⟩:=h1.env t x0 h2;obtain ⟨A,h3,h4⟩:=rep_hard hw (hbn _ (Ne.symm hne)) hr;exact ⟨v,hv,A,h3,by simpa [Ne.symm hne] using h4⟩
  ·exact ⟨v,hv,A,hr,λk=>by have:=hA k; simp only [if_true,List.count_append]; exact this⟩
 ·intro q c' hq;obtain ⟨c,hc,hcase⟩:=hbox q c' hq;obtain ⟨bq,hβ,hlt,hω,hbx⟩:=h.box q c hc;obtain ⟨e0,hω0⟩:=hw.ω;have hne:bq ≠ b:=λe=>by subst e; rw [hω0] at hω; cases hω
  refine ⟨bq,hβ,by omega,hω,?_⟩;rcases hcase with ⟨hp,rfl⟩ | ⟨rfl,hlps,_,hk⟩
  ·rcases hbx with ⟨arr,ty,harr,hl⟩ | ⟨s,pe,g,env,ps,asg,body,lo,rfl,_⟩ | ⟨es,ents,clock,rfl,hm1,hm2,hm3⟩
   rotate_left
   ·have:=hlpB q _ hc; simp [isLoop] at this
   ·exact ⟨[],.inr (.inr ⟨es,ents,clock,rfl,by rw [hw.kept bq hne]; exact hm1,hm2,rfl⟩),by simp⟩
   obtain ⟨A,h3,h4⟩:=repL_hard hw (λhm=>h.dis (.box q) pl (Ne.symm hp) b hm hb) hl;refine ⟨A,.inl ⟨arr,ty,by rw [hw.kept bq hne]; exact harr,h3⟩,λk=>?_⟩;rw [if_neg (Ne.symm hp),<- hO1]; exact h4 k
  ·obtain ⟨arr,ty,harr,hl⟩:=hbx.cells hlps.1;obtain ⟨A,h3,h4⟩:=hk arr.toList hl (λbq' hβ' i=>by rw [hβ] at hβ'; cases hβ'; simp [World.cell?,harr]);refine ⟨A,.inl ⟨arr,ty,by rw [hw.kept bq hne]; exact harr,h3⟩,λk=>?_⟩;have:=h4 k;simp only [if_true,List.count_append]; exact this
 ·intro r r' k h2 h3 h4 h5;rw [hbs] at h2 h3;exact h.inj r r' k h2 h3 h4 h5
 ·intro p k;by_cases hp:p = pl
  ·simp only [hp,if_true,List.count_append];have h2:=h.lin pl k; have h3:=hlx k;by_cases hk:k ∈ Ox
   ·have:=List.count_eq_zero.2 (hxpl k hk); omega
   ·have:=List.count_eq_zero.2 hk; omega
  ·simp only [hp,if_false];exact Nat.le_trans (hO1c p k) (h.lin p k)
 ·intro p q hpq k hkp hkq;by_cases hp:p = pl
  ·have hq:q ≠ pl:=λe=>hpq (by rw [hp,e]);simp only [hp,if_true,List.mem_append] at hkp;simp only [hq,if_false] at hkq;rcases hkp with hkp | hkp
   ·exact h.dis pl q (Ne.symm hq) k hkp (hO1' q k hkq).1
   ·exact hx1 k hkp q hkq
  ·simp only [hp,if_false] at hkp;by_cases hq:q = pl
   ·simp only [hq,if_true,List.mem_append] at hkq;rcases hkq with hkq | hkq
    ·exact h.dis p pl hp k (hO1' p k hkp).1 hkq
    ·exact hx1 k hkq p hkp
   ·simp only [hq,if_false] at hkq;exact h.dis p q hpq k (hO1' p k hkp).1 (hO1' q k hkq).1
 ·intro r hr;rw [hbs];obtain ⟨x',hx',hr'⟩:=mem_ptrsL.1 hr;obtain ⟨t,ht⟩:=List.mem_iff_getElem?.1 hx';rcases henv t x' ht with ⟨_,x0,h2,rfl⟩ | ⟨_,h2,_⟩
  ·exact h1.ptrE r (mem_ptrsL.2 ⟨x0,List.mem_of_getElem? h2,hard_ptrs hr'⟩)
  ·rw [h2] at hr'; simp at hr'
 ·intro q c' hq r' hr';rw [hbs];obtain ⟨c,hc,⟨_,rfl⟩ | ⟨_,_,hp,_⟩⟩:=hbox q c' hq
  ·exact h.ptrB q c hc r' (hardL_ptrs hr')
  ·exact h.ptrB q c hc r' (hp r' hr')
 ·intro q c' hq r' hr';obtain ⟨c,hc,⟨_,rfl⟩ | ⟨_,_,hp,_⟩⟩:=hbox q c' hq
  ·exact h.up q c hc r' (hardL_ptrs hr')
  ·exact h.up q c hc r' (hp r' hr')
 ·intro k e fz hk; rw [hsz]; exact h.dom k e fz hk
end Go.Ab
end
section
namespace Go.Ab
open Go
variable {P:Program} {H:Hints} {f:FuncId} {w w':World} {X:Cx}
theorem upd_at {ys:List V} {p:Path} {E:List V} {r:Nat} {y:V} (h:updF ys p (E.getD r .undef) = some y):E[r]? = some (E.getD r .undef):=by
 rw [List.getD_eq_getElem?_getD] at h ⊢;cases hr:E[r]? with
 | some x=>rfl
 | none =>
  rw [hr] at h;simp only [Option.getD_none] at h;cases p with
  | nil=>simp [updF] at h
  | cons a p=>obtain ⟨j,o,s⟩:=a; simp [updF] at h
theorem run_store {a:Act} {t:TypeId} {d:Tmp} {xo:Operand} {b k:Nat} {arr:Array Value} {ty:TypeId} (hs0:P.cellsOf t ≠ 0) (hd:a.tmps.getD d undef = .pointer (some ⟨b,k,none⟩)) (ha:w.heap[b]? = some (.cells arr ty (0,0)))
  (hl:(a.eval xo).cells.toList.length = P.cellsOf t) (hle:k + (a.eval xo).cells.toList.length<=arr.size) (hones:∀ c ∈ (a.eval xo).cells.toList,c.oneCell' = true) :
  (Instr.storeAt t (a.eval (.tmp d)) (a.eval xo)).run P w = .ok () (w.setRow b (rowAt arr k (a.eval xo).cells.toList)):=by
 have hv:a.eval (.tmp d) = .pointer (some ⟨b,k,none⟩):=hd;have hst:=run_storeCells_at (P:=P) b k ty (a.eval xo).cells.toList 0 arr w ha (by omega) hones;simp only [Nat.add_zero] at hst;rw [hv];have:¬ ((a.eval xo).cells.size ≠ P.cellsOf t):=by rw [<- hl]; simp
 simp only [Instr.storeAt,Instr.sureAddr,Sem.run_bind,Sem.run_pure,Result.andThen_ok,storeVar,run_sizeOf' hs0,if_neg this];exact hst
theorem lookB_some_set {st:St} {q:Root} {c c':List V} {E:List V} (hL:st.L = []) (hq:st.box q = some c) (q':Root) :
  ({ st with E:=E,B:=setB (hardB st.B) q.slot c' }:St).box q' = if q' = q then some c' else (st.box q').map (List.map V.hard):=by
 have hq0:q.lvl = 0/\lookB st.B q.slot = some c:=by
  rw [box_L0 hL] at hq;split at hq
  ·rename_i h0; exact ⟨h0,hq⟩
  ·cases hq
 rw [box_L0 (st:=({ st with E:=E,B:=setB (hardB st.B) q.slot c' }:St)) hL,box_L0 hL];simp only [lookB_setB,lookB_hard];by_cases h0:q'.lvl = 0
 ·rw [if_pos h0,if_pos h0];by_cases hs:q'.slot = q.slot
  ·have:q' = q:=by
    obtain ⟨l,s⟩:=q'; obtain ⟨l',s'⟩:=q;simp only at h0 hs hq0;rw [h0,hs,hq0.1]
   rw [if_pos hs,if_pos this,hq0.2]; rfl
  ·rw [if_neg hs,if_neg (λe=>hs (by rw [e]))]
 ·rw [if_neg h0,if_neg h0,if_neg (λe=>h0 (by rw [e]; exact hq0.1))]; rfl
theorem ls_ok {w0:World} {X0:Cx} {Md:Md} {n:Nat} {ops:Array Oper} {s:Nat} {o:Oper} {st st':St} {a:Act} {O:Pl->List Nat} (h:Rel st a.tmps w X O) (hF:Fr w0 X0 Md n st w X O) (hz:n = 0->∀ b e fz,X0.ω b = some (e,fz)->fz = true) (hM:MarkOk w0 w X a.defers)
  {t:TypeId} {d:Tmp} {xo:Operand} (hop:o.op = .store t (.tmp d) xo)
  (hpath:∀ rt p,lkPath P H f ops st.E ops.size s d = some (rt,p,true)->∃ v0 b k,RootVal w X a.tmps rt v0/\a.tmps.getD d undef = .pointer (some ⟨b,k,none⟩)/\PtrR w v0 p b k)
  (hx:lsStep P H f ops s o st = some st') :
  o.dst = none/\o.guard = none/\∃ w' b,(Instr.storeAt t (a.eval (.tmp d)) (a.eval xo)).run P w = .ok () w'/\Wrote w X w' b/\w'.heap.size = w.heap.size/\∃ O',Rel st' a.tmps w' X O'/\Fr w0 X0 Md n st' w' X O'/\MarkOk w0 w' X a.defers:=by
 unfold lsStep at hx;rw [hop] at hx;simp only at hx;split at hx
 ·rename_i hcond;simp only [Bool.and_eq_true,decide_eq_true_eq,List.isEmpty_iff,Option.isNone_iff_eq_none] at hcond;obtain ⟨⟨⟨⟨⟨⟨⟨⟨hL,hnl⟩,hdst⟩,hgd⟩,hnd⟩,hs0⟩,hxl⟩,hxo⟩,hxp⟩:=hcond;have htk:takes H f o = true:=by simp [takes,hop,takesOp]
  have hops:o.op.operands.toList = [.tmp d,xo]:=by rw [hop]; rfl
  obtain ⟨Oin,hrep,hs,hlin⟩:=rel_operands (H:=H) (f:=f) h o o.op.operands.toList (λ_=>hnd);rw [hops] at hrep;simp only [List.map_cons,List.map_nil,RepL] at hrep;obtain ⟨u1,vs1,O1,O2,hu1,rfl,hr1,u,vs2,Ox,O4,hu2,rfl,hrx,rfl,rfl⟩:=hrep;simp only [List.cons.injEq] at hu1;obtain ⟨rfl,rfl⟩:=hu1;simp only [List.cons.injEq,and_true] at hu2;subst hu2;simp only [List.append_nil] at hs hlin;have hin:∀ k ∈ Ox,∃ t ∈ tmpsOf o,k ∈ O (.tmp t):=λk hk=>(hs k (by simp [hk])).2;have hlx:Lin Ox:=hlin.right;obtain ⟨hcells,hones⟩:=rep_cells hxo hrx;have hul:(a.eval xo).cells.toList.length = (rd H f o st.E xo).cells.length:=(repL_length _ _ _ hcells).symm;have hyp:ptrsL (rd H f o st.E xo).cells = []:=cells_ptrs hxp;refine ⟨hdst,hgd,?_⟩;have hplx:∀ pl:Pl,(∀ t ∈ tmpsOf o,pl ≠ .tmp t)->Lin (O pl ++ Ox):=λpl hpl k=>by
   rw [List.count_append];have h2:=h.lin pl k; have h3:=hlx k;by_cases hk:k ∈ Ox
   ·have:(O pl).count k = 0:=List.count_eq_zero.2 λhkp=>by
     obtain ⟨t',ht',hkt⟩:=hin k hk;exact h.dis pl (.tmp t') (hpl t' ht') k hkp hkt
    omega
   ·have:=List.count_eq_zero.2 hk; omega
  split at hx
  ·-- the owner is a temporary
   rename_i r p hlk;obtain ⟨v0,b,k,hroot,hptr,hpr⟩:=hpath _ _ hlk;split at hx
   ·cases hx
   ·rename_i hrT;have hrT':r ∉ tmpsOf o:=by simpa using hrT
    split at hx
    ·rename_i y hy;split at hx
     ·cases hx
     ·rename_i hsoft;have hsoft:y.soft = false:=by simpa using hsoft
      simp only [Option.some.injEq] at hx;subst hx;have hE:=upd_at hy;obtain ⟨v1,hv1,hr0⟩:=h.env r _ hE;have:v1 = v0:=by
       simp only [RootVal] at hroot;rw [<- hroot,Array.getD_eq_getD_getElem?,hv1]; rfl
      subst this;cases p with
      | nil=>exact hpr.elim
      | cons q p =>
       obtain ⟨j,o',s'⟩:=q;obtain ⟨off,len,cap,hsl,hj,rfl⟩:=hpr;rw [reverse_snoc] at hy;have hpl:∀ t ∈ tmpsOf o,Pl.tmp r ≠ .tmp t:=λt' ht' e=>hrT' (by cases e; exact ht');obtain ⟨hbO,_,hω,⟨arr,ty,harr,hsize⟩,hy1,hyp',hk⟩:=upd_ok hcells hxo hyp _ _ _ _ _ hy hsoft hr0 (hplx _ hpl) hsl;obtain ⟨hW,hcell,hobj⟩:=wrote_row (X:=X) (k:=off + j * s' + o') (yv:=(a.eval xo).cells.toList) hω harr (by rw [hul]; exact hsize);obtain ⟨A,hA,hcnt⟩:=hk _ hW (by rw [<- hul]; exact hcell) hobj;refine ⟨_,b,run_store hs0 hptr harr (by rw [hul]; exact hxl) (by rw [hul]; exact hsize) hones,hW,by simp,?_⟩;refine ls_state h hF hz hM hL (noLoop_of hnl) hW (by simp) rfl rfl rfl hin hlx hpl hbO (by simp [dullAt_length]) hL ?_ (λq=>?_) (λq c' hq=>?_)
       ·intro t' x' hx';simp only [List.getElem?_set] at hx';by_cases hrt:r = t'
        ·subst hrt;rw [if_pos rfl] at hx';split at hx'
         ·cases hx'
          exact .inr ⟨rfl,hyp',v1,hv1,A,hA,hcnt⟩
         ·cases hx'
        ·rw [if_neg hrt,List.getElem?_map] at hx';obtain ⟨x0,h2,rfl⟩:=Option.map_eq_some_iff.1 hx';exact .inl ⟨λe=>hrt (by cases e; rfl),x0,h2,rfl⟩
       ·rw [box_L0 (st:=({ st with E:=_,B:=hardB st.B }:St)) hL,box_L0 hL];simp only [lookB_hard];split
        ·simp
        ·rfl
       ·rw [box_L0 (st:=({ st with E:=_,B:=hardB st.B }:St)) hL] at hq;rw [box_L0 hL];simp only [lookB_hard] at hq;split at hq
        ·rename_i h0;obtain ⟨c,hc,rfl⟩:=Option.map_eq_some_iff.1 hq;exact ⟨c,by rw [if_pos h0]; exact hc,.inl ⟨by simp,rfl⟩⟩
        ·cases hq
    ·cases hx
  ·-- the owner is in a box
   rename_i q off0 p hlk;obtain ⟨v0,b,k,⟨bq,hβ,hroot⟩,hptr,hpr⟩:=hpath _ _ hlk;split at hx
   ·rename_i cs hcs;split at hx
    ·rename_i z hz0;split at hx
     ·rename_i y hy;split at hx
      ·cases hx
      ·rename_i hsoft;have hsoft:y.soft = false:=by simpa using hsoft
       simp only [Option.some.injEq] at hx;subst hx;obtain ⟨bq',hβ',hlt,hωq,hbx⟩:=h.box q cs hcs;rw [hβ] at hβ'; cases hβ';have hq0:q.lvl = 0/\lookB st.B q.slot = some cs:=by
        have:=hcs;rw [box_L0 hL] at this;split at this
        ·rename_i h0; exact ⟨h0,this⟩
        ·cases this
       have hlp:isLp cs = false:=lookB_noLp hnl hq0.2;obtain ⟨arrq,tyq,harrq,hlq⟩:=hbx.cells hlp;obtain ⟨uz,A1,Oz,A2,hOq,hrz,huz,hclose⟩:=repL_hardHole off0 hlq hz0;have hv0:uz = v0:=by
        simp only [World.cell?,harrq] at hroot;have h2:arrq[off0]? = some uz:=by simpa using huz
        rw [h2] at hroot; exact Option.some.inj hroot
       subst hv0;cases p with
       | nil=>exact hpr.elim
       | cons e p =>
        obtain ⟨j,o',s'⟩:=e;obtain ⟨off,len,cap,hsl,hj,rfl⟩:=hpr;rw [reverse_snoc] at hy;have hpl:∀ t ∈ tmpsOf o,Pl.box q ≠ .tmp t:=λt' ht' e=>by cases e
        have hlinz:Lin (Oz ++ Ox):=λk=>by
         have:=hplx (.box q) hpl k;rw [hOq] at this;simp only [List.count_append] at this ⊢; omega
        obtain ⟨hbO,_,hω,⟨arr,ty,harr,hsize⟩,hy1,hyp',hk⟩:=upd_ok hcells hxo hyp _ _ _ _ _ hy hsoft hrz hlinz hsl;obtain ⟨hW,hcell,hobj⟩:=wrote_row (X:=X) (k:=off + j * s' + o') (yv:=(a.eval xo).cells.toList) hω harr (by rw [hul]; exact hsize);obtain ⟨A,hA,hcnt⟩:=hk _ hW (by rw [<- hul]; exact hcell) hobj;have hlq0:=h.lin (.box q) b;rw [hOq] at hlq0;simp only [List.count_append] at hlq0;have hbz:=List.count_pos_iff.2 hbO;obtain ⟨C,hC,hCc⟩:=hclose _ b y A hW (λhm=>by have:=List.count_pos_iff.2 hm; omega) (λhm=>by have:=List.count_pos_iff.2 hm; omega) hA;refine ⟨_,b,run_store hs0 hptr harr (by rw [hul]; exact hxl) (by rw [hul]; exact hsize) hones,hW,by simp,?_⟩;refine ls_state (pl:=.box q) h hF hz hM hL (noLoop_of hnl) hW (by simp) rfl rfl rfl hin hlx hpl (by rw [hOq]; simp [hbO]) (by simp [dullAt_length]) hL ?_ (λq'=>?_) (λq' c' hq=>?_)
        ·intro t' x' hx';simp only [List.getElem?_map] at hx';obtain ⟨x0,h2,rfl⟩:=Option.map_eq_some_iff.1 hx';exact .inl ⟨by simp,x0,h2,rfl⟩
        ·rw [lookB_some_set hL hcs];split
         ·rename_i e; rw [e,hcs]; rfl
         ·simp
        ·rw [lookB_some_set hL hcs] at hq;split at hq
         ·rename_i e;subst e;cases hq;refine ⟨cs,hcs,.inr ⟨rfl,?_,λr hr=>?_,λvals hvals hcellq=>?_⟩⟩
          ·exact ⟨hlp,isLp_rep hC⟩
          ·obtain ⟨x,hx,hr2⟩:=mem_ptrsL.1 hr;rcases List.mem_or_eq_of_mem_set hx with hx | rfl
           ·exact hardL_ptrs (mem_ptrsL.2 ⟨x,hx,hr2⟩)
           ·rw [hyp'] at hr2; simp at hr2
          ·have:vals = arrq.toList:=by
            apply List.ext_getElem?;intro i;have:=hcellq bq hβ i;simp only [World.cell?,harrq] at this;rw [<- this]; simp
           subst this;refine ⟨C,hC,λk=>?_⟩;have:=hCc k; have:=hcnt k;rw [hOq];simp only [List.count_append] <;> omega
         ·rename_i hne;obtain ⟨c,hc,rfl⟩:=Option.map_eq_some_iff.1 hq;exact ⟨c,hc,.inl ⟨λe=>hne (by cases e; rfl),rfl⟩⟩
     ·cases hx
    ·cases hx
   ·cases hx
  ·cases hx
 ·cases hx
end Go.Ab
end
section
namespace Go.Ab
open Go
variable {P:Program} {H:Hints} {f:FuncId} {w w':World} {X X':Cx}
def tv (tmps:Array Value) (t:Tmp):Value:=tmps.getD t undef
def evT (tmps:Array Value):Operand->Value
 | .tmp t=>tv tmps t
 | .const v=>v
 | _=>undef
def LkFact (P:Program) (H:Hints) (f:FuncId) (E:List V) (o:Oper) (tmps:Array Value) (w:World) (X:Cx):Prop :=
 match o.op,o.dst with
 | .move (.tmp a),some d=>tv tmps d = tv tmps a
 | .indexAddr t (.tmp a) i,some d=>∀ elem,P.underlying t = some (.slice elem)->∃ b off len cap k n,tv tmps a = .slice (some ⟨b,off,none⟩) len cap/\evT tmps i = .int k n/\0<=n/\n < (len:Int)/\tv tmps d = .pointer (some ⟨b,off + n.toNat * P.cellsOf elem,none⟩)
 | .fieldAddr t (.tmp a) fd,some d=>∀ b off o',tv tmps a = .pointer (some ⟨b,off,none⟩)->fieldOff P t fd = some o'->tv tmps d = .pointer (some ⟨b,off + o',none⟩)
 | .load t (.tmp a),some d=>isAggT P t = false->if H.link f a = true then (∃ b off v,tv tmps a = .pointer (some ⟨b,off,none⟩)/\w.cell? ⟨b,off,none⟩ = some v/\tv tmps d = v/\∃ e fz,X.ω b = some (e,fz)/\off < e)
   else ∀ r o',E[a]? = some (.ptr r o')->∃ b v,tv tmps a = .pointer (some ⟨b,o',none⟩)/\w.cell? ⟨b,o',none⟩ = some v/\tv tmps d = v
 | _,_=>True
theorem tmpsOf_mem {o:Oper} {x:Operand} {t:Tmp} (hx:x ∈ o.op.operands.toList) (e:x = .tmp t):t ∈ tmpsOf o:=by
 subst e; exact List.mem_filterMap.2 ⟨.tmp t,hx,rfl⟩
theorem evT_congr {tmps tmps':Array Value} {i:Operand} (h:∀ t,i = .tmp t->tv tmps' t = tv tmps t):evT tmps' i = evT tmps i:=by
 cases i <;> first | rfl | exact h _ rfl
theorem LkFact.keep {E E':List V} {o:Oper} {tmps tmps':Array Value} (h:LkFact P H f E o tmps w X) (hd:∀ d,o.dst = some d->tv tmps' d = tv tmps d) (ht:∀ t ∈ tmpsOf o,tv tmps' t = tv tmps t)
  (hn:nestLoad H f o = true->(∀ b e fz,X.ω b = some (e,fz)->∃ e' fz',X'.ω b = some (e',fz')/\e<=e')/\∀ b e fz i v,X.ω b = some (e,fz)->i < e->w.cell? ⟨b,i,none⟩ = some v->w'.cell? ⟨b,i,none⟩ = some v)
  (hb:boxLoad H f o = true->∀ a ∈ tmpsOf o,∀ r o',E'[a]? = some (.ptr r o')->E[a]? = some (.ptr r o')/\∀ b,tv tmps a = .pointer (some ⟨b,o',none⟩)->w'.cell? ⟨b,o',none⟩ = w.cell? ⟨b,o',none⟩):LkFact P H f E' o tmps' w' X':=by
 unfold LkFact at h ⊢;split
 ·rename_i a d hop hdst;rw [hop,hdst] at h;rw [hd d hdst,ht a (tmpsOf_mem (by rw [hop]; exact List.mem_singleton.2 rfl) rfl)];exact h
 ·rename_i t a i d hop hdst;rw [hop,hdst] at h;intro elem hu;obtain ⟨b,off,len,cap,k,n,h1,h2,h3,h4,h5⟩:=h elem hu;refine ⟨b,off,len,cap,k,n,?_,?_,h3,h4,?_⟩
  ·rw [ht a (tmpsOf_mem (x:=.tmp a) (by rw [hop]; show _ ∈ [Operand.tmp a,i]; simp) rfl)]; exact h1
  ·rw [evT_congr (λt' e=>ht t' (tmpsOf_mem (by rw [hop]; show i ∈ [Operand.tmp a,i]; simp) e))]; exact h2
  ·rw [hd d hdst]; exact h5
 ·rename_i t a fd d hop hdst;rw [hop,hdst] at h;intro b off o' h1 h2;rw [ht a (tmpsOf_mem (by rw [hop]; exact List.mem_singleton.2 rfl) rfl)] at h1;rw [hd d hdst];exact h b off o' h1 h2
 ·rename_i t a d hop hdst;rw [hop,hdst] at h;have ha:a ∈ tmpsOf o:=tmpsOf_mem (by rw [hop]; exact List.mem_singleton.2 rfl) rfl;intro hag;have h:=h hag;by_cases hl:H.link f a = true
  ·rw [if_pos hl] at h ⊢;obtain ⟨b,off,v,h1,h2,h3,e,fz,h4,h5⟩:=h;obtain ⟨hω,hc⟩:=hn (by unfold nestLoad; rw [hop]; exact hl);obtain ⟨e',fz',h6,h7⟩:=hω b e fz h4;exact ⟨b,off,v,by rw [ht a ha]; exact h1,hc b e fz off v h4 h5 h2,by rw [hd d hdst]; exact h3,e',fz',h6,by omega⟩
  ·rw [if_neg hl] at h ⊢;intro r o' hE;have hbl:boxLoad H f o = true:=by unfold boxLoad; rw [hop]; simpa using hl
   obtain ⟨h1,h2⟩:=hb hbl a ha r o' hE;obtain ⟨b,v,h3,h4,h5⟩:=h r o' h1;exact ⟨b,v,by rw [ht a ha]; exact h3,by rw [h2 b h3]; exact h4,by rw [hd d hdst]; exact h5⟩
 ·trivial
theorem defAt_spec {ops:Array Oper} {d:Tmp}:∀ {k c:Nat},defAt ops k d = some c->c < k/\∃ o,ops[c]? = some o/\o.dst = some d
 | 0,c,h=>by simp [defAt] at h
 | k + 1,c,h=>by
  simp only [defAt] at h;split at h
  ·rename_i hk;cases h;cases ho:ops[k]? with
   | none=>rw [ho] at hk; simp at hk
   | some o=>rw [ho] at hk; exact ⟨by omega,o,rfl,by simpa using hk⟩
  ·obtain ⟨h1,h2⟩:=defAt_spec h;exact ⟨by omega,h2⟩
theorem getD_at {tmps:Array Value} {t:Nat} {v:Value} (h:tmps[t]? = some v):tv tmps t = v:=by
 unfold tv; rw [Array.getD_eq_getD_getElem?,h]; rfl
theorem idxOf_ok {st:St} {tmps:Array Value} {O:Pl->List Nat} (h:Rel st tmps w X O) {i:Operand} {j:Nat} (hi:idxOf st.E i = some j) {k:IntKind} {n:Int} (hv:evT tmps i = .int k n):n.toNat = j:=by
 have key:∀ x:V,natOf x = some j->∀ v O,Rep w X x v O->v = .int k n->n.toNat = j:=by
  intro x hx v O hr hv;unfold natOf at hx;split at hx
  ·simp only [Rep] at hr;rw [hr.1] at hv;cases hv;split at hx
   ·exact Option.some.inj hx
   ·cases hx
  ·cases hx
 cases i with
 | tmp t =>
  simp only [idxOf] at hi;cases hE:st.E[t]? with
  | none=>rw [List.getD_eq_getElem?_getD,hE] at hi; simp [natOf] at hi
  | some x =>
   obtain ⟨v,h1,h2⟩:=h.env t x hE;rw [List.getD_eq_getElem?_getD,hE] at hi;exact key x (by simpa using hi) v _ h2 (by rw [<- getD_at h1]; exact hv)
 | const u =>
  simp only [idxOf] at hi;exact key (.val u) hi u [] (by simp [Rep]) hv
 | _=>simp [idxOf] at hi
theorem lk_okS {ops:Array Oper} {st:St} {tmps:Array Value} {O:Pl->List Nat} (h:Rel st tmps w X O) {s:Nat} {S:List Tmp} (hf:∀ c oc,ops[c]? = some oc->isLk H f oc = true->c < s->(∀ d,oc.dst = some d->d ∈ S)->LkFact P H f st.E oc tmps w X) :
  ∀ (n k:Nat) (d:Tmp) (rt:Rt) (p:Path) (ptr:Bool),k<=s->(∀ t ∈ lkTmps H f ops n k d,t ∈ S)->lkPath P H f ops st.E n k d = some (rt,p,ptr) ->
   ∃ v0,RootVal w X tmps rt v0/\(if ptr = true then ∃ b k,tv tmps d = .pointer (some ⟨b,k,none⟩)/\PtrR w v0 p b k else SlF w v0 p.reverse (tv tmps d)):=by
 intro n;induction n with
 | zero=>intro k d rt p ptr _ _ hx; simp [lkPath] at hx
 | succ n ih =>
  intro k d rt p ptr hks hS hx;simp only [lkPath] at hx;simp only [lkTmps] at hS;split at hx
  ·simp only [Option.some.injEq,Prod.mk.injEq] at hx;obtain ⟨rfl,rfl,rfl⟩:=hx;exact ⟨tv tmps d,rfl,by simp [SlF]⟩
  ·rename_i hlk;have hlk:H.link f d = true:=by simpa using hlk
   split at hx
   ·cases hx
   ·rename_i c hc;obtain ⟨hck,oc,hoc,hdst⟩:=defAt_spec hc;have hfact:=hf c oc hoc (by unfold isLk; rw [hdst]; exact hlk) (by omega) (λd' hd'=>by rw [hdst] at hd'; cases hd'; exact hS d (by simp));rw [hc] at hS;simp only [hlk,hoc,Option.map_some,Bool.true_eq_false,if_false] at hS;rw [hoc] at hx;simp only [Option.map_some] at hx;unfold LkFact at hfact;split at hx
    ·-- move
     rename_i a hop;rw [Option.some.inj hop,hdst] at hfact;simp only at hfact;obtain ⟨v0,h1,h2⟩:=ih c a rt p ptr (by omega) (λt ht=>hS t (by rw [Option.some.inj hop]; simp [ht])) hx;exact ⟨v0,h1,by rw [hfact]; exact h2⟩
    ·-- indexAddr
     rename_i t a i hop;have hS':∀ x ∈ lkTmps H f ops n c a,x ∈ S:=λx hx=>hS x (by rw [Option.some.inj hop]; simp [hx]);rw [Option.some.inj hop,hdst] at hfact;simp only at hfact;split at hx
     ·rename_i r q j elem hq hj hu;simp only [Option.some.injEq,Prod.mk.injEq] at hx;obtain ⟨rfl,rfl,rfl⟩:=hx;obtain ⟨v0,h1,h2⟩:=ih c a _ _ _ (by omega) hS' hq;simp only [Bool.false_eq_true,if_false] at h2;obtain ⟨b,off,len,cap,kk,m,h3,h4,h5,h6,h7⟩:=hfact elem hu;have hj':=idxOf_ok h hj h4;rw [h3] at h2;refine ⟨v0,h1,?_⟩;simp only [if_true];refine ⟨b,_,h7,off,len,cap,h2,by omega,by rw [hj']; omega⟩
     ·cases hx
    ·-- fieldAddr
     rename_i t a fd hop;have hS':∀ x ∈ lkTmps H f ops n c a,x ∈ S:=λx hx=>hS x (by rw [Option.some.inj hop]; simp [hx]);rw [Option.some.inj hop,hdst] at hfact;simp only at hfact;split at hx
     ·rename_i r j o sz q o' hq ho';simp only [Option.some.injEq,Prod.mk.injEq] at hx;obtain ⟨rfl,rfl,rfl⟩:=hx;obtain ⟨v0,h1,h2⟩:=ih c a _ _ _ (by omega) hS' hq;simp only [if_true] at h2 ⊢;obtain ⟨b,kk,h3,off,len,cap,h4,h5,rfl⟩:=h2;exact ⟨v0,h1,b,_,hfact b _ o' h3 ho',off,len,cap,h4,h5,by omega⟩
     ·cases hx
    ·-- load
     rename_i t a hop;rw [Option.some.inj hop,hdst] at hfact;simp only at hfact;split at hx
     ·cases hx
     ·rename_i hag;have hfact:=hfact (by simpa using hag);split at hx
      ·rename_i hla;rw [if_pos hla] at hfact;have hS':∀ x ∈ lkTmps H f ops n c a,x ∈ S:=λx hx=>hS x (by rw [Option.some.inj hop]; simp [hla,hx]);split at hx
       ·rename_i r q hq;simp only [Option.some.injEq,Prod.mk.injEq] at hx;obtain ⟨rfl,rfl,rfl⟩:=hx;obtain ⟨v0,h1,h2⟩:=ih c a _ _ _ (by omega) hS' hq;simp only [if_true] at h2;obtain ⟨b,kk,h3,hpr⟩:=h2;obtain ⟨b',off',v,h4,h5,h6,_⟩:=hfact;rw [h3] at h4;cases h4;refine ⟨v0,h1,?_⟩;simp only [Bool.false_eq_true,if_false];cases q with
        | nil=>exact hpr.elim
        | cons e q =>
         obtain ⟨j,o,sz⟩:=e;obtain ⟨off,len,cap,h7,h8,rfl⟩:=hpr;rw [reverse_snoc,h6];exact h7.snoc h8 h5
       ·cases hx
      ·rename_i hla;rw [if_neg hla] at hfact;split at hx
       ·rename_i r off hE;simp only [Option.some.injEq,Prod.mk.injEq] at hx;obtain ⟨rfl,rfl,rfl⟩:=hx;have hE':st.E[a]? = some (.ptr r off):=by
         rw [List.getD_eq_getElem?_getD] at hE;cases hh:st.E[a]? with
         | none=>rw [hh] at hE; simp at hE
         | some x=>rw [hh] at hE; simpa using hE
        obtain ⟨b,v,h3,h4,h5⟩:=hfact r off hE';obtain ⟨u,hu,hr⟩:=h.env a _ hE';simp only [Rep] at hr;obtain ⟨_,b',hb',rfl⟩:=hr;rw [getD_at hu] at h3;cases h3;exact ⟨v,⟨b,hb',h4⟩,by simp [SlF,h5]⟩
       ·cases hx
    ·cases hx
theorem lk_ok {ops:Array Oper} {st:St} {tmps:Array Value} {O:Pl->List Nat} (h:Rel st tmps w X O) {s:Nat} (hf:∀ c oc,ops[c]? = some oc->isLk H f oc = true->c < s->LkFact P H f st.E oc tmps w X) :
  ∀ (n k:Nat) (d:Tmp) (rt:Rt) (p:Path) (ptr:Bool),k<=s->lkPath P H f ops st.E n k d = some (rt,p,ptr) ->
   ∃ v0,RootVal w X tmps rt v0/\(if ptr = true then ∃ b k,tv tmps d = .pointer (some ⟨b,k,none⟩)/\PtrR w v0 p b k else SlF w v0 p.reverse (tv tmps d)):=by
 intro n k d rt p ptr hks hx;exact lk_okS (S:=lkTmps H f ops n k d) h (s:=s) (λc oc hoc hl hc _=>hf c oc hoc hl hc) n k d rt p ptr hks (λ_ h=>h) hx
theorem lkPath_congr {ops:Array Oper} {E E':List V}:∀ (n k:Nat) (d:Tmp),(∀ t ∈ lkTmps H f ops n k d,E'[t]? = E[t]?)->lkPath P H f ops E' n k d = lkPath P H f ops E n k d
 | 0,k,d,h=>rfl
 | n + 1,k,d,h=>by
  simp only [lkPath];simp only [lkTmps] at h;split
  ·rfl
  ·rename_i hlk;have hlk:H.link f d = true:=by simpa using hlk
   simp only [hlk,Bool.true_eq_false,if_false] at h;cases hc:defAt ops k d with
   | none=>rfl
   | some c =>
    rw [hc] at h;simp only at h ⊢;split
    ·rename_i a hop;rw [hop] at h;exact lkPath_congr n c a λt ht=>h t (by simp [ht])
    ·rename_i t a i hop;rw [hop] at h;have h1:lkPath P H f ops E' n c a = lkPath P H f ops E n c a:=lkPath_congr n c a λt ht=>h t (by simp [ht]);have h2:idxOf E' i = idxOf E i:=by
      cases i with
      | tmp x =>
       simp only [idxOf];rw [getD_congr (h x (by simp))]
      | _=>rfl
     rw [h1,h2]
    ·rename_i t a fd hop;rw [hop] at h;rw [lkPath_congr n c a λt ht=>h t (by simp [ht])]
    ·rename_i t a hop;rw [hop] at h;simp only at h;by_cases hla:H.link f a = true
     ·rw [if_pos hla,if_pos hla,lkPath_congr n c a λt ht=>h t (by simp [hla,ht])]
     ·rw [if_neg hla,if_neg hla,getD_congr (h a (by simp))]
    ·rfl
theorem lkPath_root {ops:Array Oper} {E:List V}:∀ (n k:Nat) (d r:Tmp) (p:Path) (b:Bool),lkPath P H f ops E n k d = some (.tmp r,p,b)->r ∈ lkTmps H f ops n k d
 | 0,k,d,r,p,b,hx=>by simp [lkPath] at hx
 | n + 1,k,d,r,p,b,hx=>by
  simp only [lkPath] at hx;simp only [lkTmps];split at hx
  ·simp only [Option.some.injEq,Prod.mk.injEq,Rt.tmp.injEq] at hx;rw [hx.1]; simp
  ·rename_i hlk;have hlk:H.link f d = true:=by simpa using hlk
   simp only [hlk,Bool.true_eq_false,if_false];cases hc:defAt ops k d with
   | none=>rw [hc] at hx; cases hx
   | some c =>
    rw [hc] at hx;simp only at hx ⊢;split at hx
    ·rename_i a hop;first | rw [hop] | skip
     simp [lkPath_root n c a r p b hx]
    ·rename_i t a i hop;first | rw [hop] | skip
     split at hx
     ·rename_i r' p' j elem hq hj hu;simp only [Option.some.injEq,Prod.mk.injEq] at hx;obtain ⟨rfl,_,_⟩:=hx;simp [lkPath_root n c a r _ _ hq]
     ·cases hx
    ·rename_i t a fd hop;first | rw [hop] | skip
     split at hx
     ·rename_i r' j o sz p' o' hq ho';simp only [Option.some.injEq,Prod.mk.injEq] at hx;obtain ⟨rfl,_,_⟩:=hx;simp [lkPath_root n c a r _ _ hq]
     ·cases hx
    ·rename_i t a hop;first | rw [hop] | skip
     split at hx
     ·cases hx
     ·by_cases hla:H.link f a = true
      ·rw [if_pos hla] at hx;split at hx
       ·rename_i r' p' hq;simp only [Option.some.injEq,Prod.mk.injEq] at hx;obtain ⟨rfl,_,_⟩:=hx;simp [hla,lkPath_root n c a r _ _ hq]
       ·cases hx
      ·rw [if_neg hla] at hx;split at hx <;> simp at hx
    ·cases hx
end Go.Ab
end
section
namespace Go.Ab
open Go
variable {P:Program} {H:Hints} {f:FuncId} {C:Orc} {w w':World} {X X':Cx}
theorem run_load_cell {t:TypeId} {d:TypeDesc} {b off:Nat} {v:Value} (hu:P.underlying t = some d) (hag:isAggT P t = false) (hc:w.cell? ⟨b,off,none⟩ = some v):(Instr.loadAt t (.pointer (some ⟨b,off,none⟩))).run P w = .ok v w:=by
 simp only [Instr.loadAt,Instr.sureAddr,Sem.run_bind,Sem.run_pure,Result.andThen_ok];refine run_loadVar' (vals:=[v]) hu (λi u hi=>?_) (by simp [hag]);cases i with
 | zero=>simp at hi; subst hi; simpa using hc
 | succ i=>simp at hi
theorem wp_run {F:Fence} {o:Oper} {a:Act} {K:Act->World->Prop} {Q:Exit->Act->World->Prop} {v:Value} (hnd:∀ c,o.op ≠ .defer c) (hrun:(execOp a.eval o).run P w = .ok (.value v) w') :
  o.wpIn F 0 P a w K Q ↔ (∀ g,o.about P w a.eval = some g->F.fn g)/\K (a.put o.dst v) w':=by
 unfold Oper.wpIn;rw [Oper.semAt_eq _ _ _ hnd,hrun,Oper.uponIn_value]
theorem run_op (ρ:Operand->Value) (o:Oper) {s:Sem Value} {v:Value} (h:execOp ρ o = (do pure (Next.value (<- s)))) (hs:s.run P w = .ok v w'):(execOp ρ o).run P w = .ok (.value v) w':=by
 rw [h]; exact sem_v hs
theorem stepFp_parts {o:Oper} {st st':St} {fp:Fp} (hx:stepFp P H C f o st = some (st',fp)) :
  (takes H f o = true->nodupT (tmpsOf o) = true)/\∃ z s,stepM P H C f o (o.op.operands.toList.map (rd H f o st.E)) { st with E:=dullAt st.E (if takes H f o = true then tmpsOf o else []) } = some (z,s,fp)/\st' = s.put o.dst z:=by
 unfold stepFp at hx;split at hx
 ·cases hx
 ·rename_i hn0;obtain ⟨⟨z,s,fp'⟩,hm,he⟩:=Option.map_eq_some_iff.1 hx;obtain ⟨rfl,rfl⟩:=Prod.mk.inj he;refine ⟨λht=>by simpa [ht] using hn0,z,s,?_,rfl⟩;rw [<- hm];congr 1
  split <;> rfl
theorem tame_run {w0:World} {X0:Cx} {Md:Md} {n:Nat} {st st':St} {a:Act} {O:Pl->List Nat} {o:Oper} {fp:Fp} (h:Rel st a.tmps w X O) (hF:Fr w0 X0 Md n st w X O) (hx:stepFp P H C f o st = some (st',fp)) (ht:tameOp o.op = true) :
  (∀ c,o.op ≠ .defer c)/\∃ v w',(execOp a.eval o).run P w = .ok (.value v) w'/\∀ b,b < w.heap.size->X.ω b = none->w'.heap[b]? = w.heap[b]?:=by
 obtain ⟨hn,z,s,hm,_⟩:=stepFp_parts hx;obtain ⟨Oin,hrep,hs,hlin⟩:=rel_operands (H:=H) (f:=f) h o _ hn;rcases stepM_cases hm with ⟨t,d,z0,hop,_⟩ | ⟨t,ao,d,x,hop,_⟩ | ⟨c,fo,fv,args,hop,hcal,_⟩ | ⟨hr,hsem,rfl,_⟩ | ⟨r,hr,hsem,rfl,_⟩ | ⟨r,c,hr,hsem,hall,rfl,_⟩ | ⟨c,fo,fv,args,hop,hcal,_⟩ | ⟨hmo,hmp⟩
 ·rw [hop] at ht; simp [tameOp] at ht
 ·rw [hop] at ht; simp [tameOp] at ht
 ·rw [hop] at ht; obtain ⟨cal,a1,a2⟩:=c; simp only at hcal; subst hcal; simp [tameOp] at ht
 ·have hnd:∀ c,o.op ≠ .defer c:=by intro c hc; rw [hc] at hsem; simp [opSem] at hsem
  obtain ⟨v,w',X',O',hrun,heff,_⟩:=opSem_ok h.dom hlin hsem hrep;refine ⟨hnd,v,w',hrun,λb hb hω=>heff.kept b hb λhbO=>?_⟩;obtain ⟨e,he⟩:=repL_own _ _ _ hrep b hbO;rw [hω] at he; cases he
 ·obtain ⟨off,rest,hxs,hop⟩:=rootOf_some hr;rcases hop with ⟨t,ao,hop⟩ | ⟨t,ao,xo,hop⟩
  ·have hops:o.op.operands.toList = [ao]:=by rw [hop]; rfl
   rw [hops] at hrep hxs;simp only [List.map_cons,List.map_nil,List.cons.injEq] at hxs;obtain ⟨hx1,rfl⟩:=hxs;simp only [List.map_cons,List.map_nil,RepL] at hrep;obtain ⟨u,vs,O1,O2,hu,rfl,hr1,rfl,rfl⟩:=hrep;simp only [List.cons.injEq,and_true] at hu;subst hu;rw [hx1] at hr1;refine ⟨(by intro c hc; rw [hop] at hc; cases hc),?_⟩;have hbx:∃ cs,st.box r = some cs:=by
    cases hh:st.box r with
    | some cs=>exact ⟨cs,rfl⟩
    | none=>rw [hops,List.map_cons,List.map_nil,hx1,hop,box_withE,hh] at hsem; simp [opSem] at hsem
   obtain ⟨cs,hcs⟩:=hbx;rw [hops,List.map_cons,List.map_nil,hx1,hop,box_withE,hcs] at hsem;simp only [opSem] at hsem;obtain ⟨v,hrun,_⟩:=step_load (dst:=o.dst) (tk:=takes H f o) h hF hr1 hcs hsem;exact ⟨v,w,by simp only [execOp,hop,Sem.run_bind,hrun,Result.andThen_ok,Sem.run_pure],λ_ _ _=>rfl⟩
  ·rw [hop] at ht; simp [tameOp] at ht
 ·obtain ⟨off,rest,hxs,hop⟩:=rootOf_some hr;rcases hop with ⟨t,ao,hop⟩ | ⟨t,ao,xo,hop⟩
  ·have hops:o.op.operands.toList = [ao]:=by rw [hop]; rfl
   rw [hops] at hrep hxs;simp only [List.map_cons,List.map_nil,List.cons.injEq] at hxs;obtain ⟨hx1,rfl⟩:=hxs;simp only [List.map_cons,List.map_nil,RepL] at hrep;obtain ⟨u,vs,O1,O2,hu,rfl,hr1,rfl,rfl⟩:=hrep;simp only [List.cons.injEq,and_true] at hu;subst hu;rw [hx1] at hr1;refine ⟨(by intro c hc; rw [hop] at hc; cases hc),?_⟩;have hbx:∃ cs,st.box r = some cs:=by
    cases hh:st.box r with
    | some cs=>exact ⟨cs,rfl⟩
    | none=>rw [hops,List.map_cons,List.map_nil,hx1,hop,box_withE,hh] at hsem; simp [opSem] at hsem
   obtain ⟨cs,hcs⟩:=hbx;rw [hops,List.map_cons,List.map_nil,hx1,hop,box_withE,hcs] at hsem;simp only [opSem] at hsem;obtain ⟨v,hrun,_⟩:=step_load (dst:=o.dst) (tk:=takes H f o) h hF hr1 hcs hsem;exact ⟨v,w,by simp only [execOp,hop,Sem.run_bind,hrun,Result.andThen_ok,Sem.run_pure],λ_ _ _=>rfl⟩
  ·rw [hop] at ht; simp [tameOp] at ht
 ·rw [hop] at ht; obtain ⟨cal,a1,a2⟩:=c; simp only at hcal; subst hcal; simp [tameOp] at ht
 ·obtain ⟨v,w',r,hrun,hr,hk,_⟩:=mapStep_ok (n:=n) (h.taken (if takes H f o = true then tmpsOf o else [])) (Fr.taken h hF _) hrep hmp;obtain ⟨rfl,rfl⟩:=hk ht;exact ⟨λc hc=>(by rw [hc] at hmo; simp [isMapOp] at hmo),v,_,hrun,λ_ _ _=>rfl⟩
theorem step_okT (hC:OrcOk P C) {F:Fence} (hFF:F = Fence.wide\/∃ l,F = Fence.wide.inRound l) {w0:World} {X0:Cx} {Md:Md} {n:Nat} {st st':St} {a:Act} {O:Pl->List Nat} {o:Oper} {fp:Fp} (h:Rel st a.tmps w X O) (hF:Fr w0 X0 Md n st w X O)
  (hx:stepFp P H C f o st = some (st',fp)) {K:Act->World->Prop} {Q:Exit->Act->World->Prop}
  (hK:∀ v w',Sim w0 X0 Md n st' (a.put o.dst v).tmps w'->(tameOp o.op = true->(∀ b,b < w.heap.size->X.ω b = none->w'.heap[b]? = w.heap[b]?)/\∀ v0,(execOp a.eval o).run P w = .ok (.value v0) w->v = v0/\w' = w)->K (a.put o.dst v) w'):o.wpIn F 0 P a w K Q:=by
 have hstep:stepOp P H C f o st = some st':=by unfold stepOp; rw [hx]; rfl
 cases ht:tameOp o.op with
 | false=>exact step_ok hC hFF ⟨X,O,h,hF⟩ hstep λv w' hS=>hK v w' hS λh=>by rw [ht] at h; cases h
 | true =>
  obtain ⟨hnd,v,w1,hrun,hkept⟩:=tame_run h hF hx ht;have h1:o.wpIn F 0 P a w (λa' w'=>Sim w0 X0 Md n st' a'.tmps w') Q:=step_ok hC hFF ⟨X,O,h,hF⟩ hstep λv w' hS=>hS;rw [wp_run hnd hrun] at h1 ⊢;refine ⟨h1.1,hK v w1 h1.2 λ_=>⟨hkept,λv0 h0=>?_⟩⟩;rw [hrun] at h0;simp only [Result.ok.injEq,Next.value.injEq] at h0;exact h0
theorem tv_put {a:Act} {d:Option Tmp} {v:Value} {t:Tmp} (h:d ≠ some t):tv (a.put d v).tmps t = tv a.tmps t:=by
 unfold tv Act.put;cases d with
 | none=>rfl
 | some d =>
  have:d ≠ t:=λe=>h (by rw [e]);simp [Array.getD_eq_getD_getElem?,this]
theorem tv_put_self {a:Act} {d:Tmp} {v:Value} (h:d < a.tmps.size):tv (a.put (some d) v).tmps d = v:=by
 unfold tv Act.put;simp [Array.getD_eq_getD_getElem?,h]
theorem chain_fact {w0:World} {X0:Cx} {Md:Md} {n:Nat} {st st':St} {a:Act} {O:Pl->List Nat} {o:Oper} {fp:Fp} (h:Rel st a.tmps w X O) (hF:Fr w0 X0 Md n st w X O) (hlk:isLk H f o = true) (hself:∀ d,o.dst = some d->d ∉ tmpsOf o) (hgate:lkGate H f o st.E = true)
  (hx:stepFp P H C f o st = some (st',fp)) :
  (∀ E' tmps' w' X',LkFact P H f E' o tmps' w' X')\/(tameOp o.op = true/\∃ v,(execOp a.eval o).run P w = .ok (.value v) w/\∀ (E':List V) (X':Cx),(∀ b e fz,X.ω b = some (e,fz)->∃ e' fz',X'.ω b = some (e',fz')/\e<=e') ->
   (∀ t ∈ tmpsOf o,∀ r o',E'[t]? = some (.ptr r o')->st.E[t]? = some (.ptr r o'))->LkFact P H f E' o (a.put o.dst v).tmps w X'):=by
 obtain ⟨hn,z,s,hm,_⟩:=stepFp_parts hx;obtain ⟨Oin,hrep,hs,hlin⟩:=rel_operands (H:=H) (f:=f) h o _ hn;obtain ⟨d,hdst⟩:∃ d,o.dst = some d:=by
  cases hd:o.dst with
  | none=>unfold isLk at hlk; rw [hd] at hlk; cases hlk
  | some d=>exact ⟨d,rfl⟩
 have hgate':=hgate;unfold lkGate at hgate';rw [hlk,hdst] at hgate';simp only [Bool.not_true,Bool.false_or,Bool.and_eq_true,decide_eq_true_eq] at hgate';obtain ⟨hdlt,hgl⟩:=hgate';have hdsz:d < a.tmps.size:=by rw [h.size]; exact hdlt
 have hdn:=hself d hdst;have htv:∀ t ∈ tmpsOf o,∀ v,tv (a.put o.dst v).tmps t = tv a.tmps t:=λt ht v=>tv_put (λe=>hdn (by rw [hdst] at e; cases e; exact ht));have htvd:∀ v,tv (a.put o.dst v).tmps d = v:=λv=>by rw [hdst]; exact tv_put_self hdsz
 have hev:∀ t,a.eval (.tmp t) = tv a.tmps t:=λt=>rfl;by_cases hkind:(∃ a0,o.op = .move (.tmp a0))\/(∃ t a0 i,o.op = .indexAddr t (.tmp a0) i)\/(∃ t a0 fd,o.op = .fieldAddr t (.tmp a0) fd)\/(∃ t a0,o.op = .load t (.tmp a0))
 case neg =>
  left
  intro E' tmps' w' X';unfold LkFact;split
  ·rename_i a0 _ hop _; exact absurd (.inl ⟨a0,hop⟩) hkind
  ·rename_i t a0 i _ hop _; exact absurd (.inr (.inl ⟨t,a0,i,hop⟩)) hkind
  ·rename_i t a0 fd _ hop _; exact absurd (.inr (.inr (.inl ⟨t,a0,fd,hop⟩))) hkind
  ·rename_i t a0 _ hop _; exact absurd (.inr (.inr (.inr ⟨t,a0,hop⟩))) hkind
  ·trivial
 case pos =>
 right
 rcases hkind with ⟨a0,hop⟩ | ⟨t,a0,i,hop⟩ | ⟨t,a0,fd,hop⟩ | ⟨t,a0,hop⟩
 ·refine ⟨by rw [hop]; rfl,a.eval (.tmp a0),by simp [execOp,hop],λE' X' _ _=>?_⟩;unfold LkFact; rw [hop,hdst];simp only
  rw [<- hdst,htvd,htv a0 (tmpsOf_mem (by rw [hop]; exact List.mem_singleton.2 rfl) rfl)];exact hev a0
 ·have hops:o.op.operands.toList = [.tmp a0,i]:=by rw [hop]; rfl
  rw [hops] at hrep hm;simp only [List.map_cons,List.map_nil,RepL] at hrep;obtain ⟨u,vs,O1,O2,hu,rfl,hr1,u2,vs2,O3,O4,hu2,rfl,hr2,rfl,rfl⟩:=hrep;simp only [List.cons.injEq] at hu;obtain ⟨rfl,rfl⟩:=hu;simp only [List.cons.injEq,and_true] at hu2;subst hu2;have hy:∃ y,vindexAddr P t (rd H f o st.E (.tmp a0)) (rd H f o st.E i) = some y:=by
   rw [stepM_dflt (by rw [hop]; rfl)] at hm;unfold dfltM at hm;rw [hop,if_neg (by simp [isMapOp])] at hm;simp only [List.map_cons,List.map_nil,rootOf,opSem] at hm;cases hv:vindexAddr P t (rd H f o st.E (.tmp a0)) (rd H f o st.E i) with
   | none=>rw [hv] at hm; simp at hm
   | some y=>exact ⟨y,rfl⟩
  obtain ⟨y,hy⟩:=hy;obtain ⟨v',hrun,_⟩:=op_indexAddr hy hr1 hr2;refine ⟨by rw [hop]; rfl,v',run_op _ _ (by simp only [execOp,hop]) hrun,λE' X' _ _=>?_⟩;unfold LkFact; rw [hop,hdst];simp only
  intro elem hul;rw [<- hdst,htvd,htv a0 (tmpsOf_mem (x:=.tmp a0) (by rw [hops]; simp) rfl)];have hev2:evT (a.put o.dst v').tmps i = evT a.tmps i:=evT_congr λt' e=>htv t' (tmpsOf_mem (x:=i) (by rw [hops]; simp) e) v';rw [hev2];have hy':=hy;unfold vindexAddr at hy';split at hy'
  ·rename_i k m hi0;rw [hi0] at hr2;simp only [Rep] at hr2;obtain ⟨hiv,_⟩:=hr2;rw [hul] at hy';split at hy'
   ·rename_i hh _; cases hh
   ·rename_i hh _; cases hh
   ·rename_i el fl c l hh hx0;cases hh;split at hy'
    ·rename_i h0;split at hy'
     ·rename_i e he;split at hy'
      ·rename_i hc;obtain ⟨hlen,hok,hz0,_⟩:=hc;rw [hx0] at hr1;simp only [Rep] at hr1;obtain ⟨_,hr1⟩:=hr1;rcases hr1 with ⟨rfl,_⟩ | ⟨b,off,cap,sz,vals,O',hv1,hcap,_⟩
       ·simp at he
       ·have hlt:m < (l.length:Int):=by have:=(List.getElem?_eq_some_iff.1 he).1; omega
        have hrun2:(Instr.indexAt t (a.eval (.tmp a0)) (a.eval i)).run P w = .ok (.pointer (some ⟨b,off + m.toNat * P.cellsOf elem,none⟩)) w:=by
         rw [hv1,hiv];simp [Instr.indexAt,asIntOf,run_underlying hul,h0,hlt,run_sizeOf' hz0,Addr.add_lit]
        rw [hrun] at hrun2;simp only [Result.ok.injEq,and_true] at hrun2;refine ⟨b,off,l.length,cap,k,m,by rw [<- hev]; exact hv1,?_,h0,hlt,hrun2⟩;cases i with
        | tmp t'=>exact hiv
        | const u=>exact hiv
        | _=>simp only [rd] at hi0; cases hi0
      ·cases hy'
     ·cases hy'
    ·cases hy'
   ·cases hy'
  ·cases hy'
 ·have hops:o.op.operands.toList = [.tmp a0]:=by rw [hop]; rfl
  rw [hops] at hrep hm;simp only [List.map_cons,List.map_nil,RepL] at hrep;obtain ⟨u,vs,O1,O2,hu,rfl,hr1,rfl,rfl⟩:=hrep;simp only [List.cons.injEq,and_true] at hu;subst hu;have hy:∃ y,vfieldAddr P t (rd H f o st.E (.tmp a0)) fd = some y:=by
   rw [stepM_dflt (by rw [hop]; rfl)] at hm;unfold dfltM at hm;rw [hop,if_neg (by simp [isMapOp])] at hm;simp only [List.map_cons,List.map_nil,rootOf,opSem] at hm;cases hv:vfieldAddr P t (rd H f o st.E (.tmp a0)) fd with
   | none=>rw [hv] at hm; simp at hm
   | some y=>exact ⟨y,rfl⟩
  obtain ⟨y,hy⟩:=hy;obtain ⟨v',hrun,_⟩:=op_fieldAddr hy hr1;refine ⟨by rw [hop]; rfl,v',run_op _ _ (by simp only [execOp,hop]) hrun,λE' X' _ _=>?_⟩;unfold LkFact; rw [hop,hdst];simp only
  intro b off o' hv1 ho';rw [<- hdst,htvd];rw [<- hdst,htv a0 (tmpsOf_mem (x:=.tmp a0) (by rw [hops]; simp) rfl)] at hv1;have hy':=hy;unfold vfieldAddr at hy';unfold fieldOff at ho';cases hul:P.underlying t with
  | none=>rw [hul] at hy'; cases hy'
  | some td =>
   rw [hul] at hy' ho';cases td with
   | struct fields =>
    simp only at hy' ho';cases hf:fields[fd]? with
    | none=>rw [hf] at ho'; cases ho'
    | some g =>
     rw [hf] at hy' ho';simp only [Option.map_some,Option.some.injEq] at ho';subst ho';simp only at hy';by_cases hz0:P.cellsOf g.type = 0
     ·rw [if_pos hz0] at hy'; cases hy'
     ·have hrun2:(Instr.fieldAt t (a.eval (.tmp a0)) fd).run P w = .ok (.pointer (some ⟨b,off + g.offset,none⟩)) w:=by
       rw [hev,hv1];simp [Instr.fieldAt,run_underlying hul,hf,Instr.sureAddr,fieldPlace,run_sizeOf' hz0,hz0,Addr.add_lit]
      rw [hrun] at hrun2;simp only [Result.ok.injEq,and_true] at hrun2;exact hrun2
   | _=>cases ho'
 ·have hops:o.op.operands.toList = [.tmp a0]:=by rw [hop]; rfl
  have htame:tameOp o.op = true:=by rw [hop]; rfl
  obtain ⟨_,v,w1,hrun0,_⟩:=tame_run h hF hx htame;rw [hops] at hrep hm;simp only [List.map_cons,List.map_nil,RepL] at hrep;obtain ⟨u,vs,O1,O2,hu,rfl,hr1,rfl,rfl⟩:=hrep;simp only [List.cons.injEq,and_true] at hu;subst hu;have hma:a0 ∈ tmpsOf o:=tmpsOf_mem (x:=.tmp a0) (by rw [hops]; simp) rfl
  -- what is loaded
  have hcase:∃ td,P.underlying t = some td/\((∃ fl cs,rd H f o st.E (.tmp a0) = .cptr fl cs/\∃ y,ofCells P t cs = some y)\/∃ r off cs,rd H f o st.E (.tmp a0) = .ptr r off/\st.box r = some cs/\isLp cs = false/\∃ y,ofCells P t (cs.drop off) = some y):=by
   rw [stepM_dflt (by rw [hop]; rfl)] at hm;unfold dfltM at hm;rw [hop,if_neg (by simp [isMapOp])] at hm;simp only [List.map_cons,List.map_nil] at hm;have hu':∀ cs y,ofCells P t cs = some y->∃ td,P.underlying t = some td:=λcs y hy=>by
    unfold ofCells at hy;cases hul:P.underlying t with
    | none=>rw [hul] at hy; cases hy
    | some td=>exact ⟨td,rfl⟩
   cases hx0:rd H f o st.E (.tmp a0) with
   | cptr fl cs =>
    rw [hx0] at hm;simp only [rootOf,opSem] at hm;cases hy:ofCells P t cs with
    | none=>rw [hy] at hm; simp at hm
    | some y=>obtain ⟨td,htd⟩:=hu' cs y hy; exact ⟨td,htd,.inl ⟨fl,cs,rfl,y,hy⟩⟩
   | ptr r off =>
    rw [hx0] at hm;simp only [rootOf,opSem,box_withE] at hm;cases hbx:st.box r with
    | none=>rw [hbx] at hm; simp at hm
    | some cs =>
     rw [hbx] at hm;simp only at hm;cases hlp:isLp cs with
     | true=>rw [hlp] at hm; simp at hm
     | false =>
      cases hy:ofCells P t (cs.drop off) with
      | none=>rw [hlp,hy] at hm; simp at hm
      | some y=>obtain ⟨td,htd⟩:=hu' _ y hy; exact ⟨td,htd,.inr ⟨r,off,cs,rfl,hbx,hlp,y,hy⟩⟩
   | _=>rw [hx0] at hm; simp [rootOf,opSem] at hm
  obtain ⟨td,htd,hcase⟩:=hcase
  -- the world stays
  have hw1:w1 = w:=by
   rcases hcase with ⟨fl,cs,hx0,y,hy⟩ | ⟨r,off,cs,hx0,hbx,hlp,y,hy⟩
   ·rw [hx0] at hr1;simp only [Rep] at hr1;obtain ⟨_,b,off,vals,hv1,hseg,_,hl,_⟩:=hr1;obtain ⟨v2,_,_,_,hvv,_⟩:=rep_ofCells hy hl;have:(execOp a.eval o).run P w = .ok (.value v2) w:=run_op (s:=Instr.loadAt t (a.eval (.tmp a0))) _ _ (by simp only [execOp,hop]) (by
     rw [hv1];simp only [Instr.loadAt,Instr.sureAddr,Sem.run_bind,Sem.run_pure,Result.andThen_ok];exact run_loadVar' htd hseg hvv)
    rw [hrun0] at this; cases this; rfl
   ·rw [hx0] at hr1;obtain ⟨v2,hrun2,_⟩:=step_load (tk:=false) (t:=t) (ao:=.tmp a0) (dst:=none) (z:=y.dull) (c:=none) h hF hr1 hbx (by rw [hlp,hy]; rfl);have:(execOp a.eval o).run P w = .ok (.value v2) w:=run_op _ _ (by simp only [execOp,hop]) hrun2;rw [hrun0] at this; cases this; rfl
  subst hw1;refine ⟨htame,v,hrun0,λE' X' hω hE=>?_⟩;have hload:∀ {b off:Nat} {v2:Value},isAggT P t = false->tv a.tmps a0 = .pointer (some ⟨b,off,none⟩)->w1.cell? ⟨b,off,none⟩ = some v2->v = v2:=λhag hp hc=>by
   have:=run_load_cell htd hag hc;have h2:=run_op (P:=P) (w:=w1) a.eval o (s:=Instr.loadAt t (a.eval (.tmp a0))) (by simp only [execOp,hop]) (by rw [hev,hp]; exact this);rw [hrun0] at h2; cases h2; rfl
  unfold LkFact; rw [hop,hdst];simp only
  intro hag;rw [<- hdst,htvd];by_cases hla:H.link f a0 = true
  ·rw [if_pos hla];rw [hop] at hgl;simp only [hla,Bool.not_true,Bool.false_or] at hgl;have hcp:∃ fl cs,rd H f o st.E (.tmp a0) = .cptr fl cs/\∃ y,ofCells P t cs = some y:=by
    rcases hcase with h1 | ⟨r,off,cs,hx0,_⟩
    ·exact h1
    ·exfalso
     simp only [rd] at hx0;cases hE0:st.E.getD a0 .undef with
     | cptr fl l=>rw [hE0] at hx0; split at hx0 <;> simp [V.dull,V.reflag] at hx0
     | _=>rw [hE0] at hgl; simp [isCptr] at hgl
   obtain ⟨fl,cs,hx0,y,hy⟩:=hcp;rw [hx0] at hr1;simp only [Rep] at hr1;obtain ⟨_,b,off,vals,hv1,hseg,⟨e,fz,hωb,hle,_⟩,hl,_⟩:=hr1;have hy':=hy;unfold ofCells at hy';rw [htd] at hy';simp only [hag,Bool.false_eq_true,if_false] at hy';cases cs with
   | nil=>simp at hy'
   | cons c0 cs =>
    have hl':=repL_length _ _ _ hl;cases vals with
    | nil=>simp at hl'
    | cons v2 vals =>
     have hc:=hseg 0 v2 rfl;simp only [Nat.add_zero] at hc;obtain ⟨e',fz',h1,h2⟩:=hω b e fz hωb;have hvv:=hload hag (by rw [<- hev]; exact hv1) hc;refine ⟨b,off,v2,?_,hc,hvv,e',fz',h1,?_⟩
     ·rw [htv a0 hma,<- hev]; exact hv1
     ·simp only [List.length_cons] at hle; omega
  ·rw [if_neg hla];intro r o' hE';have hE0:=hE a0 hma r o' hE';obtain ⟨u0,hu0,hr0⟩:=h.env a0 _ hE0;simp only [Rep] at hr0;obtain ⟨_,b,hb,rfl⟩:=hr0;have hrd:rd H f o st.E (.tmp a0) = .ptr r o':=by
    simp only [rd,List.getD_eq_getElem?_getD,hE0,Option.getD_some];split <;> rfl
   rcases hcase with ⟨fl,cs,hx0,_⟩ | ⟨r2,off,cs,hx0,hbx,hlp,y,hy⟩
   ·rw [hrd] at hx0; cases hx0
   ·rw [hrd] at hx0;cases hx0;obtain ⟨b',hb',_,_,hbr⟩:=h.box r cs hbx;rw [hb] at hb'; cases hb';obtain ⟨arr,ty,harr,hl⟩:=hbr.cells hlp;have hy':=hy;unfold ofCells at hy';rw [htd] at hy';simp only [hag,Bool.false_eq_true,if_false,List.head?_drop] at hy';obtain ⟨v2,Oi,hv2,_⟩:=repL_get o' hl hy';have hc:w1.cell? ⟨b,o',none⟩ = some v2:=by simp only [World.cell?,harr]; simpa using hv2
    refine ⟨b,v2,?_,hc,hload hag (getD_at hu0) hc⟩;rw [htv a0 hma]; exact getD_at hu0
end Go.Ab
end
section
namespace Go.Ab
open Go
variable {P:Program} {H:Hints} {f:FuncId} {C:Orc} {w w':World} {X X':Cx}
theorem RepE.swap {s:Nat}:∀ {l:List V} {vals:List Value} {O:List Nat} (j:Nat) {e:V},RepE w X s l vals O->l[j]? = some e ->
  ∃ u O1 Oe O2,O = O1 ++ Oe ++ O2/\Rep w X e u Oe/\u.cells.size = s/\(∀ i,i < s->vals[j * s + i]? = u.cells.toList[i]?) /\
   ∀ (e':V) (Oe':List Nat),Rep w X e' u Oe'->RepE w X s (l.set j e') vals (O1 ++ Oe' ++ O2)
 | [],vals,O,j,e,h,hj=>by simp at hj
 | y :: l,vals,O,0,e,h,hj=>by
  simp only [RepE] at h;obtain ⟨u,vs,A,B,rfl,hsz,rfl,h1,h2⟩:=h;simp at hj; subst hj;have hl:u.cells.toList.length = s:=by simpa using hsz
  refine ⟨u,[],A,B,by simp,h1,hsz,λi hi=>?_,λe' Oe' hr=>?_⟩
  ·rw [Nat.zero_mul,Nat.zero_add,List.getElem?_append_left (by omega)]
  ·simp only [List.set_cons_zero,RepE,List.nil_append];exact ⟨u,vs,Oe',B,rfl,hsz,rfl,hr,h2⟩
 | y :: l,vals,O,j + 1,e,h,hj=>by
  simp only [RepE] at h;obtain ⟨u0,vs,A,B,rfl,hsz0,rfl,h1,h2⟩:=h;obtain ⟨u,O1,Oe,O2,rfl,hr,hsz,hc,hk⟩:=RepE.swap (j:=j) h2 (by simpa using hj);have hl:u0.cells.toList.length = s:=by simpa using hsz0
  refine ⟨u,A ++ O1,Oe,O2,by simp,hr,hsz,λi hi=>?_,λe' Oe' hr'=>?_⟩
  ·rw [show (j + 1) * s + i = s + (j * s + i) by rw [Nat.succ_mul]; omega,List.getElem?_append_right (by omega),hl,Nat.add_sub_cancel_left];exact hc i hi
  ·simp only [List.set_cons_succ,RepE];exact ⟨u0,vs,A,O1 ++ Oe' ++ O2,rfl,hsz0,by simp,h1,hk e' Oe' hr'⟩
theorem takF_ok {j o s:Nat} {x u y:V} {v:Value} {O:List Nat} (hx:takF j o s x = some (u,y)) (h:Rep w X x v O) :
  ∃ uv A B,Rep w X u uv A/\Rep w X y v B/\(∀ k,A.count k + B.count k<=O.count k)/\u.ptrs = []/\y.ptrs = []/\(∀ z,SlF w v [(j,o,s)] z->z = uv):=by
 unfold takF at hx;split at hx
 ·rename_i c l;split at hx
  ·rename_i c' l' he;split at hx
   ·rename_i hos;obtain ⟨rfl,rfl⟩:=hos;simp only [Option.some.injEq,Prod.mk.injEq] at hx;obtain ⟨rfl,rfl⟩:=hx;obtain ⟨b,off,cap,vals,O',rfl,rfl,hcap,hc,hlen,hs0,hxs,hsg,hω,hsp,h0,hE,hnp⟩:=own_open (s:=1) h he (by rfl);obtain ⟨uv,O1,Oe,O2,rfl,hr,hsz,hat,hk⟩:=RepE.swap j hE he;have hr2:=hk _ _ (rep_dull hr);refine ⟨uv,Oe,b :: (O1 ++ [] ++ O2),hr,own_close hcap hc hlen hs0 hxs hω h0 hnp (by rfl) (by simp [V.dull,V.reflag,V.ptrs]) rfl hsg hsp hr2,λk=>?_,by simp [V.ptrs],by simp [V.ptrs],?_⟩
    ·simp only [List.count_cons,List.count_append,List.append_nil] <;> omega
    ·rintro z ⟨b1,off1,len1,cap1,z1,hv,hj,hcell,hz⟩;simp only [SlF] at hz;subst hz;simp only [Value.slice.injEq,Option.some.injEq,Addr.mk.injEq] at hv;obtain ⟨⟨rfl,rfl,_⟩,rfl,rfl⟩:=hv;have h1:=hat 0 (by omega);have huc:uv.cells.toList = [uv]:=by rw [cells_of_one (rep_one (by rfl) hr)]
     rw [huc] at h1;have h2:=hsg (j * 1 + 0) uv (by rw [h1]; rfl);have h3:off + j * 1 + 0 = off + (j * 1 + 0):=by omega
     rw [h3,h2] at hcell;cases hcell; rfl
   ·cases hx
  ·cases hx
 ·cases hx
theorem apTake_ok {w0:World} {X0:Cx} {Md:Md} {n:Nat} {ops:Array Oper} {s:Nat} {o:Oper} {st st1:St} {tmps:Array Value} {O:Pl->List Nat} (h:Rel st tmps w X O) (hF:Fr w0 X0 Md n st w X O)
  (hpath:∀ d rt p,apOf o = some d->lkPath P H f ops st.E ops.size s d = some (rt,p,false)->∃ v0,RootVal w X tmps rt v0/\SlF w v0 p.reverse (tv tmps d)) (hx:apTake P H f ops s o st = some st1) :
  ∃ O',Rel st1 tmps w X O'/\Fr w0 X0 Md n st1 w X O'/\∀ (t:Nat) (r:Root) (off:Nat),st1.E[t]? = some (V.ptr r off)->st.E[t]? = some (V.ptr r off):=by
 have hap:∀ {d:Tmp} {callee:Callee} {args:Array Operand} {argTypes:Array TypeId},o.op = .call { callee,args,argTypes }->(args[0]?:Option Operand) = some (.tmp d)->apOf o = some d:=λh1 h2=>by unfold apOf; rw [h1]; simp only [h2]
 unfold apTake at hx;split at hx
 ·rename_i hop0;split at hx
  ·rename_i d hd0;split at hx
   ·rename_i r j c k hlk;split at hx
    ·cases hx
    ·rename_i hne;simp only [not_or,Nat.not_le] at hne;obtain ⟨hrd,hdl⟩:=hne;split at hx
     ·rename_i u y htk;simp only [Option.some.injEq] at hx;subst hx;obtain ⟨v0,hroot,hsl⟩:=hpath d _ _ (hap hop0 hd0) hlk;simp only [RootVal] at hroot;have hr0:st.E[r]? = some (st.E.getD r .undef):=by
       cases hE:st.E[r]? with
       | none =>
        exfalso
        have:st.E.getD r .undef = .undef:=by simp [hE]
        rw [this] at htk;simp [takF] at htk
       | some x=>simp [hE]
      obtain ⟨v,hv,hrep⟩:=h.env r _ hr0;have hv0:v0 = v:=by rw [<- hroot]; simp [hv]
      subst hv0;obtain ⟨uv,A,B,hu,hy,hcnt,hup,hyp,hz⟩:=takF_ok htk hrep;have hrl : @LT.lt Nat _ r st.E.length:=(List.getElem?_eq_some_iff.1 hr0).1;have htd:tv tmps d = uv:=hz _ hsl;have hds:d < tmps.size:=by rw [h.size]; exact hdl
      have htd':tmps[d]? = some uv:=by
       rw [<- htd]; unfold tv;simp [hds]
      let O':Pl->List Nat:=λp=>match p with
       | .tmp t=>if t = d then A else if t = r then B else O (.tmp t)
       | q=>O q
      have hAO:∀ b ∈ A,b ∈ O (.tmp r):=λb hb=>List.count_pos_iff.1 (by have:=hcnt b; have:=List.count_pos_iff.2 hb; omega);have hBO:∀ b ∈ B,b ∈ O (.tmp r):=λb hb=>List.count_pos_iff.1 (by have:=hcnt b; have:=List.count_pos_iff.2 hb; omega);have hAB:∀ b ∈ A,b ∉ B:=λb hb hb'=>by
       have:=hcnt b;have:=List.count_pos_iff.2 hb;have:=List.count_pos_iff.2 hb';have:=h.lin (.tmp r) b;omega
      have hO'd:O' (.tmp d) = A:=by simp [O']
      have hO'r:O' (.tmp r) = B:=by simp [O',hrd]
      have hO'o:∀ p,p ≠ .tmp d->p ≠ .tmp r->O' p = O p:=λp h1 h2=>by
       cases p with
       | tmp t =>
        have e1:t ≠ d:=λe=>h1 (by rw [e]);have e2:t ≠ r:=λe=>h2 (by rw [e]);simp [O',e1,e2]
       | box q=>rfl
      have hsrc:∀ p b,b ∈ O' p->b ∈ O (if p = .tmp d then .tmp r else p):=λp b hb=>by
       by_cases h1:p = .tmp d
       ·subst h1; rw [hO'd] at hb; rw [if_pos rfl]; exact hAO b hb
       ·rw [if_neg h1];by_cases h2:p = .tmp r
        ·subst h2; rw [hO'r] at hb; exact hBO b hb
        ·rw [hO'o p h1 h2] at hb; exact hb
      have hE1:∀ t:Nat,((st.E.set r y).set d u)[t]? = if t = d then some u else if t = r then some y else st.E[t]?:=λt=>by
       by_cases h1:t = d
       ·subst h1; rw [if_pos rfl,List.getElem?_set_self (by simpa using hdl)]
       ·rw [if_neg h1,List.getElem?_set_ne (λe=>h1 e.symm)];by_cases h2:t = r
        ·subst h2; rw [if_pos rfl,List.getElem?_set_self hrl]
        ·rw [if_neg h2,List.getElem?_set_ne (λe=>h2 e.symm)]
      have hptr:∀ (t:Nat) (q:Root) (off:Nat),((st.E.set r y).set d u)[t]? = some (V.ptr q off)->st.E[t]? = some (V.ptr q off):=λt q off ht=>by
       rw [hE1] at ht;split at ht
       ·cases ht; simp [V.ptrs] at hup
       ·split at ht
        ·cases ht; simp [V.ptrs] at hyp
        ·exact ht
      refine ⟨O',?_,?_,hptr⟩
      ·exact {
        size:=by rw [h.size]; simp
        env:=λt x hx=>by
         have hx':((st.E.set r y).set d u)[t]? = some x:=hx;rw [hE1] at hx';by_cases h1:t = d
         ·subst h1;rw [if_pos rfl] at hx'; cases hx';exact ⟨uv,htd',by rw [hO'd]; exact hu⟩
         ·rw [if_neg h1] at hx';by_cases h2:t = r
          ·subst h2;rw [if_pos rfl] at hx'; cases hx';exact ⟨v0,hv,by rw [hO'r]; exact hy⟩
          ·rw [if_neg h2] at hx';obtain ⟨v,h3,h4⟩:=h.env t x hx';have e:O' (.tmp t) = O (.tmp t):=hO'o (.tmp t) (λe=>h1 (by cases e; rfl)) (λe=>h2 (by cases e; rfl));exact ⟨v,h3,by rw [e]; exact h4⟩
        envD:=λt ht=>by
         have ht':st.E.length<=t:=by have:((st.E.set r y).set d u).length<=t:=ht; simpa using this
         have e:O' (.tmp t) = O (.tmp t):=hO'o (.tmp t) (λe=>by cases e; omega) (λe=>by cases e; omega);rw [e]; exact h.envD t ht'
        box:=λq c hq=>by
         have:O' (.box q) = O (.box q):=rfl;rw [this]; exact h.box q c hq
        boxD:=λq hq=>h.boxD q hq
        inj:=h.inj
        lin:=λp k=>by
         by_cases h1:p = .tmp d
         ·subst h1; rw [hO'd]; have:=hcnt k; have:=h.lin (.tmp r) k; omega
         ·by_cases h2:p = .tmp r
          ·subst h2; rw [hO'r]; have:=hcnt k; have:=h.lin (.tmp r) k; omega
          ·rw [hO'o p h1 h2]; exact h.lin p k
        dis:=λp q hpq b hb hq=>by
         by_cases h1:p = .tmp d
         ·subst h1;by_cases h2:q = .tmp r
          ·subst h2; rw [hO'd] at hb; rw [hO'r] at hq; exact hAB b hb hq
          ·have h3:=hsrc (.tmp d) b hb;have h4:=hsrc q b hq;rw [if_pos rfl] at h3;rw [if_neg (λe=>hpq e.symm)] at h4;exact h.dis _ _ (λe=>h2 e.symm) b h3 h4
         ·by_cases h2:q = .tmp d
          ·subst h2;by_cases h3:p = .tmp r
           ·subst h3; rw [hO'd] at hq; rw [hO'r] at hb; exact hAB b hq hb
           ·have h4:=hsrc p b hb;have h5:=hsrc (.tmp d) b hq;rw [if_pos rfl] at h5;rw [if_neg h1] at h4;exact h.dis _ _ h3 b h4 h5
          ·have h4:=hsrc p b hb;have h5:=hsrc q b hq;rw [if_neg h1] at h4;rw [if_neg h2] at h5;exact h.dis _ _ hpq b h4 h5
        ptrE:=λq hq=>by
         obtain ⟨x,hx,hqx⟩:=mem_ptrsL.1 hq;obtain ⟨t,ht⟩:=List.mem_iff_getElem?.1 hx;rw [hE1] at ht;split at ht
         ·cases ht; rw [hup] at hqx; simp at hqx
         ·split at ht
          ·cases ht; rw [hyp] at hqx; simp at hqx
          ·exact h.ptrE q (mem_ptrsL.2 ⟨x,List.mem_of_getElem? ht,hqx⟩)
        ptrB:=h.ptrB
        up:=h.up
        dom:=h.dom }
      ·exact {
        size:=hF.size
        kept:=hF.kept
        grew:=hF.grew
        β:=hF.β
        own:=λp b hb=>hF.own _ b (hsrc p b hb)
        boxM:=hF.boxM
        lev:=hF.lev
        live:=hF.live
        os:=hF.os
        out:=hF.out
        tape:=hF.tape
        gl:=hF.gl
        gm:=hF.gm }
     ·cases hx
   ·cases hx
  ·cases hx
 ·cases hx
end Go.Ab
end
section
namespace Go.Ab
open Go
variable {P:Program} {H:Hints} {f:FuncId} {C:Orc} {w w':World} {X X':Cx}
def Inv (P:Program) (H:Hints) (f:FuncId) (ops:Array Oper) (done:Nat->Prop) (E:List V) (tmps:Array Value) (w:World) (X:Cx):Prop :=
 (∃ (s:Nat) (o:Oper),ops[s]? = some o/\isLs H f o = true /\ ¬ done s)->∀ (c:Nat) (oc:Oper),ops[c]? = some oc->isLk H f oc = true->done c->LkFact P H f E oc tmps w X
def SimI (P:Program) (H:Hints) (f:FuncId) (ops:Array Oper) (done:Nat->Prop) (w0:World) (X0:Cx) (Md:Md) (n:Nat) (st:St) (a:Act) (w:World):Prop :=
 ∃ X O,Rel st a.tmps w X O/\Fr w0 X0 Md n st w X O/\MarkOk w0 w X a.defers/\Inv P H f ops done st.E a.tmps w X
theorem SimI.simD {ops:Array Oper} {done:Nat->Prop} {w0:World} {X0:Cx} {Md:Md} {n:Nat} {st:St} {a:Act} (h:SimI P H f ops done w0 X0 Md n st a w):SimD w0 X0 Md n st a w:=by
 obtain ⟨X,O,h1,h2,h3,_⟩:=h; exact ⟨X,O,h1,h2,h3⟩
theorem SimD.simI {ops:Array Oper} {w0:World} {X0:Cx} {Md:Md} {n:Nat} {st:St} {a:Act} (h:SimD w0 X0 Md n st a w):SimI P H f ops (λ_=>False) w0 X0 Md n st a w:=by
 obtain ⟨X,O,h1,h2,h3⟩:=h; exact ⟨X,O,h1,h2,h3,λ_ c oc _ _ hd=>hd.elim⟩
theorem SimI.mono {ops:Array Oper} {done done':Nat->Prop} {w0:World} {X0:Cx} {Md:Md} {n:Nat} {st:St} {a:Act} (h:SimI P H f ops done w0 X0 Md n st a w) (hd:∀ i,i < ops.size->(done' i ↔ done i)):SimI P H f ops done' w0 X0 Md n st a w:=by
 obtain ⟨X,O,h1,h2,h3,h4⟩:=h;have hlt:∀ {i:Nat} {o:Oper},ops[i]? = some o->i < ops.size:=λh=>(Array.getElem?_eq_some_iff.1 h).1;refine ⟨X,O,h1,h2,h3,λ⟨s,o,ho,hls,hs⟩ c oc hoc hlk hc=>h4 ⟨s,o,ho,hls,λh=>hs ((hd s (hlt ho)).2 h)⟩ c oc hoc hlk ((hd c (hlt hoc)).1 hc)⟩
theorem oneL_cases {ops:Array Oper} {i:Nat} {st st':St} {ft:Foot} (hx:oneL P H C f ops i st = some (st',ft)) :
  ∃ o,ops[i]? = some o/\((isLs H f o = true/\lsStep P H f ops i o st = some st')\/(isLs H f o = false/\isAp H f o = true/\isLk H f o = false/\∃ st1,apTake P H f ops i o st = some st1/\oneR P H C f ops i st1 = some (st',ft)) \/
   (isLs H f o = false/\isAp H f o = false/\lkGate H f o st.E = true/\oneR P H C f ops i st = some (st',ft))):=by
 unfold oneL at hx;cases ho:ops[i]? with
 | none=>rw [ho] at hx; cases hx
 | some o =>
  rw [ho] at hx;simp only at hx;refine ⟨o,rfl,?_⟩;cases hls:isLs H f o with
  | true =>
   rw [hls,if_pos rfl] at hx;obtain ⟨s,h1,h2⟩:=Option.map_eq_some_iff.1 hx;cases h2;exact .inl ⟨rfl,h1⟩
  | false =>
   rw [hls] at hx;simp only [Bool.false_eq_true,if_false] at hx;cases hap:isAp H f o with
   | true =>
    rw [hap] at hx;simp only [if_true] at hx;split at hx
    ·cases hx
    ·rename_i hk;obtain ⟨s1,h1,h2⟩:=Option.bind_eq_some_iff.1 hx;exact .inr (.inl ⟨rfl,rfl,by simpa using hk,s1,h1,h2⟩)
   | false =>
    rw [hap] at hx;simp only [Bool.false_eq_true,if_false] at hx;split at hx
    ·rename_i hg; exact .inr (.inr ⟨rfl,rfl,hg,hx⟩)
    ·cases hx
theorem ptr_of_dull {x:V} {r:Root} {o:Nat} (h:x.dull = .ptr r o):x = .ptr r o:=by
 cases x with
 | room s n =>
  simp only [V.dull,V.reflag,flDull] at h;by_cases h2:n = 0 <;> simp [h2] at h
 | _=>simp_all [V.dull,V.reflag]
theorem ptr_of_hard {x:V} {r:Root} {o:Nat} (h:x.hard = .ptr r o):x = .ptr r o:=by
 unfold V.hard at h; split at h
 ·cases h
 ·exact h
theorem ptr_dullAt {E:List V} {T:List Tmp} {t:Nat} {r:Root} {o:Nat} (h:(dullAt E T)[t]? = some (.ptr r o)):E[t]? = some (.ptr r o):=by
 rw [dullAt_at] at h;split at h
 ·obtain ⟨x,h1,h2⟩:=Option.map_eq_some_iff.1 h;rw [h1,ptr_of_dull h2]
 ·exact h
theorem updF_sl {ys:List V} {p:Path} {x y:V} (h:updF ys p x = some y):∃ c l,y = .sl .own c l:=by
 unfold updF at h;split at h
 ·cases h
 ·split at h
  ·split at h
   ·split at h
    ·split at h
     ·cases h; exact ⟨_,_,rfl⟩
     ·cases h
    ·split at h
     ·obtain ⟨z,_,h2⟩:=Option.map_eq_some_iff.1 h;exact ⟨_,_,h2.symm⟩
     ·cases h
   ·cases h
  ·cases h
 ·cases h
theorem ls_E {ops:Array Oper} {s:Nat} {o:Oper} {st st':St} (h:lsStep P H f ops s o st = some st') {t:Nat} {r:Root} {off:Nat} (hE:st'.E[t]? = some (.ptr r off)):st.E[t]? = some (.ptr r off):=by
 unfold lsStep at h;split at h
 ·simp only at h;split at h
  ·split at h
   ·rename_i r0 p hlk;split at h
    ·cases h
    ·split at h
     ·rename_i y hy;split at h
      ·cases h
      ·simp only [Option.some.injEq] at h;subst h;simp only [List.getElem?_set] at hE;split at hE
       ·split at hE
        ·obtain ⟨c,l,rfl⟩:=updF_sl hy;cases hE
        ·cases hE
       ·rw [List.getElem?_map] at hE;obtain ⟨x,h1,h2⟩:=Option.map_eq_some_iff.1 hE;rw [ptr_of_hard h2] at h1;exact ptr_dullAt h1
     ·cases h
   ·split at h
    ·split at h
     ·split at h
      ·split at h
       ·cases h
       ·simp only [Option.some.injEq] at h;subst h;simp only [List.getElem?_map] at hE;obtain ⟨x,h1,h2⟩:=Option.map_eq_some_iff.1 hE;rw [ptr_of_hard h2] at h1;exact ptr_dullAt h1
      ·cases h
     ·cases h
    ·cases h
   ·cases h
  ·cases h
 ·cases h
structure Fits (H:Hints) (f:FuncId) (ops:Array Oper) (done:Nat->Prop) (i:Nat):Prop where
 new:¬ done i
 after:∀ (c:Nat) (oc o:Oper),ops[c]? = some oc->ops[i]? = some o->isLk H f oc = true->done c->okAfter H f oc o = true
 self:∀ (o:Oper),ops[i]? = some o->isLk H f o = true->o.guard = none/\∀ d,o.dst = some d->d ∉ tmpsOf o
 ls:∀ (o:Oper),ops[i]? = some o->isLs H f o = true->∀ (c:Nat) (oc:Oper),ops[c]? = some oc->isLk H f oc = true->c < i->done c
 apl:∀ (o:Oper) (d:Tmp),ops[i]? = some o->isAp H f o = true->apOf o = some d->∀ (c:Nat) (oc:Oper),ops[c]? = some oc->isLk H f oc = true->c < i->(∀ x,oc.dst = some x->x ∈ lkTmps H f ops ops.size i d)->done c
 ap:∀ (o:Oper),ops[i]? = some o->isAp H f o = true->∃ (s:Nat) (os:Oper),ops[s]? = some os/\isLs H f os = true /\ ¬ done s
 lone:∀ (c:Nat) (oc:Oper),ops[c]? = some oc->isLk H f oc = true->nestLoad H f oc = true->∀ (s s':Nat) (o o':Oper),ops[s]? = some o->ops[s']? = some o'->isLs H f o = true->isLs H f o' = true->s = s'
theorem okAfter_spec {oc oi:Oper} (h:okAfter H f oc oi = true):(∀ d,oi.dst = some d->oc.dst ≠ some d/\d ∉ tmpsOf oc)/\(boxLoad H f oc = true->tameOp oi.op = true\/isLs H f oi = true):=by
 unfold okAfter at h;simp only [Bool.and_eq_true,Bool.or_eq_true,Bool.not_eq_true'] at h;refine ⟨λd hd=>?_,λhb=>?_⟩
 ·have h1:=h.1;rw [hd] at h1;simp at h1;exact ⟨h1.1,h1.2⟩
 ·rcases h.2 with (h2 | h2) | h2
  ·rw [hb] at h2; cases h2
  ·exact .inl h2
  ·exact .inr h2
theorem fok_fence {F:Fence} {X0:Cx} {Md:Md} {n:Nat} (h:FOk F X0 Md n):F = Fence.wide\/∃ l,F = Fence.wide.inRound l:=by
 rcases h.1 with h | ⟨r,l,h,_⟩
 ·exact .inl h
 ·exact .inr ⟨l,h⟩
theorem other_okL (hC:OrcOk P C) {F:Fence} {w0:World} {X0:Cx} {Md:Md} {n:Nat} (hFO:FOk F X0 Md n) {ops:Array Oper} {done:Nat->Prop} {i:Nat} {st st':St} {ft:Foot} {a:Act} (hS:SimI P H f ops done w0 X0 Md n st a w)
  {o:Oper} (ho:ops[i]? = some o) (hls:isLs H f o = false) (hgate:lkGate H f o st.E = true) (hx:oneR P H C f ops i st = some (st',ft)) (hfit:Fits H f ops done i) {K:Act->World->Prop} {Q:Exit->Act->World->Prop} (hK:∀ a' w',SimI P H f ops (λk=>done k\/k = i) w0 X0 Md n st' a' w'->K a' w'):wpOpIn F 0 P ops Q i K a w:=by
 have hFF:=fok_fence hFO;obtain ⟨X,O,h,hF,hM,hI⟩:=hS;obtain ⟨Md2,hFb,hkd,lift⟩:=rebaseF h hF hM;obtain ⟨o',ho',b,z,m,A⟩:=oneR_iff.1 hx;rw [ho] at ho'; cases ho';have hE':∀ t,o.dst ≠ some t->∀ r off,st'.E[t]? = some (.ptr r off)->st.E[t]? = some (.ptr r off):=λt ht r off hE=>by
  rw [A.res] at hE;simp only [putE_at] at hE;rw [if_neg (λhh=>ht hh.1)] at hE;exact ptr_dullAt hE
 have key:∀ (v:Value) (w':World),Sim w X Md2 n st' (a.put o.dst v).tmps w'->(tameOp o.op = true->∀ b,b < w.heap.size->X.ω b = none->w'.heap[b]? = w.heap[b]?) ->
   (isLk H f o = true->∀ X':Cx,(∀ b e fz,X.ω b = some (e,fz)->∃ e' fz',X'.ω b = some (e',fz')/\e<=e')->LkFact P H f st'.E o (a.put o.dst v).tmps w' X') ->
   SimI P H f ops (λk=>done k\/k = i) w0 X0 Md n st' (a.put o.dst v) w':=by
  rintro v w' ⟨X',O',hR',hFr'⟩ htame hnew;obtain ⟨hF',hM'⟩:=lift _ _ _ _ hFr';have hdef:(a.put o.dst v).defers = a.defers:=by cases o.dst <;> rfl
  have hω:∀ b e fz,X.ω b = some (e,fz)->∃ e' fz',X'.ω b = some (e',fz')/\e<=e':=λb e fz hb=>by
   obtain ⟨e',fz',h1,h2,_⟩:=hFr'.grew b e fz hb; exact ⟨e',fz',h1,h2⟩
  refine ⟨X',O',hR',hF',by rw [hdef]; exact hM',λ⟨s,os,hos,hlss,hs⟩ c oc hoc hlk hc=>?_⟩;have hfacts:=hI ⟨s,os,hos,hlss,λhd=>hs (.inl hd)⟩;rcases hc with hc | rfl
  ·obtain ⟨h1,h2⟩:=okAfter_spec (hfit.after c oc o hoc ho hlk hc);refine (hfacts c oc hoc hlk hc).keep (λd hd=>tv_put (λe=>(h1 d e).1 hd)) (λt ht=>tv_put (λe=>(h1 t e).2 ht)) (λ_=>⟨hω,λb e fz k v hb hk hcell=>?_⟩) (λhbl t' ht' r o' hE=>?_)
   ·obtain ⟨e',fz',_,_,_,h4⟩:=hFr'.grew b e fz hb;exact h4 k v hk hcell
   ·have hE0:=hE' t' (λe=>(h1 t' e).2 ht') r o' hE;refine ⟨hE0,λb' hb'=>?_⟩;obtain ⟨u,hu,hr⟩:=h.env t' _ hE0;simp only [Rep] at hr;obtain ⟨_,b2,hb2,rfl⟩:=hr;rw [getD_at hu] at hb';cases hb'
    have hlive:=h.ptrE r (mem_ptrsL.2 ⟨_,List.mem_of_getElem? hE0,by simp [V.ptrs]⟩);obtain ⟨cs,hcs⟩:=Option.isSome_iff_exists.1 hlive;obtain ⟨b3,hb3,hlt,hω0,_⟩:=h.box r cs hcs;rw [hb2] at hb3; cases hb3;have ht:tameOp o.op = true:=by
     rcases h2 hbl with h2 | h2
     ·exact h2
     ·rw [hls] at h2; cases h2
    exact cell_of_heap (htame ht _ hlt hω0)
  ·rw [ho] at hoc; cases hoc;exact hnew hlk X' hω
 unfold wpOpIn;rw [ho];simp only
 rw [wanted_ok h A.wanted];cases b with
 | false =>
  simp only [Bool.false_eq_true,if_false];refine ⟨λg _=>fn_wide hFF g,hK _ _ (key undef w ?_ (λ_ _ _ _=>rfl) (λhlk=>?_))⟩
  ·obtain ⟨rfl,rfl,_⟩:=some3 A.mem;refine ⟨X,putO O [] o.dst st.E.length [],?_⟩;have hst':st' = st.put o.dst (.val undef):=by rw [A.res,put_eq]; rfl
   rw [hst',putT_eq];exact ⟨h.put0 o.dst (by simp [Rep]) Lin.nil (by simp) (by simp [V.ptrs]),hFb.put0 o.dst (by simp)⟩
  ·have:=(hfit.self o ho hlk).1;have hw:=A.wanted;unfold wantedA at hw;rw [this] at hw;cases hw
 | true =>
  simp only [if_true];have hstep:stepFp P H C f o st = some (st',ft.fp):=by
   have h2:=hx;unfold oneR at h2;rw [ho] at h2;simp only [A.wanted] at h2;obtain ⟨⟨s1,fp⟩,h3,h4⟩:=Option.map_eq_some_iff.1 h2;simp only [Prod.mk.injEq] at h4;obtain ⟨rfl,rfl⟩:=h4;exact h3
  refine step_okT hC hFF h hFb hstep λv w' hSim ht=>hK _ _ (key v w' hSim (λh1=>(ht h1).1) λhlk X' hω=>?_);obtain ⟨_,hself⟩:=hfit.self o ho hlk;rcases chain_fact h hFb hlk hself hgate hstep with hall | ⟨htm,v0,hrun,hfact⟩
  ·exact hall _ _ _ _
  ·obtain ⟨rfl,rfl⟩:=(ht htm).2 v0 hrun;exact hfact _ _ hω (λt ht' r o' hE=>hE' t (λe=>hself t e ht') r o' hE)
theorem one_okL (hC:OrcOk P C) {F:Fence} {w0:World} {X0:Cx} {Md:Md} {n:Nat} (hFO:FOk F X0 Md n) {ops:Array Oper} {done:Nat->Prop} {i:Nat} {st st':St} {ft:Foot} {a:Act} (hS:SimI P H f ops done w0 X0 Md n st a w)
  (hx:oneL P H C f ops i st = some (st',ft)) (hfit:Fits H f ops done i) {K:Act->World->Prop} {Q:Exit->Act->World->Prop} (hK:∀ a' w',SimI P H f ops (λk=>done k\/k = i) w0 X0 Md n st' a' w'->K a' w'):wpOpIn F 0 P ops Q i K a w:=by
 have hFF:=fok_fence hFO;have hS0:=hS;obtain ⟨X,O,h,hF,hM,hI⟩:=hS;obtain ⟨o,ho,⟨hls,hx⟩ | ⟨hls,hap,hnk,st1,hx1,hx⟩ | ⟨hls,hap,hgate,hx⟩⟩:=oneL_cases hx
 ·-- the store
  obtain ⟨t,d,xo,hop,hld⟩:∃ t d xo,o.op = .store t (.tmp d) xo/\H.link f d = true:=by
   unfold isLs at hls;split at hls
   ·rename_i t d xo hop; exact ⟨t,d,xo,hop,hls⟩
   ·cases hls
  have hpend:∃ (s:Nat) (o:Oper),ops[s]? = some o/\isLs H f o = true /\ ¬ done s:=⟨i,o,ho,hls,hfit.new⟩
  have hfacts:=hI hpend;have hpath:∀ rt p,lkPath P H f ops st.E ops.size i d = some (rt,p,true)->∃ v0 b k,RootVal w X a.tmps rt v0/\a.tmps.getD d undef = .pointer (some ⟨b,k,none⟩)/\PtrR w v0 p b k:=λrt p hlk=>by
   obtain ⟨v0,h1,h2⟩:=lk_ok h (s:=i) (λc oc hoc hl hci=>hfacts c oc hoc hl (hfit.ls o ho hls c oc hoc hl hci)) ops.size i d rt p true (Nat.le_refl _) hlk;simp only [if_true] at h2;obtain ⟨b,k,h3,h4⟩:=h2;exact ⟨v0,b,k,h1,h3,h4⟩
  obtain ⟨hdst,hgd,w',b,hrun,hW,hsz,O',hR',hF',hM'⟩:=ls_ok h hF (λh0=>hFO.2 h0) hM hop hpath hx;unfold wpOpIn;rw [ho];have hwant:Region.wanted o (yielded ops a.tmps) = true:=by unfold Region.wanted; rw [hgd]
  simp only [hwant,if_true];refine ⟨λg _=>fn_wide hFF g,?_⟩;rw [Oper.semAt_eq _ _ _ (by intro c hc; rw [hop] at hc; cases hc)];have hrun':(execOp a.eval o).run P w = .ok .skip w':=by simp only [execOp,hop,Sem.run_bind,hrun,Result.andThen_ok,Sem.run_pure]
  rw [hrun',Oper.uponIn_skip];refine hK _ _ ?_;have hput:a.put o.dst undef = a:=by rw [hdst]; rfl
  rw [hput];refine ⟨X,O',hR',hF',hM',λhp c oc hoc hlk hc=>?_⟩;have hci:done c:=by
   rcases hc with hc | rfl
   ·exact hc
   ·rw [ho] at hoc; cases hoc;unfold isLk at hlk; rw [hdst] at hlk; cases hlk
  refine (hfacts c oc hoc hlk hci).keep (λ_ _=>rfl) (λ_ _=>rfl) (λhn=>?_) (λhb t' ht' r o' hE=>?_)
  ·obtain ⟨s,o2,ho2,hls2,hd2⟩:=hp;exact absurd (.inr (hfit.lone c oc hoc hlk hn s i o2 o ho2 ho hls2 hls)) hd2
  ·have hE0:=ls_E hx hE;refine ⟨hE0,λb' hb'=>?_⟩;obtain ⟨u,hu,hr⟩:=h.env t' _ hE0;simp only [Rep] at hr;obtain ⟨_,b2,hb2,rfl⟩:=hr;rw [getD_at hu] at hb';cases hb'
   have hlive:=h.ptrE r (mem_ptrsL.2 ⟨_,List.mem_of_getElem? hE0,by simp [V.ptrs]⟩);obtain ⟨cs,hcs⟩:=Option.isSome_iff_exists.1 hlive;obtain ⟨b3,hb3,_,hω,_⟩:=h.box r cs hcs;rw [hb2] at hb3; cases hb3;obtain ⟨e,he⟩:=hW.ω;exact cell_of_heap (hW.kept _ (λe'=>by rw [e',he] at hω; cases hω))
 ·-- an append to what is taken out
  have hfacts:=hI (hfit.ap o ho hap);obtain ⟨O1,h1,hF1,hptr⟩:=apTake_ok (P:=P) (H:=H) (f:=f) h hF (λd rt p hd hlk=>by
   obtain ⟨v0,h1,h2⟩:=lk_okS (S:=lkTmps H f ops ops.size i d) h (s:=i) (λc oc hoc hl hci hS=>hfacts c oc hoc hl (hfit.apl o d ho hap hd c oc hoc hl hci hS)) ops.size i d rt p false (Nat.le_refl _) (λ_ h=>h) hlk;exact ⟨v0,h1,by simpa using h2⟩) hx1
  refine other_okL hC hFO (st:=st1) ⟨X,O1,h1,hF1,hM,λhp c oc hoc hlk hc=>?_⟩ ho hls (by unfold lkGate; rw [hnk]; rfl) hx hfit hK;exact (hI hp c oc hoc hlk hc).keep (λ_ _=>rfl) (λ_ _=>rfl) (λ_=>⟨λb e fz hb=>⟨e,fz,hb,Nat.le_refl _⟩,λb e fz k v _ _ hcell=>hcell⟩) (λ_ t' _ r o' hE=>⟨hptr t' r o' hE,λ_ _=>rfl⟩)
 ·exact other_okL hC hFO hS0 ho hls hgate hx hfit hK
end Go.Ab
end
section
namespace Go.Ab
open Go
variable {P:Program} {H:Hints} {f:FuncId} {C:Orc} {w:World}
theorem looks_same {ops:Array Oper} {j:Nat} {x y:Oper} {st s1:St} {fx:Foot} (hx:ops[j]? = some x) (h1:oneR P H C f ops j st = some (s1,fx)) (hd:∀ d,x.dst = some d->d ∉ looksAt ops y) (hm:∀ t ∈ fx.took,t ∉ looksT H f ops y) :
  (∀ t ∈ looksAt ops y,DullEq st.E s1.E t)/\s1.E.length = st.E.length:=by
 obtain ⟨x',hx',b,z,m,A⟩:=oneR_iff.1 h1;rw [hx] at hx'; cases hx';have hE1:s1.E = putE x.dst z (dullAt st.E (takenOf H f x b)):=by rw [A.res]
 rw [hE1];exact ⟨(looks_kept (z:=z) hd A.took hm).2,by rw [putE_len,dullAt_len]⟩
theorem isCptr_dull (x:V):isCptr x.dull = isCptr x:=by
 cases x with
 | room s n =>
  simp only [V.dull,V.reflag];split
  ·rfl
  ·split <;> rfl
 | _=>rfl
theorem gate_congr {ops:Array Oper} {y:Oper} {E E':List V} (h:∀ t ∈ looksAt ops y,DullEq E E' t) (hl:E'.length = E.length):lkGate H f y E' = lkGate H f y E:=by
 unfold lkGate;rw [hl];congr 2
 split
 ·rename_i t a hop;have:=(h a (List.mem_append_left _ (tmpsOf_mem (x:=.tmp a) (by rw [hop]; exact List.mem_singleton.2 rfl) rfl))).getD;rw [<- isCptr_dull,this,isCptr_dull]
 ·rfl
def isTo (H:Hints) (f:FuncId) (o:Oper):Bool:=isLs H f o || isAp H f o
theorem oneL_of {ops:Array Oper} {i:Nat} {o:Oper} {st st':St} {ft:Foot} (ho:ops[i]? = some o) (hls:isTo H f o = false) (hg:lkGate H f o st.E = true) (h:oneR P H C f ops i st = some (st',ft)):oneL P H C f ops i st = some (st',ft):=by
 simp only [isTo,Bool.or_eq_false_iff] at hls;unfold oneL;rw [ho];simp only [hls.1,hls.2,Bool.false_eq_true,if_false,hg,if_true];exact h
theorem oneL_iff {ops:Array Oper} {i:Nat} {o:Oper} {st st':St} {ft:Foot} (ho:ops[i]? = some o) (hls:isTo H f o = false) (h:oneL P H C f ops i st = some (st',ft)):lkGate H f o st.E = true/\oneR P H C f ops i st = some (st',ft):=by
 simp only [isTo,Bool.or_eq_false_iff] at hls;obtain ⟨o',ho',⟨h1,_⟩ | ⟨_,h1,_⟩ | ⟨_,_,h1,h2⟩⟩:=oneL_cases h
 ·rw [ho] at ho'; cases ho'; rw [hls.1] at h1; cases h1
 ·rw [ho] at ho'; cases ho'; rw [hls.2] at h1; cases h1
 ·rw [ho] at ho'; cases ho'; exact ⟨h1,h2⟩
theorem swap_oneL {ops:Array Oper} {i j:Nat} {x y:Oper} {st s1 s2:St} {fx fy:Foot} (hx:ops[j]? = some x) (hy:ops[i]? = some y) (hlx:isTo H f x = false) (hly:isTo H f y = false) (hap:dstApart ops x y = true) (h1:oneL P H C f ops j st = some (s1,fx)) (h2:oneL P H C f ops i s1 = some (s2,fy))
  (hcl:fx.clash fy = false):∃ s1',oneL P H C f ops i st = some (s1',fy)/\oneL P H C f ops j s1' = some (s2,fx):=by
 obtain ⟨g1,r1⟩:=oneL_iff hx hlx h1;obtain ⟨g2,r2⟩:=oneL_iff hy hly h2;obtain ⟨s1',r3,r4⟩:=swap_one hx hy hap r1 r2 hcl;obtain ⟨d1,d2,d3⟩:=dstApart_spec hap;obtain ⟨x',hx',b,z,m,A⟩:=oneR_iff.1 r1;rw [hx] at hx'; cases hx';obtain ⟨y',hy',b',z',m',B⟩:=oneR_iff.1 r2;rw [hy] at hy'; cases hy';simp only [Foot.clash,Bool.or_eq_false_iff] at hcl;obtain ⟨⟨hc,hm1⟩,hm2⟩:=hcl;have hm1':=meets_false hm1;have hm2':=meets_false hm2;rw [B.looks] at hm1';rw [A.looks] at hm2';obtain ⟨k1,l1⟩:=looks_same (y:=y) hx r1 d1 hm1';obtain ⟨k2,l2⟩:=looks_same (y:=x) hy r3 d3 hm2';exact ⟨s1',oneL_of hy hly (by rw [<- gate_congr (H:=H) (f:=f) k1 l1]; exact g2) r3,oneL_of hx hlx (by rw [gate_congr (H:=H) (f:=f) k2 l2]; exact g1) r4⟩
theorem takF_dull {j o s:Nat} {x u y:V} (hx:takF j o s x = some (u,y)):y.dull = x.dull:=by
 unfold takF at hx;split at hx
 ·rename_i c l;split at hx
  ·rename_i c' l' he;split at hx
   ·simp only [Option.some.injEq,Prod.mk.injEq] at hx;obtain ⟨rfl,rfl⟩:=hx;show V.sl .dull c (reflagL flDull (l.set j (V.dull (.sl .own c' l')))) = V.sl .dull c (reflagL flDull l);rw [reflagL_eq_map,reflagL_eq_map];congr 1
    apply List.ext_getElem?;intro i;rw [List.getElem?_map,List.getElem?_map];by_cases hi:i = j
    ·subst hi;have hlt:i < l.length:=(List.getElem?_eq_some_iff.1 he).1;rw [List.getElem?_set_self hlt,he];show some (V.dull (V.dull (.sl .own c' l'))) = some (V.dull (.sl .own c' l'));exact congrArg some (dull_dull _)
    ·rw [List.getElem?_set_ne (λe=>hi e.symm)]
   ·cases hx
  ·cases hx
 ·cases hx
theorem apTake_spec {ops:Array Oper} {s:Nat} {o:Oper} {st g:St} (h:apTake P H f ops s o st = some g) :
  ∃ d r j c k u y,apOf o = some d/\lkPath P H f ops st.E ops.size s d = some (.tmp r,[(j,c,k)],false)/\r ≠ d/\d < st.E.length/\takF j c k (st.E.getD r .undef) = some (u,y)/\g = { st with E:=(st.E.set r y).set d u }:=by
 unfold apTake at h;split at h
 ·rename_i hop;split at h
  ·rename_i d hd;split at h
   ·rename_i r j c k hlk;split at h
    ·cases h
    ·rename_i hne;simp only [not_or,Nat.not_le] at hne;split at h
     ·rename_i u y htk;simp only [Option.some.injEq] at h;exact ⟨d,r,j,c,k,u,y,by unfold apOf; rw [hop]; simp only [hd],hlk,hne.1,hne.2,htk,h.symm⟩
     ·cases h
   ·cases h
  ·cases h
 ·cases h
theorem apTake_of {ops:Array Oper} {s:Nat} {o:Oper} {st:St} {d r:Tmp} {j c k:Nat} {u y:V} (hop:∃ cl,o.op = .call cl) (hd:apOf o = some d) (hlk:lkPath P H f ops st.E ops.size s d = some (.tmp r,[(j,c,k)],false)) (hne:r ≠ d) (hl:d < st.E.length) (htk:takF j c k (st.E.getD r .undef) = some (u,y)) :
  apTake P H f ops s o st = some { st with E:=(st.E.set r y).set d u }:=by
 obtain ⟨cl,hop⟩:=hop;unfold apOf at hd;unfold apTake;rw [hop] at hd ⊢;simp only at hd ⊢;cases ha:(cl.args[0]?:Option Operand) with
 | none=>rw [ha] at hd; cases hd
 | some x =>
  rw [ha] at hd;cases x with
  | tmp t =>
   simp only [Option.some.injEq] at hd;subst hd;simp only [hlk,htk];rw [if_neg (by simp only [not_or,Nat.not_le]; exact ⟨hne,hl⟩)]
  | _=>cases hd
theorem isAp_call {o:Oper} (h:isAp H f o = true):∃ cl,o.op = .call cl:=by
 unfold isAp at h;split at h
 ·rename_i hop; exact ⟨_,hop⟩
 ·cases h
theorem freeMv_spec {ops:Array Oper} {c:Nat} {oc oi:Oper} (h:freeMv H f ops c oc oi = true):∃ a x d,oi.op = .move (.tmp a)/\oi.dst = some x/\apOf oc = some d/\oi.guard = none/\takes H f oi = false/\isTo H f oi = false/\a ≠ d/\x ∉ lkTmps H f ops ops.size c d:=by
 unfold freeMv at h;split at h
 ·rename_i a x d h1 h2 h3;simp only [Bool.and_eq_true,Bool.not_eq_true',decide_eq_true_eq] at h;obtain ⟨⟨⟨⟨⟨h4,h5⟩,h6⟩,h7⟩,h8⟩,h9⟩:=h;exact ⟨a,x,d,h1,h2,h3,by simpa using h4,h5,by simp [isTo,h6,h7],h8,by simpa using h9⟩
 ·cases h
theorem move_run {ops:Array Oper} {j:Nat} {x:Oper} {a:Tmp} (hx:ops[j]? = some x) (hop:x.op = .move (.tmp a)) (hg:x.guard = none) (ht:takes H f x = false) (st:St) :
  oneR P H C f ops j st = some (st.put x.dst (st.E.getD a .undef).dull,⟨.none,[],looksT H f ops x⟩):=by
 unfold oneR;rw [hx];have hw:wantedA ops st.E x = some true:=by unfold wantedA; rw [hg]
 simp only [hw];have hs:stepFp P H C f x st = some (st.put x.dst (st.E.getD a .undef).dull,.none):=by
  unfold stepFp;simp only [ht,Bool.false_and,Bool.false_eq_true,if_false];have hops:x.op.operands.toList = [.tmp a]:=by rw [hop]; rfl
  rw [hops];simp only [List.map_cons,List.map_nil,rd,ht,Bool.false_eq_true,if_false];unfold stepM;rw [hop];rfl
 rw [hs];simp [tookAt,ht]
theorem ap_move {ops:Array Oper} {c:Nat} {oc:Oper} {st:St} {x d:Tmp} (z:V) (hap:isAp H f oc = true) (hd:apOf oc = some d) (hx:x ∉ lkTmps H f ops ops.size c d) :
  apTake P H f ops c oc (st.put (some x) z) = (apTake P H f ops c oc st).map λg=>g.put (some x) z:=by
 have hne:∀ t ∈ lkTmps H f ops ops.size c d,(st.put (some x) z).E[t]? = st.E[t]?:=λt ht=>by
  show (st.E.set x z)[t]? = _;rw [List.getElem?_set_ne (λe=>hx (by rw [e]; exact ht))]
 have hpath:=lkPath_congr (P:=P) ops.size c d hne;have hlen:(st.put (some x) z).E.length = st.E.length:=List.length_set ..;have key:∀ {st1:St} {r:Tmp} {p:Path} {b:Bool},lkPath P H f ops st1.E ops.size c d = some (.tmp r,p,b)->x ≠ r:=λh e=>hx (by rw [e]; exact lkPath_root _ _ _ _ _ _ h);cases hA:apTake P H f ops c oc st with
 | some g =>
  obtain ⟨d',r,j,k1,k2,u,y,h1,h2,h3,h4,h5,rfl⟩:=apTake_spec hA;rw [hd] at h1; cases h1;have hxr:=key h2;have hxd:x ≠ d:=λe=>hx (by
   rw [e];cases hn:ops.size with
   | zero=>rw [hn] at h2; simp [lkPath] at h2
   | succ n=>simp [lkTmps])
  have hr:(st.put (some x) z).E.getD r .undef = st.E.getD r .undef:=getD_congr (by show (st.E.set x z)[r]? = _; rw [List.getElem?_set_ne hxr]);rw [apTake_of (st:=st.put (some x) z) (isAp_call hap) hd (by rw [hpath]; exact h2) h3 (by rw [hlen]; exact h4) (by rw [hr]; exact h5)];simp only [Option.map_some,St.put];congr 2
  rw [List.set_comm _ _ hxr,List.set_comm _ _ hxd]
 | none =>
  cases hB:apTake P H f ops c oc (st.put (some x) z) with
  | none=>rfl
  | some g =>
   exfalso
   obtain ⟨d',r,j,k1,k2,u,y,h1,h2,h3,h4,h5,rfl⟩:=apTake_spec hB;rw [hd] at h1; cases h1;have hxr:=key h2;have hr:(st.put (some x) z).E.getD r .undef = st.E.getD r .undef:=getD_congr (by show (st.E.set x z)[r]? = _; rw [List.getElem?_set_ne hxr]);have:=apTake_of (st:=st) (isAp_call hap) hd (by rw [<- hpath]; exact h2) h3 (by rw [<- hlen]; exact h4) (by rw [<- hr]; exact h5);rw [hA] at this; cases this
theorem ap_reads {ops:Array Oper} {c:Nat} {oc:Oper} {st g:St} {a d:Tmp} (hA:apTake P H f ops c oc st = some g) (hd:apOf oc = some d) (had:a ≠ d):(g.E.getD a .undef).dull = (st.E.getD a .undef).dull:=by
 obtain ⟨d',r,j,k1,k2,u,y,h1,h2,h3,h4,h5,rfl⟩:=apTake_spec hA;rw [hd] at h1; cases h1;simp only
 have e1:((st.E.set r y).set d u).getD a .undef = (st.E.set r y).getD a .undef:=getD_congr (by rw [List.getElem?_set_ne (λe=>had e.symm)]);rw [e1];by_cases har:a = r
 ·subst har;by_cases hl : @LT.lt Nat _ a st.E.length
  ·have e2:(st.E.set a y).getD a .undef = y:=by simp [hl]
   rw [e2,takF_dull h5]
  ·have e2:(st.E.set a y).getD a .undef = st.E.getD a .undef:=by rw [List.set_eq_of_length_le (by omega)]
   rw [e2]
 ·have e2:(st.E.set r y).getD a .undef = st.E.getD a .undef:=getD_congr (by rw [List.getElem?_set_ne (λe=>har e.symm)]);rw [e2]
theorem oneL_ap {ops:Array Oper} {i:Nat} {o:Oper} {st st':St} {ft:Foot} (ho:ops[i]? = some o) (hap:isAp H f o = true):oneL P H C f ops i st = some (st',ft) ↔ (isLs H f o = false/\isLk H f o = false/\∃ g,apTake P H f ops i o st = some g/\oneR P H C f ops i g = some (st',ft)):=by
 have hls:isLs H f o = false:=by
  obtain ⟨cl,hop⟩:=isAp_call hap;unfold isLs; rw [hop]
 constructor
 ·intro h;obtain ⟨o',ho',⟨h1,_⟩ | ⟨_,_,h2,h3⟩ | ⟨_,h1,_⟩⟩:=oneL_cases h
  ·rw [ho] at ho'; cases ho'; rw [hls] at h1; cases h1
  ·rw [ho] at ho'; cases ho'; exact ⟨hls,h2,h3⟩
  ·rw [ho] at ho'; cases ho'; rw [hap] at h1; cases h1
 ·rintro ⟨_,h2,g,h3,h4⟩;unfold oneL;rw [ho];simp only [hls,hap,h2,h3,Bool.false_eq_true,if_false,if_true,Option.bind_some];exact h4
theorem gate_move {x:Oper} {a:Tmp} (hop:x.op = .move (.tmp a)) {E E':List V} (hl:E'.length = E.length):lkGate H f x E' = lkGate H f x E:=by
 unfold lkGate;rw [hop,hl]
theorem swap_mv_ap {ops:Array Oper} {i j:Nat} {x y:Oper} {st s1 s2:St} {fx fy:Foot} (hx:ops[j]? = some x) (hy:ops[i]? = some y) (hap:isAp H f y = true) (hfr:freeMv H f ops i y x = true) (hda:dstApart ops x y = true) (h1:oneL P H C f ops j st = some (s1,fx)) (h2:oneL P H C f ops i s1 = some (s2,fy))
  (hcl:fx.clash fy = false):∃ s1',oneL P H C f ops i st = some (s1',fy)/\oneL P H C f ops j s1' = some (s2,fx):=by
 obtain ⟨a,xd,d,hop,hdst,hd,hg,htk,hto,had,hxl⟩:=freeMv_spec hfr;obtain ⟨g1,r1⟩:=oneL_iff hx hto h1;obtain ⟨hls,hlk,g,hA,r2⟩:=(oneL_ap hy hap).1 h2;rw [move_run hx hop hg htk] at r1;obtain ⟨rfl,rfl⟩:=Prod.mk.inj (Option.some.inj r1);rw [hdst,ap_move _ hap hd hxl] at hA;obtain ⟨g0,hA0,rfl⟩:=Option.map_eq_some_iff.1 hA;have r3:oneR P H C f ops j g0 = some (g0.put (some xd) (st.E.getD a .undef).dull,⟨.none,[],looksT H f ops x⟩):=by
  rw [move_run hx hop hg htk,hdst,ap_reads hA0 hd had]
 obtain ⟨s1',r4,r5⟩:=swap_one hx hy hda r3 r2 hcl;refine ⟨s1',(oneL_ap hy hap).2 ⟨hls,hlk,g0,hA0,r4⟩,oneL_of hx hto ?_ r5⟩;rw [gate_move hop (E:=st.E)]
 ·exact g1
 ·obtain ⟨y',hy',b,z,m,A⟩:=oneR_iff.1 r4;obtain ⟨_,r,_,_,_,u,yy,_,_,_,_,_,rfl⟩:=apTake_spec hA0;rw [A.res];simp [putE_len,dullAt_len]
theorem swap_ap_mv {ops:Array Oper} {i j:Nat} {x y:Oper} {st s1 s2:St} {fx fy:Foot} (hx:ops[j]? = some x) (hy:ops[i]? = some y) (hap:isAp H f x = true) (hfr:freeMv H f ops j x y = true) (hda:dstApart ops x y = true) (h1:oneL P H C f ops j st = some (s1,fx)) (h2:oneL P H C f ops i s1 = some (s2,fy))
  (hcl:fx.clash fy = false):∃ s1',oneL P H C f ops i st = some (s1',fy)/\oneL P H C f ops j s1' = some (s2,fx):=by
 obtain ⟨a,xd,d,hop,hdst,hd,hg,htk,hto,had,hxl⟩:=freeMv_spec hfr;obtain ⟨hls,hlk,g,hA,r1⟩:=(oneL_ap hx hap).1 h1;obtain ⟨g2,r2⟩:=oneL_iff hy hto h2;obtain ⟨s1',r3,r4⟩:=swap_one hx hy hda r1 r2 hcl;have hfy:=r3;rw [move_run hy hop hg htk] at r3;obtain ⟨rfl,rfl⟩:=Prod.mk.inj (Option.some.inj r3);rw [hdst,ap_reads hA hd had] at r4;have hA2:apTake P H f ops j x (st.put (some xd) (st.E.getD a .undef).dull) = some (g.put (some xd) (st.E.getD a .undef).dull):=by
  rw [ap_move _ hap hd hxl,hA]; rfl
 refine ⟨st.put (some xd) (st.E.getD a .undef).dull,oneL_of hy hto ?_ (by rw [move_run hy hop hg htk,hdst]),(oneL_ap hx hap).2 ⟨hls,hlk,_,hA2,r4⟩⟩;rw [gate_move hop (E:=s1.E)]
 ·exact g2
 ·obtain ⟨y',hy',b,z,m,A⟩:=oneR_iff.1 r1;obtain ⟨_,r,_,_,_,u,yy,_,_,_,_,_,rfl⟩:=apTake_spec hA;rw [A.res];simp [putE_len,dullAt_len]
def Two (H:Hints) (f:FuncId) (ops:Array Oper) (j i:Nat) (x y:Oper):Prop :=
 (isTo H f x = false/\isTo H f y = false)\/(isAp H f y = true/\freeMv H f ops i y x = true)\/(isAp H f x = true/\freeMv H f ops j x y = true)
theorem swap_two {ops:Array Oper} {i j:Nat} {x y:Oper} {st s1 s2:St} {fx fy:Foot} (hx:ops[j]? = some x) (hy:ops[i]? = some y) (htwo:Two H f ops j i x y) (hda:dstApart ops x y = true) (h1:oneL P H C f ops j st = some (s1,fx)) (h2:oneL P H C f ops i s1 = some (s2,fy))
  (hcl:fx.clash fy = false):∃ s1',oneL P H C f ops i st = some (s1',fy)/\oneL P H C f ops j s1' = some (s2,fx):=by
 rcases htwo with ⟨h3,h4⟩ | ⟨h3,h4⟩ | ⟨h3,h4⟩
 ·exact swap_oneL hx hy h3 h4 hda h1 h2 hcl
 ·exact swap_mv_ap hx hy h3 h4 hda h1 h2 hcl
 ·exact swap_ap_mv hx hy h3 h4 hda h1 h2 hcl
theorem oneL_R {ops:Array Oper} {i:Nat} {o:Oper} {st st':St} {ft:Foot} (ho:ops[i]? = some o) (hls:isLs H f o = false) (h:oneL P H C f ops i st = some (st',ft)):∃ st1 st2,oneR P H C f ops i st1 = some (st2,ft):=by
 obtain ⟨o',ho',⟨h1,_⟩ | ⟨_,_,_,g,_,h1⟩ | ⟨_,_,_,h1⟩⟩:=oneL_cases h
 ·rw [ho] at ho'; cases ho'; rw [hls] at h1; cases h1
 ·exact ⟨_,_,h1⟩
 ·exact ⟨_,_,h1⟩
theorem execL_cons {ops:Array Oper} {i:Nat} {l:List Nat} {st s:St} {fps:List (Nat × Foot)}:execL P H C f ops (i :: l) st = some (s,fps) ↔ ∃ s1 ft fps',oneL P H C f ops i st = some (s1,ft)/\execL P H C f ops l s1 = some (s,fps')/\fps = (i,ft) :: fps':=by
 simp only [execL];cases h:oneL P H C f ops i st with
 | none=>simp
 | some p =>
  obtain ⟨s1,ft⟩:=p;simp only [Option.map_eq_some_iff,Prod.exists,Option.some.injEq,Prod.mk.injEq];constructor
  ·rintro ⟨a,b,h1,rfl,rfl⟩; exact ⟨s1,ft,b,⟨rfl,rfl⟩,h1,rfl⟩
  ·rintro ⟨a,b,c,⟨rfl,rfl⟩,h1,rfl⟩; exact ⟨s,c,h1,rfl,rfl⟩
theorem move_frontL {ops:Array Oper} {i:Nat} {y:Oper} (hy:ops[i]? = some y) {B:List Nat}:∀ (A:List Nat) (st s:St) (fps:List (Nat × Foot)),execL P H C f ops (A ++ i :: B) st = some (s,fps) ->
  (∀ j ∈ A,∃ x,ops[j]? = some x/\Two H f ops j i x y/\dstApart ops x y = true/\∀ fx fy,(j,fx) ∈ fps->(i,fy) ∈ fps->fx.clash fy = false) ->
  ∃ fps',execL P H C f ops (i :: (A ++ B)) st = some (s,fps')/\∀ p,p ∈ fps' ↔ p ∈ fps
 | [],st,s,fps,h,_=>⟨fps,h,λ_=>Iff.rfl⟩
 | j :: A,st,s,fps,h,hA=>by
  rw [List.cons_append,execL_cons] at h;obtain ⟨s1,fj,fps1,h1,h2,rfl⟩:=h;obtain ⟨fps2,h3,h4⟩:=move_frontL hy A s1 s fps1 h2 (λk hk=>by
   obtain ⟨x,hx,hlx,hd,hc⟩:=hA k (by simp [hk]);exact ⟨x,hx,hlx,hd,λfx fy h1 h2=>hc fx fy (by simp [h1]) (by simp [h2])⟩)
  rw [execL_cons] at h3;obtain ⟨s2,fi,fps3,h5,h6,rfl⟩:=h3;obtain ⟨x,hx,hlx,hd,hc⟩:=hA j (by simp);obtain ⟨s1',h7,h8⟩:=swap_two hx hy hlx hd h1 h5 (hc fj fi (by simp) (by
   have:=(h4 (i,fi)).1 (by simp);simp [this]))
  refine ⟨(i,fi) :: (j,fj) :: fps3,?_,λp=>?_⟩
  ·rw [execL_cons];exact ⟨s1',fi,(j,fj) :: fps3,h7,by rw [List.cons_append,execL_cons]; exact ⟨s2,fj,fps3,h8,h6,rfl⟩,rfl⟩
  ·have:=h4 p;simp only [List.mem_cons] at this ⊢;rw [<- this];constructor
   ·rintro (h | h | h) <;> simp [h]
   ·rintro (h | h | h) <;> simp [h]
theorem execL_mem {ops:Array Oper}:∀ (l:List Nat) (st s:St) (fps:List (Nat × Foot)),execL P H C f ops l st = some (s,fps)->∀ k ft,(k,ft) ∈ fps->k ∈ l/\∃ s1 s2,oneL P H C f ops k s1 = some (s2,ft)
 | [],st,s,fps,h,k,ft,hk=>by simp only [execL,Option.some.injEq,Prod.mk.injEq] at h; rw [<- h.2] at hk; simp at hk
 | i :: l,st,s,fps,h,k,ft,hk=>by
  obtain ⟨s1,fi,fps',h1,h2,rfl⟩:=execL_cons.1 h;rcases List.mem_cons.1 hk with hk | hk
  ·cases hk; exact ⟨by simp,_,_,h1⟩
  ·obtain ⟨h3,h4⟩:=execL_mem l s1 s fps' h2 k ft hk;exact ⟨by simp [h3],h4⟩
theorem anc_lt {ops:List Oper} (hb:∀ (k:Nat) (o:Oper),ops[k]? = some o->∀ j ∈ boundE o,j < k):∀ (n i:Nat) (o:Oper),i<=n->ops[i]? = some o->∀ j ∈ (ancs ops).getD i [],j < i:=by
 intro n;induction n with
 | zero =>
  intro i o hi ho j hj;rw [ancs_get ops i o ho (hb i o ho)] at hj;obtain ⟨e,he,_⟩:=List.mem_flatMap.1 (mem_dedupN hj);have:=hb i o ho e he; omega
 | succ n ih =>
  intro i o hi ho j hj;rw [ancs_get ops i o ho (hb i o ho)] at hj;obtain ⟨e,he,hj⟩:=List.mem_flatMap.1 (mem_dedupN hj);have hei:=hb i o ho e he;rcases List.mem_cons.1 hj with rfl | hj
  ·exact hei
  ·have hlt:i < ops.length:=(List.getElem?_eq_some_iff.1 ho).1;have:=ih e ops[e] (by omega) (List.getElem?_eq_getElem (by omega)) j hj;omega
structure LinkOk (H:Hints) (f:FuncId) (ops:Array Oper) (bef:Nat->Nat->Prop):Prop where
 self:∀ (c:Nat) (oc:Oper),ops[c]? = some oc->isLk H f oc = true->oc.guard = none/\∀ d,oc.dst = some d->d ∉ tmpsOf oc
 after:∀ (c i:Nat) (oc oi:Oper),ops[c]? = some oc->ops[i]? = some oi->isLk H f oc = true->i = c\/bef i c\/okAfter H f oc oi = true
 ls:∀ (c i:Nat) (oc oi:Oper),ops[c]? = some oc->ops[i]? = some oi->isLs H f oc = true->i = c\/bef i c\/bef c i
 apt:∀ (c i:Nat) (oc oi:Oper),ops[c]? = some oc->ops[i]? = some oi->isAp H f oc = true->i = c\/bef i c\/bef c i\/freeMv H f ops c oc oi = true
 ap:∀ (c:Nat) (oc:Oper),ops[c]? = some oc->isAp H f oc = true->∃ (s:Nat) (os:Oper),ops[s]? = some os/\isLs H f os = true/\bef c s
 lone:∀ (c:Nat) (oc:Oper),ops[c]? = some oc->isLk H f oc = true->nestLoad H f oc = true->∀ (s s':Nat) (o o':Oper),ops[s]? = some o->ops[s']? = some o'->isLs H f o = true->isLs H f o' = true->s = s'
theorem filter_two {α:Type} {p:α->Bool} {l:List α} (h:(l.filter p).length<=1):∀ {i j:Nat} {a b:α},l[i]? = some a->l[j]? = some b->p a = true->p b = true->i = j:=by
 induction l with
 | nil=>intro i j a b hi; simp at hi
 | cons x l ih =>
  intro i j a b hi hj ha hb;have hmem:∀ {k:Nat} {c:α},l[k]? = some c->p c = true->0 < (l.filter p).length:=λhk hc =>
   List.length_pos_of_mem (List.mem_filter.2 ⟨List.mem_of_getElem? hk,hc⟩)
  cases hx:p x with
  | true =>
   simp only [List.filter_cons,hx,if_true,List.length_cons] at h;cases i with
   | zero=>cases j with
    | zero=>rfl
    | succ j=>have:=hmem (by simpa using hj) hb; omega
   | succ i=>have:=hmem (by simpa using hi) ha; omega
  | false =>
   simp only [List.filter_cons,hx,Bool.false_eq_true,if_false] at h;cases i with
   | zero=>simp at hi; subst hi; rw [hx] at ha; cases ha
   | succ i=>cases j with
    | zero=>simp at hj; subst hj; rw [hx] at hb; cases hb
    | succ j=>exact congrArg Nat.succ (ih h (i:=i) (j:=j) (by simpa using hi) (by simpa using hj) ha hb)
theorem linkOk_spec {draw:Bool} {ops:Array Oper} (h:linkOk H f draw ops = true):LinkOk H f ops (λi c=>befor draw (ancs ops.toList) i c = true):=by
 have key:∀ (c:Nat) (oc:Oper),ops[c]? = some oc->linkOne H f draw (ancs ops.toList) ops (decide ((ops.toList.filter (isLs H f)).length<=1)) c oc = true:=λc oc hoc=>by
  have hlt:c < ops.size:=(Array.getElem?_eq_some_iff.1 hoc).1;unfold linkOk at h;have:=List.all_eq_true.1 h c (List.mem_range.2 hlt);rw [hoc] at this;exact this
 have part:∀ (c:Nat) (oc:Oper),ops[c]? = some oc->_:=λc oc hoc=>by
  have:=key c oc hoc;unfold linkOne at this;simp only [Bool.and_eq_true,Bool.or_eq_true,Bool.not_eq_true'] at this;exact this
 refine { self:=λc oc hoc hlk=>?_,after:=λc i oc oi hoc hoi hlk=>?_,ls:=λc i oc oi hoc hoi hls=>?_,apt:=λc i oc oi hoc hoi hap=>?_,ap:=λc oc hoc hap=>?_,lone:=λc oc hoc hlk hn s s' o o' hs hs' hl hl'=>?_ }
 ·obtain ⟨⟨⟨⟨h1,_⟩,_⟩,_⟩,_⟩:=part c oc hoc;rcases h1 with h1 | h1
  ·rw [hlk] at h1; cases h1
  ·refine ⟨by simpa using h1.1.1,λd hd=>?_⟩;have:=h1.1.2;rw [hd] at this;simpa using this
 ·obtain ⟨⟨⟨⟨h1,_⟩,_⟩,_⟩,_⟩:=part c oc hoc;rcases h1 with h1 | h1
  ·rw [hlk] at h1; cases h1
  ·have:=List.all_eq_true.1 h1.2 i (List.mem_range.2 (Array.getElem?_eq_some_iff.1 hoi).1);rw [hoi] at this;simp only [Bool.or_eq_true,beq_iff_eq] at this;rcases this with (h2 | h2) | h2
   ·exact .inl h2
   ·exact .inr (.inl h2)
   ·exact .inr (.inr h2)
 ·obtain ⟨⟨⟨⟨_,h1⟩,_⟩,_⟩,_⟩:=part c oc hoc;rcases h1 with h1 | h1
  ·rw [hls] at h1; cases h1
  ·have:=List.all_eq_true.1 h1.2 i (List.mem_range.2 (Array.getElem?_eq_some_iff.1 hoi).1);simp only [Bool.or_eq_true,beq_iff_eq] at this;rcases this with (h2 | h2) | h2
   ·exact .inl h2
   ·exact .inr (.inl h2)
   ·exact .inr (.inr h2)
 ·obtain ⟨_,h1⟩:=part c oc hoc;rcases h1 with h1 | h1
  ·rw [hap] at h1; cases h1
  ·have:=List.all_eq_true.1 h1 i (List.mem_range.2 (Array.getElem?_eq_some_iff.1 hoi).1);rw [hoi] at this;simp only [Bool.or_eq_true,beq_iff_eq] at this;rcases this with ((h2 | h2) | h2) | h2
   ·exact .inl h2
   ·exact .inr (.inl h2)
   ·exact .inr (.inr (.inl h2))
   ·exact .inr (.inr (.inr h2))
 ·obtain ⟨⟨_,h1⟩,_⟩:=part c oc hoc;rcases h1 with h1 | h1
  ·rw [hap] at h1; cases h1
  ·obtain ⟨s,_,h2⟩:=List.any_eq_true.1 h1;simp only [Bool.and_eq_true] at h2;cases hs:ops[s]? with
   | none=>rw [hs] at h2; cases h2.2
   | some os=>rw [hs] at h2; exact ⟨s,os,hs,h2.2,h2.1⟩
 ·obtain ⟨⟨⟨_,h1⟩,_⟩,_⟩:=part c oc hoc;rcases h1 with h1 | h1
  ·rw [hlk,hn] at h1; cases h1
  ·simp only [decide_eq_true_eq] at h1;exact filter_two h1 (by simpa using hs) (by simpa using hs') hl hl'
theorem seq_okL (hC:OrcOk P C) {F:Fence} {w0:World} {X0:Cx} {Md:Md} {n:Nat} (hFO:FOk F X0 Md n) {ops:Array Oper} (hlk:linkOk H f false ops = true) {Q:Exit->Act->World->Prop}:∀ (m i:Nat) (st st':St) (fps:List (Nat × Foot)) (a:Act) (w:World),i + m = ops.size ->
  SimI P H f ops (λk=>k < i) w0 X0 Md n st a w->execL P H C f ops (List.range' i m) st = some (st',fps)->(∀ a' w',SimD w0 X0 Md n st' a' w'->Q .normal a' w')->wpOpsIn F 0 P ops Q (List.range' i m) a w
 | 0,i,st,st',fps,a,w,_,hS,hx,hK=>by
  simp only [List.range'_zero,execL,Option.some.injEq,Prod.mk.injEq] at hx;obtain ⟨rfl,_⟩:=hx;exact hK a w hS.simD
 | m + 1,i,st,st',fps,a,w,him,hS,hx,hK=>by
  rw [List.range'_succ] at hx ⊢;obtain ⟨s1,ft,fps',h1,h2,_⟩:=execL_cons.1 hx;rw [wpOpsIn_cons];have L:=linkOk_spec hlk;refine one_okL hC hFO hS h1 ?_ λa' w' hS'=>seq_okL hC hFO hlk m (i + 1) s1 st' fps' a' w' (by omega) (hS'.mono λk _=>by omega) h2 hK;exact {
   new:=by omega
   after:=λc oc o hoc ho hl hc=>by
    rcases L.after c i oc o hoc ho hl with h3 | h3 | h3
    ·omega
    ·simp [befor] at h3; omega
    ·exact h3
   self:=λo ho hl=>L.self i o ho hl
   ls:=λo ho hl c oc hoc hlc hci=>hci
   apl:=λo d ho hap hd c oc hoc hlc hci hx=>hci
   ap:=λo ho hap=>by
    obtain ⟨s,os,h3,h4,h5⟩:=L.ap i o ho hap;refine ⟨s,os,h3,h4,?_⟩;simp [befor] at h5;omega
   lone:=L.lone }
theorem region_anyL (hC:OrcOk P C) {F:Fence} {w0:World} {X0:Cx} {Md:Md} {n:Nat} (hFO:FOk F X0 Md n) {ops:Array Oper} {U:List (Nat × Nat)} (hreg:regionOk H f U ops = true) (hlk:linkOk H f true ops = true) {Q:Exit->Act->World->Prop} :
  ∀ (fuel:Nat) (listed:Array Bool) (st st':St) (fps:List (Nat × Foot)) (a:Act) (w:World),listed.size = ops.size->Down ops listed->((List.range ops.size).filter λk=>!listed.getD k true).length<=fuel ->
   execL P H C f ops ((List.range ops.size).filter λk=>!listed.getD k true) st = some (st',fps)->(∀ i j fi fj,(i,j) ∈ U->(i,fi) ∈ fps->(j,fj) ∈ fps->fi.clash fj = false) ->
   SimI P H f ops (λk=>listed.getD k true = true) w0 X0 Md n st a w->(∀ a' w',SimD w0 X0 Md n st' a' w'->Q .normal a' w')->wpAnyIn F 0 P .any ops Q fuel listed a w:=by
 have hrow:∀ i y,ops[i]? = some y->(∀ j ∈ boundE y,j < i)/\∀ j,j < i->j ∈ (ancs ops.toList).getD i []\/∃ x,ops[j]? = some x/\dstApart ops x y = true/\(textApart H f ops x y = true\/(j,i) ∈ U):=by
  intro i y hy;have hilt:i < ops.size:=(Array.getElem?_eq_some_iff.1 hy).1;unfold regionOk at hreg;have h1:=List.all_eq_true.1 hreg i (List.mem_range.2 hilt);rw [hy] at h1;simp only [Bool.and_eq_true] at h1;refine ⟨λj hj=>by simpa using List.all_eq_true.1 h1.1 j hj,λj hj=>?_⟩;have h2:=List.all_eq_true.1 h1.2 j (List.mem_range.2 hj);simp only [Bool.or_eq_true] at h2;rcases h2 with h2 | h2
  ·exact .inl (by simpa using h2)
  ·right
   cases hx:ops[j]? with
   | none=>rw [hx] at h2; cases h2
   | some x =>
    rw [hx] at h2;simp only [Bool.and_eq_true,Bool.or_eq_true] at h2;exact ⟨x,rfl,h2.1,h2.2.imp id (by simp)⟩
 have hanclt:∀ (c:Nat) (oc:Oper),ops[c]? = some oc->∀ j ∈ (ancs ops.toList).getD c [],j < c:=λc oc hoc =>
  anc_lt (λk o ho=>(hrow k o (by simpa using ho)).1) c c oc (Nat.le_refl _) (by simpa using hoc)
 have L:=linkOk_spec hlk;have hbef:∀ i c,befor true (ancs ops.toList) i c = true ↔ i ∈ (ancs ops.toList).getD c []:=λi c=>by simp [befor]
 have hempty:∀ (listed:Array Bool),listed.size = ops.size->Down ops listed->Region.ready .any ops listed = []->((List.range ops.size).filter λk=>!listed.getD k true) = []:=by
  intro listed hsz hd hr;cases hR:(List.range ops.size).filter λk=>!listed.getD k true with
  | nil=>rfl
  | cons k R =>
   exfalso
   have hsorted:((List.range ops.size).filter λk=>!listed.getD k true).Pairwise (· < ·):=List.Pairwise.filter _ List.pairwise_lt_range;have hk:k ∈ (List.range ops.size).filter λk=>!listed.getD k true:=by rw [hR]; simp
   rw [hR] at hsorted;obtain ⟨hklt,hkun⟩:=List.mem_filter.1 hk;have hklt:=List.mem_range.1 hklt;obtain ⟨o,ho⟩:∃ o,ops[k]? = some o:=⟨ops[k],Array.getElem?_eq_getElem hklt⟩
   have:k ∈ Region.ready .any ops listed:=by
    rw [mem_ready];refine ⟨by simpa using hkun,o,ho,λe he hb=>?_⟩;have hek:=(hrow k o ho).1 e.on (boundE_mem.2 ⟨e,he,hb,rfl⟩);cases hc:listed.getD e.on true with
    | true =>
     have:e.on < listed.size:=by omega
     simp [Array.getD,this] at hc ⊢;exact hc
    | false =>
     have hmem:e.on ∈ (List.range ops.size).filter λk=>!listed.getD k true:=List.mem_filter.2 ⟨List.mem_range.2 (by omega),by simp [hc]⟩;rw [hR] at hmem;rcases List.mem_cons.1 hmem with h1 | h1
     ·omega
     ·have:=(List.pairwise_cons.1 hsorted).1 _ h1; omega
   rw [hr] at this;simp at this
 intro fuel;induction fuel with
 | zero =>
  intro listed st st' fps a w hsz hd hlen hx hconf hS hQ;have hnil:((List.range ops.size).filter λk=>!listed.getD k true) = []:=List.eq_nil_of_length_eq_zero (by omega);rw [hnil] at hx;simp only [execL,Option.some.injEq,Prod.mk.injEq] at hx;obtain ⟨rfl,_⟩:=hx;refine ⟨?_,hQ a w hS.simD⟩;cases hr:Region.ready .any ops listed with
  | nil=>rfl
  | cons i R =>
   have hi:i ∈ Region.ready .any ops listed:=by rw [hr]; simp
   obtain ⟨h1,o,ho,_⟩:=mem_ready.1 hi;have:i ∈ (List.range ops.size).filter λk=>!listed.getD k true:=List.mem_filter.2 ⟨List.mem_range.2 (Array.getElem?_eq_some_iff.1 ho).1,by simp [h1]⟩;rw [hnil] at this; simp at this
 | succ fuel ih =>
  intro listed st st' fps a w hsz hd hlen hx hconf hS hQ;refine ⟨λhr=>?_,λi hi=>?_⟩
  ·have hnil:=hempty listed hsz hd hr;rw [hnil] at hx;simp only [execL,Option.some.injEq,Prod.mk.injEq] at hx;obtain ⟨rfl,_⟩:=hx;exact hQ a w hS.simD
  ·obtain ⟨hun,y,hy,hall⟩:=mem_ready.1 hi;have hilt:i < ops.size:=(Array.getElem?_eq_some_iff.1 hy).1;have hiR:i ∈ (List.range ops.size).filter λk=>!listed.getD k true:=List.mem_filter.2 ⟨List.mem_range.2 hilt,by simp [hun]⟩;have hsorted:((List.range ops.size).filter λk=>!listed.getD k true).Pairwise (· < ·):=List.Pairwise.filter _ List.pairwise_lt_range;obtain ⟨A,B,hAB⟩:=List.append_of_mem hiR;rw [hAB] at hx hsorted;obtain ⟨_,hs2,hs3⟩:=List.pairwise_append.1 hsorted;have hAi:∀ j ∈ A,j < i:=λj hj=>hs3 j hj i (by simp);have hiB:∀ j ∈ B,i < j:=λj hj=>(List.pairwise_cons.1 hs2).1 j hj;have hlistedE:∀ j ∈ boundE y,listed.getD j true = true:=λj hj=>by
    obtain ⟨e,he,hb,rfl⟩:=boundE_mem.1 hj;have h1:=hall e he hb;have hlt:=(hrow i y hy).1 e.on hj;have:e.on < listed.size:=by omega
    simp [Array.getD,this] at h1 ⊢;exact h1
   have hanc:=anc_listed hsz (λk o ho=>(hrow k o ho).1) hd i i y (Nat.le_refl _) hy hlistedE;obtain ⟨fps',h1,h2⟩:=move_frontL hy A st st' fps hx (λj hj=>by
    have hjR:j ∈ (List.range ops.size).filter λk=>!listed.getD k true:=by rw [hAB]; simp [hj]
    have hjun:listed.getD j true = false:=by simpa using (List.mem_filter.1 hjR).2
    rcases (hrow i y hy).2 j (hAi j hj) with h3 | ⟨x,hx1,hx2,hx3⟩
    ·have:=hanc j h3; rw [hjun] at this; cases this
    ·have hnanc:j ∉ (ancs ops.toList).getD i []:=λh3=>by have:=hanc j h3; rw [hjun] at this; cases this
     have hnanc2:i ∉ (ancs ops.toList).getD j []:=λh3=>by have:=hanclt j x hx1 i h3; have:=hAi j hj; omega
     have hly:isLs H f y = false:=by
      cases hl:isLs H f y with
      | false=>rfl
      | true =>
       rcases L.ls i j y x hy hx1 hl with h3 | h3 | h3
       ·have:=hAi j hj; omega
       ·exact absurd ((hbef j i).1 h3) hnanc
       ·exact absurd ((hbef i j).1 h3) hnanc2
     have hlx:isLs H f x = false:=by
      cases hl:isLs H f x with
      | false=>rfl
      | true =>
       rcases L.ls j i x y hx1 hy hl with h3 | h3 | h3
       ·have:=hAi j hj; omega
       ·exact absurd ((hbef i j).1 h3) hnanc2
       ·exact absurd ((hbef j i).1 h3) hnanc
     have htwo:Two H f ops j i x y:=by
      cases hay:isAp H f y with
      | true =>
       rcases L.apt i j y x hy hx1 hay with h3 | h3 | h3 | h3
       ·have:=hAi j hj; omega
       ·exact absurd ((hbef j i).1 h3) hnanc
       ·exact absurd ((hbef i j).1 h3) hnanc2
       ·exact .inr (.inl ⟨hay,h3⟩)
      | false =>
       cases hax:isAp H f x with
       | true =>
        rcases L.apt j i x y hx1 hy hax with h3 | h3 | h3 | h3
        ·have:=hAi j hj; omega
        ·exact absurd ((hbef i j).1 h3) hnanc2
        ·exact absurd ((hbef j i).1 h3) hnanc
        ·exact .inr (.inr ⟨hax,h3⟩)
       | false=>exact .inl ⟨by simp [isTo,hlx,hax],by simp [isTo,hly,hay]⟩
     refine ⟨x,hx1,htwo,hx2,λfx fy h4 h5=>?_⟩;rcases hx3 with hx3 | hx3
     ·obtain ⟨_,_,_,e1⟩:=execL_mem _ _ _ _ hx j fx h4;obtain ⟨_,_,_,e2⟩:=execL_mem _ _ _ _ hx i fy h5;obtain ⟨_,_,e1'⟩:=oneL_R hx1 hlx e1;obtain ⟨_,_,e2'⟩:=oneL_R hy hly e2;exact clash_text hx1 hy e1' e2' hx3
     ·exact hconf j i fx fy hx3 h4 h5)
   obtain ⟨s1,fi,fps2,h3,h4,rfl⟩:=execL_cons.1 h1;have hfit:Fits H f ops (λk=>listed.getD k true = true) i:={
    new:=by rw [hun]; simp
    after:=λc oc o hoc ho hl hc=>by
     rcases L.after c i oc o hoc ho hl with h5 | h5 | h5
     ·subst h5; rw [hun] at hc; cases hc
     ·have hE:∀ j ∈ boundE oc,listed.getD j true = true:=hd c oc hoc hc;have:=anc_listed hsz (λk o ho=>(hrow k o ho).1) hd c c oc (Nat.le_refl _) hoc hE i ((hbef i c).1 h5);rw [hun] at this; cases this
     ·exact h5
    self:=λo ho hl=>L.self i o ho hl
    ls:=λo ho hl c oc hoc hlc hci=>by
     rcases L.ls i c o oc ho hoc hl with h5 | h5 | h5
     ·omega
     ·exact hanc c ((hbef c i).1 h5)
     ·have:=hanclt c oc hoc i ((hbef i c).1 h5); omega
    apl:=λo d ho hap hd c oc hoc hlc hci hx=>by
     rcases L.apt i c o oc ho hoc hap with h5 | h5 | h5 | h5
     ·omega
     ·exact hanc c ((hbef c i).1 h5)
     ·have:=hanclt c oc hoc i ((hbef i c).1 h5); omega
     ·obtain ⟨a,xd,d',_,hdst,hd',_,_,_,_,hxl⟩:=freeMv_spec h5;rw [hd] at hd'; cases hd';exact absurd (hx xd hdst) hxl
    ap:=λo ho hap=>by
     obtain ⟨s,os,h5,h6,h7⟩:=L.ap i o ho hap;refine ⟨s,os,h5,h6,λhs=>?_⟩;have hE:∀ j ∈ boundE os,listed.getD j true = true:=hd s os h5 hs;have:=anc_listed hsz (λk o ho=>(hrow k o ho).1) hd s s os (Nat.le_refl _) h5 hE i ((hbef i s).1 h7);rw [hun] at this; cases this
    lone:=L.lone }
   refine one_okL hC hFO hS h3 hfit λa' w' hS'=>?_;have hR':((List.range ops.size).filter λk=>!(listed.setIfInBounds i true).getD k true) = A ++ B:=by
    have e1:((List.range ops.size).filter λk=>!(listed.setIfInBounds i true).getD k true) = ((List.range ops.size).filter λk=>!listed.getD k true).filter (λk=>decide (k ≠ i)):=by
     rw [List.filter_filter];refine List.filter_congr λk hk=>?_;have hklt:=List.mem_range.1 hk;by_cases hki:k = i
     ·subst hki;have:k < listed.size:=by omega
      simp [Array.getD,this]
     ·rw [getD_set_ne true (Ne.symm hki)]; simp [hki]
    rw [e1,hAB,List.filter_append,List.filter_cons];simp only [ne_eq,not_true_eq_false,decide_false,Bool.false_eq_true,if_false];rw [List.filter_eq_self.2 (λj hj=>by have:=hAi j hj; simp; omega),List.filter_eq_self.2 (λj hj=>by have:=hiB j hj; simp; omega)]
   have hd':Down ops (listed.setIfInBounds i true):=by
    intro k o ho hk j hj;by_cases hji:j = i
    ·subst hji;have:j < listed.size:=by omega
     simp [Array.getD,this]
    ·rw [getD_set_ne true (Ne.symm hji)];by_cases hki:k = i
     ·subst hki;rw [hy] at ho; cases ho;exact hlistedE j hj
     ·rw [getD_set_ne true (Ne.symm hki)] at hk;exact hd k o ho hk j hj
   refine ih (listed.setIfInBounds i true) s1 st' fps2 a' w' (by simp [hsz]) hd' ?_ (by rw [hR']; exact h4) (λi' j' fi' fj' hu h5 h6=>hconf i' j' fi' fj' hu ((h2 _).1 (by simp [h5])) ((h2 _).1 (by simp [h6]))) (hS'.mono λk hk=>?_) hQ
   ·rw [hR'];rw [hAB] at hlen;simp only [List.length_append,List.length_cons] at hlen ⊢;omega
   ·by_cases hki:k = i
    ·subst hki;have:k < listed.size:=by omega
     simp [Array.getD,this]
    ·rw [getD_set_ne true (Ne.symm hki)]; simp [hki]
theorem simD_drew {w0:World} {X0:Cx} {Md:Md} {n:Nat} {st:St} {a:Act} (hS:SimD w0 X0 Md n st a w):SimD w0 X0 Md n st a { w with drawn:=w.drawn + 1 }:=by
 obtain ⟨X,O,h,hF,hM⟩:=hS;have heff:Eff w X { w with drawn:=w.drawn + 1 } X [] :=
  ⟨Nat.le_refl _,λ_ _ _=>rfl,λ_ _ _=>rfl,by simp,rfl,h.dom,rfl,rfl,rfl⟩
 have h1:=h.put (T:=[]) (Oin:=[]) (O':=[]) (z:=.undef) (v:=undef) none (by simp) heff (by simp [Rep]) Lin.nil (by simp) (by simp [V.ptrs]);have hF1:=Fr.put (z:=.undef) h hF (T:=[]) (Oin:=[]) (O':=[]) none (by simp) heff (by simp);exact ⟨X,_,h1,hF1,hM.of λ_ _ _ _=>⟨rfl,rfl⟩⟩
theorem region_ls (hC:OrcOk P C) (hm:P.follows .mixedOrders = true) {F:Fence} {w0:World} {X0:Cx} {Md:Md} {n:Nat} (hFO:FOk F X0 Md n) {bid id:Nat} {ops:Array Oper} {draw:Bool} {st st':St} {e:Ex} {a:Act} (hS:SimD w0 X0 Md n st a w)
  {st0:St} (hcl:st0.clear (H.pre f id) = some st) (hnt:turnOf H ops draw = none) (hls:hasLs H f ops = true) (hx:ex P H C f bid (.region id ops draw) st0 = some (e,st')):(Code.region id ops draw).wpIn F 0 P (λe' a' w'=>e' = e.exit'/\SimD w0 X0 Md n st' a' w') a w:=by
 simp only [ex,hcl,hnt,hls,if_true] at hx;split at hx
 ·rename_i hok;simp only [Bool.and_eq_true,Bool.or_eq_true,Bool.not_eq_true'] at hok;obtain ⟨hlk,hreg⟩:=hok;split at hx
  ·rename_i s fps hex;split at hx
   ·rename_i hconf;simp only [Option.some.injEq,Prod.mk.injEq] at hx;obtain ⟨rfl,rfl⟩:=hx;cases draw with
    | false =>
     refine wpIn_region ?_;have hr:List.range ops.size = List.range' 0 ops.size:=List.range_eq_range';rw [hr] at hex ⊢;exact seq_okL hC hFO hlk ops.size 0 st s fps a w (by omega) ((hS.simI (P:=P) (H:=H) (f:=f) (ops:=ops)).mono λk _=>by simp) hex λa' w' hS'=>⟨rfl,hS'⟩
    | true =>
     have hreg':regionOk H f (H.pairs f id) ops = true:=by simpa using hreg
     have hconf':noConf (H.pairs f id) fps = true:=by simpa using hconf
     refine wpIn_region_any hm (region_anyL hC hFO hreg' hlk ops.size _ st s fps a _ (by simp) (λk o ho hk=>?_) (by rw [all_unlisted]; simp) (by rw [all_unlisted]; exact hex) (noConf_spec hconf') (((simD_drew hS).simI (P:=P) (H:=H) (f:=f) (ops:=ops)).mono λk hk=>?_) λa' w' hS'=>⟨rfl,hS'⟩)
     ·have:=(Array.getElem?_eq_some_iff.1 ho).1;simp [Array.getD,this] at hk
     ·simp [Array.getD,hk]
   ·cases hx
  ·cases hx
 ·cases hx
end Go.Ab
end
section
namespace Go.Ab
open Go
variable {P:Program} {H:Hints} {f:FuncId} {C:Orc} {w w':World} {X:Cx}
def Turned (w:World) (b off:Nat) (vs:List Value) (w':World):Prop :=
 ∃ (w1:World) (n:Nat) (os:Array Obj),w' = { w1 with drawn:=w1.drawn + n,heap:=w1.heap ++ os }/\w1.heap.size = w.heap.size/\(∀ k,k ≠ b->w1.heap[k]? = w.heap[k]?) /\
  (∀ arr ty,w.heap[b]? = some (.cells arr ty (0,0))->w1.heap[b]? = some (.cells (rowAt arr off vs) ty (0,0)))/\w1.os = w.os/\w1.output = w.output/\w1.tape = w.tape
def TurnOk (P:Program) (g:FuncId) (F:List Int->Option (List Int)):Prop :=
 ∀ zs zs',F zs = some zs'->zs'.length = zs.length /\
  (zs ≠ []->∀ (w:World) (b off cap:Nat) (arr:Array Value) (ty:TypeId),w.heap[b]? = some (.cells arr ty (0,0))->off + zs.length<=arr.size->Seg w b off (zs.map (Value.int .i64))->zs.length<=cap ->
   Does True P g #[.slice (some ⟨b,off,none⟩) zs.length cap] w λ_ w'=>Turned w b off (zs'.map (Value.int .i64)) w') /\
  (zs = []->∀ (w:World) (a:Option Addr) (cap:Nat),Does True P g #[.slice a 0 cap] w λ_ w'=>∃ (n:Nat) (os:Array Obj),w' = { w with drawn:=w.drawn + n,heap:=w.heap ++ os })
def TurnsOk (P:Program) (H:Hints):Prop:=∀ g F,H.turn g = some F->TurnOk P g F
def NameOk (P : Program) (H : Hints) : Prop := (∀ (g : FuncId) (fn : Func), P.funcs[g]? = some fn -> fn.body.isSome = true -> (fn.name == "runtime.NumGoroutine") = false) /\ TurnsOk P H /\ SeqsOk P H
theorem simD_more {w0:World} {X0:Cx} {Md:Md} {n:Nat} {st:St} {a:Act} (hS:SimD w0 X0 Md n st a w) (k:Nat) (os:Array Obj) (d:Option Tmp) (v:Value):SimD w0 X0 Md n (st.put d .undef) (a.put d v) { w with drawn:=w.drawn + k,heap:=w.heap ++ os }:=by
 obtain ⟨X,O,h,hF,hM⟩:=hS;have hold:∀ i,i < w.heap.size->(w.heap ++ os)[i]? = w.heap[i]?:=λi hi=>by rw [Array.getElem?_append_left hi]
 have heff:Eff w X { w with drawn:=w.drawn + k,heap:=w.heap ++ os } X [] :=
  ⟨by simp,λb hb _=>hold b hb,λ_ _ _=>rfl,by simp,rfl,λb e fz hb=>by have:=h.dom b e fz hb; simp; omega,rfl,rfl,rfl⟩
 have h1:=h.put (T:=[]) (Oin:=[]) (O':=[]) (z:=.undef) (v:=v) d (by simp) heff (by simp [Rep]) Lin.nil (by simp) (by simp [V.ptrs]);have hF1:=Fr.put (z:=.undef) h hF (T:=[]) (Oin:=[]) (O':=[]) d (by simp) heff (by simp);have hdef:(a.put d v).defers = a.defers:=by cases d <;> rfl
 refine ⟨X,_,?_,hF1,?_⟩
 ·rw [putT_eq]; exact h1
 ·rw [hdef];exact hM.of λk' hk _ _=>⟨hold k' (Array.getElem?_eq_some_iff.1 hk).1,rfl⟩
theorem intsOf_eq:∀ {l:List V} {zs:List Int},intsOf l = some zs->l = ofInts zs
 | [],zs,h=>by simp only [intsOf,Option.some.injEq] at h; subst h; rfl
 | x :: l,zs,h=>by
  unfold intsOf at h;split at h
  ·rename_i heq; simp at heq
  ·rename_i n l' heq;obtain ⟨m,hm,rfl⟩:=Option.map_eq_some_iff.1 h;simp only [List.cons.injEq] at heq;obtain ⟨rfl,rfl⟩:=heq;rw [intsOf_eq hm]; rfl
  ·cases h
theorem repE_ints:∀ {s:Nat} {zs:List Int} {vals:List Value} {O:List Nat},RepE w X s (ofInts zs) vals O->vals = zs.map (Value.int .i64)/\O = []
 | s,[],vals,O,h=>by simpa only [ofInts,List.map_nil,RepE] using h
 | s,n :: zs,vals,O,h=>by
  simp only [ofInts,List.map_cons,RepE] at h;obtain ⟨u,vs',O1,O2,rfl,_,rfl,h1,h2⟩:=h;obtain ⟨rfl,rfl⟩:=repE_ints (zs:=zs) h2;simp only [Rep] at h1;obtain ⟨rfl,rfl⟩:=h1;exact ⟨rfl,rfl⟩
theorem repE_ints1:∀ (zs:List Int),RepE w X 1 (ofInts zs) (zs.map (Value.int .i64)) []
 | []=>by simp [RepE,ofInts]
 | n :: zs=>by
  simp only [ofInts,List.map_cons,RepE];exact ⟨.int .i64 n,_,[],[],rfl,rfl,rfl,by simp [Rep],repE_ints1 zs⟩
theorem ptrs_ints:∀ zs:List Int,ptrsL (ofInts zs) = []
 | []=>rfl
 | n :: zs=>by simp only [ofInts,List.map_cons,ptrsL,V.ptrs,List.nil_append]; exact ptrs_ints zs
theorem ints_cells (zs:List Int):∀ x ∈ ofInts zs,x.cells.length = 1:=by
 intro x hx;obtain ⟨n,_,rfl⟩:=List.mem_map.1 hx;rfl
theorem ofInts_len (zs:List Int):(ofInts zs).length = zs.length:=by simp [ofInts]
theorem set_same {α:Type}:∀ {l:List α} {i:Nat} {x:α},l[i]? = some x->l.set i x = l
 | [],i,x,h=>by simp at h
 | y :: l,0,x,h=>by simp at h; subst h; rfl
 | y :: l,i + 1,x,h=>by simp only [List.set_cons_succ,set_same (by simpa using h:l[i]? = some x)]
theorem turnOf_spec {ops:Array Oper} {draw:Bool} {F:List Int->Option (List Int)} {t e:Tmp} {d:Option Tmp} (h:turnOf H ops draw = some (F,t,e,d)) :
  draw = false/\∃ m o c g,ops = #[m,o]/\m.op = .move (.tmp t)/\m.dst = some e/\m.guard = none/\t ≠ e/\o.op = .call c/\c.callee = .value (.func g)/\c.args = #[.tmp e]/\H.turn g = some F/\o.guard = none/\o.dst = d:=by
 unfold turnOf at h;split at h
 ·rename_i m o hops;split at h
  ·rename_i t' e' g args _ hm hd hg hop hgo;split at h
   ·rename_i e2 F' hargs hF;split at h
    ·rename_i hc;obtain ⟨rfl,hne⟩:=hc;simp only [Option.some.injEq,Prod.mk.injEq] at h;obtain ⟨rfl,rfl,rfl,rfl⟩:=h;refine ⟨rfl,m,o,_,g,?_,hm,hd,hg,hne,hop,rfl,?_,hF,hgo,rfl⟩
     ·apply Array.ext'; simpa using hops
     ·apply Array.ext'; simpa using hargs
    ·cases h
   ·cases h
  ·cases h
 ·cases h
theorem turn_call {G:List Int->Option (List Int)} {g:FuncId} (hTg:TurnOk P g G) {F:Fence} {w0:World} {X0:Cx} {Md:Md} {n:Nat} (hFO:FOk F X0 Md n) {st s:St} {a:Act} {t:Tmp} {d:Option Tmp} (hS:SimD w0 X0 Md n st a w) (hx1:turnStep G t d st = some s) :
  Does True P g #[a.tmps.getD t undef] w (λv w'=>SimD w0 X0 Md n s (a.put d v) w'):=by
 have hS0:=hS;obtain ⟨X,O,h,hF,hM⟩:=hS;unfold turnStep at hx1;split at hx1
 ·rename_i hL;simp only [Bool.and_eq_true,List.isEmpty_iff] at hL;obtain ⟨hL,hnl⟩:=hL;have empty:∀ (a0:Option Addr) (cap:Nat) (zs':List Int),a.tmps.getD t undef = .slice a0 0 cap->G [] = some zs'->Does True P g #[a.tmps.getD t undef] w (λv w'=>SimD w0 X0 Md n (st.put d .undef) (a.put d v) w'):=by
   intro a0 cap zs' hv hG0;obtain ⟨_,_,h3⟩:=hTg [] zs' hG0;rw [hv];refine (h3 rfl w a0 cap).mono (λh=>h) ?_;rintro v w' ⟨k,os,rfl⟩;exact simD_more hS0 k os d v
  have hgetD:∀ x,st.E.getD t .undef = x->x ≠ .undef->∃ v,st.E[t]? = some x/\a.tmps[t]? = some v/\a.tmps.getD t undef = v/\Rep w X x v (O (.tmp t)):=by
   intro x hx hne;rw [List.getD_eq_getElem?_getD] at hx;cases hE:st.E[t]? with
   | none=>rw [hE] at hx; simp at hx; exact absurd hx.symm hne
   | some y =>
    rw [hE] at hx; simp at hx; subst hx;obtain ⟨v,hv,hr⟩:=h.env t y hE;exact ⟨v,rfl,hv,by rw [Array.getD_eq_getD_getElem?,hv]; rfl,hr⟩
  split at hx1
  ·rename_i c' l hE;obtain ⟨v,hEt,hvt,hv,hr⟩:=hgetD _ hE (by simp);split at hx1
   ·rename_i zs hzs;have hl:=intsOf_eq hzs;subst hl;split at hx1
    ·rename_i zs' hG1;split at hx1
     ·rename_i hz0;have hz0:zs = []:=by simpa using hz0
      subst hz0;simp only [Option.some.injEq] at hx1;subst hx1;have hve:∃ a0 cap,v = .slice a0 0 cap:=by
       simp only [Rep] at hr;rcases hr.2 with ⟨_,_,rfl | ⟨hh,_⟩⟩ | ⟨b,off,cap,s,vals,O',rfl,_⟩
       ·exact ⟨none,0,rfl⟩
       ·exact absurd rfl hh
       ·exact ⟨_,cap,rfl⟩
      obtain ⟨a0,cap,rfl⟩:=hve;have hz':zs' = []:=List.length_eq_zero_iff.1 (hTg [] zs' hG1).1;have hset:st.E.set t (.sl .own c' (ofInts zs')) = st.E:=by
       subst hz';exact set_same hEt
      rw [hset];exact empty a0 cap zs' hv hG1
     ·rename_i hz0;have hz0:zs ≠ []:=by simpa using hz0
      simp only [Option.some.injEq] at hx1;subst hx1;obtain ⟨hlen',h2,_⟩:=hTg zs zs' hG1;simp only [Rep] at hr;obtain ⟨hnp,hr⟩:=hr;rcases hr with ⟨hl0,_⟩ | ⟨b,off,cap,s1,vals,O',rfl,hcap,hc,hlen,hs0,hxs,hsg,⟨e1,fz,hω,hle,h1a,h1b,⟨arr,ty,harr,hsz⟩,h1d⟩,hRE,hO,_⟩
      ·have:=ofInts_len zs; rw [hl0] at this; exact absurd (List.length_eq_zero_iff.1 this.symm) hz0
      ·subst h1a;obtain ⟨rfl,rfl⟩:=repE_ints hRE;rw [ofInts_len] at hcap hc hlen hv hvt;have hs1:s1 = 1:=by
        obtain ⟨z,hz⟩:=List.exists_mem_of_ne_nil _ hz0;exact (hxs (.val (.int .i64 z)) (List.mem_map.2 ⟨z,hz,rfl⟩)).symm
       subst hs1;rw [List.length_map] at hle h1b h1d;have hfit:off + zs.length<=arr.size:=by omega
       have hcall:=h2 hz0 w b off cap arr ty harr hfit hsg hcap;rw [hv];refine hcall.mono (λh=>h) ?_;rintro v2 w2 ⟨w1,k,os,rfl,hsz1,hk1,hb1,hos,hout,htape⟩;have hb1':=hb1 arr ty harr;have hW:Wrote w X w1 b:=⟨⟨e1,hω⟩,hk1⟩
       have hOt:O (.tmp t) = [b]:=hO trivial;have hA:Rep w1 X (.sl .own c' (ofInts zs')) (.slice (some ⟨b,off,none⟩) zs.length cap) [b]:=by
        simp only [Rep];rw [ofInts_len,hlen'];refine ⟨ptrs_ints zs',.inr ⟨b,off,cap,1,zs'.map (Value.int .i64),[],rfl,hcap,hc,by simp [hlen'],by simp,ints_cells zs',?_,⟨e1,false,hω,by rw [List.length_map]; omega,rfl,by rw [List.length_map]; omega,⟨_,ty,hb1',by unfold rowAt; simp; omega⟩,λh0=>h1d (by rw [List.length_map] at h0; omega)⟩,repE_ints1 zs',λ_=>rfl,λhh=>absurd rfl hh⟩⟩;intro i u hi;have hi':=(List.getElem?_eq_some_iff.1 hi).1;rw [List.length_map] at hi';simp only [World.cell?,hb1'];have e2:(rowAt arr off (zs'.map (Value.int .i64)))[off + i]? = (rowAt arr off (zs'.map (Value.int .i64))).toList[off + i]?:=by simp
        simp only [Option.isSome_none,Bool.false_eq_true,if_false];rw [e2];unfold rowAt;rw [spliceV_at (by simp; omega),if_pos ⟨by omega,by simp; omega⟩,Nat.add_sub_cancel_left];exact hi
       obtain ⟨O2,hR2,hF2,hM2⟩:=ls_state (st':={ st with E:=(st.E.map V.hard).set t (.sl .own c' (ofInts zs')),B:=hardB st.B }) h hF (λh0=>hFO.2 h0) hM hL hnl hW hsz1 hos hout htape (T:=[]) (Ox:=[]) (pl:=.tmp t) (by simp) Lin.nil (by simp) (by rw [hOt]; simp) (by simp) hL
        (λt' x' hx'=>by
         simp only [List.getElem?_set] at hx';by_cases hrt:t = t'
         ·subst hrt;rw [if_pos rfl] at hx';split at hx'
          ·cases hx'
           exact .inr ⟨rfl,by simp only [V.ptrs],_,hvt,[b],hA,λk=>by rw [hOt]; simp⟩
          ·cases hx'
         ·rw [if_neg hrt,List.getElem?_map] at hx';obtain ⟨x0,h2,rfl⟩:=Option.map_eq_some_iff.1 hx';exact .inl ⟨λe=>hrt (by cases e; rfl),x0,by rw [dullAt_none]; exact h2,rfl⟩)
        (λq=>by
         rw [box_L0 (st:=({ st with E:=_,B:=hardB st.B }:St)) hL,box_L0 hL];simp only [lookB_hard];split
         ·simp
         ·rfl)
        (λq c' hq=>by
         rw [box_L0 (st:=({ st with E:=_,B:=hardB st.B }:St)) hL] at hq;rw [box_L0 hL];simp only [lookB_hard] at hq;split at hq
         ·rename_i h0;obtain ⟨c,hc,rfl⟩:=Option.map_eq_some_iff.1 hq;exact ⟨c,by rw [if_pos h0]; exact hc,.inl ⟨by simp,rfl⟩⟩
         ·cases hq)
       exact simD_more (w:=w1) ⟨X,O2,hR2,hF2,hM2⟩ k os d v2
    ·cases hx1
   ·cases hx1
  ·rename_i hE;obtain ⟨v,_,_,hv,hr⟩:=hgetD _ hE (by simp);simp only [Rep] at hr;obtain ⟨zs',hG0,hs⟩:=Option.map_eq_some_iff.1 hx1;subst hs;exact empty none 0 zs' (by rw [hv]; exact hr.1) hG0
  ·cases hx1
 ·cases hx1
theorem simD_put {w0:World} {X0:Cx} {Md:Md} {n:Nat} {st:St} {a:Act} (hS:SimD w0 X0 Md n st a w) (d:Option Tmp) (v:Value):SimD w0 X0 Md n (st.put d .undef) (a.put d v) w:=by
 obtain ⟨X,O,h,hF,hM⟩:=hS;have hdef:(a.put d v).defers = a.defers:=by cases d <;> rfl
 refine ⟨X,putO O [] d st.E.length [],?_,hF.put0 d (by simp),by rw [hdef]; exact hM⟩;rw [putT_eq];exact h.put0 d (by simp [Rep]) Lin.nil (by simp) (by simp [V.ptrs])
theorem region_turn (hT:TurnsOk P H) {F:Fence} {w0:World} {X0:Cx} {Md:Md} {n:Nat} (hFO:FOk F X0 Md n) {bid id:Nat} {ops:Array Oper} {draw:Bool} {st st':St} {e:Ex} {a:Act} {p} (hS:SimD w0 X0 Md n st a w)
  {st0:St} (hcl:st0.clear (H.pre f id) = some st) (hnt:turnOf H ops draw = some p) (hx:ex P H C f bid (.region id ops draw) st0 = some (e,st')):(Code.region id ops draw).wpIn F 0 P (λe' a' w'=>e' = e.exit'/\SimD w0 X0 Md n st' a' w') a w:=by
 obtain ⟨G,t,e1,d⟩:=p;simp only [ex,hcl,hnt] at hx;split at hx
 ·rename_i hlt;obtain ⟨s,hx1,hx2⟩:=Option.map_eq_some_iff.1 hx;simp only [Prod.mk.injEq] at hx2;obtain ⟨rfl,rfl⟩:=hx2;obtain ⟨rfl,m,o,c,g,rfl,hmop,hmd,hmg,hne,hop,hcal,hargs,hG,hgd,rfl⟩:=turnOf_spec hnt;have hFF:=fok_fence hFO;have hsz:e1 < a.tmps.size:=by
   obtain ⟨X,O,h,_,_⟩:=hS;rw [h.size]; exact hlt
  refine wpIn_region ?_;have hr:List.range (#[m,o]:Array Oper).size = [0,1]:=rfl;rw [hr,wpOpsIn_cons];unfold wpOpIn;have hm0:(#[m,o]:Array Oper)[0]? = some m:=rfl;rw [hm0];have hwant:Region.wanted m (yielded #[m,o] a.tmps) = true:=by unfold Region.wanted; rw [hmg]
  simp only [hwant,if_true];refine ⟨λg _=>fn_wide hFF g,?_⟩;rw [Oper.semAt_eq _ _ _ (by intro c hc; rw [hmop] at hc; cases hc)];have hrun1:(execOp a.eval m).run P w = .ok (.value (a.tmps.getD t undef)) w:=by simp only [execOp,hmop,Sem.run_pure] <;> rfl
  rw [hrun1,Oper.uponIn_value,hmd];have hS1:=simD_put hS (some e1) (a.tmps.getD t undef);have hv1:(a.put (some e1) (a.tmps.getD t undef)).tmps.getD e1 undef = a.tmps.getD t undef:=tv_put_self hsz;have hv2:(a.put (some e1) (a.tmps.getD t undef)).tmps.getD t undef = a.tmps.getD t undef:=tv_put (by intro h; cases h; exact hne rfl);have key:=turn_call (hT g G hG) hFO hS1 hx1;rw [hv2] at key;generalize ha1:a.put (some e1) (a.tmps.getD t undef) = a1 at key hv1;rw [wpOpsIn_cons];unfold wpOpIn;have ho:(#[m,o]:Array Oper)[1]? = some o:=rfl;rw [ho];have hwant2:Region.wanted o (yielded #[m,o] a1.tmps) = true:=by unfold Region.wanted; rw [hgd]
  simp only [hwant2,if_true];refine ⟨λg _=>fn_wide hFF g,?_⟩;rw [Oper.semAt_eq _ _ _ (by intro c hc; rw [hop] at hc; cases hc)];have hexec:execOp a1.eval o = (do let d <- resolve a1.eval c o.type; invoke d.target d.args):=by simp only [execOp,hop]
  have hres:resolve a1.eval c o.type = Deferred.ofValue (a1.eval (.func g)) (c.args.map a1.eval):=by simp only [resolve,hcal]
  have hev:a1.eval (.func g) = .func (.func g) #[] #[]:=rfl;rw [hexec,hres,hev,hargs];have hrun:(Deferred.ofValue (.func (.func g) #[] #[]) ((#[.tmp e1]:Array Operand).map a1.eval) >>= λd=>invoke d.target d.args).run P w = (callFunc g #[a.tmps.getD t undef]).run P w:=by
   simp only [Deferred.ofValue,Sem.run_bind,Sem.run_pure,Result.andThen_ok,invoke];congr 2
   apply Array.ext';simp [Act.eval,hv1]
  rw [hrun];refine uponIn_called hFF (key.mono (λh=>h) λv w' hS'=>?_);exact ⟨rfl,hS'⟩
 ·cases hx
end Go.Ab
end
section
namespace Go.Ab
open Go
variable {P:Program} {H:Hints} {f:FuncId} {C:Orc} {w:World} {X:Cx}
theorem ex_ok (hC:OrcOk P C) (hm:P.follows .mixedOrders = true) (hT:TurnsOk P H):∀ (c:Code) (bid:Nat) (st:St) (e:Ex) (st':St),ex P H C f bid c st = some (e,st')->CodeOk P c st e st':=by
 intro c;induction c with
 | skip =>
  intro bid st e st' hx F w0 X0 Md n a w hF hS;simp only [ex,Option.some.injEq,Prod.mk.injEq] at hx;obtain ⟨rfl,rfl⟩:=hx;exact wpIn_skip ⟨rfl,hS⟩
 | region id ops draw =>
  intro bid st e st' hx F w0 X0 Md n a w hF hS;cases hcl:st.clear (H.pre f id) with
  | none=>simp only [ex,hcl] at hx; cases hx
  | some st1 =>
  replace hS:=clear_ok hS hcl
  cases hnt:turnOf H ops draw with
  | some p=>exact region_turn hT hF hS hcl hnt hx
  | none =>
  cases hls:hasLs H f ops with
  | true=>exact region_ls hC hm hF hS hcl hnt hls hx
  | false =>
  obtain ⟨X,Md2,hS2,_,_,lift⟩:=rebase hS;refine wpIn_mono (region_ok hC hm hF.fence hS2 hcl hnt hls hx) ?_;rintro e' a' w' ⟨rfl,hd,hS'⟩;have:=lift _ _ _ hS';rw [<- hd] at this;exact ⟨rfl,this⟩
 | seq x y ihx ihy =>
  intro bid st e st' hx F w0 X0 Md n a w hF hS;simp only [ex] at hx;refine wpIn_seq ?_;cases h1:ex P H C f bid x st with
  | none=>rw [h1] at hx; cases hx
  | some p =>
   obtain ⟨e1,s⟩:=p;rw [h1] at hx;refine wpIn_mono (ihx bid st e1 s h1 F w0 X0 Md n a w hF hS).wp ?_;rintro e' a' w' ⟨rfl,hS'⟩;cases e1 with
   | normal=>exact (ihy bid s e st' hx F w0 X0 Md n a' w' hF hS').wp
   | exit id=>simp only [Option.some.injEq,Prod.mk.injEq] at hx; obtain ⟨rfl,rfl⟩:=hx; exact ⟨rfl,hS'⟩
   | ret=>simp only [Option.some.injEq,Prod.mk.injEq] at hx; obtain ⟨rfl,rfl⟩:=hx; exact ⟨rfl,hS'⟩
 | cond c x y ihx ihy =>
  intro bid st e st' hx F w0 X0 Md n a w hF hS;simp only [ex] at hx;split at hx
  ·rename_i t ht;have hev:a.eval c = .bool t:=by
    obtain ⟨X,O,hR,_⟩:=hS;have:=rd_default (H:=H) (f:=f) hR c;rw [ht] at this;simp only [Rep] at this;exact this.1
   refine wpIn_cond hev ?_;cases t with
   | true=>exact (ihx bid st e st' hx F w0 X0 Md n a w hF hS).wp
   | false=>exact (ihy bid st e st' hx F w0 X0 Md n a w hF hS).wp
  ·cases hx
 | block id c ih =>
  intro bid st e st' hx F w0 X0 Md n a w hF hS;simp only [ex] at hx;refine wpIn_block ?_;cases h1:ex P H C f id c st with
  | none=>rw [h1] at hx; cases hx
  | some p =>
   obtain ⟨e1,s⟩:=p;rw [h1] at hx;refine wpIn_mono (ih id st e1 s h1 F w0 X0 Md n a w hF hS).wp ?_;rintro e' a' w' ⟨rfl,hS'⟩;cases e1 with
   | normal=>simp only [Option.some.injEq,Prod.mk.injEq] at hx; obtain ⟨rfl,rfl⟩:=hx; exact ⟨rfl,hS'⟩
   | ret=>simp only [Option.some.injEq,Prod.mk.injEq] at hx; obtain ⟨rfl,rfl⟩:=hx; exact ⟨rfl,hS'⟩
   | exit i =>
    simp only at hx;simp only [Ex.exit',Exit.inBlock];by_cases hi:i = id
    ·rw [if_pos hi] at hx ⊢;simp only [Option.some.injEq,Prod.mk.injEq] at hx; obtain ⟨rfl,rfl⟩:=hx;exact ⟨rfl,hS'⟩
    ·rw [if_neg hi] at hx ⊢;simp only [Option.some.injEq,Prod.mk.injEq] at hx; obtain ⟨rfl,rfl⟩:=hx;exact ⟨rfl,hS'⟩
 | loop c ih =>
  intro bid st e st' hx F w0 X0 Md n a w hF hS;simp only [ex] at hx;split at hx
  ·rename_i st1 hcl;have hS1:=clear_ok hS hcl;refine LoopOk.close ?_;cases h1:ex P H C f bid c st1 with
   | none=>rw [h1] at hx; cases hx
   | some p =>
    obtain ⟨e1,s⟩:=p;rw [h1] at hx;refine wpIn_mono (ih bid st1 e1 s h1 F w0 X0 Md n a w hF hS1).wp ?_;rintro e' a' w' ⟨rfl,hS'⟩;cases e1 with
    | normal=>exact hC.code _ _ _ _ _ _ hx F w0 X0 Md n a' w' hF hS'
    | exit id=>simp only [Option.some.injEq,Prod.mk.injEq] at hx; obtain ⟨rfl,rfl⟩:=hx; exact ⟨rfl,hS'⟩
    | ret=>simp only [Option.some.injEq,Prod.mk.injEq] at hx; obtain ⟨rfl,rfl⟩:=hx; exact ⟨rfl,hS'⟩
  ·cases hx
 | rangeFunc g ps asz bo iha ihb =>
  intro bid st e st' hx;exact rangeFunc_ok hC hx
 | exit id =>
  intro bid st e st' hx F w0 X0 Md n a w hF hS;simp only [ex,Option.some.injEq,Prod.mk.injEq] at hx;obtain ⟨rfl,rfl⟩:=hx;exact wpIn_exit ⟨rfl,hS⟩
 | ret =>
  intro bid st e st' hx F w0 X0 Md n a w hF hS;simp only [ex,Option.some.injEq,Prod.mk.injEq] at hx;obtain ⟨rfl,rfl⟩:=hx;exact wpIn_ret ⟨rfl,hS⟩
 | _=>intro bid st e st' hx; simp [ex] at hx
end Go.Ab
end
section
namespace Go.Ab
open Go
variable {P:Program} {H:Hints} {f:FuncId} {C:Orc} {w:World} {X:Cx}
def plOf:Bool × Nat × Nat->Pl
 | (false,t,_)=>.tmp t
 | (true,l,s)=>.box ⟨l,s⟩
def resVal (tmps:Array Value):ResultVar->Sem Value
 | .tmp t=>pure (tmps.getD t undef)
 | .cell a t=>do loadVar t (<- asAddr (tmps.getD a undef))
theorem getD_rep {st:St} {tmps:Array Value} {O:Pl->List Nat} (h:Rel st tmps w X O) (t:Nat):Rep w X (st.E.getD t .undef) (tmps.getD t undef) (O (.tmp t)):=by
 by_cases hlt:t < st.E.length
 ·obtain ⟨v,hv,hr⟩:=h.env t _ (List.getElem?_eq_getElem hlt);have e1:tmps.getD t undef = v:=by rw [Array.getD_eq_getD_getElem?,hv]; rfl
  have e2:st.E.getD t .undef = st.E[t]:=by simp [hlt]
  rw [e1,e2]; exact hr
 ·have e2:st.E.getD t .undef = .undef:=by simp [List.getElem?_eq_none (Nat.not_lt.1 hlt)]
  rw [e2,h.envD t (by omega)]; simp [Rep]
theorem result_one {st:St} {tmps:Array Value} {O:Pl->List Nat} (h:Rel st tmps w X O) {rv:ResultVar} {x:V} (hx:resultOf P st rv = some x) :
  ∃ v Ox,(resVal tmps rv).run P w = .ok v w/\Rep w X x v Ox/\(∀ b,Ox.count b<=(O (plOf (resultKey st rv))).count b)/\∀ r ∈ x.ptrs,(st.box r).isSome = true:=by
 cases rv with
 | tmp t =>
  simp only [resultOf,Option.some.injEq] at hx;subst hx;exact ⟨_,_,rfl,getD_rep h t,λb=>Nat.le_refl _,λr hr=>h.ptrE r (getD_ptrs hr)⟩
 | cell a t =>
  simp only [resultOf] at hx;split at hx
  ·rename_i r off hE;split at hx
   ·rename_i cs hcs;split at hx
    ·cases hx
    ·rename_i hlp;have ha:=getD_rep h a;rw [hE] at ha;simp only [Rep] at ha;obtain ⟨_,b,hb,hv⟩:=ha;obtain ⟨b',hb',hlt,hω,hbx⟩:=h.box r cs hcs;obtain rfl:b = b':=by rw [hb] at hb'; exact Option.some.inj hb'
     obtain ⟨arr,ty,hw,hl⟩:=hbx.cells (by simpa using hlp);have hseg:Seg w b off (arr.toList.drop off):=seg_block hw;obtain ⟨v,Ox,Ob,hrep,hvv,⟨d,hd⟩,_,hcnt⟩:=rep_ofCells' hx hl;have hkey:plOf (resultKey st (.cell a t)) = .box r:=by simp only [resultKey,hE,plOf]
     refine ⟨v,Ox,?_,hrep,λk=>by rw [hkey]; have:=hcnt k; omega,λr' hr'=>h.ptrB r cs hcs r' (mem_drop (ptrs_ofCells hx r' hr'))⟩;simp only [resVal,hv,asAddr,Sem.run_bind,Sem.run_pure,Result.andThen_ok];exact run_loadVar' hd hseg hvv
   ·cases hx
  ·cases hx
theorem results_ok {st:St} {tmps:Array Value} {O:Pl->List Nat} (h:Rel st tmps w X O):∀ (l:List ResultVar) (rs:List V),allSome (l.map (resultOf P st)) = some rs ->
  ∃ vals Or,(l.mapM (resVal tmps)).run P w = .ok vals w/\RepL w X rs vals Or/\(∀ b,Or.count b<=(l.map λr=>(O (plOf (resultKey st r))).count b).sum)/\∀ r ∈ ptrsL rs,(st.box r).isSome = true
 | [],rs,hx=>by
  simp only [List.map_nil,allSome,Option.some.injEq] at hx;subst hx;exact ⟨[],[],rfl,by simp [RepL],by simp,by simp [ptrsL]⟩
 | rv :: l,rs,hx=>by
  simp only [List.map_cons] at hx;cases h1:resultOf P st rv with
  | none=>rw [h1] at hx; simp [allSome] at hx
  | some x =>
   rw [h1] at hx;simp only [allSome] at hx;obtain ⟨rs',h2,rfl⟩:=Option.map_eq_some_iff.1 hx;obtain ⟨v,Ox,hr,hrep,hc,hp⟩:=result_one h h1;obtain ⟨vals,Or,hr',hrep',hc',hp'⟩:=results_ok h l rs' h2;refine ⟨v :: vals,Ox ++ Or,?_,by simp only [RepL]; exact ⟨v,vals,Ox,Or,rfl,rfl,hrep,hrep'⟩,λb=>?_,λr hr=>?_⟩
   ·simp only [List.mapM_cons,Sem.run_bind,hr,Result.andThen_ok,hr',Sem.run_pure]
   ·simp only [List.map_cons,List.sum_cons,List.count_append];have:=hc b; have:=hc' b; omega
   ·simp only [ptrsL,List.mem_append] at hr;rcases hr with hr | hr
    ·exact hp r hr
    ·exact hp' r hr
theorem plOf_inj {st:St} {r r':ResultVar} (h:plOf (resultKey st r) = plOf (resultKey st r')):resultKey st r = resultKey st r':=by
 have key:∀ r:ResultVar,(∃ t,resultKey st r = (false,t,0))\/∃ l s,resultKey st r = (true,l,s):=λr=>by
  cases r with
  | tmp t=>exact .inl ⟨t,rfl⟩
  | cell a t=>right; simp only [resultKey]; split <;> exact ⟨_,_,rfl⟩
 rcases key r with ⟨t,e⟩ | ⟨l,s,e⟩ <;> rcases key r' with ⟨t',e'⟩ | ⟨l',s',e'⟩ <;> rw [e,e'] at h ⊢ <;> simp_all [plOf]
theorem sum_zero {α:Type} (c:α->Nat):∀ l:List α,(∀ x ∈ l,c x = 0)->(l.map c).sum = 0
 | [],_=>rfl
 | x :: l,h=>by
  simp only [List.map_cons,List.sum_cons,h x (by simp),sum_zero c l λy hy=>h y (by simp [hy])]
theorem sum_le_one {O:Pl->List Nat} (hl:∀ p,Lin (O p)) (hd:∀ p q,p ≠ q->∀ b ∈ O p,b ∉ O q) {st:St} (b:Nat):∀ (l:List ResultVar),distinct (l.map (resultKey st)) = true->(l.map λr=>(O (plOf (resultKey st r))).count b).sum<=1
 | [],_=>by simp
 | r :: l,h=>by
  simp only [List.map_cons,distinct,Bool.and_eq_true,Bool.not_eq_true'] at h;have ih:=sum_le_one hl hd b l h.2;simp only [List.map_cons,List.sum_cons];by_cases hb:b ∈ O (plOf (resultKey st r))
  ·have h1:=hl (plOf (resultKey st r)) b;have h0:(l.map λr=>(O (plOf (resultKey st r))).count b).sum = 0:=by
    have:∀ r' ∈ l,(O (plOf (resultKey st r'))).count b = 0:=λr' hr'=>List.count_eq_zero.2 λhb'=>by
     have hne:plOf (resultKey st r) ≠ plOf (resultKey st r'):=λe=>by
      have:=plOf_inj e;have hm:resultKey st r ∈ l.map (resultKey st):=by rw [this]; exact List.mem_map.2 ⟨r',hr',rfl⟩
      have h2:=h.1;simp only [List.contains_eq_mem,decide_eq_false_iff_not] at h2;exact h2 hm
     exact hd _ _ hne b hb hb'
    exact sum_zero _ l this
   omega
  ·have:(O (plOf (resultKey st r))).count b = 0:=List.count_eq_zero.2 hb;omega
theorem rep_packed {rs:List V} {vals:List Value} {Or:List Nat} (h:RepL w X rs vals Or):Rep w X (packed rs) (if hs:vals.toArray.size = 1 then vals.toArray[0] else .tuple vals.toArray) Or:=by
 match rs,vals,h with
 | [],vals,h=>simp only [RepL] at h; obtain ⟨rfl,rfl⟩:=h; simp [packed,Rep,RepL]
 | [r],vals,h =>
  simp only [RepL] at h;obtain ⟨u,vs,O1,O2,rfl,rfl,h1,rfl,rfl⟩:=h;simpa [packed] using h1
 | r :: r' :: rs,vals,h =>
  have hl:=repL_length _ _ _ h;have hne:¬ vals.toArray.size = 1:=by simp at hl ⊢; omega
  rw [dif_neg hne];simp only [packed,Rep];exact ⟨vals,rfl,h⟩
theorem leaves_marks {fn:Func} {tmps:Array Value} {R:Ending->World->Prop}:∀ (ks:List Nat) (w:World),ks.Nodup->(∀ k ∈ ks,w.heap[k]? = some (.deferred (some []))) ->
  (∀ w':World,w'.heap.size = w.heap.size->(∀ k,k ∉ ks->w'.heap[k]? = w.heap[k]?)->w'.os = w.os->w'.output = w.output->w'.tape = w.tape->∃ v,(results fn tmps).run P w' = .ok v w'/\R (.returned v) w') ->
  LeavesInM Fence.wide 0 P fn tmps R (ks.map λk=>{ target:=.collected k,args:=#[] }) .returning w
 | [],w,_,_,hR=>hR w rfl (λ_ _=>rfl) rfl rfl rfl
 | k :: ks,w,hnd,hk,hR=>by
  have hw:=hk k (by simp);obtain ⟨hnk,hnd'⟩:=List.nodup_cons.1 hnd;refine ⟨by simp,.inl ⟨k,w.putObj k (.deferred none),rfl,run_takeDeferred hw,?_⟩⟩;refine leaves_marks ks _ hnd' (λk' hk'=>?_) (λw' h1 h2 h3 h4 h5=>?_)
  ·rw [World.putObj_heap_other (λe=>hnk (by rw [<- e]; exact hk'))]; exact hk k' (by simp [hk'])
  ·refine hR w' (by rw [h1]; simp [World.putObj]) (λk' hk'=>?_) h3 h4 h5;simp only [List.mem_cons,not_or] at hk';rw [h2 k' hk'.2,World.putObj_heap_other hk'.1]
end Go.Ab
end
section
namespace Go.Ab
open Go
variable {P:Program} {H:Hints} {f:FuncId} {C:Orc} {w:World} {X:Cx}
theorem Rel.same {st:St} {tmps:Array Value} {O:Pl->List Nat} {w':World} (h:Rel st tmps w X O) (hsz:w'.heap.size = w.heap.size)
  (hω:∀ k e fz,X.ω k = some (e,fz)->w'.heap[k]? = w.heap[k]?) (hb:∀ k c A,BoxR w X k c A->w'.heap[k]? = w.heap[k]?):Rel st tmps w' X O:=by
 have hext:∀ R,Ext R w X w' X (λ_=>False):=λR=>{
  β:=λ_ _=>rfl
  ω:=λb e fz h=>⟨e,fz,h,Nat.le_refl _,id,λ_=>⟨rfl,rfl⟩⟩
  cell:=λb e fz i v h _ hc=>by rw [cell_of_heap (hω b e fz h)]; exact hc
  obj:=λb e fz c t _ h hc=>⟨c,by rw [hω b e fz h]; exact hc,rfl⟩ }
 exact {
  size:=h.size
  env:=λt x hx=>by
   obtain ⟨v,hv,hr⟩:=h.env t x hx;exact ⟨v,hv,Rep.ext (hext _) _ _ _ (λ_ h=>h) (by simp) hr⟩
  envD:=h.envD
  box:=λr c hr=>by
   obtain ⟨b,h1,h2,h3,h4⟩:=h.box r c hr;exact ⟨b,h1,by omega,h3,h4.keep (hb b c _ h4) λl vals A _ _ hr=>RepL.ext (hext _) _ _ _ (λ_ h=>h) (by simp) hr⟩
  boxD:=h.boxD
  inj:=h.inj
  lin:=h.lin
  dis:=h.dis
  ptrE:=h.ptrE
  ptrB:=h.ptrB
  up:=h.up
  dom:=λb e fz hb=>by have:=h.dom b e fz hb; omega }
theorem sum_pos {α:Type} (c:α->Nat):∀ l:List α,0 < (l.map c).sum->∃ x ∈ l,0 < c x
 | [],h=>by simp at h
 | x :: l,h=>by
  simp only [List.map_cons,List.sum_cons] at h;by_cases hx:0 < c x
  ·exact ⟨x,by simp,hx⟩
  ·obtain ⟨y,hy,hc⟩:=sum_pos c l (by omega);exact ⟨y,by simp [hy],hc⟩
theorem repL_undef:∀ n,RepL w X (List.replicate n .undef) (List.replicate n undef) []
 | 0=>by simp [RepL]
 | n + 1=>by
  simp only [List.replicate_succ,RepL];exact ⟨undef,_,[],[],rfl,rfl,by simp [Rep],repL_undef n⟩
theorem ptrs_undef:∀ n,ptrsL (List.replicate n .undef) = []
 | 0=>rfl
 | n + 1=>by simp [List.replicate_succ,ptrsL,V.ptrs,ptrs_undef n]
theorem results_run {fn:Func} {tmps:Array Value} {vals:List Value} (h:(fn.results.toList.mapM (resVal tmps)).run P w = .ok vals w) :
  (results fn tmps).run P w = .ok (if hs:vals.toArray.size = 1 then vals.toArray[0] else .tuple vals.toArray) w:=by
 have e:results fn tmps = (fn.results.mapM (resVal tmps) >>= λvs=>pure (if h:vs.size = 1 then vs[0] else .tuple vs)):=by
  unfold results;refine congrArg (λ(g:ResultVar->Sem Value)=>(fn.results.mapM g >>= λvs=>pure (if h:vs.size = 1 then vs[0] else .tuple vs))) ?_;funext r; cases r <;> rfl
 rw [e,Array.mapM_eq_mapM_toList];simp [h]
theorem runF_core (hC:OrcOk P C) (hm:P.follows .mixedOrders = true) (hname:NameOk P H) {g:FuncId} {args:List V} {M:List Level} {R:World->Cx->(Root->List Nat)->Value->World->Prop} {fn:Func} {c:Code} {e:Ex} {st:St} {rs:List V}
  (hfn:P.funcs[g]? = some fn) (hbody:fn.body = some c) (hex:ex P H C g 0 c { E:=args ++ List.replicate (fn.ntmps - args.length) .undef,L:=M,B:=[] } = some (e,st)) (he:e = .normal\/e = .ret) (hrs:allSome (fn.results.toList.map (resultOf P st)) = some rs)
  (hfin:∀ (w:World) (X:Cx) (O:Root->List Nat) (w2:World) (X1:Cx) (O1:Pl->List Nat) (tmps:Array Value) (vs:List Value) (Or:List Nat),LRel M w X O->(M = []->∀ b e fz,X.ω b = some (e,fz)->fz = true)->Rel st tmps w2 X1 O1->Fr w X (Mod M X O) M.length st w2 X1 O1->RepL w2 X1 rs vs Or ->
   (∀ b,Or.count b<=(fn.results.toList.map λrv=>(O1 (plOf (resultKey st rv))).count b).sum)->(∀ q ∈ ptrsL rs,(st.box q).isSome = true)->R w X O (if hs:vs.toArray.size = 1 then vs.toArray[0] else .tuple vs.toArray) w2) :
  ∀ (w:World) (X:Cx) (vals:List Value) (O:Root->List Nat),RepL w X args vals []->GlOk w X->LRel M w X O->(∀ q ∈ ptrsL args,(boxL M q).isSome = true)->(M = []->∀ b e fz,X.ω b = some (e,fz)->fz = true) ->
  Does (M = []) P g vals.toArray w λv w'=>R w X O v w':=by
 intro w X vals O ha hgl hL hp hfz;left
 have hbs:fn.body.isNone = false:=by rw [hbody]; rfl
 refine ⟨?_,?_⟩
 ·simp only [callFunc,Sem.run_bind,run_program,Result.andThen_ok,hfn,hname.1 g fn hfn (by rw [hbody]; rfl),hbs,Bool.false_eq_true,if_false,Sem.run_pure]
 ·refine callsIn_wide.1 (callsIn_of_wp_marks (n:=0) hfn hbody trivial ?_);have hlen:=repL_length _ _ _ ha;have hE:RepL w X (args ++ List.replicate (fn.ntmps - args.length) .undef) (vals.toArray ++ Array.replicate (fn.ntmps - vals.toArray.size) undef).toList []:=by
   have:=repL_append ha (repL_undef (w:=w) (X:=X) (fn.ntmps - args.length));simpa [hlen] using this
  obtain ⟨hR0,hF0⟩:=rel_frame hgl hL (tmps:=vals.toArray ++ Array.replicate (fn.ntmps - vals.toArray.size) undef) hE (λq hq=>by
   rw [ptrsL_append,ptrs_undef,List.append_nil] at hq; exact hp q hq)
  refine wpIn_mono (ex_ok hC hm hname.2.1 c 0 _ e st hex Fence.wide w X _ _ { tmps:=_,defers:=[] } w ⟨.inl rfl,λh0=>hfz (List.eq_nil_of_length_eq_zero h0)⟩ ⟨X,_,hR0,hF0,[],rfl,.nil,by simp⟩).wp ?_;rintro e' a' w1 ⟨rfl,X1,O1,hR,hF,ks,hD,hnd,hks⟩;have hgoal:LeavesInM Fence.wide 0 P fn a'.tmps (λe w'=>∃ v,e = .returned v/\R w X O v w') a'.defers .returning w1:=by
   rw [hD];refine leaves_marks ks w1 hnd (λk hk=>(hks k hk).2.1) λw2 hsz hsame hos hout htape=>?_;have hωs:∀ k e fz,X1.ω k = some (e,fz)->w2.heap[k]? = w1.heap[k]?:=λk e fz hω=>hsame k λhk=>by rw [(hks k hk).2.2] at hω; cases hω
   have hR2:Rel st a'.tmps w2 X1 O1:=hR.same hsz hωs λk c A hb=>hsame k λhk=>not_mark hb (hks k hk).2.1 rfl;have hF2:Fr w X (Mod M X O) M.length st w2 X1 O1:={
    size:=by have:=hF.size; omega
    kept:=λb hb hM=>by
     obtain ⟨h1,h2⟩:=hF.kept b hb hM;exact ⟨by rw [hsame b λhk=>by have:=(hks b hk).1; omega,h1],h2⟩
    grew:=λb e fz hω=>by
     obtain ⟨e1,fz1,h1,h2,h3,h4⟩:=hF.grew b e fz hω;exact ⟨e1,fz1,h1,h2,h3,λi v hi hc=>by rw [cell_of_heap (hωs b e1 fz1 h1)]; exact h4 i v hi hc⟩
    β:=hF.β
    own:=hF.own
    boxM:=hF.boxM
    lev:=hF.lev
    live:=hF.live
    os:=by rw [hos,hF.os]
    out:=by rw [hout,hF.out]
    tape:=by rw [htape,hF.tape]
    gl:=hF.gl
    gm:=hF.gm }
   obtain ⟨vs,Or,hrun,hrep,hcnt,hpl⟩:=results_ok hR2 fn.results.toList rs hrs;exact ⟨_,results_run hrun,_,rfl,hfin w X O w2 X1 O1 a'.tmps vs Or hL hfz hR2 hF2 hrep hcnt hpl⟩
  rcases he with rfl | rfl
  ·exact hgoal
  ·exact hgoal
theorem runF_ok (hC:OrcOk P C) (hm:P.follows .mixedOrders = true) (hname:NameOk P H) {g:FuncId} {args:List V} {M M':List Level} {r:V}
  (hx:runF P H C g args M = some (r,M')):CallOk P g args M r M':=by
 unfold runF at hx;split at hx
 ·rename_i fn hfn;split at hx
  ·rename_i c hbody;split at hx
   ·rename_i e st hex;split at hx
    ·rename_i he;split at hx
     ·rename_i rs hrs;split at hx
      ·rename_i hchk;obtain ⟨rfl,rfl⟩:=Prod.mk.inj (Option.some.inj hx);simp only [Bool.and_eq_true] at hchk;obtain ⟨hptr,hkeys⟩:=hchk;simp only [keysOk,Bool.and_eq_true] at hkeys;obtain ⟨hdist,hklv⟩:=hkeys;refine runF_core (R:=λw X O v w'=>Post _ _ _ w X O v w') hC hm hname hfn hbody hex he hrs λw X O w2 X1 O1 tmps vs Or hL hfz hR2 hF2 hrep hcnt hpl=>?_;have hlin:Lin Or:=λb=>Nat.le_trans (hcnt b) (sum_le_one hR2.lin hR2.dis b _ hdist);have hwhere:∀ b ∈ Or,∃ p,b ∈ O1 p/\∀ q:Root,q.lvl < M.length->p ≠ .box q:=λb hb=>by
        have h1:=List.count_pos_iff.2 hb;obtain ⟨rv,hrv,h2⟩:=sum_pos _ _ (Nat.lt_of_lt_of_le h1 (hcnt b));refine ⟨_,List.count_pos_iff.1 h2,λq hq e=>?_⟩;have h3:=List.all_eq_true.1 hklv (resultKey st rv) (List.mem_map.2 ⟨rv,hrv,rfl⟩);generalize hkey:resultKey st rv = key at e h3;obtain ⟨kb,kl,ks'⟩:=key;cases kb with
        | false=>simp [plOf] at e
        | true =>
         simp only [plOf,Pl.box.injEq] at e;simp only [Bool.not_true,Bool.false_or,decide_eq_true_eq] at h3;rw [<- e] at hq; simp only at hq; omega
       obtain ⟨hlr,hlen',hkind⟩:=rel_leave hR2 hF2;have hplv:∀ q ∈ ptrsL rs,(boxL st.L q).isSome = true:=λq hq=>by
        have h1:=List.all_eq_true.1 hptr q hq;rw [boxL_of_box,if_pos (by rw [hlen']; simpa using h1)];exact hpl q hq
       by_cases hset:(M.isEmpty && !ownsL rs) = true
       ·rw [if_pos hset];simp only [Bool.and_eq_true,Bool.not_eq_true'] at hset;have hM:M = []:=by simpa using hset.1
        have hOr:Or = []:=repL_noowns rs vs Or hset.2 hrep;subst hOr;subst hM;have hL0:st.L = []:=List.eq_nil_of_length_eq_zero (by rw [hlen']; rfl);have hnoM:∀ b,¬ Mod [] X O b:=λb hb=>by
         rcases hb with ⟨q,h1,_⟩ | ⟨q,h1⟩
         ·simp [boxL] at h1
         ·rw [hL.boxD q (by simp [boxL])] at h1; simp at h1
        have hold:∀ b,b < w.heap.size->X1.ω b = X.ω b:=λb hb=>(hF2.kept b hb (hnoM b)).2;let X2:Cx:={ β:=X1.β,ω:=λb=>(X1.ω b).map λp=>(p.1,true) }
        have hX2:∀ b e fz,X1.ω b = some (e,fz)->X2.ω b = some (e,true):=λb e fz h=>by simp [X2,h]
        have hX2o:∀ b,b < w.heap.size->X2.ω b = X.ω b:=λb hb=>by
         show (X1.ω b).map _ = _;rw [hold b hb];cases hω:X.ω b with
         | none=>rfl
         | some p=>obtain ⟨e,fz⟩:=p; have:=hfz rfl b e fz hω; subst this; rfl
        have hrep2:RepL w2 X2 (reflagL flSettle rs) vs []:=RepL.flags' (X:=X1) (X':=X2) (S:=λ_=>False) { β:=rfl,own:=λf=>by cases f <;> simp [flSettle],ω:=λb e fz h=>⟨true,hX2 b e fz h,λh=>h.elim⟩,sh:=λf b e fz h _ _ _=>hX2 b e fz h } _ _ _ (by simp) hrep;refine ⟨X2,λ_=>[],[],rep_packed hrep2,?_,Lin.nil,by simp,?_,hlen',hkind,?_⟩
        ·rw [hL0];exact {
             box:=λr c hc=>by simp [boxL] at hc,boxD:=λ_ _=>rfl,inj:=λr r' b h1=>by simp [boxL] at h1,lin:=λ_=>Lin.nil,dis:=λ_ _ _ _ h=>by simp at h,ptrB:=λr c hc=>by simp [boxL] at hc,up:=λr c hc=>by simp [boxL] at hc
             dom:=λb e fz hω=>by
              obtain ⟨p,hp,_⟩:=Option.map_eq_some_iff.1 hω;exact hR2.dom b p.1 p.2 hp }
        ·intro q hq;have:q ∈ ptrsL rs:=by
          have hpk:∀ l:List V,q ∈ (packed l).ptrs->q ∈ ptrsL l:=λl hq=>by
           match l,hq with
           | [],hq=>simpa [packed,V.ptrs] using hq
           | [x],hq=>simpa [packed,ptrsL] using hq
           | x :: y :: l,hq=>simpa only [packed,V.ptrs] using hq
          have:=hpk _ hq;rw [ptrsL_reflag] at this; exact this
         exact hplv q this
        ·exact {
          size:=hF2.size
          kept:=λb hb hM=>⟨(hF2.kept b hb hM).1,hX2o b hb⟩
          grew:=λb e fz hω=>by
           have hb:=hL.dom b e fz hω;exact ⟨e,fz,by rw [hX2o b hb]; exact hω,Nat.le_refl _,id,λi v hi hc=>by rw [cell_of_heap (hF2.kept b hb (hnoM b)).1]; exact hc⟩
          β:=hF2.β
          own:=λb hb=>by
           rcases hb with hb | ⟨q,hb⟩ <;> simp at hb
          os:=hF2.os
          out:=hF2.out
          tape:=hF2.tape }
       ·rw [if_neg hset];refine ⟨X1,leaveO M.length O1,Or,rep_packed hrep,hlr,hlin,λq b hb hbq=>?_,λq hq=>?_,hlen',hkind,fr_aft hF2 λb hb=>?_⟩
        ·obtain ⟨p,h1,h2⟩:=hwhere b hb;unfold leaveO at hbq;split at hbq
         ·rename_i hq; exact hR2.dis p (.box q) (h2 q hq) b h1 hbq
         ·simp at hbq
        ·have hpk:∀ l:List V,q ∈ (packed l).ptrs->q ∈ ptrsL l:=λl hq=>by
          match l,hq with
          | [],hq=>simpa [packed,V.ptrs] using hq
          | [x],hq=>simpa [packed,ptrsL] using hq
          | x :: y :: l,hq=>simpa only [packed,V.ptrs] using hq
         exact hplv q (hpk _ hq)
        ·rcases hb with hb | ⟨q,hb⟩
         ·obtain ⟨p,h1,_⟩:=hwhere b hb; exact ⟨p,h1⟩
         ·exact ⟨.box q,mem_leaveO hb⟩
      ·split at hx
       ·rename_i hchk;simp only [Bool.and_eq_true,List.isEmpty_iff] at hchk;obtain ⟨hM,_⟩:=hchk;split at hx
        ·rename_i xs hxs;split at hx
         ·rename_i hxp;obtain ⟨rfl,rfl⟩:=Prod.mk.inj (Option.some.inj hx);refine runF_core (R:=λw X O v w'=>Post _ _ _ w X O v w') hC hm hname hfn hbody hex he hrs λw X O w2 X1 O1 tmps vs Or hL hfz hR2 hF2 hrep hcnt hpl=>?_;subst hM;obtain ⟨hlr,hlen',hkind⟩:=rel_leave hR2 hF2;have hL0:st.L = []:=List.eq_nil_of_length_eq_zero (by rw [hlen']; rfl);have hnoM:∀ b,¬ Mod [] X O b:=λb hb=>by
           rcases hb with ⟨q,h1,_⟩ | ⟨q,h1⟩
           ·simp [boxL] at h1
           ·rw [hL.boxD q (by simp [boxL])] at h1; simp at h1
          have hold:∀ b,b < w.heap.size->X1.ω b = X.ω b:=λb hb=>(hF2.kept b hb (hnoM b)).2;let X2:Cx:={ β:=X1.β,ω:=λb=>match X1.ω b with
           | some p=>some (p.1,true)
           | none=>if w.heap.size<=b then (match w2.heap[b]? with
            | some (.cells arr _ _)=>some (arr.size,true)
            | _=>none) else none }
          have hX2:∀ b e fz,X1.ω b = some (e,fz)->X2.ω b = some (e,true):=λb e fz h=>by simp [X2,h]
          have hX2o:∀ b,b < w.heap.size->X2.ω b = X.ω b:=λb hb=>by
           show (match X1.ω b with
            | some p=>some (p.1,true)
            | none=>if w.heap.size<=b then (match w2.heap[b]? with
             | some (.cells arr _ _)=>some (arr.size,true)
             | _=>none) else none) = _
           rw [hold b hb];cases hω:X.ω b with
           | none=>simp only; rw [if_neg (by omega)]
           | some p=>obtain ⟨e,fz⟩:=p; have:=hfz rfl b e fz hω; subst this; rfl
          have hfl:Flags flShare X1 X2 (λ_=>True) true :=
           { β:=rfl,own:=λf=>by simp [flShare],dul:=λ_ _=>rfl,ω:=λ_ b e fz h=>⟨true,hX2 b e fz h⟩,sh:=λf b e fz h _ _ _ _=>hX2 b e fz h }
          have hrep2:RepL w2 X2 xs vs []:=peekL_okX (Ob:=λq=>O1 (.box q)) hfl (λq c hq=>by
           obtain ⟨b,h1,h2,h3,h4⟩:=hR2.box q c hq;refine ⟨b,h1,h2,h3,h4,λarr t m h5=>?_⟩;have hge:w.heap.size<=b:=by
            rcases hF2.boxM q b (by rw [hq]; rfl) h1 with h6 | h6
            ·exact h6
            ·exact absurd h6 (hnoM b)
           show (match X1.ω b with
            | some p=>some (p.1,true)
            | none=>if w.heap.size<=b then (match w2.heap[b]? with
             | some (.cells arr _ _)=>some (arr.size,true)
             | _=>none) else none) = _
           rw [h3];simp only
           rw [if_pos hge,h5]) _ _ _ _ hxs hrep
          refine ⟨X2,λ_=>[],[],rep_packed hrep2,?_,Lin.nil,by simp,?_,hlen',hkind,?_⟩
          ·rw [hL0];exact {
               box:=λr c hc=>by simp [boxL] at hc,boxD:=λ_ _=>rfl,inj:=λr r' b h1=>by simp [boxL] at h1,lin:=λ_=>Lin.nil,dis:=λ_ _ _ _ h=>by simp at h,ptrB:=λr c hc=>by simp [boxL] at hc,up:=λr c hc=>by simp [boxL] at hc
               dom:=λb e fz hω=>by
                cases h1:X1.ω b with
                | some p=>exact hR2.dom b p.1 p.2 h1
                | none =>
                 have h2:(if w.heap.size<=b then (match w2.heap[b]? with
                  | some (.cells arr _ _)=>some (arr.size,true)
                  | _=>none) else none) = some (e,fz):=by
                  have h3:X2.ω b = some (e,fz):=hω;simpa [X2,h1] using h3
                 split at h2
                 ·split at h2
                  ·rename_i h9; exact (Array.getElem?_eq_some_iff.1 h9).1
                  ·cases h2
                 ·cases h2 }
          ·intro q hq;exfalso
           have hpk:∀ l:List V,q ∈ (packed l).ptrs->q ∈ ptrsL l:=λl hq=>by
            match l,hq with
            | [],hq=>simpa [packed,V.ptrs] using hq
            | [x],hq=>simpa [packed,ptrsL] using hq
            | x :: y :: l,hq=>simpa only [packed,V.ptrs] using hq
           have:=hpk _ hq;rw [List.isEmpty_iff] at hxp;rw [hxp] at this; cases this
          ·exact {
            size:=hF2.size
            kept:=λb hb hM=>⟨(hF2.kept b hb hM).1,hX2o b hb⟩
            grew:=λb e fz hω=>by
             have hb:=hL.dom b e fz hω;exact ⟨e,fz,by rw [hX2o b hb]; exact hω,Nat.le_refl _,id,λi v hi hc=>by rw [cell_of_heap (hF2.kept b hb (hnoM b)).1]; exact hc⟩
            β:=hF2.β
            own:=λb hb=>by
             rcases hb with hb | ⟨q,hb⟩ <;> simp at hb
            os:=hF2.os
            out:=hF2.out
            tape:=hF2.tape }
         ·cases hx
        ·cases hx
       ·cases hx
     ·cases hx
    ·cases hx
   ·cases hx
  ·cases hx
 ·cases hx
theorem bornF_ok (hC:OrcOk P C) (hm:P.follows .mixedOrders = true) (hname:NameOk P H) {g:FuncId} {args:List V} {r:V} {s:Nat} {es:List (Value × Value)}
  (hx:bornF P H C g args = some (r,s,es)):BornOk P g args r s es:=by
 unfold bornF at hx;split at hx
 ·rename_i fn hfn;split at hx
  ·rename_i c hbody;split at hx
   ·rename_i e st hex;split at hx
    ·rename_i he;split at hx
     ·rename_i rs hrs;split at hx
      ·rename_i xs hxs;split at hx
       ·rename_i r0 hptr;split at hx
        ·rename_i hl0;split at hx
         ·rename_i es0 hbx;split at hx
          ·rename_i hom;simp only [Option.some.injEq,Prod.mk.injEq] at hx;obtain ⟨rfl,rfl,rfl⟩:=hx;have hpk:∀ (l:List V) (q:Root),q ∈ (packed l).ptrs->q ∈ ptrsL l:=λl q hq=>by
            match l,hq with
            | [],hq=>simpa [packed,V.ptrs] using hq
            | [x],hq=>simpa [packed,ptrsL] using hq
            | x :: y :: l,hq=>simpa only [packed,V.ptrs] using hq
           have hpo:∀ l:List V,onlyMapsL l = true->(packed l).onlyMaps = true:=λl hl=>by
            match l,hl with
            | [],hl=>rfl
            | [x],hl=>simpa [packed,onlyMapsL] using hl
            | x :: y :: l,hl=>simpa only [packed,V.onlyMaps] using hl
           have hr0:r0 = ⟨0,r0.slot⟩:=by cases r0; simp only at hl0; subst hl0; rfl
           refine ⟨hpo _ hom,λk hk=>?_,λw X vals ha hgl hd hp hfz=>?_⟩
           ·have h1:=hpk _ _ hk;rw [hptr,List.mem_singleton] at h1;rw [h1]; exact hr0
           ·have hL:LRel [] w X (λ_=>[]) :=
             { box:=λr c hc=>by simp [boxL] at hc,boxD:=λ_ _=>rfl,inj:=λr r' b h1=>by simp [boxL] at h1,lin:=λ_=>Lin.nil,dis:=λ_ _ _ _ h=>by simp at h,ptrB:=λr c hc=>by simp [boxL] at hc,up:=λr c hc=>by simp [boxL] at hc,dom:=hd }
            refine (runF_core (M:=[]) (R:=λw X O v w'=>(∀ r,O r = [])->∃ X' b ents ck,Rep w' X' (packed xs) v []/\Dom w' X'/\X'.β ⟨0,r0.slot⟩ = some b/\w.heap.size<=b/\b < w'.heap.size/\X'.ω b = none/\w'.heap[b]? = some (.map ents ck)/\ents.toList.map kv = es0 /\
             Aft w X (Mod [] X (λ_=>[])) 0 w' X' (λ_=>False)) hC hm hname hfn hbody hex he hrs ?_ w X vals (λ_=>[]) ha hgl hL (by rw [hp]; simp) (λ_=>hfz)).mono (λ_=>trivial) (λv w' h=>h λ_=>rfl)
            clear hL ha hgl hd hp hfz;intro w X O w2 X1 O1 tmps vs Or hL hfz hR2 hF2 hrep hcnt hpl hO;have hnoM:∀ b,¬ Mod [] X O b:=λb hb=>by
             rcases hb with ⟨q,h1,_⟩ | ⟨q,h1⟩
             ·simp [boxL] at h1
             ·rw [hL.boxD q (by simp [boxL])] at h1; simp at h1
            have hold:∀ b,b < w.heap.size->X1.ω b = X.ω b:=λb hb=>(hF2.kept b hb (hnoM b)).2;let X2:Cx:={ β:=X1.β,ω:=λb=>match X1.ω b with
             | some p=>some (p.1,true)
             | none=>if w.heap.size<=b then (match w2.heap[b]? with
              | some (.cells arr _ _)=>some (arr.size,true)
              | _=>none) else none }
            have hX2:∀ b e fz,X1.ω b = some (e,fz)->X2.ω b = some (e,true):=λb e fz h=>by simp [X2,h]
            have hX2o:∀ b,b < w.heap.size->X2.ω b = X.ω b:=λb hb=>by
             show (match X1.ω b with
              | some p=>some (p.1,true)
              | none=>if w.heap.size<=b then (match w2.heap[b]? with
               | some (.cells arr _ _)=>some (arr.size,true)
               | _=>none) else none) = _
             rw [hold b hb];cases hω:X.ω b with
             | none=>simp only; rw [if_neg (by omega)]
             | some p=>obtain ⟨e,fz⟩:=p; have:=hfz rfl b e fz hω; subst this; rfl
            have hfl:Flags flShare X1 X2 (λ_=>True) true :=
             { β:=rfl,own:=λf=>by simp [flShare],dul:=λ_ _=>rfl,ω:=λ_ b e fz h=>⟨true,hX2 b e fz h⟩,sh:=λf b e fz h _ _ _ _=>hX2 b e fz h }
            have hrep2:RepL w2 X2 xs vs []:=peekL_okX (Ob:=λq=>O1 (.box q)) hfl (λq c hq=>by
             obtain ⟨b,h1,h2,h3,h4⟩:=hR2.box q c hq;refine ⟨b,h1,h2,h3,h4,λarr t m h5=>?_⟩;have hge:w.heap.size<=b:=by
              rcases hF2.boxM q b (by rw [hq]; rfl) h1 with h6 | h6
              ·exact h6
              ·exact absurd h6 (hnoM b)
             show (match X1.ω b with
              | some p=>some (p.1,true)
              | none=>if w.heap.size<=b then (match w2.heap[b]? with
               | some (.cells arr _ _)=>some (arr.size,true)
               | _=>none) else none) = _
             rw [h3];simp only
             rw [if_pos hge,h5]) _ _ _ _ hxs hrep
            obtain ⟨b,hβ,hlt,hω,hbxr⟩:=hR2.box r0 _ hbx;obtain ⟨ents,ck,hw,hes,_⟩:=hbxr.map;have hge:w.heap.size<=b:=by
             rcases hF2.boxM r0 b (by rw [hbx]; rfl) hβ with h6 | h6
             ·exact h6
             ·exact absurd h6 (hnoM b)
            refine ⟨X2,b,ents,ck,rep_packed hrep2,λb e fz hω=>?_,by rw [<- hr0]; exact hβ,hge,hlt,by simp [X2,hω,hw],hw,hes,?_⟩
            ·cases h1:X1.ω b with
             | some p=>exact hR2.dom b p.1 p.2 h1
             | none =>
              have h2:(if w.heap.size<=b then (match w2.heap[b]? with
               | some (.cells arr _ _)=>some (arr.size,true)
               | _=>none) else none) = some (e,fz):=by
               have h3:X2.ω b = some (e,fz):=hω;simpa [X2,h1] using h3
              split at h2
              ·split at h2
               ·rename_i h9; exact (Array.getElem?_eq_some_iff.1 h9).1
               ·cases h2
              ·cases h2
            ·exact {
              size:=hF2.size
              kept:=λb hb hM=>⟨(hF2.kept b hb (hnoM b)).1,hX2o b hb⟩
              grew:=λb e fz hω=>by
               have hb:=hL.dom b e fz hω;exact ⟨e,fz,by rw [hX2o b hb]; exact hω,Nat.le_refl _,id,λi v hi hc=>by rw [cell_of_heap (hF2.kept b hb (hnoM b)).1]; exact hc⟩
              β:=λr hr=>hF2.β r hr
              own:=λb hb=>hb.elim
              os:=hF2.os
              out:=hF2.out
              tape:=hF2.tape }
          ·cases hx
         ·cases hx
        ·cases hx
       ·cases hx
      ·cases hx
     ·cases hx
    ·cases hx
   ·cases hx
  ·cases hx
 ·cases hx
theorem denil_ne {v:V} (h:v ≠ .val (.slice none 0 0)):v.denil = v:=by
 unfold V.denil;split
 ·exact absurd rfl h
 ·rfl
theorem rep_denil {w:World} {X:Cx} {x:V} {v:Value} {O:List Nat} (h:Rep w X x v O):Rep w X x.denil v O/\x.denil.ptrs = x.ptrs:=by
 by_cases hx:x = .val (.slice none 0 0)
 ·subst hx;simp only [Rep] at h;obtain ⟨rfl,rfl⟩:=h;exact ⟨by simp [V.denil,Rep,ptrsL],by simp [V.denil,V.ptrs,ptrsL]⟩
 ·rw [denil_ne hx]; exact ⟨h,rfl⟩
theorem repL_denil {w:World} {X:Cx}:∀ {l:List V} {vals:List Value} {O:List Nat},RepL w X l vals O->RepL w X (l.map V.denil) vals O/\ptrsL (l.map V.denil) = ptrsL l
 | [],_,_,h=>⟨h,rfl⟩
 | x :: l,vals,O,h=>by
  simp only [RepL] at h;obtain ⟨u,vs,O1,O2,rfl,rfl,h1,h2⟩:=h;obtain ⟨a1,a2⟩:=rep_denil h1;obtain ⟨b1,b2⟩:=repL_denil h2;exact ⟨by simp only [List.map_cons,RepL]; exact ⟨u,vs,O1,O2,rfl,rfl,a1,b1⟩,by simp only [List.map_cons,ptrsL,a2,b2]⟩
theorem call_denil {g:FuncId} {args:List V} {M M':List Level} {r:V} (h:CallOk P g (dnA H g args) M r M'):CallOk P g args M r M':=by
 unfold dnA at h;cases hd:H.denil g with
 | false=>rw [hd] at h; exact h
 | true =>
  rw [hd] at h;intro w X vals O ha hgl hL hp hfz;obtain ⟨h1,h2⟩:=repL_denil ha;exact h w X vals O h1 hgl hL (λq hq=>hp q (by rw [<- h2]; exact hq)) hfz
theorem orcN_ok (hm:P.follows .mixedOrders = true) (hname:NameOk P H) {lib:FuncId->Option (List V->Option V)}
  (hlib:∀ g h args r,lib g = some h->h args = some r->CallOk P g args [] r []):∀ n,OrcOk P (orcN P H lib n)
 | 0=>⟨λ_ _ _ _ _ h=>by simp [orcN] at h,λ_ _ _ _ _ _ h=>by simp [orcN] at h,λ_ _ _ _ _ h=>by simp [orcN] at h,λ_ _ h=>by simp [orcN] at h⟩
 | n + 1=>by
  have ih:=orcN_ok hm hname hlib n;refine ⟨λg args M r M' h=>?_,λf bid c st e st' h=>ex_ok ih hm hname.2.1 c bid st e st' h,λg args r s es h=>bornF_ok ih hm hname h,λg c h=>hname.2.2 g c h⟩;simp only [orcN] at h;split at h
  ·rename_i h0 hl;split at h
   ·rename_i hM;obtain ⟨v,h1,h2⟩:=Option.map_eq_some_iff.1 h;obtain ⟨rfl,rfl⟩:=Prod.mk.inj h2;have:M = []:=by simpa using hM
    subst this;exact hlib g h0 args v hl h1
   ·cases h
  ·exact call_denil (runF_ok ih hm hname h)
end Go.Ab
end
section
namespace Go.Tx
structure Mask where
 bits:Nat
 deriving DecidableEq
def Mask.has (m:Mask) (t:Nat):Bool:=Nat.testBit m.bits t
instance:Membership Nat Mask:=⟨λm t=>m.has t = true⟩
instance (t:Nat) (m:Mask):Decidable (t ∈ m):=inferInstanceAs (Decidable (m.has t = true))
def Mask.empty:Mask:=⟨0⟩
def Mask.ins (t:Nat) (m:Mask):Mask:=⟨Nat.lor m.bits (Nat.shiftLeft 1 t)⟩
def Mask.union (a b:Mask):Mask:=⟨Nat.lor a.bits b.bits⟩
instance:Append Mask:=⟨Mask.union⟩
def Mask.sub (a b:Mask):Bool:=Nat.beq (Nat.lor a.bits b.bits) b.bits
def Mask.ofList (l:List Nat):Mask:=l.foldr Mask.ins .empty
theorem Mask.mem_iff {m:Mask} {t:Nat}:t ∈ m ↔ m.has t = true:=Iff.rfl
@[simp] theorem Mask.mem_empty {t:Nat}:¬ t ∈ Mask.empty:=by
 rw [Mask.mem_iff]; unfold Mask.has Mask.empty; simp
@[simp] theorem Mask.mem_ins {m:Mask} {t u:Nat}:u ∈ Mask.ins t m ↔ u = t\/u ∈ m:=by
 rw [Mask.mem_iff,Mask.mem_iff];unfold Mask.has Mask.ins;have e:Nat.lor m.bits (Nat.shiftLeft 1 t) = m.bits ||| (1 <<< t):=rfl
 simp only [e,Nat.testBit_or,Bool.or_eq_true,Nat.one_shiftLeft,Nat.testBit_two_pow,decide_eq_true_eq];constructor
 ·rintro (h | h)
  ·exact .inr h
  ·exact .inl h.symm
 ·rintro (h | h)
  ·exact .inr h.symm
  ·exact .inl h
@[simp] theorem Mask.mem_append {a b:Mask} {t:Nat}:t ∈ a ++ b ↔ t ∈ a\/t ∈ b:=by
 show t ∈ Mask.union a b ↔ _;rw [Mask.mem_iff,Mask.mem_iff,Mask.mem_iff];unfold Mask.has Mask.union;have e:Nat.lor a.bits b.bits = a.bits ||| b.bits:=rfl
 simp only [e,Nat.testBit_or,Bool.or_eq_true]
@[simp] theorem Mask.mem_ofList {l:List Nat} {t:Nat}:t ∈ Mask.ofList l ↔ t ∈ l:=by
 induction l with
 | nil=>simp [Mask.ofList]
 | cons a l ih =>
  have:Mask.ofList (a :: l) = Mask.ins a (Mask.ofList l):=rfl;rw [this,Mask.mem_ins,ih]; simp
theorem Mask.sub_mem {a b:Mask} (h:a.sub b = true) {t:Nat} (ht:t ∈ a):t ∈ b:=by
 unfold Mask.sub at h;have h1:=Nat.eq_of_beq_eq_true h;rw [Mask.mem_iff] at ht ⊢;unfold Mask.has at ht ⊢;rw [<- h1];have e:Nat.lor a.bits b.bits = a.bits ||| b.bits:=rfl
 rw [e,Nat.testBit_or,ht]; rfl
theorem Mask.sub_of {a b:Mask} (h:∀ t,t ∈ a->t ∈ b):a.sub b = true:=by
 unfold Mask.sub;have:Nat.lor a.bits b.bits = b.bits:=by
  apply Nat.eq_of_testBit_eq;intro i;have e:Nat.lor a.bits b.bits = a.bits ||| b.bits:=rfl
  rw [e,Nat.testBit_or];have h1:=h i;rw [Mask.mem_iff,Mask.mem_iff] at h1;unfold Mask.has at h1;cases ha:a.bits.testBit i with
  | false=>rfl
  | true=>rw [h1 ha]; rfl
 rw [this]; exact Nat.beq_refl _
inductive Tr (α:Type) where
 | nil
 | node (v:α) (l r:Tr α)
section
variable {α:Type} (d:α)
noncomputable def Tr.get (t:Tr α):Nat->α :=
 Tr.rec (motive:=λ_=>Nat->α) (λ_=>d) (λv l r gl gr i=>Bool.rec (motive:=λ_=>α) (Bool.rec (motive:=λ_=>α) (gr (Nat.pred (Nat.div i 2))) (gl (Nat.div i 2)) (Nat.beq (Nat.mod i 2) 1)) v (Nat.beq i 0)) t
noncomputable def Tr.one (k:Nat):Nat->α->Tr α :=
 Nat.rec (motive:=λ_=>Nat->α->Tr α) (λ_ _=>.nil) (λ_ g i v=>Bool.rec (motive:=λ_=>Tr α) (Bool.rec (motive:=λ_=>Tr α) (.node d .nil (g (Nat.pred (Nat.div i 2)) v)) (.node d (g (Nat.div i 2) v) .nil) (Nat.beq (Nat.mod i 2) 1)) (.node v .nil .nil) (Nat.beq i 0)) k
noncomputable def Tr.set (t:Tr α):Nat->α->Tr α :=
 Tr.rec (motive:=λ_=>Nat->α->Tr α) (λi v=>Tr.one d (Nat.succ i) i v) (λu l r gl gr i v=>Bool.rec (motive:=λ_=>Tr α) (Bool.rec (motive:=λ_=>Tr α) (.node u l (gr (Nat.pred (Nat.div i 2)) v)) (.node u (gl (Nat.div i 2) v) r) (Nat.beq (Nat.mod i 2) 1)) (.node v l r) (Nat.beq i 0)) t
theorem Tr.get_nil (i:Nat):(Tr.nil:Tr α).get d i = d:=rfl
theorem brec {β:Type} (a b:β) (c:Bool):Bool.rec (motive:=λ_=>β) b a c = if c = true then a else b:=by cases c <;> rfl
theorem Tr.get_node (v:α) (l r:Tr α) (i:Nat):(Tr.node v l r).get d i = if i = 0 then v else if i % 2 = 1 then l.get d (i / 2) else r.get d (i / 2 - 1):=by
 have e:(Tr.node v l r).get d i = Bool.rec (motive:=λ_=>α) (Bool.rec (motive:=λ_=>α) (r.get d (Nat.pred (Nat.div i 2))) (l.get d (Nat.div i 2)) (Nat.beq (Nat.mod i 2) 1)) v (Nat.beq i 0):=rfl;rw [e,brec,brec];simp only [Nat.beq_eq];rfl
theorem Tr.one_succ (k i:Nat) (v:α):Tr.one d (k + 1) i v = if i = 0 then .node v .nil .nil else if i % 2 = 1 then .node d (Tr.one d k (i / 2) v) .nil else .node d .nil (Tr.one d k (i / 2 - 1) v):=by
 have e:Tr.one d (k + 1) i v = Bool.rec (motive:=λ_=>Tr α) (Bool.rec (motive:=λ_=>Tr α) (.node d .nil (Tr.one d k (Nat.pred (Nat.div i 2)) v)) (.node d (Tr.one d k (Nat.div i 2) v) .nil) (Nat.beq (Nat.mod i 2) 1)) (.node v .nil .nil) (Nat.beq i 0):=rfl;rw [e,brec,brec];simp only [Nat.beq_eq];rfl
theorem Tr.set_nil (i:Nat) (v:α):(Tr.nil:Tr α).set d i v = Tr.one d (i + 1) i v:=rfl
theorem Tr.set_node (u:α) (l r:Tr α) (i:Nat) (v:α):(Tr.node u l r).set d i v = if i = 0 then .node v l r else if i % 2 = 1 then .node u (l.set d (i / 2) v) r else .node u l (r.set d (i / 2 - 1) v):=by
 have e:(Tr.node u l r).set d i v = Bool.rec (motive:=λ_=>Tr α) (Bool.rec (motive:=λ_=>Tr α) (.node u l (r.set d (Nat.pred (Nat.div i 2)) v)) (.node u (l.set d (Nat.div i 2) v) r) (Nat.beq (Nat.mod i 2) 1)) (.node v l r) (Nat.beq i 0):=rfl;rw [e,brec,brec];simp only [Nat.beq_eq];rfl
theorem half (i j:Nat):(i % 2 = 1->j % 2 = 1->(i = j ↔ i / 2 = j / 2))/\(i ≠ 0->j ≠ 0->i % 2 ≠ 1->j % 2 ≠ 1->(i = j ↔ i / 2 - 1 = j / 2 - 1)):=by
 constructor <;> intros <;> omega
theorem Tr.get_one:∀ (k i:Nat) (v:α) (j:Nat),i < k->(Tr.one d k i v).get d j = if i = j then v else d
 | 0,i,v,j,h=>by omega
 | k + 1,i,v,j,h=>by
  rw [Tr.one_succ];obtain ⟨h1,h2⟩:=half i j;by_cases i0:i = 0
  ·rw [if_pos i0,Tr.get_node];by_cases j0:j = 0
   ·rw [if_pos j0,if_pos (show i = j by omega)]
   ·rw [if_neg j0,if_neg (show ¬ i = j by omega)];by_cases jo:j % 2 = 1
    ·rw [if_pos jo]; rfl
    ·rw [if_neg jo]; rfl
  ·rw [if_neg i0];by_cases io:i % 2 = 1
   ·rw [if_pos io,Tr.get_node];by_cases j0:j = 0
    ·rw [if_pos j0,if_neg (show ¬ i = j by omega)]
    ·rw [if_neg j0];by_cases jo:j % 2 = 1
     ·rw [if_pos jo,Tr.get_one k _ v _ (by omega)];simp only [h1 io jo]
     ·rw [if_neg jo,if_neg (show ¬ i = j by omega)]; rfl
   ·rw [if_neg io,Tr.get_node];by_cases j0:j = 0
    ·rw [if_pos j0,if_neg (show ¬ i = j by omega)]
    ·rw [if_neg j0];by_cases jo:j % 2 = 1
     ·rw [if_pos jo,if_neg (show ¬ i = j by omega)]; rfl
     ·rw [if_neg jo,Tr.get_one k _ v _ (by omega)];simp only [h2 i0 j0 io jo]
theorem Tr.get_set:∀ (t:Tr α) (i:Nat) (v:α) (j:Nat),(t.set d i v).get d j = if i = j then v else t.get d j
 | .nil,i,v,j=>by rw [Tr.set_nil,Tr.get_one d _ _ _ _ (by omega),Tr.get_nil]
 | .node u l r,i,v,j=>by
  rw [Tr.set_node];obtain ⟨h1,h2⟩:=half i j;by_cases i0:i = 0
  ·rw [if_pos i0,Tr.get_node,Tr.get_node];by_cases j0:j = 0
   ·rw [if_pos j0,if_pos (show i = j by omega)]
   ·rw [if_neg j0,if_neg j0,if_neg (show ¬ i = j by omega)]
  ·rw [if_neg i0];by_cases io:i % 2 = 1
   ·rw [if_pos io,Tr.get_node,Tr.get_node];by_cases j0:j = 0
    ·rw [if_pos j0,if_pos j0,if_neg (show ¬ i = j by omega)]
    ·rw [if_neg j0,if_neg j0];by_cases jo:j % 2 = 1
     ·rw [if_pos jo,if_pos jo,Tr.get_set l];simp only [h1 io jo]
     ·rw [if_neg jo,if_neg jo,if_neg (show ¬ i = j by omega)]
   ·rw [if_neg io,Tr.get_node,Tr.get_node];by_cases j0:j = 0
    ·rw [if_pos j0,if_pos j0,if_neg (show ¬ i = j by omega)]
    ·rw [if_neg j0,if_neg j0];by_cases jo:j % 2 = 1
     ·rw [if_pos jo,if_pos jo,if_neg (show ¬ i = j by omega)]
     ·rw [if_neg jo,if_neg jo,Tr.get_set r];simp only [h2 i0 j0 io jo]
noncomputable def Tr.fill (n:Nat) (f:Nat->α->α) (k:Nat):Nat->Nat->Tr α :=
 Nat.rec (motive:=λ_=>Nat->Nat->Tr α) (λ_ _=>.nil) (λ_ g a b=>Bool.rec (motive:=λ_=>Tr α) .nil (.node (f b d) (g (Nat.mul 2 a) (Nat.add a b)) (g (Nat.mul 2 a) (Nat.add (Nat.mul 2 a) b))) (Nat.ble (Nat.succ b) n)) k
noncomputable def Tr.mapI (n:Nat) (f:Nat->α->α) (t:Tr α):Nat->Nat->Tr α :=
 Tr.rec (motive:=λ_=>Nat->Nat->Tr α) (λa b=>Tr.fill d n f n a b) (λv l r gl gr a b=>.node (f b v) (gl (Nat.mul 2 a) (Nat.add a b)) (gr (Nat.mul 2 a) (Nat.add (Nat.mul 2 a) b))) t
noncomputable def Tr.allI (p:Nat->α->Bool) (t:Tr α):Nat->Nat->Bool :=
 Tr.rec (motive:=λ_=>Nat->Nat->Bool) (λa b=>true) (λv l r gl gr a b=>Bool.rec (motive:=λ_=>Bool) false (Bool.rec (motive:=λ_=>Bool) false (gr (Nat.mul 2 a) (Nat.add (Nat.mul 2 a) b)) (gl (Nat.mul 2 a) (Nat.add a b))) (p b v)) t
noncomputable def Tr.maskI (p:α->Bool) (t:Tr α):Nat->Nat->Nat :=
 Tr.rec (motive:=λ_=>Nat->Nat->Nat) (λa b=>0) (λv l r gl gr a b=>Nat.lor (Nat.lor (gl (Nat.mul 2 a) (Nat.add a b)) (gr (Nat.mul 2 a) (Nat.add (Nat.mul 2 a) b))) (Bool.rec (motive:=λ_=>Nat) 0 (Nat.shiftLeft 1 b) (p v))) t
theorem Tr.get_fill (n:Nat) (f:Nat->α->α):∀ (k a b j:Nat),1<=a->n<=b + k->a * j + b < n->(Tr.fill d n f k a b).get d j = f (a * j + b) d
 | 0,a,b,j,ha,hk,hj=>by have:=Nat.le_add_left b (a * j); omega
 | k + 1,a,b,j,ha,hk,hj=>by
  have hb:b < n:=by have:=Nat.le_add_left b (a * j); omega
  have e:Tr.fill d n f (k + 1) a b = Bool.rec (motive:=λ_=>Tr α) .nil (.node (f b d) (Tr.fill d n f k (2 * a) (a + b)) (Tr.fill d n f k (2 * a) (2 * a + b))) (Nat.ble (b + 1) n):=rfl;rw [e,brec,if_pos (by rw [Nat.ble_eq]; omega),Tr.get_node];by_cases j0:j = 0
  ·rw [if_pos j0]; subst j0; simp
  ·rw [if_neg j0];by_cases jo:j % 2 = 1
   ·have e1:2 * a * (j / 2) + (a + b) = a * j + b:=by
     have:j = 2 * (j / 2) + 1:=by omega
     conv=>rhs; rw [this]
     rw [Nat.mul_add,<- Nat.mul_assoc,Nat.mul_comm a 2]; omega
    rw [if_pos jo,Tr.get_fill n f k _ _ _ (by omega) (by omega) (by omega),e1]
   ·have e1:2 * a * (j / 2 - 1) + (2 * a + b) = a * j + b:=by
     have:j = 2 * (j / 2 - 1) + 2:=by omega
     conv=>rhs; rw [this]
     rw [Nat.mul_add,<- Nat.mul_assoc,Nat.mul_comm a 2]; omega
    rw [if_neg jo,Tr.get_fill n f k _ _ _ (by omega) (by omega) (by omega),e1]
theorem Tr.get_mapI (n:Nat) (f:Nat->α->α):∀ (t:Tr α) (a b j:Nat),1<=a->a * j + b < n->(t.mapI d n f a b).get d j = f (a * j + b) (t.get d j)
 | .nil,a,b,j,ha,hj=>Tr.get_fill d n f n a b j ha (by omega) hj
 | .node v l r,a,b,j,ha,hj=>by
  have e:(Tr.node v l r).mapI d n f a b = .node (f b v) (l.mapI d n f (2 * a) (a + b)) (r.mapI d n f (2 * a) (2 * a + b)):=rfl;rw [e,Tr.get_node,Tr.get_node];by_cases j0:j = 0
  ·rw [if_pos j0,if_pos j0]; subst j0; simp
  ·rw [if_neg j0,if_neg j0];by_cases jo:j % 2 = 1
   ·have e1:2 * a * (j / 2) + (a + b) = a * j + b:=by
     have:j = 2 * (j / 2) + 1:=by omega
     conv=>rhs; rw [this]
     rw [Nat.mul_add,<- Nat.mul_assoc,Nat.mul_comm a 2]; omega
    rw [if_pos jo,if_pos jo,Tr.get_mapI n f l _ _ _ (by omega) (by omega),e1]
   ·have e1:2 * a * (j / 2 - 1) + (2 * a + b) = a * j + b:=by
     have:j = 2 * (j / 2 - 1) + 2:=by omega
     conv=>rhs; rw [this]
     rw [Nat.mul_add,<- Nat.mul_assoc,Nat.mul_comm a 2]; omega
    rw [if_neg jo,if_neg jo,Tr.get_mapI n f r _ _ _ (by omega) (by omega),e1]
theorem Tr.allI_get {p:Nat->α->Bool} (hp:∀ i,p i d = true):∀ (t:Tr α) (a b j:Nat),t.allI p a b = true->p (a * j + b) (t.get d j) = true
 | .nil,a,b,j,h=>hp _
 | .node v l r,a,b,j,h=>by
  have e:(Tr.node v l r).allI p a b = Bool.rec (motive:=λ_=>Bool) false (Bool.rec (motive:=λ_=>Bool) false (r.allI p (2 * a) (2 * a + b)) (l.allI p (2 * a) (a + b))) (p b v):=rfl;rw [e,brec,brec] at h;have hv:p b v = true:=by
   cases hh:p b v with
   | true=>rfl
   | false=>rw [hh] at h; simp at h
  have hl:l.allI p (2 * a) (a + b) = true:=by
   cases hh:l.allI p (2 * a) (a + b) with
   | true=>rfl
   | false=>rw [hh] at h; simp at h
  have hr:r.allI p (2 * a) (2 * a + b) = true:=by rw [hv,hl] at h; simpa using h
  rw [Tr.get_node];by_cases j0:j = 0
  ·rw [if_pos j0]; subst j0; simpa using hv
  ·rw [if_neg j0];by_cases jo:j % 2 = 1
   ·have e1:2 * a * (j / 2) + (a + b) = a * j + b:=by
     have:j = 2 * (j / 2) + 1:=by omega
     conv=>rhs; rw [this]
     rw [Nat.mul_add,<- Nat.mul_assoc,Nat.mul_comm a 2]; omega
    rw [if_pos jo,<- e1];exact Tr.allI_get hp l _ _ _ hl
   ·have e1:2 * a * (j / 2 - 1) + (2 * a + b) = a * j + b:=by
     have:j = 2 * (j / 2 - 1) + 2:=by omega
     conv=>rhs; rw [this]
     rw [Nat.mul_add,<- Nat.mul_assoc,Nat.mul_comm a 2]; omega
    rw [if_neg jo,<- e1];exact Tr.allI_get hp r _ _ _ hr
theorem Tr.maskI_get {p:α->Bool} (hp:p d = false):∀ (t:Tr α) (a b j:Nat),p (t.get d j) = true->(t.maskI p a b).testBit (a * j + b) = true
 | .nil,a,b,j,h=>by rw [Tr.get_nil,hp] at h; cases h
 | .node v l r,a,b,j,h=>by
  have e:(Tr.node v l r).maskI p a b = (l.maskI p (2 * a) (a + b) ||| r.maskI p (2 * a) (2 * a + b)) ||| Bool.rec (motive:=λ_=>Nat) 0 (1 <<< b) (p v):=rfl
  rw [e,brec,Nat.testBit_or,Nat.testBit_or];rw [Tr.get_node] at h;by_cases j0:j = 0
  ·rw [if_pos j0] at h;subst j0;rw [h];simp [Nat.one_shiftLeft]
  ·rw [if_neg j0] at h;by_cases jo:j % 2 = 1
   ·have e1:2 * a * (j / 2) + (a + b) = a * j + b:=by
     have:j = 2 * (j / 2) + 1:=by omega
     conv=>rhs; rw [this]
     rw [Nat.mul_add,<- Nat.mul_assoc,Nat.mul_comm a 2]; omega
    rw [if_pos jo] at h;have:=Tr.maskI_get hp l (2 * a) (a + b) _ h;rw [e1] at this;rw [this]; rfl
   ·have e1:2 * a * (j / 2 - 1) + (2 * a + b) = a * j + b:=by
     have:j = 2 * (j / 2 - 1) + 2:=by omega
     conv=>rhs; rw [this]
     rw [Nat.mul_add,<- Nat.mul_assoc,Nat.mul_comm a 2]; omega
    rw [if_neg jo] at h;have:=Tr.maskI_get hp r (2 * a) (2 * a + b) _ h;rw [e1] at this;rw [this]; simp
end
end Go.Tx
end
