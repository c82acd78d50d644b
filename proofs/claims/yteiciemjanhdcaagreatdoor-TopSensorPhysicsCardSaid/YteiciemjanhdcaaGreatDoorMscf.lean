/-
  ONE LAW OF A CHAPTER: its program side is run by an interpreter that is proved sound; what it computes is shown to be what the law says. No conditions. Part 6 of 8.
-/
import Derived.Test.YteiciemjanhdcaaGreatDoorMsce
import Derived.Shelf.Strconv.Itoa3
import Derived.Shelf.Strconv.AtoiAll
import Derived.Shelf.Strings.OnBuilder
import Derived.Shelf.Strings.Prefix
import Derived.Shelf.Strings.Search3
import Derived.Shelf.Strings.Cut
import Derived.Shelf.Spec.TrailingZeros
import Derived.Test.YteiciemjanhdcaaGreatDoorProg
import Derived.WalkKit
import Derived.BigCall
import Derived.BigGuard
import Derived.KernelRfl
set_option linter.unusedSimpArgs false
set_option linter.unusedVariables false
set_option linter.unnecessarySimpa false
section
namespace Go.Tx
open Go Go.Ab Go.RowKit Go.ChangeShapes Go.WideShapes Go.Deep
variable {H:Type} {enc:TypeId × Value->H} {P:Program} {w:World} {base:Nat} {held:Bool}
theorem slices_elTy {d:Nat} {e:TypeId} {cs1 cs:List Ty} (hc:cellsTy P d e = some cs1) (h:(match cellsTy P d e,P.underlying e with
   | some cs,some (.struct _)=>some [Ty.sl (cs.foldr .pair .unit)]
   | some cs,some (.array ..)=>some [.sl (cs.foldr .pair .unit)]
   | some [τ],_=>some [.sl τ]
   | _,_=>none) = some cs):∃ τ,cs = [.sl τ]/\elTy P e cs1 = some τ:=by
 rw [hc] at h;unfold elTy;cases hu:P.underlying e with
 | none=>rw [hu] at h; simp only at h ⊢; split at h <;> simp_all
 | some dd =>
  rw [hu] at h;cases dd <;> simp only at h ⊢ <;> first | (simp only [Option.some.injEq] at h; exact ⟨_,h.symm,rfl⟩) | (split at h <;> simp_all)
theorem rep_empty {X:Cx}:Rep w X (.sl .shared false []) (.slice none 0 0) []:=by simp [Rep,ptrsL]
theorem rep_weird {X:Cx} (a:Addr):Rep w X (.sl .shared false []) (.slice (some a) 0 0) []:=by simp [Rep,ptrsL]
theorem open_cells (hl:laidOutB P = true) {N:Nat} {S:DataW H->Prop} (hS:Sm N S):∀ (d:Nat) (t:TypeId) (cs:List Ty),cellsTy P d t = some cs->okT P d t = true->∀ (fuel:Nat) (vals:List Value) (x:DataW H × List MemPlace),S x.1 ->
  DataW.trod enc P w base (λ_=>true) held fuel t vals = some x->All2 (CellOk N w) cs vals
 | 0,t,cs,hc,_,fuel,vals,x,hx,h=>by simp [cellsTy] at hc
 | d + 1,t,cs,hc,hok,fuel,vals,x,hx,h=>by
  simp only [cellsTy] at hc;simp only [okT,Bool.and_eq_true,decide_eq_true_eq] at hok;split at hc
  ·rename_i k hu;cases hc;obtain ⟨n,rfl,rfl,hwf⟩:=DataW.trod_int hu h;refine .cons ⟨n,.val (.int k n),?_,by simp [RTy],by simp [Rep]⟩ .nil;simp only [Rng];simp only [Lit.wf,Bool.and_eq_true,decide_eq_true_eq] at hwf;exact hwf
  ·rename_i hu;cases hc;obtain ⟨b,rfl,rfl⟩:=DataW.trod_bool hu h;exact .cons ⟨b,.val (.bool b),trivial,by simp [RTy],by simp [Rep]⟩ .nil
  ·rename_i hu;cases hc;obtain ⟨s,rfl,rfl,hs⟩:=DataW.trod_string hu h;have hsl:s.data.toList.length<=maxLen:=by
    have e:s.data.toList.length = s.size:=Array.length_toList;rw [e]; exact hs
   exact .cons ⟨s.data.toList,.val (.string s),hS.str _ hx hsl,by simp [RTy],by simp [Rep]⟩ .nil
  ·rename_i hu; rw [hu] at hok; simp at hok
  ·rename_i hu; rw [hu] at hok; simp at hok
  ·rename_i e hu;obtain ⟨ht,hoe⟩:=hok;rw [hu] at hoe;simp only [Bool.and_eq_true,decide_eq_true_eq,beq_iff_eq] at hoe;cases hce:cellsTy P d e with
   | none=>rw [hce] at hc; simp at hc
   | some cs1 =>
    obtain ⟨τ,rfl,hτ⟩:=slices_elTy hce (by rw [hce]; rw [hce] at hc; exact hc);obtain ⟨hel,hnc⟩:=elTy_props hce hτ (cellsTy_ones d e cs1 hce);rcases open_slice hu h with ⟨rfl,rfl⟩ | ⟨a,len,cap,m,n,D,Pl,rfl,hb,hlc,hcm,hm,rfl,hx'⟩
    ·exact .cons ⟨[],.sl .shared false [],⟨Nat.zero_le _,by simp⟩,by simp only [RTy]; exact ⟨_,_,[],rfl,flr_of rfl (by simp) (λ_=>rfl),.nil⟩,rep_empty⟩ .nil
    ·simp only [if_true] at hm;subst hm;obtain ⟨hN,hSe⟩:=hS.slice _ _ hx (by simp; omega);by_cases hcap:m = 0
     ·subst hcap;have hlen:len = 0:=by omega
      subst hlen;exact .cons ⟨[],.sl .shared false [],⟨Nat.zero_le _,by simp⟩,by simp only [RTy]; exact ⟨_,_,[],rfl,flr_of rfl (by simp) (λ_=>rfl),.nil⟩,rep_weird a⟩ .nil
     ·have hspot:a.spot = none:=by
       obtain ⟨cs',hcs',_⟩:=hx' 0 (by omega);obtain ⟨_,hl1,hc1⟩:=World.cells?_some hcs';have h0:=hc1 0 (by omega);simp only [Nat.zero_mul] at h0;have:∃ v0,cs'[0]? = some v0:=⟨cs'[0]'(by omega),List.getElem?_eq_getElem (by omega)⟩
       obtain ⟨v0,hv0⟩:=this;rw [hv0] at h0;have:=(cell_block h0).1;simpa [Addr.add] using this
      obtain ⟨b,off,spot⟩:=a;simp only at hspot;subst hspot;have hsz:∀ i,i < m->∃ vals:List Value,vals.length = P.cellsOf e/\(∀ j,j < P.cellsOf e->w.cell? ⟨b,off + i * P.cellsOf e + j,none⟩ = vals[j]?) /\
        (i < len->∃ (y:τ.den) (u:V) (v:Value),Rng N τ y/\RTy τ 1000 y u/\Rep w (cx0 w) u v []/\v.cells.toList = vals):=λi hi=>by
       obtain ⟨cs',hcs',htr⟩:=hx' i hi;obtain ⟨_,hl1,hc1⟩:=World.cells?_some hcs';refine ⟨cs',hl1,λj hj=>?_,λhil=>?_⟩
       ·rw [<- hc1 j hj,Addr.add_lit,Addr.add_lit]
       ·have hSi:S (D i):=hSe _ (List.mem_map.2 ⟨i,List.mem_range.2 hil,rfl⟩);exact elem_ok hce hτ (open_cells hl hS d e cs1 hce hoe.2 n cs' _ hSi htr)
      have hn:τ.ncells = P.cellsOf e:=by
       have:=hoe.1.2;rw [hce] at this;simp only [Option.map_some,Option.some.injEq] at this;rw [hnc,this]
      obtain ⟨l,us,h1,h2,h3,h4⟩:=slice_rep (Nat.pos_of_ne_zero hoe.1.1) hlc hcap hel hn hsz;exact .cons ⟨l,.sl .shared false us,⟨by rw [h1]; simpa using hN,h2⟩,by simp only [RTy]; exact ⟨_,_,us,rfl,flr_of rfl (by simp) (λ_=>rfl),h3⟩,h4⟩ .nil
  ·rename_i fields hu;obtain ⟨ht,hoe⟩:=hok;rw [hu] at hoe;simp only [List.all_eq_true] at hoe;obtain ⟨css,hcss,rfl⟩:=Option.map_eq_some_iff.1 hc;obtain ⟨hl1,hget⟩:=mapM_get hcss;obtain ⟨xs,n,_,rfl,hvl,hxl,hxs⟩:=DataW.trod_struct hu h;obtain ⟨_,hsum,hoff⟩:=kid_struct hl ht hu;refine glue css (fields.toList.map λf=>P.cellsOf f.type) vals (by simp [hl1]) (by rw [hvl,hsum]) λj c s hcj hsj=>?_;rw [List.getElem?_map] at hsj;obtain ⟨fd,hfd,rfl⟩:=Option.map_eq_some_iff.1 hsj;obtain ⟨c',hc',hg⟩:=hget j fd hfd;rw [hcj] at hc'; cases hc';have hx1:=hxs j fd (by simpa using hfd);rw [hoff j fd hfd,List.map_take] at hx1;have hj:j < xs.length:=by rw [hxl]; have:=(List.getElem?_eq_some_iff.1 hfd).1; simpa using this
   rw [List.getElem?_eq_getElem hj] at hx1;exact open_cells hl hS d fd.type c hg (hoe fd (List.mem_of_getElem? hfd)) n _ _ (hS.agg _ hx _ (List.mem_map.2 ⟨xs[j],List.getElem_mem hj,rfl⟩)) hx1
  ·rename_i n' e hu;obtain ⟨ht,hoe⟩:=hok;rw [hu] at hoe;simp only at hoe;obtain ⟨cs1,hce,rfl⟩:=Option.map_eq_some_iff.1 hc;obtain ⟨_,hsum⟩:=kid_array hl ht hu;cases fuel with
   | zero=>simp [DataW.trod] at h
   | succ fuel =>
    unfold DataW.trod at h;rw [hu] at h;simp only at h;split at h
    ·rename_i hvl;obtain ⟨xs,hxs,rfl⟩:=Option.map_eq_some_iff.1 h;obtain ⟨hxl,hget⟩:=mapM_get hxs;refine glue _ (List.replicate n' (P.cellsOf e)) vals (by simp) (by rw [hvl,hsum]; simp) λj c s hcj hsj=>?_;have hjn:j < n':=by have:=(List.getElem?_eq_some_iff.1 hcj).1; simpa using this
     rw [List.getElem?_replicate,if_pos hjn] at hcj hsj;cases hcj; cases hsj
     obtain ⟨b,hb,hg⟩:=hget j j (by simp [hjn]);have htk:((List.replicate n' (P.cellsOf e)).take j).sum = j * P.cellsOf e:=by
      rw [List.take_replicate]; simp [Nat.min_eq_left (Nat.le_of_lt hjn)]
     rw [htk];exact open_cells hl hS d e cs1 hce hoe fuel _ _ (hS.agg _ hx _ (List.mem_map.2 ⟨b,List.mem_of_getElem? hb,rfl⟩)) hg
    ·cases h
  ·cases hc
theorem open_arg (hl:laidOutB P = true) {N:Nat} {S:DataW H->Prop} (hS:Sm N S) {t:TypeId} {τ:Ty} (hτ:tyOf P t = some τ) (hok:okT P 10 t = true) {v:Value} {d:DataW H} {ps:List MemPlace} {b0:Nat} (hval:Value.okWide P w .any b0 t v)
  (h:DataW.Trod enc P w base (λ_=>true) held t v d ps) (hd:S d):CellOk N w τ v:=by
 obtain ⟨fuel,hf⟩:=h;unfold tyOf at hτ;split at hτ
 ·rename_i cs hc;have hall:=open_cells hl hS 10 t cs hc hok fuel _ _ hd hf;split at hτ
  ·rename_i ha;cases hτ;obtain ⟨y,us,hy,hu,hr⟩:=pack_ok cs _ hall;have hv:∃ c,v = .agg c:=by
    unfold isAggT at ha;unfold Value.okWide at hval;split at ha
    ·rename_i fs hfs; rw [hfs] at hval; obtain ⟨c,hc,_⟩:=hval; exact ⟨c,hc⟩
    ·rename_i n e hfs; rw [hfs] at hval; obtain ⟨c,hc,_⟩:=hval; exact ⟨c,hc⟩
    ·cases ha
   obtain ⟨c,rfl⟩:=hv;refine ⟨y,.agg us,hy,hu,?_⟩;simp only [Rep];exact ⟨c.toList,by simp,by simpa [Value.cells] using hr⟩
  ·rename_i ha
   match cs,hτ,hall with
   | τ' :: cs',hτ,hall =>
    simp only [List.head?_cons,Option.some.injEq] at hτ;subst hτ;have hone:=cellsTy_ones 10 t _ hc τ' (by simp);have hv:v.cells.toList = [v]:=by
     cases v with
     | agg c =>
      exfalso
      unfold isAggT at ha;unfold Value.okWide at hval;split at hval
      ·rename_i fs hfs; rw [hfs] at ha; simp at ha
      ·rename_i n e hfs; rw [hfs] at ha; simp at ha
      ·unfold Cell.okWide Cell.ok at hval;split at hval;all_goals first | (rename_i h1 h2; cases h2; done) | skip
       all_goals (split at hval <;> first | (exact hval.elim) | (rename_i h1 h2; cases h2))
     | _=>rfl
    rw [hv] at hall;cases hall with
    | cons h1 h2=>exact h1
 ·cases hτ
theorem open_args (hl:laidOutB P = true) {N:Nat} {S:DataW H->Prop} (hS:Sm N S) {b0:Nat}:∀ (ts:List TypeId) (τs:List Ty) (vs:List Value) (ds:List (DataW H)) (ps:List MemPlace),ts.mapM (tyOf P) = some τs->ts.all (okT P 10) = true ->
  (∀ (j:Nat) t v,ts[j]? = some t->vs[j]? = some v->Value.okWide P w .any b0 t v)->DataW.TrodAll enc P w base (λ_=>true) held ts vs ds ps->(∀ d ∈ ds,S d) ->
  ∃ x us,RngP N τs x/\RVL (ofPms (τs.map .ty) x) us/\RepL w (cx0 w) us vs []
 | [],τs,vs,ds,ps,hm,_,_,h,_=>by
  simp at hm; subst hm;obtain ⟨rfl,_,_⟩:=trodAll_nil h;exact ⟨(),[],trivial,rvl_nil,by simp [RepL]⟩
 | t :: ts,τs,vs,ds,ps,hm,hok,hval,h,hd=>by
  simp only [List.mapM_cons,Option.bind_eq_bind,Option.bind_eq_some_iff] at hm;obtain ⟨τ,hτ,τs',hm',he⟩:=hm;cases he;simp only [List.all_cons,Bool.and_eq_true] at hok;obtain ⟨v,vs',d,ds',p,q,rfl,rfl,rfl,h1,h2⟩:=trodAll_cons h;obtain ⟨y,u,hy,hu,hr⟩:=open_arg hl hS hτ hok.1 (hval 0 t v rfl rfl) h1 (hd d (by simp));obtain ⟨x,us,hx,hus,hrs⟩:=open_args hl hS ts τs' vs' ds' q hm' hok.2 (λj t' v' a b=>hval (j + 1) t' v' (by simpa using a) (by simpa using b)) h2 λd' hd'=>hd d' (by simp [hd']);have hR:RepL w (cx0 w) (u :: us) (v :: vs') []:=by simp only [RepL]; exact ⟨v,vs',[],[],rfl,rfl,hr,hrs⟩
  cases τs' with
  | nil=>exact ⟨y,u :: us,hy,(rvl_cons.2 ⟨rv_ofTy _ _ _ _ hu,hus⟩:RVL (ofTy τ 1000 y :: []) (u :: us)),hR⟩
  | cons τ2 τs2=>exact ⟨(y,x),u :: us,⟨hy,hx⟩,(rvl_cons.2 ⟨rv_ofTy _ _ _ _ hu,hus⟩:RVL (ofTy τ 1000 y :: ofPms ((τ2 :: τs2).map .ty) x) (u :: us)),hR⟩
theorem trodAll_below (hl:laidOutB P = true) {W W':World} (hb:Below W.heap.size W W'):∀ {ts:List TypeId} {vs:List Value} {ds:List (DataW H)} {ps:List MemPlace},ts.all (λt=>P.readableRec t && decide (t < P.types.size)) = true ->
  DataW.TrodAll enc P W 0 (λ_=>true) true ts vs ds ps->(∀ x ∈ ps,x.block < W.heap.size)->∀ sp:Nat->Bool,(∀ p ∈ ps,sp p.block = true)->DataW.TrodAll enc P W' 0 sp true ts vs ds ps
 | [],[],[],ps,_,h,_,sp,_=>h
 | t :: ts,v :: vs,d :: ds,ps,hr,⟨p,q,h1,h2,e⟩,hlt,sp,hsp=>by
  simp only [List.all_cons,Bool.and_eq_true,decide_eq_true_eq] at hr;subst e;refine ⟨p,q,?_,trodAll_below hl hb hr.2 h2 (λx hx=>hlt x (List.mem_append_right _ hx)) sp (λx hx=>hsp x (List.mem_append_right _ hx)),rfl⟩;exact WideElems.Trod_stays hl hr.1.1 hr.1.2 h1 (λx hx=>hb.same (hlt x (List.mem_append_left _ hx))) (λx hx=>hsp x (List.mem_append_left _ hx))
theorem lrel0 {w:World}:LRel [] w (cx0 w) (λ_=>[]) where
 box:=λr c h=>by simp [boxL] at h
 boxD:=λ_ _=>rfl
 inj:=λr r' b h=>by simp [boxL] at h
 lin:=λ_=>Lin.nil
 dis:=λ_ _ _ b hb=>by cases hb
 ptrB:=λr c h=>by simp [boxL] at h
 up:=λr c h=>by simp [boxL] at h
 dom:=λb e fz h=>(frozen0 h).2.1
theorem law_calls {H0:Hints} {lib:FuncId->Option (List V->Option V)} (hm:P.follows .mixedOrders = true) (hname:NameOk P H0)
  (hlib:∀ g h args r,lib g = some h->h args = some r->CallOk P g args [] r []) (hl:laidOutB P = true) {N:Nat} {S:DataW H->Prop} (hS:Sm N S) {k:FuncId} {fn:Func} (hfn:P.funcs[k]? = some fn) (hbody:fn.body.isSome = true)
  {ts:List TypeId} {τs:List Ty} (hts:ts.mapM (tyOf P) = some τs) (hok:ts.all (okT P 10) = true) {F:denP (τs.map .ty)->Option Bool}
  (he:EntryOk P H0 lib ⟨k,τs.map .ty,[(.bool,0)],F⟩) (hF:∀ x,RngP N τs x->F x = some true)
  {W:World} {args:Array Value} {ds:List (DataW H)} {ps:List MemPlace} {b0:Nat} (hval:∀ (j:Nat) t v,ts[j]? = some t->args.toList[j]? = some v->Value.okWide P W .any b0 t v)
  (h:DataW.TrodAll enc P W 0 (λ_=>true) true ts args.toList ds ps) (hd:∀ d ∈ ds,S d) (hgl:GlOk W (cx0 W)) :
  Calls P k args W λe W'=>e = .returned (.bool true)/\Below W.heap.size W W':=by
 obtain ⟨x,us,hx,hus,hrs⟩:=open_args hl hS ts τs args.toList ds ps hts hok hval h hd;obtain ⟨v,hcall,hr⟩:=entry_call hm hname hlib he (x:=x) (y:=true) (hF x hx) hus;simp only [packT,ofL,packedT,ofTy,RV,RTy] at hr;subst hr;have hp:ptrsL us = []:=by
  apply List.eq_nil_iff_forall_not_mem.2;intro q hq;have hk:∀ (τs:List Ty) (x:denP (τs.map .ty)),ptrsTL (ofPms (τs.map .ty) x) = []:=by
   have h1:∀ (τ:Ty) (y:τ.den),(ofTy τ 1000 y).ptrs = []/\ptrsTL (ofTyC τ 1000 y) = []:=by
    intro τ;induction τ with
    | pair a b iha ihb=>intro y; simp [ofTy,ofTyC,TV.ptrs,ptrsTL,(iha y.1).1,(ihb y.2).2]
    | _=>intro y; simp [ofTy,ofTyC,TV.ptrs,ptrsTL]
   intro τs;induction τs with
   | nil=>intro x; rfl
   | cons τ τs ih =>
    intro x;cases τs with
    | nil=>show ptrsTL [ofTy τ 1000 x] = []; simp [ptrsTL,(h1 τ x).1]
    | cons τ2 τs2=>show ptrsTL (ofTy τ 1000 x.1 :: ofPms ((τ2 :: τs2).map .ty) x.2) = []; simp only [ptrsTL,(h1 τ x.1).1,List.nil_append]; exact ih x.2
  have:=RVL.ptrs _ _ hus q hq;rw [hk] at this; cases this
 rcases hcall W (cx0 W) args.toList (λ_=>[]) hrs hgl lrel0 (λq hq=>by rw [hp] at hq; cases hq) (λ_ b e fz h=>(frozen0 h).1) with ⟨_,hc⟩ | ⟨_,v,w',hv,_⟩
 ·refine (by simpa using hc:Calls P k args W _).mono ?_;rintro e W' ⟨v,rfl,X',O',Or,hrep,_,_,_,_,_,_,haft⟩;simp only [Rep] at hrep;obtain ⟨rfl,_⟩:=hrep;refine ⟨rfl,⟨haft.os,haft.tape,haft.out,haft.size,λb hb=>?_⟩⟩;exact (haft.kept b hb (by rintro (⟨r,h1,_⟩ | ⟨r,h1⟩) <;> simp [boxL] at h1)).1
 ·exfalso
  have hbs:fn.body.isNone = false:=by cases hb:fn.body <;> simp_all
  simp only [callFunc,Sem.run_bind,run_program,Result.andThen_ok,hfn,hname.1 k fn hfn hbody,hbs,Bool.false_eq_true,if_false,Sem.run_pure] at hv;cases hv
end Go.Tx
end
section
namespace Go.Proofs.YteiciemjanhdcaaGreatDoor.Hn
open Go
def takeT:List (List Nat):=[[],[],[],[49,61,65,81,86,88,96,102,104,106,213,261],[61,69,81,91,121,122,126,132,137,139,144,149,158,163,167,169,173,177,179,182,184,186,189,191,193,208,220,224,229,269],[36,41,44,46,51,54,67,68,77,78,82,83,90,91,95,105,106,108,110,113],[42,45,47,50,52,55,57,60,73,74,78,79,84,85,89,90,97,98,100,102,105,110,113,115,117,118,120,122,125],[86,96,98,110,115,121,135,141,143,151,157,159,167,170,175,178,184,191,198,200,251,262,265,271,273,276,280],[5,10,19,34,38],[13,21],[],[13,28,32,37,41,42,47],[],[],[10,13,15,29,30],[12,24],[],[],[],[],[15,30,38,44,46,50,55,59],[12,19,21],[6,11,18,26,30],[],[13],[],[5,10],[15,50,53,56],[9,12,14,28,43],[],[10,13,15,21,22],[],[],[],[21,32,35,65],[17,25,31],[28,47,51],[14,19,23,25,31,38,44,51,59,63,69,73,77,81,92,96,100],[],[8,11,13,42],[10,13,15,21,22],[],[],[],[11,16,21,30,33,35,40,55,64,68,72,76,84,88],[],[12,13,18],[11,19],[15,16,18,20,22,23,30],[21,27,29,31,32,39,40],[10,13,15,32],[22],[31],[],[5,10],[8],[8],[],[17],[8,17],[11],[14,21,22,36,37],[],[10,18,50,52],[],[],[],[11,17,30],[10,16],[13],[6],[],[37],[18,19,24,25,30,31,36,39,43,46,47,48],[13],[],[19,52,56,71],[11],[17,48,59],[],[],[],[],[],[9],[],[10,19,31],[],[],[],[23],[14],[],[],[],[13,18,33,34],[7,17],[12,13,18],[5,10],[13],[],[6],[],[],[],[20,43,62],[33,56,57,60],[10,18,41],[],[],[11],[],[],[],[19,28,30,31,34],[22],[],[15,34,74,78,87],[],[9],[12,28],[],[],[],[],[5,10],[19,21,28,30],[30,38,39,46,49,52,53,54,58],[14,24,25],[26,45],[],[],[51,55,56,59],[38,54,73,83,93,95],[12],[18,44],[],[23],[33,43,53,71],[15,22],[],[],[27,28,55,70],[26,29,36],[],[],[],[15,23,29,32],[],[48,58,64,77],[],[],[8,14],[],[],[],[],[12],[],[17],[8,12],[16],[],[8,16],[55],[13,19],[],[],[6,13,15,17],[],[17],[15],[34],[10,29],[16,25,26,30],[27,35,47,50],[15,24],[],[65,69],[],[],[],[17,20],[30,38,62,64,68],[38,50,57,73],[],[16,17,21,29],[],[21,31,37,44,45],[],[29,39,40,43],[],[],[16,23,31,32,35],[],[],[],[17,20,33],[],[],[],[],[],[],[],[],[27],[22],[17],[31,36,40,44,51,53],[],[27],[21,22,31,32],[9,24],[],[],[],[],[],[33,37,38],[],[19],[17],[60,64,69,70,75,76],[42],[12],[18,22,23],[],[],[],[],[],[],[],[21,22,28],[16,23,31,32,35],[],[15,27,40,44],[14],[],[],[25,26],[],[20,26],[75,94,115,116,140,141],[],[],[160,163],[82,95,96,99],[],[],[18,22,23],[],[],[17],[],[25,39,53,63,67,69,72],[],[],[],[],[],[17],[17],[25,26],[24,39,43,60,64,76,78,82,87,99,103,108,113],[],[],[],[11,78,79],[],[],[],[],[],[119,130,142,149,153,160,162,164,166,171],[],[],[],[37,38],[],[],[],[88,90,92],[],[],[],[],[],[],[],[],[],[],[],[],[],[],[],[],[],[],[],[],[],[],[],[],[],[],[],[],[],[]]
def clearT:List (List (Nat × List Nat)):=[[],
 [],
 [],
 [(0,[11,12,13,14,15,16,17,21,75,76,77,78,79,80,81,82,83,84,85,86,87,88,89,90,91,92,93,94,95,96,97,98,99,100,101,102,103,104,105,106,107,108,109,110,111,112,113,114,115,116,117,118,119,120,121,122,123,124,125,126,127,128,129,130,131,132,133,134,135,136,137,138,139,140,141,142,143,144,145,146,147,148,149,150,151,152,153,154,155,156,157,158,159,160,161,162,163,164,165,166,167,168,169,170,171,172,173,174,175,176,177,178,179,180,181,182,183,184,185,186,187,188,189,190,191,192,193,194,195,196,197,198,199,200,201,202,203,204,205,206,207,208,209,210,211,212]),(2,[11,16,17,21,135,136,137,138,139,140,141,142,143,144,145,146,147,148,149,150,151,152,153,154,155,156,157,158,159,160,161,162,163,164,165,166,167,168,169,170,171,172,173,174,175,176,177,178,179,180,181,182,183,184,185,186,187,188,189,190,191,192,193,194,195,196,197,198,199,200,201,202,203,204,205,206,207]),(4,[11,21,238,239,240,241,242,243,244,245,246,247,248,249,250,251,252,253,254,255,256,257,258,259,260,261,262,263,264,265,266,267,268])],
 [(0,[13,18,24,55,56,57,58,59,60,61,62,63,64,65,66,67,68,69,70,71,72,73,74,75,76,77,78,79,80,81,82,83,84,85,86,87,88,89,90,91,92,93,94,95,96,97,98,99,100]),(2,[8,10,11,13,18,24,232,233,234,235,236,237,238,239,240,241,242,243,244,245,246,247,248,249])],
 [],
 [],
 [(0,[9,10,13,22,79,80,81,82,83,84,85,86,87,88,89,90,91,92,93,94,95,96,97,98,99,100,101,102,103,104,105,106,107,108,109,110,111]),(2,[9,13,25,214,215,216,217,218,219,220,221,222,223,224,225,226,227,228,229,230,231,232,233,234,235,236,237,238,239,240,241,242,243,244,245,246,247,248,249,250])],
 [],
 [],
 [],
 [(0,[31,32,33,34,35,36,37,38,39,40,41,42,43,44,45,46])],
 [],
 [],
 [],
 [(0,[5,9,10,11,12,13,14,15,16,17,18,19,20,21,22,23])],
 [(0,[11,12,13,14,15,16,17,18,19,20,21,22,23,24,25])],
 [(0,[10,11,12,13,14,15,16,17,18,19,20,21])],
 [],
 [],
 [(0,[13,14,31,32,33,34,35,36,37,38,39,40,41,42,43,44,45,46,47,48,49,50,51,52,53,54,55,56,57,58,59])],
 [(0,[30,31,32,33,34,35,36,37,38,39,40,41,42,43,44,45,46,47,48,49,50,51,52,53,54,55,56,57,58,59,60,61,62,63,64,65,66,67,68,69,70,71,72,73,74,75,76,77,78,79])],
 [],
 [],
 [],
 [(0,[9,10,11,12,13,14,15,16,17,18,19,20,21,22,23,24,25,26,27,28,29,30,31,32,33])],
 [],
 [],
 [],
 [],
 [],
 [],
 [],
 [(0,[11,12,13,14,15,16,17,18,19,20,21,22,23,24,25])],
 [(0,[9,28,29,30,31,32,33,34,35,36,37,38,39,40,41,42,43]),(2,[11,61,62,63,64,65,66,67,68,69,70,71])],
 [(0,[18,19,20,21,22,23,24,25,26,27,28,29,30])],
 [(0,[29,30,31,32,33,34,35,36,37,38,39,40,41,42,43,44,45,46,47,48,49,50])],
 [],
 [],
 [],
 [],
 [],
 [],
 [],
 [],
 [],
 [(0,[5,9,10,11,12,13,14,15,16,17])],
 [(0,[5,6,7,8,9,10,11,12,13,14,15,16,17,18])],
 [],
 [(0,[7,8,15,16,17,18,19,20,21,22,23,24,25,26,27,28,29,30,31,32,33,34])],
 [(0,[20,21,22,23,24,25,26,27,28,29,30,31])],
 [(0,[5,6,7,8,9,10,11,12,13,14,15,16,17,18,19,20,21])],
 [(0,[5,6,7,8,9,10,11,12,13,14,15,16,17,18,19,20,21,22,23,24,25,26,27,28,29,30])],
 [(0,[11,12,13,14,15,16,17,18,19,20,21,22,23,24,25,26])],
 [],
 [],
 [],
 [],
 [],
 [],
 [],
 [],
 [],
 [],
 [],
 [],
 [],
 [],
 [],
 [(0,[4,8,9,10,11,12,13,14])],
 [],
 [],
 [(0,[9,10,18,19,20,21,22,23,24,25,26,27,28,29,30,31])],
 [],
 [],
 [],
 [(1,[7,42,43,44,45,46,47,48,49,50,51,52,53,54,55]),(3,[10,66,67,68,69,70,71,72,73])],
 [],
 [(0,[7,8,9,10,14,15,16,17,18,19,20,21,22,23,24,25,26,27,28,29,30,31,32,33,34,35,36,37,38,39,40,41,42,43,44,45,46,47,48,49,50,51,52,53,54,55,56,57,58]),(2,[7,9,10,20,21,22,23,24,25,26,27,28,29,30,31,32,33,34,35,36,37,38,39,40,41,42,43,44,45,46,47])],
 [],
 [],
 [],
 [],
 [],
 [],
 [],
 [],
 [],
 [],
 [(0,[6,7,8,9,10,11,12,13,14,15,16,17])],
 [(0,[11,12,13,14,15,16,17,18,19,20,21,22,23])],
 [],
 [(0,[5,12,13,14,15,16,17,18,19,20,21,22,23,24,25,26,27,28,29,30,31,32,33,34,35,36,37,38,39,40,41,42,43,44,45])],
 [],
 [(0,[5,9,10,11,12,13,14,15,16,17,18]),(2,[12,13,14,15,16,17])],
 [],
 [],
 [(0,[5,9,10,11,12,13,14,15,16,17])],
 [],
 [(0,[4,8,9,10,11,12,13,14])],
 [],
 [],
 [],
 [],
 [],
 [(0,[9,10,11,24,25,26,27,28,29,30,31,32,33,34,35,36,37,38,39,40,41,42,43,44,45,46,47,48,49,50,51,52,53,54,55,56,57,58,59,60,61])],
 [(0,[12,14,15,39,40,41,42,43,44,45,46,47,48,49,50,51,52,53,54,55,56,57,58,59]),(2,[14,15,48,49,50,51,52,53,54,55,56,57,58])],
 [(0,[9,24,25,26,27,28,29,30,31,32,33,34,35,36,37,38,39,40,41,42])],
 [],
 [],
 [],
 [(0,[11,12,13,14,15,16,17,18,19,20,21,22,23,24,25])],
 [(0,[21,22,23,24,25,26,27,28,29,30,31,32,33,34,35,36,37,38])],
 [],
 [(0,[9,10,13,14,15,16,17,18,19,20,21,22,23,24,25,26,27,28,29,30,31,32,33])],
 [(0,[5,6,7,8,9,10,11,12,13,14,15,16,17,18,19,20,21])],
 [(0,[5,6,7,8,9,10])],
 [(0,[11,13,14,39,40,41,42,43,44,45,46,47,48,49,50,51,52,53,54,55])],
 [],
 [],
 [(0,[16,17,18,19,20,21,22,23,24,25,26,27,28])],
 [],
 [(0,[11,12,13,14,15,16,17,18,19,20,21,22,23,24,25,26])],
 [(0,[10,11,12,13,14,15,16,17,18,19,20,21])],
 [],
 [],
 [(0,[8,9,10,11,12,13,14,15,16,17,18,19,20,21,22,23,24,25,26,27])],
 [(0,[9,10,11,12,13,16,17,18,19,20,21,22,23,24,25,26,27,28,29,30,31,32,33,34,35,36,37,38,39,40,41,42,43,44,45,46,47,48,49,50,51,52,53,54,55,56,57])],
 [(0,[5,10,11,12,13,14,15,16,17,18,19,20,21,22,23])],
 [(0,[5,12,13,14,15,16,17,18,19,20,21,22,23,24,25,26,27,28,29,30,31,32,33,34,35,36,37,38,39,40,41,42,43,44,45]),(2,[27,28,29,30,31,32,33,34,35,36,37,38,39,40,41,42,43,44,45])],
 [(0,[5,10,11,12,13,14,15,16,17,18,19,20,21,22,23,24,25,26,27,28,29,30,31,32,33,34,35])],
 [(0,[4,5,6,24,25,26,27,28,29,30,31,32,33,34,35,36,37,38,39,40,41,42,43,44,45,46,47,48,49,50,51,52,53,54,55,56,57,58,59,60,61,62,63,64,65,66,67,68,69,70,71,72,73,74,75,76,77,78,79,80,81,82,83]),(2,[64,65,66,67,68,69,70,71,72,73,74,75,76,77,78,79,80,81,82,83])],
 [(0,[7,8,9,10,11,12,13,14,15,16,17,18,19,20,21,22,23,24,25,26,27,28,29,30,31,32,33,34,35,36,37,38,39,40,41,42,43,44,45,46,47,48,49,50,51,52,53,54,55,56,57,58]),(2,[9,10,19,20,21,22,23,24,25,26,27,28,29,30,31,32,33,34,35,36,37,38,39,40,41,42,43,44,45,46,47,48,49,50,51,52,53,54]),(4,[27,28,29,30,31,32,33,34,35,36,37,38,39,40,41,42,43,44,45,46,47,48,49,50])],
 [(0,[7,8,9,10,48,49,50,51,52,53,54,55,56,57,58,59,60,61,62,63,64,65,66,67,68,69,70,71,72,73,74,75,76,77,78,79,80,81,82,83,84,85,86,87,88])],
 [],
 [(0,[7,9,10,15,16,17,18,19,20,21,22,23,24,25,26,27,28,29,30,31,32]),(2,[7,9,10,21,22,23,24,25,26,27,28,29,30,31])],
 [],
 [(0,[4,5,13,14,15,16,17,18,19,20,21,22,23,24,25,26,27,28,29,30,31,32])],
 [(0,[7,10,29,30,31,32,33,34,35,36,37,38,39,40]),(2,[7,10,12,50,51,52,53,54,55,56,57,58,59,60,61,62,63,64,65,66,67,68,69,70]),(4,[7,10,12,56,57,58,59,60,61,62,63,64,65,66,67,68,69])],
 [(0,[6,7,11,12,13,14,15,16,17,18,19,20,21,22,23])],
 [],
 [],
 [],
 [(0,[8,9,15,16,17,18,19,20,21,22,23,24,25,26,27,28,29,30,31,32,33,34,35]),(2,[9,19,20,21,22,23,24,25,26,27,28,29,30,31,32,33,34])],
 [],
 [],
 [],
 [(0,[4,5,6,7,11,12,13,14,15,16,17,18,19,20,21,22,23,24,25,26,27,28,29,30,31]),(2,[5,7,18,19,20,21,22,23,24,25,26,27])],
 [],
 [(0,[8,9,10,13,14,16,25,26,27,28,29,30,31,32,33,34,35,36,37,38]),(2,[9,13,14,15,16,45,46,47,48,49,50,51,52,53,54,55,56,57,58,59,60,61,62,63,64,65,66,67,68,69,70,71,72,73,74,75,76]),(4,[9,13,15,16,51,52,53,54,55,56,57,58,59,60,61,62,63])],
 [],
 [],
 [],
 [],
 [],
 [],
 [],
 [],
 [],
 [(0,[5,9,10,11,12,13,14,15,16,17,18])],
 [],
 [(0,[4,5,9,10,11,12,13,14,15,16,17,18,19,20,21,22])],
 [],
 [],
 [],
 [(0,[5,9,10,11,12,13,14,15,16,17,18,19,20,21,22,23,24,25,26])],
 [],
 [],
 [],
 [],
 [],
 [],
 [(0,[10,11,12,13,14,15,16,17,18,19,20,21,22,23,24,25,26,27,28,29,30,31,32,33])],
 [],
 [(0,[6,7,12,13,14,15,16,17,18,19,20,21,22,23,24,25,26,27,28,29])],
 [(0,[8,17,18,19,20,21,22,23,24,25,26,27,28,29,30,31])],
 [(0,[4,5,6,7,11,12,13,14,15,16,17,18,19,20,21,22,23,24,25,26,27,28,29,30,31,32,33,34,35,36,37,38,39,40,41,42]),(2,[5,6,7,18,19,20,21,22,23,24,25,26,27,28,29,30,31,32,33,34,35,36,37,38,39,40,41])],
 [],
 [(0,[41,42,43,44,45,46,47,48,49,50,51,52,53,54,55,56,57,58,59,60,61,62,63,64])],
 [],
 [],
 [],
 [],
 [(0,[5,6,7,12,13,14,15,16,17,18,19,20,21,22,23,24,25,26,27,28,29,30,31,32,33,34,35,36,37,38,39,40,41,42,43,44,45,46,47,48,49,50,51,52,53,54,55,56,57,58,59,60,61,62,63,64,65,66,67]),(2,[7,36,37,38,39,40,41,42,43,44,45,46,47,48,49,50,51,52,53,54,55,56,57,58,59,60,61])],
 [(0,[60,61,62,63,64,65,66,67,68,69,70,71,72])],
 [],
 [(0,[6,7,12,13,14,15,16,17,18,19,20,21,22,23,24,25,26,27,28])],
 [],
 [(0,[5,6,7,8,25,26,27,28,29,30,31,32,33,34,35,36,37,38,39,40,41,42,43,44,45,46])],
 [],
 [(0,[9,10,11,12,13,14,15,16,17,18,19,20,21,22,23,24,25,26,27,28,29,30,31,32,33,34,35,36,37,38,39,40,41,42]),(2,[20,21,22,23,24,25,26,27,28,29,30,31,32,33,34,35,36,37,38])],
 [],
 [],
 [(0,[5,6,8,12,13,14,15,16,17,18,19,20,21,22]),(2,[5,8,28,29,30,31,32,33,34])],
 [],
 [],
 [],
 [(0,[8,9,13,14,15,16,17,18,19,20,21,22,23,24,25,26,27,28,29,30,31,32])],
 [(0,[5,9,10,11,12,13,14,15,16,17,18]),(2,[12,13,14,15,16,17])],
 [],
 [(0,[8,12,13,14,15,16,17,18,19,20,21,22,23,24,25])],
 [(0,[5,14,15,16,17,18,19,20,21,22,23,24,25])],
 [],
 [],
 [],
 [],
 [],
 [],
 [(0,[5,9,10,11,12,13,14,15,16,17,18])],
 [],
 [],
 [],
 [],
 [],
 [],
 [],
 [(0,[4,14,15,16,17,18,19,20,21,22,23,24,25,26,27,28])],
 [],
 [],
 [(0,[7,8,9,17,18,19,20,21,22,23,24,25,26,27,28,29,30,31,32,33,34,35,36,37,38,39,40,41,42,43,44,45])],
 [],
 [],
 [(0,[5,9,10,11,12,13,14,15,16,17,18])],
 [(0,[8,50,51,52,53,54,55,56,57,58,59,60,61,62,63])],
 [],
 [],
 [(0,[6,7,8,12,13,14,15,16,17,18,19,20,21,22,23,24])],
 [],
 [],
 [],
 [],
 [],
 [],
 [],
 [(0,[6,18,19,20,21,22,23,24,25,26,27])],
 [(0,[5,6,8,12,13,14,15,16,17,18,19,20,21,22]),(2,[5,8,28,29,30,31,32,33,34])],
 [],
 [(0,[5,6,12,13,14,15,16,17,18,19,20,21,22,23,24,25,26,27,28]),(2,[7,8,29,30,31,32,33,34,35,36,37,38,39,40,41,42,43,44,45,46,47,48])],
 [],
 [],
 [],
 [],
 [],
 [(0,[8,9,14,15,16,17,18,19,20,21,22,23,24,25,26,27,28,29,30,31,32,33])],
 [(1,[11,12,13,57,58,59,60,61,62,63,64,65,66,67,68,69,70,71,72,73,74,75,76,77,78,79,80,81,82,83,84,85,86,87,88,89,90,91,92,93,94,95,96,97,98,99,100,101,102,103,104,105,106,107,108,109,110,111,112,113,114,115,116,117,118,119,120,121,122,123,124,125,126,127,128,129,130,131,132,133,134,135,136,137,138,139,140,141,142])],
 [],
 [],
 [(0,[5,6,7,8,9,10,11,19,20,21,22,23,24,25,26,27,28,29,30,31,32,33,34,35,36,37,38,39,40,41,42,43,44,45,46,47,48,49,50,51,52,53,54,55,56,57,58,59,60,61,62,63,64,65,66,67,68,69,70,71,72,73,74,75,76,77,78,79,80,81,82,83,84,85,86,87,88,89,90,91,92,93,94,95])],
 [(0,[44,45,46,47,48,49,50,51,52,53,54,55,56,57]),(2,[18,66,67,68,69,70,71,72,73,74,75,76,77,78,79,80,81,82])],
 [],
 [],
 [(0,[6,7,8,12,13,14,15,16,17,18,19,20,21,22,23,24])],
 [],
 [],
 [(0,[5,9,10,11,12,13,14,15,16,17,18])],
 [],
 [],
 [],
 [],
 [],
 [],
 [],
 [(0,[5,9,10,11,12,13,14,15,16,17,18])],
 [(0,[5,9,10,11,12,13,14,15,16,17,18])],
 [],
 [],
 [],
 [],
 [],
 [(0,[18,19,20,21,22,23,24,25,26,27,28,29]),(2,[41,42,43,44,45,46,47,48,49,50,51,52,53,54,55,56,57,58,59,60,61,62,63,64,65,66,67,68,69,70,71,72,73,74,75,76,77,78,79,80])],
 [],
 [],
 [],
 [],
 [],
 [(3,[15,16,17,102,103,104,105,106,107,108,109,110,111,112,113,114,115,116,117,118,119,120,121,122,123,124,125,126,127,128,129,130,131,132,133,134,135,136,137,138,139,140,141,142,143,144,145,146,147,148,149,150,151,152,153,154,155,156,157,158,159,160,161,162,163])],
 [],
 [],
 [],
 [(0,[9,10,11,12,13,14,15,16,17,18,19,20,21]),(2,[24,25,26,27,28,29,30,31,32,33,34,35,36])],
 [],
 [],
 [],
 [(0,[51,52,53,54,55,56,57,58,59,60,61,62,63,64,65,66,67,68,69,70,71,72,73,74,75,76,77,78,79,80,81,82,83,84,85,86,87,88,89,90,91])],
 [],
 [],
 [],
 [],
 [],
 [],
 [],
 [],
 [],
 [],
 [],
 [],
 [],
 [],
 [],
 [],
 [],
 [],
 [],
 [],
 [],
 [],
 [],
 [],
 [],
 [],
 [],
 [],
 [],
 []]
def linkT:List (List Nat):=[[],[],[],[],[],[],[],[108,111],[],[],[],[],[],[],[],[],[],[],[],[],[],[],[],[],[],[],[],[],[],[],[],[],[],[],[64,70],[],[],[],[],[],[],[],[],[],[],[],[],[],[],[],[],[],[],[],[],[],[],[],[],[],[],[],[],[],[],[],[],[],[],[],[],[],[22,30],[],[],[],[],[],[],[],[],[],[],[],[],[],[],[],[],[],[],[],[],[],[],[],[],[],[],[],[],[],[],[],[],[],[],[],[],[],[],[],[],[],[],[],[],[],[],[],[],[],[],[],[],[],[],[],[],[],[],[],[],[],[],[],[],[],[],[],[],[],[],[21,23,25,26,33],[],[],[],[],[],[29,37],[],[],[],[],[],[],[],[],[],[],[],[],[],[],[],[],[],[],[],[],[],[],[],[],[],[],[],[],[],[],[],[],[],[],[],[],[],[],[],[],[],[],[],[],[],[],[],[],[],[],[],[],[],[],[],[],[],[],[],[],[],[],[],[],[],[],[],[],[],[],[],[],[],[],[],[],[],[],[],[],[],[],[],[],[],[],[],[],[],[],[],[],[],[],[],[],[],[42,45,53,54,55,58,66,67,68,71,79,80,81,84,92,93,110,113,121,122,123,126,134,135,145,148,156,157,162,166],[],[],[],[],[],[],[],[],[],[],[],[],[],[],[],[],[],[],[],[],[],[],[],[],[],[],[],[],[],[],[],[],[],[],[],[],[],[],[],[],[],[],[],[],[],[],[],[],[],[],[],[],[],[],[],[],[],[],[],[],[],[],[],[],[],[]]
def preciseT:List Nat:=[80,86,164,193,218,235,241,264]
def peekT:List Nat:=[143,205,242]
def mapsT:List Nat:=[]
def bornT:List Nat:=[]
def preT:List (Nat × List (Nat × List Nat)):=[]
def denilT:List Nat:=[160]
def turnF (f:Nat):Option (List Int->Option (List Int)):=none
def seqF (f:Nat):Option Nat:=if f = 124 then some 237 else none
def pairsT:List (List (Nat × List (Nat × Nat))):=[[],
 [],
 [],
 [(5,[(0,3),(1,3),(0,6),(1,6),(3,6),(4,6),(0,9),(1,9),(3,9),(4,9),(6,9),(7,9)]),(17,[(0,3),(1,3)]),(18,[(10,14),(22,24)]),(23,[(3,10),(6,10),(3,15),(6,15),(10,15),(11,15),(3,18),(6,18),(10,18),(11,18),(3,20),(6,20),(10,20),(11,20),(15,20),(18,20),(3,23),(6,23),(10,23),(11,23),(15,23),(18,23),(3,25),(6,25),(10,25),(11,25),(15,25),(18,25),(20,25),(23,25),(24,25),(3,26),(6,26),(10,26),(11,26),(15,26),(18,26),(20,26),(23,26),(24,26),(25,26)]),(24,[(1,3),(1,6),(3,6),(11,13),(11,16),(13,16),(22,27),(23,27),(33,38),(34,38)]),(27,[(0,3),(1,3),(0,6),(1,6),(3,6),(4,6),(0,9),(1,9),(3,9),(4,9),(6,9),(7,9)])],
 [(5,[(1,4),(2,4),(1,8),(2,8),(4,8),(5,8)]),(31,[(3,9)])],
 [],
 [],
 [(9,[(1,3),(1,6)]),(24,[(1,2)]),(31,[(1,3)]),(39,[(1,6),(4,6),(1,9),(4,9),(1,11),(4,11),(6,11),(9,11),(10,11)]),(42,[(0,5),(1,5),(3,5)]),(43,[(0,5),(1,5),(3,5)]),(44,[(18,20)])],
 [],
 [],
 [],
 [],
 [(1,[(1,4),(2,4)])],
 [],
 [],
 [(5,[(2,6),(3,6)])],
 [(6,[(3,7)])],
 [],
 [],
 [],
 [],
 [(7,[(4,9),(4,16),(9,16),(26,31),(26,38),(31,38)])],
 [],
 [],
 [],
 [(5,[(3,7),(3,14),(7,14)])],
 [],
 [(8,[(1,3),(1,6),(3,6),(1,8),(3,8),(6,8),(1,12),(3,12),(6,12),(8,12),(1,14),(3,14),(6,14),(8,14),(12,14),(1,17),(3,17),(6,17),(8,17),(12,17),(14,17),(1,19),(3,19),(6,19),(8,19),(12,19),(14,19),(17,19)])],
 [],
 [],
 [],
 [],
 [],
 [(6,[(3,7)])],
 [(10,[(1,4),(2,4)])],
 [],
 [(8,[(2,6)])],
 [(7,[(53,54),(53,55)])],
 [],
 [(4,[(2,5),(2,8),(5,8),(2,10),(5,10),(8,10)])],
 [],
 [],
 [],
 [(3,[(1,3),(1,6),(3,6),(4,6)])],
 [],
 [],
 [],
 [],
 [],
 [],
 [],
 [],
 [(7,[(5,13),(6,13)])],
 [(6,[(3,7)])],
 [],
 [],
 [],
 [(1,[(1,4),(2,4)])],
 [],
 [(5,[(1,3),(1,6),(3,6),(4,6)])],
 [],
 [(7,[(2,8),(3,8),(6,8)])],
 [(1,[(1,3),(1,4)])],
 [(5,[(1,7),(3,7),(5,7),(1,10),(3,10),(5,10),(7,10),(1,15),(3,15),(5,15),(7,15),(10,15),(11,15),(1,17),(3,17),(5,17),(7,17),(10,17),(11,17),(15,17),(16,17),(1,18),(3,18),(5,18),(7,18),(10,18),(11,18),(15,18),(16,18),(17,18)])],
 [],
 [],
 [],
 [],
 [(2,[(0,4),(0,6),(0,9),(4,9),(6,9),(0,11),(0,13)])],
 [],
 [],
 [],
 [(5,[(5,6)])],
 [],
 [],
 [],
 [],
 [],
 [(9,[(2,5),(2,12),(5,12),(2,18),(5,18),(12,18)])],
 [],
 [],
 [],
 [(1,[(1,3),(1,5),(3,5),(4,5)])],
 [],
 [],
 [],
 [(8,[(1,4),(2,4),(4,5)])],
 [],
 [],
 [],
 [],
 [],
 [(5,[(1,3),(1,6),(3,6),(1,8),(3,8),(6,8),(8,11)]),(6,[(1,3),(1,5),(3,5),(1,9),(3,9),(5,9),(1,11),(3,11),(5,11),(9,11),(1,13),(3,13),(5,13),(9,13),(11,13),(11,17),(13,17)])],
 [],
 [],
 [(5,[(10,12)])],
 [],
 [],
 [],
 [],
 [],
 [],
 [(1,[(4,8),(4,15),(8,15)])],
 [],
 [],
 [(8,[(1,6),(1,9),(6,9),(1,14),(6,14),(9,14)]),(9,[(5,12),(6,12)])],
 [(1,[(0,2),(1,2),(0,4),(1,4),(2,4),(3,4),(0,6),(1,6),(2,6),(3,6),(4,6)])],
 [(9,[(0,6),(2,6)])],
 [],
 [],
 [(5,[(1,3),(1,6),(3,6),(4,6),(1,8),(3,8),(4,8),(6,8)])],
 [(6,[(3,7)])],
 [(6,[(1,6),(4,6),(1,9),(4,9)])],
 [],
 [],
 [],
 [],
 [(9,[(2,6),(4,6),(2,8),(4,8),(2,9),(4,9)]),(16,[(2,12),(3,12),(5,12),(7,12),(10,12)])],
 [],
 [],
 [],
 [],
 [(6,[(3,7)])],
 [],
 [],
 [],
 [],
 [],
 [],
 [],
 [(7,[(2,8),(5,8),(2,9),(5,9),(2,11),(5,11),(8,11),(9,11),(10,11)])],
 [(8,[(1,6),(4,6),(1,9),(4,9)])],
 [(13,[(0,4),(0,7),(0,11),(4,11),(7,11),(0,14),(4,14),(7,14),(0,15),(4,15),(7,15),(0,16)])],
 [(1,[(6,9),(1,15),(6,15),(9,15),(13,15)]),(16,[(0,1),(0,2),(1,2),(0,5),(1,5),(1,6)])],
 [(2,[(1,2),(1,3)])],
 [(11,[(0,2),(0,4)])],
 [(1,[(0,2),(0,4)])],
 [],
 [(1,[(1,5),(2,5),(3,5)])],
 [],
 [],
 [(1,[(0,2),(0,4)])],
 [(1,[(1,4),(2,4),(1,7),(2,7),(4,7),(5,7),(1,10),(2,10),(4,10),(5,10),(7,10)]),(6,[(6,8),(2,15),(6,15),(8,15),(10,15),(13,15),(2,17),(6,17),(8,17),(10,17),(13,17),(15,17),(2,26),(6,26),(8,26),(10,26),(13,26),(15,26),(17,26),(18,26),(21,26),(24,26)])],
 [(8,[(5,9)])],
 [(1,[(0,4),(3,4)])],
 [],
 [],
 [],
 [],
 [(5,[(2,6)]),(16,[(0,1),(0,5),(1,5),(0,6)]),(18,[(3,7),(4,7)])],
 [],
 [],
 [],
 [],
 [],
 [],
 [(3,[(3,8)])],
 [],
 [(1,[(3,8)])],
 [],
 [],
 [(3,[(1,2),(1,5)])],
 [],
 [(2,[(0,7),(0,10),(0,13),(7,13),(10,13),(0,14),(0,15),(0,17)])],
 [(1,[(6,7),(6,10)]),(3,[(0,1),(0,5)]),(4,[(0,1),(0,2),(1,2),(0,3),(1,3),(0,4),(1,4),(2,4),(3,4),(1,7),(4,7)]),(8,[(3,7),(6,7),(3,8),(6,8),(7,8)]),(9,[(0,1),(0,2),(0,3),(1,3),(2,3),(0,6),(1,6),(2,6),(3,6),(0,7),(1,7),(2,7),(3,7),(6,7),(0,8),(1,8),(2,8),(3,8),(6,8),(7,8),(0,9),(6,9)])],
 [(5,[(1,3),(1,7),(3,7),(1,9),(3,9),(7,9)])],
 [],
 [],
 [],
 [],
 [],
 [],
 [(5,[(1,5),(4,5),(1,10),(4,10)])],
 [(2,[(0,5),(0,6),(0,8),(0,10)])],
 [(5,[(3,6)])],
 [(10,[(0,7),(6,7)])],
 [],
 [],
 [],
 [],
 [],
 [],
 [(5,[(2,5)])],
 [(5,[(3,6)]),(12,[(3,7),(3,12),(7,12),(3,18),(7,18),(12,18)])],
 [(3,[(6,9),(1,15),(6,15),(9,15),(13,15),(1,20),(6,20),(9,20),(13,20),(15,20),(18,20),(1,29),(6,29),(9,29),(13,29),(15,29),(18,29),(20,29),(21,29),(24,29),(25,29),(27,29),(1,31),(6,31),(9,31),(13,31),(15,31),(18,31),(20,31),(21,31),(24,31),(25,31),(27,31),(29,31)])],
 [],
 [],
 [],
 [],
 [],
 [],
 [],
 [],
 [],
 [],
 [(2,[(2,6),(3,6)])],
 [(1,[(0,5),(3,5),(4,5),(0,8),(3,8),(4,8),(5,8),(6,8),(7,8)])],
 [],
 [],
 [(1,[(0,8),(3,8),(7,8),(0,10),(3,10),(7,10),(8,10),(0,13),(3,13),(7,13),(8,13),(0,17),(3,17),(7,17),(8,17),(0,18),(3,18),(7,18),(8,18),(10,18),(13,18),(17,18)])],
 [(5,[(0,1),(0,4),(0,5),(1,5),(4,5),(0,8),(0,9)])],
 [(6,[(3,7)])],
 [],
 [(1,[(0,4),(3,4)])],
 [],
 [(1,[(4,8),(4,12),(8,12),(4,17),(8,17),(12,17),(14,17),(4,22),(8,22),(12,22),(14,22),(17,22)])],
 [],
 [],
 [],
 [],
 [],
 [(0,[(3,12),(8,12)])],
 [(1,[(1,6),(4,6)])],
 [],
 [],
 [],
 [],
 [],
 [],
 [(6,[(0,4),(1,4),(0,6),(1,6),(4,6),(0,8),(1,8),(0,11),(1,11)])],
 [],
 [],
 [],
 [],
 [],
 [],
 [],
 [],
 [],
 [],
 [],
 [],
 [],
 [],
 [],
 [],
 [],
 [],
 [],
 [],
 [],
 [],
 [],
 [(5,[(0,1),(0,4),(0,7),(0,11),(1,11),(4,11),(7,11),(0,12),(1,12),(4,12),(7,12),(0,13)])],
 [],
 [],
 [],
 [],
 [],
 [],
 [],
 [],
 [(1,[(1,5),(1,7)])],
 [(1,[(1,4)])],
 [],
 [],
 [],
 [(1,[(2,3)])],
 [(1,[(2,3)])],
 [],
 [],
 [],
 [],
 [],
 [],
 [],
 [],
 [],
 [],
 [],
 [],
 [],
 [],
 [],
 [],
 [],
 [],
 [],
 [],
 [],
 [],
 [],
 [],
 [],
 [],
 [],
 [],
 [],
 [],
 [],
 [],
 [],
 [],
 [],
 [],
 [],
 [],
 [],
 [],
 [],
 [],
 [],
 [],
 [],
 [],
 [],
 [],
 [],
 [],
 [],
 [],
 [],
 [],
 []]
def lookP:List (Nat × List (Nat × Nat))->Nat->List (Nat × Nat)
 | [],_=>[]
 | (k,c) :: l,b=>if k = b then c else lookP l b
def look:List (Nat × List Nat)->Nat->List Nat
 | [],_=>[]
 | (k,c) :: l,b=>if k = b then c else look l b
def lookF:List (Nat × List (Nat × List Nat))->Nat->List (Nat × List Nat)
 | [],_=>[]
 | (k,c) :: l,b=>if k = b then c else lookF l b
def hints:Ab.Hints:={
 take:=λf t=>(takeT.getD f []).contains t
 clear:=λf b=>look (clearT.getD f []) b
 precise:=λf=>preciseT.contains f
 pairs:=λf b=>lookP (pairsT.getD f []) b
 link:=λf t=>(linkT.getD f []).contains t
 peek:=λf=>peekT.contains f
 mapT:=λt=>mapsT.contains t
 born:=λf=>bornT.contains f
 turn:=turnF
 seq:=seqF
 denil:=λf=>denilT.contains f
 pre:=λf b=>look (lookF preT f) b }
end Go.Proofs.YteiciemjanhdcaaGreatDoor.Hn
end
section
namespace Go.Ab
open Go
variable {P:Program}
def sameVal:Value->Value->Bool
 | .int k n,.int k' n'=>decide (k = k') && decide (n = n')
 | .bool b,.bool b'=>b == b'
 | .slice none 0 0,.slice none 0 0=>true
 | .string s,.string s'=>decide (s.data.toList = s'.data.toList)
 | _,_=>false
mutual
def V.same:V->V->Bool
 | .val a,.val b=>sameVal a b
 | .sl f c l,.sl f' c' l'=>decide (f = f') && c == c' && sameL l l'
 | .agg l,.agg l'=>sameL l l'
 | .tuple l,.tuple l'=>sameL l l'
 | _,_=>false
def sameL:List V->List V->Bool
 | [],[]=>true
 | x :: l,y :: l'=>x.same y && sameL l l'
 | _,_=>false
end
theorem sameVal_eq {a b:Value} (h:sameVal a b = true):a = b:=by
 unfold sameVal at h;split at h
 ·simp_all
 ·simp_all
 ·rfl
 ·rename_i s s';have h1:=of_decide_eq_true h;obtain ⟨⟨l⟩⟩:=s;obtain ⟨⟨l'⟩⟩:=s';simp only at h1;rw [h1]
 ·cases h
mutual
theorem same_eq:∀ (x y:V),x.same y = true->x = y
 | .val a,y,h=>by cases y <;> simp only [V.same] at h <;> first | (rw [sameVal_eq h]) | cases h
 | .sl f c l,y,h=>by
  cases y <;> simp only [V.same] at h <;> try (cases h; done)
  simp only [Bool.and_eq_true,decide_eq_true_eq,beq_iff_eq] at h;rw [h.1.1,h.1.2,sameL_eq _ _ h.2]
 | .agg l,y,h=>by
  cases y <;> simp only [V.same] at h <;> try (cases h; done)
  rw [sameL_eq _ _ h]
 | .tuple l,y,h=>by
  cases y <;> simp only [V.same] at h <;> try (cases h; done)
  rw [sameL_eq _ _ h]
 | .undef,y,h | .ptr ..,y,h | .cptr ..,y,h | .fn ..,y,h | .yld _,y,h | .mref _,y,h | .bsl ..,y,h | .mp _,y,h | .iface ..,y,h | .lp ..,y,h | .room ..,y,h=>by cases y <;> simp [V.same] at h
theorem sameL_eq:∀ (l m:List V),sameL l m = true->l = m
 | [],[],_=>rfl
 | [],y :: m,h=>by simp [sameL] at h
 | x :: l,[],h=>by simp [sameL] at h
 | x :: l,y :: m,h=>by
  simp only [sameL,Bool.and_eq_true] at h;rw [same_eq x y h.1,sameL_eq l m h.2]
end
structure Ran where
 g:FuncId
 args:List V
 r:V
def libOf (t:List Ran) (g:FuncId):Option (List V->Option V) :=
 if t.any (λe=>decide (e.g = g)) then some (λargs=>(t.find? λe=>decide (e.g = g) && sameL e.args args).map (·.r)) else none
theorem libOf_ok {t:List Ran} (h:∀ e ∈ t,CallOk P e.g e.args [] e.r []):∀ g f args r,libOf t g = some f->f args = some r->CallOk P g args [] r []:=by
 intro g f args r hf hr;unfold libOf at hf;split at hf
 ·cases hf;obtain ⟨e,he,rfl⟩:=Option.map_eq_some_iff.1 hr;have h1:=List.find?_some he;simp only [Bool.and_eq_true,decide_eq_true_eq] at h1;rw [<- h1.1,<- sameL_eq _ _ h1.2];exact h e (List.mem_of_find?_eq_some he)
 ·cases hf
theorem ran_ok {H:Hints} (hm:P.follows .mixedOrders = true) (hname:NameOk P H) {t:List Ran} (ht:∀ e ∈ t,CallOk P e.g e.args [] e.r []) (n:Nat) (e:Ran)
  (h:(match (orcN P H (libOf t) n).call e.g e.args [] with | some (r,[])=>r.same e.r | _=>false) = true):CallOk P e.g e.args [] e.r []:=by
 split at h
 ·rename_i r hr;rw [<- same_eq _ _ h];exact (orcN_ok hm hname (libOf_ok ht) n).call _ _ _ _ _ hr
 ·cases h
end Go.Ab
end
section
namespace Go.Ab
open Go Go.RowKit Go.Shelf Go.Proofs
variable {P:Program}
theorem lrel_nil {w w':World} {X:Cx} {O:Root->List Nat} (h:LRel [] w X O) (hs:w.heap.size<=w'.heap.size):LRel [] w' X O :=
 {
  box:=λr c hc=>by simp [boxL] at hc,boxD:=h.boxD,inj:=λr r' b h1=>by simp [boxL] at h1,lin:=h.lin,dis:=h.dis,ptrB:=λr c hc=>by simp [boxL] at hc,up:=λr c hc=>by simp [boxL] at hc,
  dom:=λb e fz hω=>Nat.lt_of_lt_of_le (h.dom b e fz hω) hs }
theorem call_below {g:FuncId} {args:List V} {r:V} (hp:r.ptrs = []) (h:∀ (w:World) (X:Cx) (vals:List Value),RepL w X args vals []->GlOk w X->Dom w X ->
  (callFunc g vals.toArray).run P w = .ok (.enter g vals.toArray) w/\Calls P g vals.toArray w λe w'=>∃ v,e = .returned v/\(∀ X',Rep w' X' r v [])/\Below w.heap.size w w'):CallOk P g args [] r []:=by
 intro w X vals O h1 h2 h3 _ _;obtain ⟨h4,h5⟩:=h w X vals h1 h2 h3.dom;refine .inl ⟨h4,h5.mono ?_⟩;rintro e w' ⟨v,rfl,hr,hb⟩;refine ⟨v,rfl,X,O,[],hr X,lrel_nil h3 hb.size,Lin.nil,λ_ _ hb=>absurd hb (by simp),λq hq=>absurd hq (by rw [hp]; simp),rfl,λ_=>rfl,⟨hb.size,λb hb' _=>⟨hb.block b hb',rfl⟩,λb e fz hω=>⟨e,fz,hω,Nat.le_refl _,λh=>h,λi v _ hc=>?_⟩,λ_ _=>rfl,?_,hb.os,hb.output,hb.tape⟩⟩
 ·rw [cell_of_heap (hb.block b (h3.dom b e fz hω))]; exact hc
 ·rintro b (hb | ⟨q,hb⟩)
  ·exact absurd hb (by simp)
  ·exact .inr (.inr ⟨q,hb⟩)
theorem enters {g : FuncId} {fn : Func} (hfn : P.funcs[g]? = some fn) (hb : fn.body.isSome = true) (hn : (fn.name == "runtime.NumGoroutine") = false) (args : Array Value) (w : World) : (callFunc g args).run P w = .ok (.enter g args) w := by
 have hbs:fn.body.isNone = false:=by cases h:fn.body <;> simp_all
 simp only [callFunc,Sem.run_bind,run_program,Result.andThen_ok,hfn,hn,hbs,Bool.false_eq_true,if_false,Sem.run_pure]
def Enters (P:Program) (g:FuncId):Prop:=∀ (args:Array Value) (w:World),(callFunc g args).run P w = .ok (.enter g args) w
theorem below_grow (w:World) (k:Nat) (os:Array Obj):Below w.heap.size w (Sort.grow (w.drewN k) os):=by
 have hh:∀ k (w:World),(w.drewN k).heap = w.heap/\(w.drewN k).os = w.os/\(w.drewN k).output = w.output/\(w.drewN k).tape = w.tape:=λk w=>⟨rfl,rfl,rfl,rfl⟩
 obtain ⟨h1,h2,h3,h4⟩:=hh k w;refine ⟨h2,h4,h3,?_,λi hi=>?_⟩
 ·show w.heap.size<=((w.drewN k).heap ++ os).size;rw [h1]; simp
 ·show ((w.drewN k).heap ++ os)[i]? = _;rw [h1,Array.getElem?_append_left hi]
theorem tab_is {w:World} {X:Cx} (h:GlOk w X) {b:Nat} {arr:Array Value} (hm:(b,λa=>a = arr) ∈ glob) {n:String} (hg:P.globalNamed n = some b):w.var? P n = some arr:=by
 obtain ⟨_,arr',t,fr,h2,h3⟩:=h _ hm;simp only at h2 h3;subst h3;simp only [World.var?,hg,Option.bind_some,h2]
theorem cell_is {w:World} {X:Cx} (h:GlOk w X) {b:Nat} {p:Array Value->Prop} (hm:(b,p) ∈ glob):∃ arr t fr,w.heap[b]? = some (.cells arr t fr)/\p arr:=(h _ hm).2
theorem rep_int {w:World} {X:Cx} {u:Value} {v:Value} {O:List Nat} (h:Rep w X (.val u) v O):v = u:=by simp only [Rep] at h; exact h.1
theorem repL_int1 {w:World} {X:Cx} {u:Value} {vs:List Value} {O:List Nat} (h:RepL w X [.val u] vs O):vs = [u]:=by
 simp only [RepL,Rep] at h;obtain ⟨_,_,_,_,rfl,_,⟨rfl,_⟩,rfl,_⟩:=h;rfl
theorem repL_int2 {w:World} {X:Cx} {u u2:Value} {vs:List Value} {O:List Nat} (h:RepL w X [.val u,.val u2] vs O):vs = [u,u2]:=by
 simp only [RepL,Rep] at h;obtain ⟨_,_,_,_,rfl,_,⟨rfl,_⟩,_,_,_,_,rfl,_,⟨rfl,_⟩,rfl,_⟩:=h;rfl
theorem rep_val {w:World} {X:Cx} (u:Value):Rep w X (.val u) u []:=by simp [Rep]
theorem rep_tup2 {w:World} {X:Cx} {x y:V} {u v:Value} (h1:Rep w X x u []) (h2:Rep w X y v []):Rep w X (.tuple [x,y]) (.tuple #[u,v]) []:=by
 simp only [Rep,RepL];exact ⟨[u,v],rfl,u,[v],[],[],rfl,rfl,h1,v,[],[],[],rfl,rfl,h2,rfl,rfl⟩
theorem rep_tup3 {w:World} {X:Cx} {x y z:V} {u v q:Value} (h1:Rep w X x u []) (h2:Rep w X y v []) (h3:Rep w X z q []):Rep w X (.tuple [x,y,z]) (.tuple #[u,v,q]) []:=by
 simp only [Rep,RepL];exact ⟨[u,v,q],rfl,u,[v,q],[],[],rfl,rfl,h1,v,[q],[],[],rfl,rfl,h2,q,[],[],[],rfl,rfl,h3,rfl,rfl⟩
theorem rep_err {w:World} {X:Cx} (t:TypeId) (u:Value):Rep w X (.iface t .undef) (.iface t u) []:=by
 simp only [Rep];exact ⟨u,rfl,trivial⟩
theorem itoa_ok {ρ : Ren} (L : LaysM.n171 P ρ) (hen : Enters P (ρ.f 171)) (htab : ∀ (w : World) (X : Cx), GlOk w X -> Lib.TabIs P w "internal/strconv.uint64pow10" .u64 Lib.pow10Tab) (n : Int) (h0 : -9223372036854775808 <= n) (h1 : n <= 9223372036854775807) :
  CallOk P (ρ.f 171) [.val (.int .i64 n)] [] (.val (.string ⟨(Lib.itoa n).toArray⟩)) []:=by
 refine call_below rfl λw X vals hr hg _=>?_;obtain rfl:=repL_int1 hr;refine ⟨hen _ _,(Any.strconv_Itoa L n h0 h1 w (htab w X hg)).mono ?_⟩;rintro e w' ⟨rfl,k,os,rfl⟩;exact ⟨_,rfl,λX'=>by simp [Rep],below_grow w k os⟩
def atoiV (t:TypeId) (s:List UInt8):V:=match Lib.atoiAll s with
 | .ok v=>.tuple [.val (.int .i64 v),.val .nilIface]
 | .range=>.tuple [.val (.int .i64 (Lib.atoiSat s)),.iface t .undef]
 | _=>.tuple [.val (.int .i64 0),.iface t .undef]
theorem atoi_ok {ρ:Ren} (L:LaysC.n172 P ρ) (hen:Enters P (ρ.f 172)) (h15:∀ (w:World) (X:Cx),GlOk w X->∃ ev,w.cell? ⟨ρ.g 15,0,none⟩ = some ev/\(ev = .nilIface\/∃ te pe,ev = .iface te pe))
  (h16:∀ (w:World) (X:Cx),GlOk w X->∃ ev,w.cell? ⟨ρ.g 16,0,none⟩ = some ev/\(ev = .nilIface\/∃ te pe,ev = .iface te pe)) (s:ByteArray) (hs:s.size<=281474976710656) :
  CallOk P (ρ.f 172) [.val (.string s)] [] (atoiV (ρ.t 168) s.data.toList) []:=by
 unfold atoiV;refine call_below (by split <;> simp [V.ptrs,ptrsL]) λw X vals hr hg _=>?_;obtain rfl:=repL_int1 hr;refine ⟨hen _ _,?_⟩;cases hc:Lib.atoiAll s.data.toList with
 | ok v =>
  refine (Any.strconv_Atoi_ok L s (by omega) v hc w).mono ?_;rintro e w' ⟨rfl,hw⟩;refine ⟨_,rfl,λX'=>rep_tup2 (rep_val _) (rep_val _),?_⟩;rcases hw with rfl | ⟨t,rfl⟩
  ·exact Below.refl _ _
  ·exact Lib.bytesWorld_below _ _ _
 | range =>
  obtain ⟨ev,h1,h2⟩:=h16 w X hg;refine (Any.strconv_Atoi_range L s hs hc ev w h1 h2).mono ?_;rintro e w' ⟨N,rfl,_,_,hb⟩;exact ⟨_,rfl,λX'=>rep_tup2 (rep_val _) (rep_err _ _),hb⟩
 | _ =>
  obtain ⟨ev,h1,h2⟩:=h15 w X hg;refine (Any.strconv_Atoi_syntax L s hs hc ev w h1 h2).mono ?_;rintro e w' ⟨N,rfl,_,_,hb⟩;exact ⟨_,rfl,λX'=>rep_tup2 (rep_val _) (rep_err _ _),hb⟩
theorem trimPrefix_ok {ρ:Ren} (L:Lays.n101 P ρ) (hen:Enters P (ρ.f 101)) (s p:ByteArray):CallOk P (ρ.f 101) [.val (.string s),.val (.string p)] [] (.val (.string ⟨(Lib.trimPrefix s.data.toList p.data.toList).toArray⟩)) []:=by
 refine call_below rfl λw X vals hr hg _=>?_;obtain rfl:=repL_int2 hr;refine ⟨hen _ _,(Any.strings_TrimPrefix L s p w).mono ?_⟩;rintro e w' ⟨rfl,rfl⟩;exact ⟨_,rfl,λX'=>by simp [Rep],Below.refl _ _⟩
theorem index_ok {ρ:Ren} (L:Lays.n143 P ρ) (hen:Enters P (ρ.f 143)) (hm:∀ (w:World) (X:Cx),GlOk w X->∃ m,w.cell? ⟨ρ.g 1,0,none⟩ = some (.int .i64 m)) (s p:ByteArray) (hs:s.size < 4294967281) :
  CallOk P (ρ.f 143) [.val (.string s),.val (.string p)] [] (.val (.int .i64 (Lib.index s.data.toList p.data.toList))) []:=by
 refine call_below rfl λw X vals hr hg _=>?_;obtain rfl:=repL_int2 hr;obtain ⟨m,hm⟩:=hm w X hg;refine ⟨hen _ _,(Any.strings_Index L s p m w hs hm).mono ?_⟩;rintro e w' ⟨rfl,rfl⟩;exact ⟨_,rfl,λX'=>by simp [Rep],Below.refl _ _⟩
theorem cut_ok {ρ:Ren} (L:Lays.n145 P ρ) (hen:Enters P (ρ.f 145)) (hm:∀ (w:World) (X:Cx),GlOk w X->∃ m,w.cell? ⟨ρ.g 1,0,none⟩ = some (.int .i64 m)) (s p:ByteArray) (hs:s.size < 4294967281) :
  CallOk P (ρ.f 145) [.val (.string s),.val (.string p)] [] (.tuple [.val (.string ⟨(Lib.cut s.data.toList p.data.toList).1.toArray⟩),.val (.string ⟨(Lib.cut s.data.toList p.data.toList).2.1.toArray⟩),.val (.bool (Lib.cut s.data.toList p.data.toList).2.2)]) []:=by
 refine call_below (by simp [V.ptrs,ptrsL]) λw X vals hr hg _=>?_;obtain rfl:=repL_int2 hr;obtain ⟨m,hm⟩:=hm w X hg;refine ⟨hen _ _,(Any.strings_Cut L s p m w hs hm).mono ?_⟩;rintro e w' ⟨rfl,n,rfl⟩;exact ⟨_,rfl,λX'=>rep_tup3 (rep_val _) (rep_val _) (rep_val _),⟨rfl,rfl,rfl,Nat.le_refl _,λ_ _=>rfl⟩⟩
def strsOf:List V->Option (List (List UInt8))
 | []=>some []
 | .val (.string s) :: l=>(strsOf l).map (s.data.toList :: ·)
 | _=>none
theorem strs_cells {w:World} {X:Cx}:∀ {l:List V} {s:Nat} {vals:List Value} {O:List Nat} {xs:List (List UInt8)},strsOf l = some xs->RepE w X s l vals O->vals = xs.map λx=>.string ⟨x.toArray⟩
 | [],s,vals,O,xs,hb,hr=>by
  simp only [strsOf,Option.some.injEq] at hb;simp only [RepE] at hr;subst hb; exact hr.1
 | x :: l,s,vals,O,xs,hb,hr=>by
  unfold strsOf at hb;split at hb
  ·rename_i h; cases h
  ·rename_i str l' h;cases h;obtain ⟨xs',hb',rfl⟩:=Option.map_eq_some_iff.1 hb;simp only [RepE,Rep] at hr;obtain ⟨u,vs,O1,O2,rfl,hs,rfl,⟨rfl,rfl⟩,hr⟩:=hr;rw [strs_cells hb' hr];simp [Value.cells]
  ·cases hb
theorem strs_len:∀ {l:List V} {xs:List (List UInt8)},strsOf l = some xs->l.length = xs.length
 | [],xs,hb=>by
  simp only [strsOf,Option.some.injEq] at hb;subst hb; rfl
 | x :: l,xs,hb=>by
  unfold strsOf at hb;split at hb
  ·rename_i h; cases h
  ·rename_i str l' h;cases h;obtain ⟨xs',hb',rfl⟩:=Option.map_eq_some_iff.1 hb;simp [strs_len hb']
  ·cases hb
theorem join_ok {ρ:Ren} (L:Lays.n156 P ρ) (E:Builder.Extra P ρ) (hen:Enters P (ρ.f 156)) (fl:Fl) (c:Bool) (l:List V) (xs:List (List UInt8)) (sep:ByteArray) (hl:strsOf l = some xs) (hN:xs.length<=140737488355328)
  (hlen:(Lib.join xs sep.data.toList).length<=140737488355328):CallOk P (ρ.f 156) [.sl fl c l,.val (.string sep)] [] (.val (.string ⟨(Lib.join xs sep.data.toList).toArray⟩)) []:=by
 refine call_below rfl λw X vals hr hg hd=>?_;simp only [RepL] at hr;obtain ⟨u,_,O1,_,rfl,_,h1,u2,_,_,_,rfl,_,h2,rfl,_⟩:=hr;obtain rfl:=rep_int h2;refine ⟨hen _ _,?_⟩;simp only [Rep] at h1;rcases h1.2 with ⟨rfl,_,hv⟩ | ⟨b,off,cap,s,vs,O',rfl,hcap,_,hvl,hs0,hall,hseg,hfl,hE,_⟩
 ·simp only [strsOf,Option.some.injEq] at hl;subst hl;rcases hv with rfl | ⟨_,a,rfl⟩
  ·refine (Any.strings_Join_none L E none 0 sep w).mono ?_;rintro e w' ⟨rfl,rfl⟩;exact ⟨_,rfl,λX'=>by rw [Lib.join_nil]; exact rep_val _,Below.refl _ _⟩
  ·refine (Any.strings_Join_none L E (some a) 0 sep w).mono ?_;rintro e w' ⟨rfl,rfl⟩;exact ⟨_,rfl,λX'=>by rw [Lib.join_nil]; exact rep_val _,Below.refl _ _⟩
 ·have hlen2:=strs_len hl;have hvs:=strs_cells hl hE;have hb:b < w.heap.size:=by
   obtain ⟨e,fz,hω,_⟩:=hfl;exact hd b e fz hω
  have hj:=Any.strings_Join L E b off cap (xs.map λx=>⟨x.toArray⟩) sep w (λj x hx=>by
    rw [List.getElem?_map] at hx;obtain ⟨y,hy,rfl⟩:=Option.map_eq_some_iff.1 hx;exact hseg j _ (by rw [hvs,List.getElem?_map,hy]; rfl)) hb (by simpa using hN) (by rw [List.length_map,<- hlen2]; exact hcap) (by simpa [List.map_map,Function.comp_def] using hlen)
  rw [List.length_map,<- hlen2] at hj;refine hj.mono ?_;rintro e w' ⟨rfl,hb⟩;exact ⟨_,rfl,λX'=>by simp [Rep,List.map_map,Function.comp_def],hb⟩
end Go.Ab
end
section
namespace Go.Proofs.YteiciemjanhdcaaGreatDoor
open Go Go.Ab Go.RowKit
theorem splitSeq_walk (s sep:ByteArray) (w:World):Calls Tryz.prog 187 #[.string s,.string sep,.int .i64 0] w λe w' =>
  e = .returned (.func (.func 237) #[] #[.pointer (some ⟨w.heap.size + 1,0,none⟩),.pointer (some ⟨w.heap.size,0,none⟩),.pointer (some ⟨w.heap.size + 2,0,none⟩)])/\∃ t t2 t3,w' = ((w.alloc (.cells #[.string s] t)).alloc (.cells #[.string sep] t2)).alloc (.cells #[.int .i64 0] t3):=by
 go_enter Tryz.func187,Tryz.ntmps187
 go_wp2
 go_ret
 exact ⟨by simp,_,_,_,rfl⟩
theorem SplitSeq_walk (s sep:ByteArray) (w:World):Calls Tryz.prog 124 #[.string s,.string sep] w λe w' =>
  e = .returned (.func (.func 237) #[] #[.pointer (some ⟨w.heap.size + 1,0,none⟩),.pointer (some ⟨w.heap.size,0,none⟩),.pointer (some ⟨w.heap.size + 2,0,none⟩)])/\∃ t t2 t3,w' = ((w.alloc (.cells #[.string s] t)).alloc (.cells #[.string sep] t2)).alloc (.cells #[.int .i64 0] t3):=by
 go_enter Tryz.func124,Tryz.ntmps124
 go_wp2_with fail
 refine (splitSeq_walk s sep w).mono λe w1 ⟨he,hw⟩=>?_;subst he
 go_wp2
 go_ret
 exact ⟨rfl,hw⟩
theorem seqs:SeqsOk Tryz.prog Hn.hints:=λg c h=>by
 simp only [Hn.hints,Hn.seqF] at h;split at h
 ·rename_i e;subst e; cases h;intro s sep w;exact .inl ⟨enters Tryz.func124 (by kernel_rfl) (by kernel_rfl) _ _,(SplitSeq_walk s sep w).mono λe w' ⟨h1,h2⟩=>⟨_,h1,rfl,h2⟩⟩
 ·cases h
end Go.Proofs.YteiciemjanhdcaaGreatDoor
end
