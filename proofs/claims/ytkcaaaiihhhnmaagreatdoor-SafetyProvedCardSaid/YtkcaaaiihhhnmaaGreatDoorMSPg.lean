/-
  ONE LAW OF A CHAPTER: its program side is run by an interpreter that is proved sound; what it computes is shown to be what the law says. No conditions. Part 7 of 8.
-/
import Derived.Test.YtkcaaaiihhhnmaaGreatDoorMSPf
import Derived.Test.YtkcaaaiihhhnmaaGreatDoorRows
import Derived.WalkKit
import Derived.ProofKit
import Derived.LaidMore
import Derived.OpenShut
import Derived.Stop.Joined
import Derived.ChangeArms
import Derived.Test.YtkcaaaiihhhnmaaGreatDoorProg
import Derived.Shelf.Spec.TrailingZeros
import Derived.KernelRfl
import Derived.Lib.TrailingZeros
set_option linter.unusedSimpArgs false
set_option linter.unusedVariables false
set_option linter.unnecessarySimpa false
section
namespace Go.Tx
open Go Go.Ab Go.RowKit Go.ChangeShapes Go.WideShapes Go.Deep
section
variable {H:Type} {enc:TypeId × Value->H} {P:Program}
theorem qp0 {f:Func} {s:ChangeSpec} {apart fresh handsOn again:Bool} {W W':World} {args:Array Value} {v:Value} {ds gs:List (DataW H)} {before pa pv:List MemPlace}
  (hW:DataW.Whole enc P f.params.toList s.vars apart W args.toList ds gs before)
  (hres:∀ (b:Nat) (sp:Nat->Bool) (hd:Bool),DataW.TrodAll enc P W' b sp hd f.resultTypes.toList (v.resultList f.resultTypes.size) (s.fn H (ds ++ gs)).results [])
  (hargs:∀ sp:Nat->Bool,(∀ p ∈ before,sp p.block = true)->DataW.TrodAll enc P W' 0 sp true f.params.toList args.toList (s.fn H (ds ++ gs)).args pa)
  (hvars:∀ sp:Nat->Bool,(∀ p ∈ before,sp p.block = true)->DataW.TrodVars enc P W' sp s.vars (s.fn H (ds ++ gs)).vars pv)
  (hps:before = pa ++ pv) (hb:Below W.heap.size W W')
  (hok:∀ (j:Nat) (t:TypeId) (r:Value),f.resultTypes[j]? = some t->(v.resultList f.resultTypes.size)[j]? = some r->Value.okWide P W' .any 0 t r) :
  s.post enc P f apart fresh handsOn again W args v W':=by
 have hlt:∀ p ∈ before,p.block < W.heap.size:=λp hp=>hW.lt p hp;have hold:∀ p ∈ before,(λb=>decide (b < W.heap.size)) p.block = true:=λp hp=>by simpa using hlt p hp
 refine ⟨ds,gs,before,[],pa,pv,hW,hres _ _ _,hargs _ hold,hvars _ hold,World.keptBut_mono (λp hp=>⟨hp,?_⟩) (hb.frame (· ∈ before)),λ_=>?_⟩
 ·rw [hps,List.mem_append] at hp;exact Or.inr hp
 ·obtain ⟨_,_,_,_,_,hz,hn⟩:=hW;refine ⟨hok,_,_,([] ++ pa) ++ pv,⟨[] ++ pa,pv,trodAll_append (hargs _ (λ_ _=>rfl)) (hres _ _ _),hvars _ (λ_ _=>rfl),rfl,?_,?_⟩,?_⟩
  ·intro b off hp;have hin:MemPlace.cell b off ∈ before:=by rw [hps]; simpa using hp
   rw [hb.frozen (hlt _ hin)];exact hz b off hin
  ·intro ha;have:=hn ha;rw [hps] at this;simpa using this
  ·intro p hp _;rw [hps];simpa using hp
theorem qmA:∀ {ts:List TypeId} {vs:List Value} {ds:List (DataW H)} {ps:List MemPlace} {w:World} {b:Nat} {sp:Nat->Bool} {hd:Bool},DataW.TrodAll enc P w b sp hd ts vs ds ps->ds.length = ts.length
 | [],[],[],_,_,_,_,_,_=>rfl
 | [],[],d :: ds,_,_,_,_,_,h=>h.elim
 | [],v :: vs,_,_,_,_,_,_,h=>by cases h
 | t :: ts,[],_,_,_,_,_,_,h=>by cases h
 | t :: ts,v :: vs,[],_,_,_,_,_,h=>by cases h
 | t :: ts,v :: vs,d :: ds,ps,w,b,sp,hd,⟨p,q,h1,h2,e⟩=>by simp [qmA h2]
end
theorem qBZ {H:Type}:Sm (H:=H) maxLen (λ_=>True) where
 slice:=λes sp _ h=>⟨h,λ_ _=>trivial⟩
 agg:=λ_ _ _ _=>trivial
 str:=λ_ _ h=>h
theorem qr5 {P:Program} {H0:Hints} {lib:FuncId->Option (List V->Option V)} (hm:P.follows .mixedOrders = true) (qcl:qjg P H0)
  (hlib:∀ g h args r,lib g = some h->h args = some r->qbk P g args [] r []) (hl:laidOutB P = true) {k:FuncId} {fn:Func} (hfn:P.funcs[k]? = some fn) (hbody:fn.body.isSome = true)
  {ts:List TypeId} {τs:List Ty} (hps:fn.params.toList = ts) (hts:ts.mapM (qAH P) = some τs) (hok:ts.all (okT P 10) = true) (hrd:ts.all (λt=>P.readableRec t && decide (t < P.types.size)) = true)
  {tb:TypeId} (hres:fn.resultTypes = #[tb]) (htb:P.underlying tb = some .bool) {F:denP (τs.map .ty)->Option Bool}
  (he:qbn P H0 lib ⟨k,τs.map .ty,[(.bool,0)],F⟩) (hF:∀ x,qCi maxLen τs x->F x = some true)
  {s:ChangeSpec} (hv:s.vars = []) (hs:∀ (H:Type) (ds:List (DataW H)),ds.length = ts.length->s.fn H ds = { results:=[.lit (.bool true)],args:=ds })
  (H:Type) (enc:TypeId × Value->H) (W:World) (base:Nat) (args:Array Value) (ds gs:List (DataW H)) (before:List MemPlace)
  (hval:∀ (j:Nat) t v,fn.params[j]? = some t->args[j]? = some v->Value.okWide P W .any base t v)
  (hW:DataW.Whole enc P fn.params.toList s.vars false W args.toList ds gs before) (hgl:ql5 W (cx0 W)) :
  Calls P k args W λe W'=>∃ v,e = .returned v/\s.post enc P fn false true false false W args v W':=by
 have hW':=hW;have hlt:∀ p ∈ before,p.block < W.heap.size:=λp hp=>hW.lt p hp;obtain ⟨p,q,hA,hV,rfl,hfz,hnd⟩:=hW;rw [hv] at hV;obtain ⟨rfl,rfl⟩:=trodVars_none hV;rw [hps] at hA;have hlen:=qmA hA;have hval':∀ (j:Nat) t v,ts[j]? = some t->args.toList[j]? = some v->Value.okWide P W .any base t v:=λj t v h1 h2 =>
  hval j t v (by rw [<- hps] at h1; simpa using h1) (by simpa using h2)
 refine (qyE hm qcl hlib hl qBZ hfn hbody hts hok he hF hval' hA (λ_ _=>trivial) hgl).mono λe W' ⟨h1,hb⟩=>?_;subst h1;have hfs:s.fn H (ds ++ []) = { results:=[.lit (.bool true)],args:=ds }:=by rw [List.append_nil]; exact hs H ds hlen
 refine ⟨_,rfl,qp0 (pa:=p) (pv:=[]) hW' ?_ ?_ ?_ rfl hb ?_⟩
 ·intro b sp hd;rw [hfs,hres];exact trodAll_mk1 (shut_bool htb true)
 ·intro sp hsp;rw [hfs,hps];exact qjk hl hb hrd hA (λx hx=>hlt x (by simpa using hx)) sp (λx hx=>hsp x (by simpa using hx))
 ·intro sp _;rw [hfs,hv];rfl
 ·exact ok_one hres rfl (okWide_bool_mk htb true)
end Go.Tx
namespace Go.Proofs.YtkcaaaiihhhnmaaGreatDoor
open Go Go.Ab Go.Tx
theorem own:ownKnob Tryz.prog.godebug = none:=by kernel_rfl
theorem qz0:laidOutB Tryz.prog = true:=by kernel_rfl
end Go.Proofs.YtkcaaaiihhhnmaaGreatDoor
end
section
namespace Go.Proofs.YtkcaaaiihhhnmaaGreatDoor
open Go Go.Ab Go.Tx Go.ChangeShapes Go.WideShapes Go.ChangeAt Go.WideMaps Go.WideElems Go.RowKit
theorem g1 : Tryz.prog.globalNamed "math/bits.deBruijn64tab" = some 1 := by kernel_rfl
theorem qCB {W:World} (h:∀ j,j < 64->W.cell? ⟨1,j,none⟩ = some (.int .u8 (Lib.deBruijn64tab.getD j 0))):ql5 W (cx0 W):=by
 intro x hx;obtain ⟨j,hj,rfl⟩:=List.mem_map.1 hx;have hj':=List.mem_range.1 hj;have hc:=h j hj';simp only
 cases hb:W.heap[1]? with
 | none=>simp [World.cell?,hb] at hc
 | some b =>
  cases b with
  | cells c t fr =>
   refine ⟨c.size,_,by simp [cx0,hb],?_,hc,rfl⟩;simp only [World.cell?,hb] at hc;rcases Nat.lt_or_ge j c.size with h1 | h1
   ·exact h1
   ·simp [Array.getElem?_eq_none h1] at hc
  | _=>simp [World.cell?,hb] at hc
def qv9 : List (String × DataW Unit) := [("math/bits.deBruijn32tab", Rows.laid_math_bits_deBruijn32tab), ("math/bits.deBruijn64tab", Rows.laid_math_bits_deBruijn64tab)]
theorem qz7 {W:World} (h:laidMetH Tryz.prog qv9 W) (r:Nat) (hr:r < 64):W.cell? ⟨1,r,none⟩ = some (.int .u8 (Lib.deBruijn64tab.getD r 0)):=by
 rw [MakeChecks.laidMetH_plain _ _ _ (by kernel_rfl)] at h;obtain ⟨ps,⟨_,_,_,_,_,_,_,_,_,_,⟨g,t,cs,fuel,p,q,hg,ht,hv,hd,_,_⟩,_⟩,_,_⟩:=h;obtain rfl:=Option.some.inj (g1.symm.trans hg);obtain rfl:=Option.some.inj ((show (Tryz.prog.globals[1]?).map (·.type) = some 268 by kernel_rfl).symm.trans ht);obtain ⟨xs,m,_,ex,_,hl,hel⟩:=DataW.trod_array Tryz.underlying268 hd;have c5:Tryz.prog.cellsOf 5 = 1:=by kernel_rfl
 have hE:=hel r hr;rw [c5,Nat.mul_one,List.getElem?_eq_getElem (by omega)] at hE;obtain ⟨z,e1,e2,_⟩:=DataW.trod_int Tryz.underlying5 hE;have hlen:Lib.deBruijn64tab.length = 64:=by kernel_rfl
 have e3:(xs.map (·.1)) = Lib.deBruijn64tab.map λn:Nat=>(.lit (.int .u8 (n:Int)):DataW Unit):=(DataW.agg.inj (Prod.mk.inj ex).1).symm;have e4:(xs.map (·.1))[r]? = (Lib.deBruijn64tab.map λn:Nat=>(DataW.lit (.int .u8 (n:Int)):DataW Unit))[r]?:=by rw [e3]
 rw [List.getElem?_map,List.getElem?_map,List.getElem?_eq_getElem (by omega:r < xs.length),List.getElem?_eq_getElem (by omega:r < Lib.deBruijn64tab.length),e2] at e4;have hz:z = ((Lib.deBruijn64tab.getD r 0:Nat):Int):=by
  simp only [Option.map_some,qb,DataW.lit.injEq,Lit.int.injEq,true_and] at e4;rw [e4,List.getD,List.getElem?_eq_getElem (by omega:r < Lib.deBruijn64tab.length)]; rfl
 rw [World.var?_cell hg hv r,<- hz];have:cs.toList[r]? = some (.int .u8 z):=by
  have h0:((cs.toList.drop r).take 1)[0]? = some (.int .u8 z):=by rw [e1]; rfl
  simpa using h0
 simpa using this
theorem qBn {W:World} (h:laidMetH Tryz.prog qv9 W):ql5 W (cx0 W):=qCB λj hj=>qz7 h j hj
end Go.Proofs.YtkcaaaiihhhnmaaGreatDoor
end
section
namespace Go.Proofs.YtkcaaaiihhhnmaaGreatDoor
open Go Go.Ab
def qAU:Go.Shelf.Ren:=⟨λ| 27=>121 | 28=>180 | 29=>181 | n=>n,λ| 25=>175 | 3=>3 | 27=>244 | 22=>246 | 4=>4 | 53=>267 | 0=>0 | 5=>5 | 54=>268 | n=>n,λ| 0=>0 | 1=>1 | n=>n⟩
theorem l27:Lays7.n27 Tryz.prog qAU where
 mixed:=by kernel_rfl
 f27:=Tryz.func121.trans (congrArg some (by kernel_rfl))
 f28:=Tryz.func180.trans (congrArg some (by kernel_rfl))
 f29:=Tryz.func181.trans (congrArg some (by kernel_rfl))
 t0:=Tryz.underlying0
 a0:=Tryz.isAgg0
 z0:=Tryz.sizeOf0
 v0:=Tryz.zeroValue0
 i0:=by kernel_rfl
 t3:=Tryz.underlying3
 a3:=Tryz.isAgg3
 z3:=Tryz.sizeOf3
 v3:=Tryz.zeroValue3
 i3:=by kernel_rfl
 t4:=Tryz.underlying4
 a4:=Tryz.isAgg4
 z4:=Tryz.sizeOf4
 v4:=Tryz.zeroValue4
 i4:=by kernel_rfl
 t5:=Tryz.underlying5
 a5:=Tryz.isAgg5
 z5:=Tryz.sizeOf5
 v5:=Tryz.zeroValue5
 i5:=by kernel_rfl
 t22:=Tryz.underlying246
 a22:=Tryz.isAgg246
 z22:=Tryz.sizeOf246
 v22:=Tryz.zeroValue246
 i22:=by kernel_rfl
 t25:=Tryz.underlying175
 a25:=Tryz.isAgg175
 z25:=Tryz.sizeOf175
 v25:=Tryz.zeroValue175
 i25:=by kernel_rfl
 t27:=Tryz.underlying244
 a27:=Tryz.isAgg244
 z27:=Tryz.sizeOf244
 v27:=Tryz.zeroValue244
 i27:=by kernel_rfl
 t53:=Tryz.underlying267
 a53:=Tryz.isAgg267
 z53:=Tryz.sizeOf267
 v53:=Tryz.zeroValue267
 i53:=by kernel_rfl
 t54:=Tryz.underlying268
 a54:=Tryz.isAgg268
 z54:=Tryz.sizeOf268
 g0:=by kernel_rfl
 g1:=by kernel_rfl
theorem qwj {P:Program} {g:FuncId} {args:List V} {u:Value} (h:∀ (w:World) (X:Cx) (vals:List Value),RepL w X args vals []->ql5 w X->(callFunc g vals.toArray).run P w = .ok (.enter g vals.toArray) w/\Calls P g vals.toArray w λe w'=>e = .returned u/\w' = w) :
  qbk P g args [] (.val u) []:=by
 intro w X vals O h1 h2 h3 _ _;obtain ⟨h4,h5⟩:=h w X vals h1 h2;refine .inl ⟨h4,h5.mono ?_⟩;rintro e w' ⟨rfl,rfl⟩;refine ⟨u,rfl,X,O,[],⟨rfl,rfl⟩,h3,Lin.nil,λ_ _ hb=>absurd hb (by simp),λq hq=>absurd hq (by simp [V.qj]),rfl,λ_=>rfl,⟨Nat.le_refl _,λ_ _ _=>⟨rfl,rfl⟩,λb e fz hb=>⟨e,fz,hb,Nat.le_refl _,λh=>h,λ_ _ _ h=>h⟩,λ_ _=>rfl,?_,rfl,rfl,rfl⟩⟩;rintro b (hb | ⟨q,hb⟩)
 ·exact absurd hb (by simp)
 ·exact .inr (.inr ⟨q,hb⟩)
theorem qzb {w:World} {X:Cx} (h:ql5 w X):TabAt 1 Lib.deBruijn64tab w:=by
 intro j hj;obtain ⟨e,v,_,_,h3,h4⟩:=h (1,j,λv=>v = .int .u8 (Lib.deBruijn64tab.getD j 0)) (List.mem_map.2 ⟨j,List.mem_range.2 hj,rfl⟩);simp only at h3 h4;rw [h3,h4]
theorem qCG (x:Nat) (hx:x < 18446744073709551616):qbk Tryz.prog 121 [.val (.int .u64 x)] [] (.val (.int .i64 (Lib.ctz 64 x))) []:=by
 refine qwj λw X vals h1 h2=>?_;simp only [RepL,Rep] at h1;obtain ⟨u,vs,O1,O2,rfl,_,⟨rfl,_⟩,rfl,_⟩:=h1;refine ⟨Tn.enters Tryz.func121 (by kernel_rfl) (by kernel_rfl) _ _,?_⟩;exact Any7.bits_TrailingZeros l27 x hx w (λ_=>qzb h2)
end Go.Proofs.YtkcaaaiihhhnmaaGreatDoor
end
section
namespace Go.Tx
open Go
theorem qhp {n:Int} (h1 : -9223372036854775808<=n) (h2:n<=9223372036854775807):IntKind.wrap .i64 n = n:=by
 rw [IntKind.wrap_i64]; omega
theorem qV {α:Type} {l:List α} {i:Nat} {a:α} (h:l[i]? = some a):idx l (i:Int) = some a:=by simp [idx,h]
theorem qAs {α:Type} {l l2:List α} (h:l.length + l2.length<=4294967296):app l l2 = some (l ++ l2):=by simp [app,h]
section
variable {σ ρ:Type} {f:σ->Option (σ ⊕ ρ)}
theorem qk7:∀ {n m:Nat} {s:σ} {r:ρ},qcQ f n s = some r->n<=m->qcQ f m s = some r
 | 0,m,s,r,h,_=>by simp [qcQ] at h
 | n + 1,0,s,r,h,hm=>by omega
 | n + 1,m + 1,s,r,h,hm=>by
  simp only [qcQ] at h ⊢;cases hf:f s with
  | none=>rw [hf] at h; cases h
  | some x =>
   rw [hf] at h;cases x with
   | inl s'=>exact qk7 h (by omega)
   | inr r'=>exact h
theorem qjW {n:Nat} {s:σ} {r:ρ} (h:qcQ f n s = some r):qG f s = some r:=by
 have hex:∃ n r,qcQ f n s = some r:=⟨n,r,h⟩
 cases hl:qG f s with
 | none=>exfalso; unfold qG at hl; rw [dif_pos hex] at hl; cases hl
 | some r' =>
  obtain ⟨m,hm⟩:=qhR hl;have h1:=qk7 h (Nat.le_max_left n m);have h2:=qk7 hm (Nat.le_max_right n m);rw [<- h1,<- h2]
theorem qm6 {s s':σ} (h:f s = some (.inl s')):qG f s = qG f s':=by
 cases hl:qG f s' with
 | some r =>
  obtain ⟨n,hn⟩:=qhR hl;exact qjW (n:=n + 1) (by simp [qcQ,h,hn])
 | none =>
  cases hl2:qG f s with
  | none=>rfl
  | some r =>
   obtain ⟨n,hn⟩:=qhR hl2;cases n with
   | zero=>simp [qcQ] at hn
   | succ n =>
    simp only [qcQ,h] at hn;rw [qjW hn] at hl;cases hl
theorem qfz {s:σ} {r:ρ} (h:f s = some (.inr r)):qG f s = some r:=qjW (n:=1) (by simp [qcQ,h])
theorem qzJ (n:Nat) (I:Nat->σ->Prop) (Q:ρ->Prop)
  (hs:∀ i s,i<=n->I i s->(∃ s',f s = some (.inl s')/\i < n/\I (i + 1) s')\/(∃ r,f s = some (.inr r)/\Q r)) {s:σ} (h0:I 0 s):∃ r,qG f s = some r/\Q r:=by
 have h:∀ k i s,n - i = k->i<=n->I i s->∃ r,qG f s = some r/\Q r:=by
  intro k;induction k with
  | zero =>
   intro i s hk hi hI;rcases hs i s hi hI with ⟨s',_,h,_⟩ | ⟨r,h,hq⟩
   ·omega
   ·exact ⟨r,qfz h,hq⟩
  | succ k ih =>
   intro i s hk hi hI;rcases hs i s hi hI with ⟨s',h,hlt,hI'⟩ | ⟨r,h,hq⟩
   ·obtain ⟨r,hr,hq⟩:=ih (i + 1) s' (by omega) (by omega) hI';exact ⟨r,by rw [qm6 h,hr],hq⟩
   ·exact ⟨r,qfz h,hq⟩
 exact h n 0 s (by omega) (by omega) h0
end
def qa3 {α ρ:Type} (g:Nat->α->Option ρ):Nat->List α->Option ρ
 | _,[]=>none
 | k,a :: l=>match g k a with
  | some r=>some r
  | none=>qa3 g (k + 1) l
def qxF {ρ:Type}:Option ρ->Unit ⊕ ρ
 | some r=>.inr r
 | none=>.inl ()
def stp {ρ:Type} (i:Nat):Option ρ->Int ⊕ (Unit ⊕ ρ)
 | some r=>.inr (.inr r)
 | none=>.inl ((i:Int) + 1)
theorem qyR {α ρ:Type} (l:List α) {f:Int->Option (Int ⊕ (Unit ⊕ ρ))} (g:Nat->α->Option ρ)
  (h:∀ (i:Nat) (a:α),l[i]? = some a->f i = some (stp i (g i a)))
  (he:f l.length = some (.inr (.inl ()))):qG f 0 = some (qxF (qa3 g 0 l)):=by
 have key:∀ (l2 l1:List α),l1 ++ l2 = l->qG f (l1.length:Nat) = some (qxF (qa3 g l1.length l2)):=by
  intro l2;induction l2 with
  | nil =>
   intro l1 e;have:l1 = l:=by simpa using e
   subst this;rw [qfz he]; rfl
  | cons a l2 ih =>
   intro l1 e;have hi:l[l1.length]? = some a:=by rw [<- e]; simp
   have hf:=h _ _ hi;simp only [qa3];cases hg:g l1.length a with
   | some r=>rw [hg] at hf; rw [qfz hf]; rfl
   | none =>
    rw [hg] at hf;rw [qm6 hf];have:=ih (l1 ++ [a]) (by simp [e]);simpa using this
 simpa using key l [] rfl
end Go.Tx
end
section
namespace Go.Tx
open Go
def Ok {α:Type} (o:Option α) (Q:α->Prop):Prop:=∃ a,o = some a/\Q a
section
variable {α β σ ρ τ:Type}
theorem qnx {a:α} {Q:α->Prop}:Ok (some a) Q ↔ Q a:=⟨λ⟨_,h,hq⟩=>by cases h; exact hq,λh=>⟨a,rfl,h⟩⟩
theorem ok_none {Q:α->Prop}:Ok (none:Option α) Q ↔ False:=⟨λ⟨_,h,_⟩=>(by cases h),λh=>h.elim⟩
theorem ok_eq {o:Option α} {a:α}:Ok o (λr=>r = a) ↔ o = some a:=⟨λ⟨_,h,hq⟩=>by rw [h,hq],λh=>⟨a,h,rfl⟩⟩
theorem Ok.eq {o:Option α} {a:α} (h:Ok o (λr=>r = a)):o = some a:=ok_eq.1 h
theorem Ok.mono {o:Option α} {P Q:α->Prop} (h:Ok o P) (hq:∀ a,P a->Q a):Ok o Q:=by obtain ⟨a,h1,h2⟩:=h; exact ⟨a,h1,hq a h2⟩
theorem Ok.bind {o:Option α} {k:α->Option β} {P:α->Prop} {Q:β->Prop} (h:Ok o P) (hk:∀ a,P a->Ok (k a) Q):Ok (o.bind k) Q:=by
 obtain ⟨a,h1,h2⟩:=h; rw [h1]; exact hk a h2
theorem qBz {o:Option α} {k:α->Option β} {Q:β->Prop}:Ok (o.bind k) Q ↔ Ok o λa=>Ok (k a) Q:=by
 cases o with
 | none=>simp [ok_none]
 | some a=>simp [qnx]
theorem qeH {l:List α} {a:α} (h:l.length<=4294967295):app l [a] = some (l ++ [a]):=qAs (by simp; omega)
theorem qye {l2:List α} (h:l2.length<=4294967296):app [] l2 = some l2:=by rw [qAs (by simpa using h)]; rfl
theorem qAz {l:List α} {a b:Int} (h:0<=a/\a<=b/\b<=l.length):slc l a b = some ((l.take b.toNat).drop a.toNat):=by unfold slc; rw [if_pos h]
def Rnd (o:Option (σ ⊕ ρ)) (I:σ->Prop) (Q:ρ->Prop):Prop:=Ok o λx=>match x with
 | .inl s=>I s
 | .inr r=>Q r
theorem qaz {s:σ} {I:σ->Prop} {Q:ρ->Prop}:Rnd (some (.inl s)) I Q ↔ I s:=qnx
theorem qa1 {r:ρ} {I:σ->Prop} {Q:ρ->Prop}:Rnd (some (.inr r):Option (σ ⊕ ρ)) I Q ↔ Q r:=qnx
theorem qn4 {f:σ->Option (σ ⊕ ρ)} (μ:σ->Nat) (I:σ->Prop) (Q:ρ->Prop) {s:σ} (h0:I s)
  (hs:∀ s,I s->Rnd (f s) (λs'=>I s'/\μ s' < μ s) Q):Ok (qG f s) Q:=by
 have key:∀ n s,μ s<=n->I s->Ok (qG f s) Q:=by
  intro n;induction n with
  | zero =>
   intro s hn hI;obtain ⟨x,hx,h⟩:=hs s hI;cases x with
   | inl s'=>exact absurd h.2 (by omega)
   | inr r=>exact ⟨r,qfz hx,h⟩
  | succ n ih =>
   intro s hn hI;obtain ⟨x,hx,h⟩:=hs s hI;cases x with
   | inl s'=>rw [qm6 hx]; exact ih s' (by have:=h.2; omega) h.1
   | inr r=>exact ⟨r,qfz hx,h⟩
 exact key _ s (Nat.le_refl _) h0
theorem qdk {f:σ->Option (σ ⊕ ρ)} (n:Nat) (I:Nat->σ->Prop) (Q:ρ->Prop) {s:σ} (h0:I 0 s)
  (hs:∀ i s,i<=n->I i s->Rnd (f s) (λs'=>i < n/\I (i + 1) s') Q):Ok (qG f s) Q:=by
 obtain ⟨r,h1,h2⟩:=qzJ n I Q (λi s hi hI=>by
  obtain ⟨x,hx,h⟩:=hs i s hi hI;cases x with
  | inl s'=>exact .inl ⟨s',hx,h⟩
  | inr r=>exact .inr ⟨r,hx,h⟩) h0
 exact ⟨r,h1,h2⟩
theorem qA4 {o:Option (α ⊕ β)} {k:α->Option β} {Q:β->Prop}:Ok (o.bind (Sum.elim k some)) Q ↔ Ok o λx=>match x with
  | .inl a=>Ok (k a) Q
  | .inr b=>Q b:=by
 rw [qBz];cases o with
 | none=>simp [ok_none]
 | some x=>cases x <;> simp [qnx]
end
theorem qaS {α:Type} {l:List α} {i:Nat} {a d:α} (h:l[i]? = some a):l.getD i d = a:=by simp [h]
theorem qc0 {α:Type} {l:List α} {i:Nat} (d:α) (h:i < l.length):l.take (i + 1) = l.take i ++ [l.getD i d]:=by
 rw [List.take_add_one]; simp [h]
end Go.Tx
end
section
namespace Go.Tx
open Go
section
variable {α β ρ τ:Type}
theorem qaQ {l:List α} {i:Nat} {a:α} (h:l[i]? = some a):i < l.length:=(List.getElem?_eq_some_iff.1 h).1
theorem qaO (l:List α) (K:Int->Option (Int ⊕ (Unit ⊕ ρ))) (g:Nat->α->Option ρ) (h:∀ (i:Nat) (a:α),l[i]? = some a->K i = some (stp i (g i a))) :
  qG (λs=>bif decide (s < (l.length:Int)) then K s else some (.inr (.inl ()))) 0 = some (qxF (qa3 g 0 l)):=by
 refine qyR l g (λi a hi=>?_) ?_
 ·have:=qaQ hi;have e:decide ((i:Int) < (l.length:Int)) = true:=by simp <;> omega
  simp only [e,cond_true];exact h i a hi
 ·simp
theorem q5 {o:Option ρ} {k:Unit->Option ρ}:(some (qxF o)).bind (Sum.elim k some) = (match o with
  | some r=>some r
  | none=>k ()):=by cases o <;> rfl
theorem qba {g:Nat->α->Option ρ}:∀ {l:List α} {k:Nat},qa3 g k l = none ↔ ∀ i a,l[i]? = some a->g (k + i) a = none
 | [],k=>by simp [qa3]
 | a :: l,k=>by
  simp only [qa3];cases hg:g k a with
  | some r =>
   simp only [reduceCtorEq,false_iff];intro h;have:=h 0 a rfl;simp [hg] at this
  | none =>
   simp only
   rw [qba (l:=l) (k:=k + 1)];constructor
   ·intro h i b hb;cases i with
    | zero=>simp at hb; subst hb; simpa using hg
    | succ i=>have:=h i b (by simpa using hb); rw [<- this]; congr 1; omega
   ·intro h i b hb;have:=h (i + 1) b (by simpa using hb);rw [<- this]; congr 1; omega
theorem qaH {g:Nat->α->Option ρ} {r:ρ}:∀ {l:List α} {k:Nat},qa3 g k l = some r->∃ i a,l[i]? = some a/\g (k + i) a = some r/\∀ j b,j < i->l[j]? = some b->g (k + j) b = none
 | [],k,h=>by simp [qa3] at h
 | a :: l,k,h=>by
  simp only [qa3] at h;cases hg:g k a with
  | some r' =>
   rw [hg] at h;simp only [qb] at h;subst h;exact ⟨0,a,rfl,by simpa using hg,λj b hj=>by omega⟩
  | none =>
   rw [hg] at h;obtain ⟨i,b,h1,h2,h3⟩:=qaH (l:=l) (k:=k + 1) h;refine ⟨i + 1,b,by simpa using h1,by rw [<- h2]; congr 1; omega,λj c hj hc=>?_⟩;cases j with
   | zero=>simp at hc; subst hc; simpa using hg
   | succ j=>have:=h3 j c (by omega) (by simpa using hc); rw [<- this]; congr 1; omega
theorem qyA (l:List α) (pf:α->Option Bool) (p:α->Bool) (h:∀ x ∈ l,pf x = some (p x)) (hl:l.length<=1000000000) :
  ((qG (λ(s2:Int) =>
   bif decide (s2 < (l.length:Int)) then
    (idx l s2).bind λx3 =>
    (pf x3).bind λx4 =>
    bif x4 then
     some (.inr (.inr s2))
    else
     some (.inl (IntKind.wrap .i64 (s2 + 1)))
   else
    some (.inr (.inl ()))) 0).bind (Sum.elim (λ(p5:Unit) =>
  some (-1)) some)).bind (λx1=>some (decide (x1>=0))) = some (l.any p):=by
 rw [qaO l _ (λi a=>if p a then some (i:Int) else none) (λi a hi=>by
  have:=qaQ hi;rw [qV hi];simp only [qa];rw [h a (List.mem_of_getElem? hi)];simp only [qa];cases hp:p a
  ·simp only [cond_false,qf,if_false,stp]; rw [qhp (by omega) (by omega)]
  ·simp [stp]),q5]
 cases hf:qa3 (λi a=>if p a then some (i:Int) else none) 0 l with
 | none =>
  rw [qba] at hf;have:l.any p = false:=by
   rw [List.any_eq_false];intro x hx;obtain ⟨i,hi⟩:=List.mem_iff_getElem?.1 hx;have:=hf i x hi;simpa using this
  rw [this]; rfl
 | some r =>
  obtain ⟨i,a,h1,h2,_⟩:=qaH hf;have hp:p a = true:=by
   cases hp:p a
   ·simp [hp] at h2
   ·rfl
  have:l.any p = true:=List.any_eq_true.2 ⟨a,List.mem_of_getElem? h1,hp⟩;rw [this];simp only [hp,if_true,qb] at h2;simp only [qa];have:decide (r>=0) = true:=by simp <;> omega
  rw [this]
def qiB:List Int->Int
 | []=>0
 | e :: l=>if e = 0 then qiB l else e
theorem qo5:∀ (l:List Int) (k:Nat),qa3 (λ_ e=>if e = 0 then none else some e) k l = if qiB l = 0 then none else some (qiB l)
 | [],k=>rfl
 | e :: l,k=>by
  simp only [qa3,qiB];by_cases h:e = 0
  ·simp only [h,if_true]; exact qo5 l (k + 1)
  ·simp [h]
theorem qwE (l:List Int) (hl:l.length<=1000000000) :
  (qG (λ(s2:Int) =>
   bif decide (s2 < (l.length:Int)) then
    (idx l s2).bind λx3 =>
    bif !(decide (x3 = 0)) then
     some (.inr (.inr x3))
    else
     some (.inl (IntKind.wrap .i64 (s2 + 1)))
   else
    some (.inr (.inl ()))) 0).bind (Sum.elim (λ(p4:Unit)=>some 0) some) = some (qiB l):=by
 rw [qaO l _ (λ_ e=>if e = 0 then none else some e) (λi a hi=>by
  have:=qaQ hi;rw [qV hi];simp only [qa];by_cases h:a = 0
  ·simp only [h,decide_true,Bool.not_true,cond_false,if_true,stp]; rw [qhp (by omega) (by omega)]
  ·simp [h,stp]),q5,qo5]
 by_cases h:qiB l = 0
 ·simp [h]
 ·simp [h]
def qaM (g:Nat->α->Int):Nat->List α->Int × Int
 | _,[]=>(0,0)
 | k,a :: l=>if g k a = 0 then qaM g (k + 1) l else ((k:Int),g k a)
theorem qfQ (g:Nat->α->Int):∀ (l:List α) (k:Nat),(match qa3 (λi a=>if g i a = 0 then none else some ((i:Int),g i a)) k l with
  | some r=>some r
  | none=>some (0,0)) = some (qaM g k l)
 | [],k=>rfl
 | a :: l,k=>by
  simp only [qa3,qaM];by_cases h:g k a = 0
  ·simp only [h,if_true]; exact qfQ g l (k + 1)
  ·simp [h]
theorem qub (l:List α) (cb:Int->α->Option Int) (g:Nat->α->Int) (h:∀ (i:Nat) a,l[i]? = some a->cb i a = some (g i a)) (hl:l.length<=1000000000) :
  (qG (λ(s2:Int) =>
   bif decide (s2 < (l.length:Int)) then
    (idx l s2).bind λx3 =>
    (cb s2 x3).bind λx4 =>
    bif !(decide (x4 = 0)) then
     some (.inr (.inr (s2,x4)))
    else
     some (.inl (IntKind.wrap .i64 (s2 + 1)))
   else
    some (.inr (.inl ()))) 0).bind (Sum.elim (λ(p5:Unit) =>
  some (0,0)) some) = some (qaM g 0 l):=by
 rw [qaO l _ (λi a=>if g i a = 0 then none else some ((i:Int),g i a)) (λi a hi=>by
  have:=qaQ hi;rw [qV hi];simp only [qa];rw [h i a hi];simp only [qa];by_cases h:g i a = 0
  ·simp only [h,decide_true,Bool.not_true,cond_false,if_true,stp]; rw [qhp (by omega) (by omega)]
  ·simp [h,stp]),q5,<- qfQ g l 0]
 cases qa3 (λi a=>if g i a = 0 then none else some ((i:Int),g i a)) 0 l <;> rfl
theorem qb6 {g:Nat->α->Int}:∀ {l:List α} {k:Nat},(qaM g k l).2 = 0 ↔ ∀ i a,l[i]? = some a->g (k + i) a = 0
 | [],k=>by simp [qaM]
 | a :: l,k=>by
  simp only [qaM];by_cases h:g k a = 0
  ·rw [if_pos h,qb6];constructor
   ·intro hh i b hb;cases i with
    | zero=>simp at hb; subst hb; simpa using h
    | succ i=>have:=hh i b (by simpa using hb); rw [<- this]; congr 1; omega
   ·intro hh i b hb;have:=hh (i + 1) b (by simpa using hb);rw [<- this]; congr 1; omega
  ·rw [if_neg h];constructor
   ·intro hh; exact absurd hh h
   ·intro hh; exact absurd (by simpa using hh 0 a rfl) h
end
end Go.Tx
end
section
namespace Go.Tx
open Go
end Go.Tx
end
section
namespace Go.Tx
open Go
section
variable {α:Type}
end
end Go.Tx
end
section
namespace Go.Tx
open Go
section
variable {α β:Type}
def mkL (n:Nat) (f:Nat->α):List α:=(List.range n).map f
theorem qBh (n:Nat) (f:Nat->α):(mkL n f).length = n:=by simp [mkL]
theorem qAZ {n:Nat} (f:Nat->α) {k:Nat} (h:k < n):(mkL n f)[k]? = some (f k):=by simp [mkL,h]
theorem quD (l:List α) (d:α):l = mkL l.length λk=>l.getD k d:=by
 apply List.ext_getElem?;intro k;by_cases h:k < l.length
 ·rw [qAZ _ h]; simp [h]
 ·rw [List.getElem?_eq_none (by omega),List.getElem?_eq_none (by rw [qBh]; omega)]
theorem qA0 {K:List β × Int->Option ((List β × Int) ⊕ List β)} (l:List α) (f:α->β)
  (h:∀ (i:Nat) a out,l[i]? = some a->out.length = i->K (out,(i:Int)) = some (.inl (out ++ [f a],(i:Int) + 1))) (he:∀ out,out.length = l.length->K (out,(l.length:Int)) = some (.inr out)):qG K ([],0) = some (l.map f):=by
 refine Ok.eq (qdk l.length (λi (s:List β × Int)=>s = ((l.take i).map f,(i:Int))) (λr=>r = l.map f) (by simp) ?_);rintro i s hi rfl;by_cases hlt:i < l.length
 ·have ha:l[i]? = some l[i]:=by simp [hlt]
  rw [h i _ _ ha (by simp; omega),qaz];refine ⟨hlt,?_⟩;have e:(l.take (i + 1)).map f = (l.take i).map f ++ [f l[i]]:=by rw [List.take_add_one,ha]; simp only [List.map_append,Option.toList_some,List.map_cons,List.map_nil]
  rw [e]; rfl
 ·have:i = l.length:=by omega
  subst this;rw [he _ (by simp),qa1];simp
end
end Go.Tx
end
section
set_option maxRecDepth 100000
namespace Go.Proofs.YtkcaaaiihhhnmaaGreatDoor
open Go Go.Ab Go.Tx
noncomputable section
@[reducible] def I:Ty:=.int .i64
@[reducible] def w64 (n:Int):Int:=IntKind.wrap .i64 n
def qqN:List (List Tmp × FuncId × Kind × Join)->List Tmp->FuncId->Kind->Option Join
 | [],_,_,_=>none
 | (c,f,k,j) :: l,c',f',k'=>if f = f' then (if k = k' then (if c = c' then some j else qqN l c' f' k') else qqN l c' f' k') else qqN l c' f' k'
def qpT:Nat:=7
def qCA:Nat:=121
def qcs (js:List (List Tmp × FuncId × Kind × Join)) (inl:List (List Tmp × FuncId × Tmp)):TH where
 lib:=λg=>decide (g = qpT) || decide (g = qCA)
 join:=qqN js
 inl:=λc f d=>inl.any λ(c',f',d')=>decide (f = f') && decide (d = d') && decide (c = c')
def qR (n:Int):Option Int:=if 0<=n/\n < 18446744073709551616 then some (Lib.ctz 64 n.toNat:Nat) else none
def Lb:FuncId->Option (List V->Option V):=λg=>if g = qpT then some (λargs=>match args with
  | []=>some (.val (.bool true))
  | _=>none) else if g = qCA then some (λargs=>match args with
  | [.val (.int .u64 n)]=>(qR n).map λr=>.val (.int .i64 r)
  | _=>none) else none
theorem hJ {js:List (List Tmp × FuncId × Kind × Join)} {inl:List (List Tmp × FuncId × Tmp)}:∀ g,(qcs js inl).lib g = false->Lb g = none:=λg h=>by
 simp only [qcs,Bool.or_eq_false_iff,decide_eq_false_iff_not] at h;simp [Lb,h.1,h.2]
def KT (e:Entry) (j:TH) (l:List Entry) (n:Nat):Prop:=∀ x:denP e.ps,fnT Tryz.prog Hn.hints j (qoK l) n e.g (qeg e.ps x) e.rs = e.F x
abbrev OT (e:Entry):Prop:=qbn Tryz.prog Hn.hints Lb e
theorem entK {e:Entry} {j:TH} {l:List Entry} {n:Nat} (h:TOk Tryz.prog Hn.hints Lb (qoK l)) (hj:∀ g,j.lib g = false->Lb g = none) (k:KT e j l n):OT e:=qcS h hj n e.g e.ps e.rs e.F k
abbrev gT:Ty:=.pair I (.pair I .unit)
def qiK:Option Bool:=some true
def qc1:Entry:=⟨7,[],[(.bool,0)],λ_=>qiK⟩
theorem qql:qbn Tryz.prog Hn.hints Lb qc1:=λx y h vs hv=>by
 obtain rfl:true = y:=Option.some.inj h;simp only [qc1,qeg,RVL] at hv;subst hv;refine ⟨.val (.bool true),⟨1,λm hm=>?_⟩,by simp [qmL,qc1,ofL,qbU,ofTy,RV,RTy]⟩;obtain ⟨m',rfl⟩:∃ m',m = m' + 1:=⟨m - 1,by omega⟩
 simp [qrU,Lb,qpT,qc1]
def q7:Entry:=⟨121,[.ty (.int .u64)],[(I,0)],λx=>qR x⟩
theorem qfi:qbn Tryz.prog Hn.hints Lb q7:=λx y h vs hv=>by
 simp only [q7] at h hv x y;simp only [qeg,qBP,ofTy,RVL,RV,RTy] at hv;obtain ⟨v,l,rfl,rfl,rfl⟩:=hv;refine ⟨.val (.int .i64 y),⟨1,λm hm=>?_⟩,by simp [qmL,q7,ofL,qbU,ofTy,RV,RTy]⟩;obtain ⟨m',rfl⟩:∃ m',m = m' + 1:=⟨m - 1,by omega⟩
 simp [qrU,Lb,qpT,qCA,q7,h]
def qds (a0:((List Int) × (List Int) × Unit)):Option Bool :=
 (bif decide ((a0.1.length:Int)<=10) then
   some (decide ((a0.2.1.length:Int)<=10))
  else
   some false).bind λ(p1:Bool) =>
 some p1
def qgd:Entry:=⟨50,[.ty (.pair (.sl I) (.pair (.sl I) .unit))],[(.bool,0)],λx=>qds x⟩
def qq6:TH:=qcs [([],50,.region 1,{ lv:=[⟨none,2,0⟩],ps:=[(.bool,0)],D:=⟨8188⟩,rs:=[⟨0,1⟩],Dn:=⟨7924⟩ })] []
theorem qpS:KT qgd qq6 [] 40:=λx=>by kernel_rfl
theorem qqh:OT qgd:=entK qo hJ qpS
def qjZ (a0:((List (List UInt8)) × (List ((List UInt8) × (List Int) × (List Int) × (List Int) × (List Int) × Unit)) × (List ((List Int) × (List Int) × Unit)) × Unit)):Option Bool :=
 (bif decide ((a0.1.length:Int) > 10) then
   some true
  else
   bif decide ((a0.2.1.length:Int) > 12) then
    some true
   else
    some (decide ((a0.2.2.1.length:Int) > 6))).bind λ(p1:Bool) =>
 bif p1 then
  some false
 else
  (qG (λ(s3:Int) =>
    bif decide (s3 < (a0.1.length:Int)) then
     (idx a0.1 s3).bind λx4 =>
     bif decide ((x4.length:Int) > 30) then
      some (.inr (.inr false))
     else
      some (.inl (w64 (s3 + 1)))
    else
     some (.inr (.inl ()))) 0).bind (Sum.elim (λ(p5:Unit) =>
  (qG (λ(s7:Int) =>
    bif decide (s7 < (a0.2.1.length:Int)) then
     ((idx a0.2.1 s7).bind λx8 =>
      bif decide ((x8.1.length:Int) > 30) then
       some true
      else
       (idx a0.2.1 s7).bind λx9 =>
       (qds (x9.2.1,x9.2.2.1,())).bind λx10 =>
       bif !x10 then
        some true
       else
        (idx a0.2.1 s7).bind λx11 =>
        (qds (x11.2.2.2.1,x11.2.2.2.2.1,())).bind λx12 =>
        some (!x12)).bind λ(p13:Bool) =>
     bif p13 then
      some (.inr (.inr false))
     else
      some (.inl (w64 (s7 + 1)))
    else
     some (.inr (.inl ()))) 0).bind (Sum.elim (λ(p14:Unit) =>
  (qG (λ(s16:Int) =>
    bif decide (s16 < (a0.2.2.1.length:Int)) then
     (idx a0.2.2.1 s16).bind λx17 =>
     (qds x17).bind λx18 =>
     bif !x18 then
      some (.inr (.inr false))
     else
      some (.inl (w64 (s16 + 1)))
    else
     some (.inr (.inl ()))) 0).bind (Sum.elim (λ(p19:Unit) =>
  some true) some)) some)) some)
def qiJ:Entry:=⟨8,[.ty (.pair (.sl .str) (.pair (.sl (.pair .str (.pair (.sl I) (.pair (.sl I) (.pair (.sl I) (.pair (.sl I) .unit)))))) (.pair (.sl (.pair (.sl I) (.pair (.sl I) .unit))) .unit)))],[(.bool,0)],λx=>qjZ x⟩
def qtU:TH:=qcs [([],8,.region 1,{ lv:=[⟨none,21,0⟩],ps:=[(.bool,0)],D:=⟨4194240⟩,rs:=[⟨0,1⟩],Dn:=⟨4061056⟩ }),
 ([],8,.block 0,{ lv:=[],ps:=[],abn:=true,D:=⟨68715282440⟩,rs:=[⟨0,1⟩],Dn:=⟨68706893832⟩ }),
 ([],8,.loop 0,{ lv:=[⟨none,3,0⟩],ps:=[(I,0)],D:=⟨68715282440⟩,rs:=[⟨0,1⟩],Dn:=⟨68170022920⟩ }),
 ([],8,.block 2,{ lv:=[],ps:=[],abn:=true,D:=⟨2361183241366103130128⟩,rs:=[⟨0,1⟩],Dn:=⟨2361183241228664176656⟩ }),
 ([],8,.loop 2,{ lv:=[⟨none,4,0⟩],ps:=[(I,0)],D:=⟨2361183241366103130128⟩,rs:=[⟨0,1⟩],Dn:=⟨2356567042814516396048⟩ }),
 ([],8,.region 11,{ lv:=[⟨none,70,0⟩],ps:=[(.bool,0)],D:=⟨2361183232638729584640⟩,rs:=[⟨0,1⟩],Dn:=⟨2356567034224581804032⟩ }),
 ([],8,.block 4,{ lv:=[],ps:=[],abn:=true,D:=⟨38683265044426698767990816⟩,rs:=[⟨0,1⟩],Dn:=⟨38678542677943829122777120⟩ }),
 ([],8,.loop 4,{ lv:=[⟨none,5,0⟩],ps:=[(I,0)],D:=⟨38683265044426698767990816⟩,rs:=[⟨0,1⟩],Dn:=⟨38376311223040171829100576⟩ })] []
theorem qt6:KT qiJ qtU [qgd] 40:=λx=>by kernel_rfl
theorem qtp:OT qiJ:=entK (qg qqh qo) hJ qt6
def qeK (a0:Int) (a1:Int) (a2:Int):Option Bool :=
 (bif decide (a1<=a0) then
   some (decide (a0<=a2))
  else
   some false).bind λ(p1:Bool) =>
 some p1
def qeh:Entry:=⟨9,[.ty I,.ty I,.ty I],[(.bool,0)],λx=>qeK x.1 x.2.1 x.2.2⟩
def qqD:TH:=qcs [([],9,.region 1,{ lv:=[⟨none,6,0⟩],ps:=[(.bool,0)],D:=⟨32704⟩ })] []
theorem qpZ:KT qeh qqD [] 40:=λx=>by kernel_rfl
theorem qjL:OT qeh:=entK qo hJ qpZ
def qfn (a0:(List (List UInt8))):Option (List (List UInt8)) :=
 (app [] a0).bind λx1 =>
 some x1
def qdY:Entry:=⟨54,[.ty (.sl .str)],[((.sl .str),1)],λx=>qfn x⟩
def qlM:TH:=qcs [] []
theorem qlS:KT qdY qlM [] 40:=λx=>by kernel_rfl
theorem ql4:OT qdY:=entK qo hJ qlS
def qb5 (a0:(List Int)):Option (List Int) :=
 (app [] a0).bind λx1 =>
 some x1
def qcL:Entry:=⟨21,[.ty (.sl I)],[((.sl I),1)],λx=>qb5 x⟩
def qnV:TH:=qcs [] []
theorem qn3:KT qcL qnV [] 40:=λx=>by kernel_rfl
theorem qhl:OT qcL:=entK qo hJ qn3
def qaD (a0:((List Int) × (List Int) × Unit)):Option ((List Int) × (List Int) × Unit) :=
 (qb5 a0.1).bind λx1 =>
 (qb5 a0.2.1).bind λx2 =>
 some (x1,x2,())
def qd2:Entry:=⟨55,[.ty (.pair (.sl I) (.pair (.sl I) .unit))],[((.pair (.sl I) (.pair (.sl I) .unit)),1)],λx=>qaD x⟩
def ql1:TH:=qcs [] []
theorem qlW:KT qd2 ql1 [qcL] 40:=λx=>by kernel_rfl
theorem qlN:OT qd2:=entK (qg qhl qo) hJ qlW
def qbB (a0:((List (List UInt8)) × (List ((List UInt8) × (List Int) × (List Int) × (List Int) × (List Int) × Unit)) × (List ((List Int) × (List Int) × Unit)) × Unit)):Option ((List (List UInt8)) × (List ((List UInt8) × (List Int) × (List Int) × (List Int) × (List Int) × Unit)) × (List ((List Int) × (List Int) × Unit)) × Unit) :=
 (qfn a0.1).bind λx1 =>
 (qG (λ(s4:(Int × (List (List UInt8)) × (List ((List UInt8) × (List Int) × (List Int) × (List Int) × (List Int) × Unit)) × (List ((List Int) × (List Int) × Unit)))) =>
   bif decide (s4.1 < (a0.2.1.length:Int)) then
    (idx a0.2.1 s4.1).bind λx5 =>
    (idx a0.2.1 s4.1).bind λx6 =>
    (qaD (x6.2.1,x6.2.2.1,())).bind λx7 =>
    (idx a0.2.1 s4.1).bind λx8 =>
    (qaD (x8.2.2.2.1,x8.2.2.2.2.1,())).bind λx9 =>
    (app s4.2.2.1 ([(x5.1,x7.1,x7.2.1,x9.1,x9.2.1,())])).bind λx10 =>
    some (.inl (w64 (s4.1 + 1),s4.2.1,x10,s4.2.2.2))
   else
    some (.inr (s4.2.1,s4.2.2.1,s4.2.2.2))) (0,x1,[],[])).bind λ(p11:((List (List UInt8)) × (List ((List UInt8) × (List Int) × (List Int) × (List Int) × (List Int) × Unit)) × (List ((List Int) × (List Int) × Unit)))) =>
 (qG (λ(s13:(Int × (List (List UInt8)) × (List ((List UInt8) × (List Int) × (List Int) × (List Int) × (List Int) × Unit)) × (List ((List Int) × (List Int) × Unit)))) =>
   bif decide (s13.1 < (a0.2.2.1.length:Int)) then
    (idx a0.2.2.1 s13.1).bind λx14 =>
    (qaD x14).bind λx15 =>
    (app s13.2.2.2 ([x15])).bind λx16 =>
    some (.inl (w64 (s13.1 + 1),s13.2.1,s13.2.2.1,x16))
   else
    some (.inr (s13.2.1,s13.2.2.1,s13.2.2.2))) (0,p11.1,p11.2.1,p11.2.2)).bind λ(p17:((List (List UInt8)) × (List ((List UInt8) × (List Int) × (List Int) × (List Int) × (List Int) × Unit)) × (List ((List Int) × (List Int) × Unit)))) =>
 some (p17.1,p17.2.1,p17.2.2,())
def qdS:Entry:=⟨11,[.ty (.pair (.sl .str) (.pair (.sl (.pair .str (.pair (.sl I) (.pair (.sl I) (.pair (.sl I) (.pair (.sl I) .unit)))))) (.pair (.sl (.pair (.sl I) (.pair (.sl I) .unit))) .unit)))],[((.pair (.sl .str) (.pair (.sl (.pair .str (.pair (.sl I) (.pair (.sl I) (.pair (.sl I) (.pair (.sl I) .unit)))))) (.pair (.sl (.pair (.sl I) (.pair (.sl I) .unit))) .unit))),0)],λx=>qbB x⟩
def qss:TH:=qcs [([],11,.block 0,{ lv:=[⟨some 0,3,0⟩,⟨some 0,3,1⟩,⟨some 0,3,2⟩],ps:=[((.sl .str),1),((.sl (.pair .str (.pair (.sl I) (.pair (.sl I) (.pair (.sl I) (.pair (.sl I) .unit)))))),2),((.sl (.pair (.sl I) (.pair (.sl I) .unit))),1)],D:=⟨8796093021200⟩,wr:=[⟨0,3⟩],rs:=[⟨0,1⟩],Dn:=⟨8796093019152⟩ }),
 ([],11,.loop 0,{ lv:=[⟨none,4,0⟩,⟨some 0,3,0⟩,⟨some 0,3,1⟩,⟨some 0,3,2⟩],ps:=[(I,0),((.sl .str),1),((.sl (.pair .str (.pair (.sl I) (.pair (.sl I) (.pair (.sl I) (.pair (.sl I) .unit)))))),2),((.sl (.pair (.sl I) (.pair (.sl I) .unit))),1)],D:=⟨8796093021200⟩,wr:=[⟨0,3⟩],rs:=[⟨0,1⟩,⟨0,3⟩],Dn:=⟨4393717330960⟩ }),
 ([],11,.block 2,{ lv:=[⟨some 0,3,0⟩,⟨some 0,3,1⟩,⟨some 0,3,2⟩],ps:=[((.sl .str),1),((.sl (.pair .str (.pair (.sl I) (.pair (.sl I) (.pair (.sl I) (.pair (.sl I) .unit)))))),2),((.sl (.pair (.sl I) (.pair (.sl I) .unit))),2001)],D:=⟨2305834213120671776⟩,wr:=[⟨0,3⟩],rs:=[⟨0,1⟩],Dn:=⟨2305816620934627360⟩ }),
 ([],11,.loop 2,{ lv:=[⟨none,5,0⟩,⟨some 0,3,0⟩,⟨some 0,3,1⟩,⟨some 0,3,2⟩],ps:=[(I,0),((.sl .str),1),((.sl (.pair .str (.pair (.sl I) (.pair (.sl I) (.pair (.sl I) (.pair (.sl I) .unit)))))),2),((.sl (.pair (.sl I) (.pair (.sl I) .unit))),2001)],D:=⟨2305834213120671776⟩,wr:=[⟨0,3⟩],rs:=[⟨0,1⟩,⟨0,3⟩],Dn:=⟨1147265616793567264⟩ })] []
theorem qso:KT qdS qss [qdY,qd2] 40:=λx=>by kernel_rfl
theorem qgR:OT qdS:=entK (qg ql4 (qg qlN qo)) hJ qso
def qm (a0:Bool) (a1:Int):Option Int :=
 bif a0 then
  some 0
 else
  some a1
def qy:Entry:=⟨73,[.ty .bool,.ty I],[(I,0)],λx=>qm x.1 x.2⟩
def qeC:TH:=qcs [] []
theorem qeu:KT qy qeC [] 40:=λx=>by kernel_rfl
theorem q9:OT qy:=entK qo hJ qeu
def qx (a0:(List Int)):Option Int :=
 (qG (λ(s2:Int) =>
   bif decide (s2 < (a0.length:Int)) then
    (idx a0 s2).bind λx3 =>
    bif !(decide (x3 = 0)) then
     some (.inr (.inr x3))
    else
     some (.inl (w64 (s2 + 1)))
   else
    some (.inr (.inl ()))) 0).bind (Sum.elim (λ(p4:Unit) =>
 some 0) some)
def qI:Entry:=⟨72,[.ty (.sl I)],[(I,0)],λx=>qx x⟩
def qfg:TH:=qcs [([],72,.block 0,{ lv:=[],ps:=[],abn:=true,D:=⟨32656⟩ }),
 ([],72,.loop 0,{ lv:=[⟨none,7,0⟩],ps:=[(I,0)],D:=⟨32656⟩ })] []
theorem qfo:KT qI qfg [] 40:=λx=>by kernel_rfl
theorem qaA:OT qI:=entK qo hJ qfo
def qq (a0:Int) (a1:Int) (a2:Int):Option Bool :=
 (bif decide (a1<=a0) then
   some (decide (a0<=a2))
  else
   some false).bind λ(p1:Bool) =>
 some p1
def qz:Entry:=⟨74,[.ty I,.ty I,.ty I],[(.bool,0)],λx=>qq x.1 x.2.1 x.2.2⟩
def qew:TH:=qcs [([],74,.region 1,{ lv:=[⟨none,6,0⟩],ps:=[(.bool,0)],D:=⟨32704⟩ })] []
theorem qeP:KT qz qew [] 40:=λx=>by kernel_rfl
theorem q8:OT qz:=entK qo hJ qeP
def qbv (a0:(List UInt8)):Option Bool :=
 (qG (λ(s2:Int) =>
   bif decide (s2 < (a0.length:Int)) then
    (idx a0 s2).bind λx3 =>
    ((qq (w64 ((x3.toNat:Int))) (97:Int) (122:Int)).bind λx4 =>
     bif x4 then
      some true
     else
      (qq (w64 ((x3.toNat:Int))) (65:Int) (90:Int)).bind λx5 =>
      some x5).bind λ(p6:Bool) =>
    (bif !p6 then
      bif decide (s2 = 0) then
       some true
      else
       bif !(decide (w64 ((x3.toNat:Int)) = 45)) then
        (qq (w64 ((x3.toNat:Int))) (48:Int) (57:Int)).bind λx7 =>
        some (!x7)
       else
        some false
     else
      some false).bind λ(p8:Bool) =>
    bif p8 then
     some (.inr (.inr false))
    else
     some (.inl (w64 (s2 + 1)))
   else
    some (.inr (.inl ()))) 0).bind (Sum.elim (λ(p9:Unit) =>
 (qq (a0.length:Int) (1:Int) (12:Int)).bind λx10 =>
 some x10) some)
def qeO:Entry:=⟨156,[.ty .str],[(.bool,0)],λx=>qbv x⟩
def qoe:TH:=qcs [([],156,.block 0,{ lv:=[],ps:=[],abn:=true,D:=⟨137438953272⟩ }),
 ([],156,.loop 0,{ lv:=[⟨none,8,0⟩],ps:=[(I,0)],D:=⟨137438953272⟩ }),
 ([],156,.region 5,{ lv:=[⟨none,5,0⟩],ps:=[(.bool,0)],D:=⟨2064416⟩ }),
 ([],156,.region 6,{ lv:=[⟨none,35,0⟩],ps:=[(.bool,0)],D:=⟨68717379584⟩ })] []
theorem qoo:KT qeO qoe [qz] 40:=λx=>by kernel_rfl
theorem qof:OT qeO:=entK (qg q8 qo) hJ qoo
def qbP (a0:(List Int)) (a1:Int):Option Int :=
 (qG (λ(s2:Int) =>
   bif decide (s2 < (a0.length:Int)) then
    (idx a0 s2).bind λx3 =>
    bif decide (a1 = x3) then
     some (.inr (.inr s2))
    else
     some (.inl (w64 (s2 + 1)))
   else
    some (.inr (.inl ()))) 0).bind (Sum.elim (λ(p4:Unit) =>
 some (-1)) some)
def qbw:Entry:=⟨221,[.ty (.sl I),.ty I],[(I,0)],λx=>qbP x.1 x.2⟩
def qgc:TH:=qcs [([],221,.block 0,{ lv:=[],ps:=[],abn:=true,D:=⟨524064⟩ }),
 ([],221,.loop 0,{ lv:=[⟨none,8,0⟩],ps:=[(I,0)],D:=⟨524064⟩ })] []
theorem qfW:KT qbw qgc [] 40:=λx=>by kernel_rfl
theorem qf5:OT qbw:=entK qo hJ qfW
def qae (a0:(List Int)) (a1:Int):Option Bool :=
 (qbP a0 a1).bind λx1 =>
 some (decide (x1>=0))
def qaT:Entry:=⟨193,[.ty (.sl I),.ty I],[(.bool,0)],λx=>qae x.1 x.2⟩
def qeU:TH:=qcs [] []
theorem qeW:KT qaT qeU [qbw] 40:=λx=>by kernel_rfl
theorem qeV:OT qaT:=entK (qg qf5 qo) hJ qeW
def qbc (a0:(List Int)) (a1:Int):Option Int :=
 ((qG (λ(s2:(Int × Int)) =>
    bif decide (s2.1 < (a0.length:Int)) then
     (idx a0 s2.1).bind λx3 =>
     (qq x3 (0:Int) (w64 (a1 - 1))).bind λx4 =>
     (qm x4 (6:Int)).bind λx5 =>
     (qm (decide (x3 > s2.2)) (9:Int)).bind λx6 =>
     (qx ([x5,x6])).bind λx7 =>
     bif !(decide (x7 = 0)) then
      some (.inr (.inr (s2.1,x7,x3)))
     else
      some (.inl (w64 (s2.1 + 1),x3))
    else
     some (.inr (.inl s2.2))) (0,(-1))).bind (Sum.elim (λ(p8:Int) =>
  some (0,0,p8)) some)).bind λ(p9:(Int × Int × Int)) =>
 some p9.2.1
def qcB:Entry:=⟨194,[.ty (.sl I),.ty I],[(I,0)],λx=>qbc x.1 x.2⟩
def qi1:TH:=qcs [([11],70,.inl 0,{ lv:=[⟨none,4,0⟩,⟨none,5,0⟩,⟨some 0,5,0⟩],ps:=[(I,0),(I,0),(I,0)],D:=⟨33554416⟩,wr:=[⟨0,5⟩],rs:=[⟨0,3⟩,⟨0,5⟩],Dn:=⟨33488880⟩ }),
 ([11],70,.block 0,{ lv:=[⟨some 0,5,0⟩],ps:=[(I,0)],abn:=true,D:=⟨33552832⟩,wr:=[⟨0,5⟩] }),
 ([11],70,.loop 0,{ lv:=[⟨none,11,0⟩,⟨some 0,5,0⟩],ps:=[(I,0),(I,0)],D:=⟨33552832⟩,wr:=[⟨0,5⟩],rs:=[⟨0,3⟩,⟨0,5⟩],Dn:=⟨33487296⟩ })] []
theorem qiM:KT qcB qi1 [qI,qy,qz] 40:=λx=>by kernel_rfl
theorem qiD:OT qcB:=entK (qg qaA (qg q9 (qg q8 qo))) hJ qiM
def qaC (a0:((List Int) × (List Int) × Unit)) (a1:Int):Option Int :=
 ((qG (λ(s2:Int) =>
    bif decide (s2 < (a0.1.length:Int)) then
     (idx a0.1 s2).bind λx3 =>
     (qae a0.2.1 x3).bind λx4 =>
     bif x4 then
      some (.inr (.inr s2))
     else
      some (.inl (w64 (s2 + 1)))
    else
     some (.inr (.inl ()))) 0).bind (Sum.elim (λ(p5:Unit) =>
  some (-1)) some)).bind λ(p6:Int) =>
 (qbc a0.1 a1).bind λx7 =>
 (qbc a0.2.1 a1).bind λx8 =>
 (qm (!(decide (p6>=0))) (13:Int)).bind λx9 =>
 (qx ([x7,x8,x9])).bind λx10 =>
 some x10
def qdZ:Entry:=⟨143,[.ty (.pair (.sl I) (.pair (.sl I) .unit)),.ty I],[(I,0)],λx=>qaC x.1 x.2⟩
def qlG:TH:=qcs [([7,9],201,.inl 0,{ lv:=[⟨none,4,0⟩],ps:=[(I,0)],D:=⟨524272⟩,rs:=[⟨0,2⟩],Dn:=⟨522224⟩ }),
 ([7,9],201,.block 0,{ lv:=[],ps:=[],abn:=true,D:=⟨524064⟩ }),
 ([7,9],201,.loop 0,{ lv:=[⟨none,8,0⟩],ps:=[(I,0)],D:=⟨524064⟩,rs:=[⟨0,2⟩],Dn:=⟨522016⟩ })] []
theorem qlI:KT qdZ qlG [qI,qcB,qy,qaT] 40:=λx=>by kernel_rfl
theorem ql2:OT qdZ:=entK (qg qaA (qg qiD (qg q9 (qg qeV qo)))) hJ qlI
def qbl (a0:((List (List UInt8)) × (List ((List UInt8) × (List Int) × (List Int) × (List Int) × (List Int) × Unit)) × (List ((List Int) × (List Int) × Unit)) × Unit)):Option (Int × Int) :=
 (bif decide ((a0.1.length:Int)<=8) then
   bif decide ((a0.2.1.length:Int)<=10) then
    some (decide ((a0.2.2.1.length:Int)<=4))
   else
    some false
  else
   some false).bind λ(p1:Bool) =>
 (qm (decide ((a0.1.length:Int) > 0)) (10:Int)).bind λx2 =>
 (qm p1 (8:Int)).bind λx3 =>
 (qx ([x2,x3])).bind λx4 =>
 bif !(decide (x4 = 0)) then
  some (0,x4)
 else
  ((qG (λ(s6:(Int × (List (List UInt8)))) =>
     bif decide (s6.1 < (a0.1.length:Int)) then
      (idx a0.1 s6.1).bind λx7 =>
      (qbv x7).bind λx8 =>
      (qm x8 (4:Int)).bind λx9 =>
      (qm (!(qfS .str s6.2 x7)) (5:Int)).bind λx10 =>
      (qx ([x9,x10])).bind λx11 =>
      bif !(decide (x11 = 0)) then
       some (.inr (.inr (s6.1,x11,qju .str s6.2 x7)))
      else
       some (.inl (w64 (s6.1 + 1),qju .str s6.2 x7))
     else
      some (.inr (.inl s6.2))) (0,[])).bind (Sum.elim (λ(p12:(List (List UInt8))) =>
   some (0,0,p12)) some)).bind λ(p13:(Int × Int × (List (List UInt8)))) =>
  bif !(decide (p13.2.1 = 0)) then
   some (p13.1,p13.2.1)
  else
   ((qG (λ(s15:(Int × (List (List UInt8)))) =>
      bif decide (s15.1 < (a0.2.1.length:Int)) then
       (idx a0.2.1 s15.1).bind λx16 =>
       (qbv x16.1).bind λx17 =>
       (qm x17 (4:Int)).bind λx18 =>
       (qm (!(qfS .str s15.2 x16.1)) (5:Int)).bind λx19 =>
       (qx ([x18,x19])).bind λx20 =>
       (qaC (x16.2.1,x16.2.2.1,()) (a0.1.length:Int)).bind λx21 =>
       (qaC (x16.2.2.2.1,x16.2.2.2.2.1,()) (a0.1.length:Int)).bind λx22 =>
       (qx ([x20,x21,x22])).bind λx23 =>
       bif !(decide (x23 = 0)) then
        some (.inr (.inr (s15.1,x23,qju .str s15.2 x16.1)))
       else
        some (.inl (w64 (s15.1 + 1),qju .str s15.2 x16.1))
      else
       some (.inr (.inl s15.2))) (0,[])).bind (Sum.elim (λ(p24:(List (List UInt8))) =>
    some (0,0,p24)) some)).bind λ(p25:(Int × Int × (List (List UInt8)))) =>
   bif !(decide (p25.2.1 = 0)) then
    some (p25.1,p25.2.1)
   else
    ((qG (λ(s27:Int) =>
       bif decide (s27 < (a0.2.2.1.length:Int)) then
        (idx a0.2.2.1 s27).bind λx28 =>
        (qaC x28 (a0.1.length:Int)).bind λx29 =>
        bif !(decide (x29 = 0)) then
         some (.inr (.inr (s27,x29)))
        else
         some (.inl (w64 (s27 + 1)))
       else
        some (.inr (.inl ()))) 0).bind (Sum.elim (λ(p30:Unit) =>
     some (0,0)) some)).bind λ(p31:(Int × Int)) =>
    some (p31.1,p31.2)
def qbR:Entry:=⟨88,[.ty (.pair (.sl .str) (.pair (.sl (.pair .str (.pair (.sl I) (.pair (.sl I) (.pair (.sl I) (.pair (.sl I) .unit)))))) (.pair (.sl (.pair (.sl I) (.pair (.sl I) .unit))) .unit)))],[(I,0),(I,0)],λx=>qbl x⟩
def qhn:TH:=qcs [([],88,.region 2,{ lv:=[⟨none,5,0⟩],ps:=[(.bool,0)],D:=⟨536838176⟩,rs:=[⟨0,1⟩],Dn:=⟨519798816⟩ }),
 ([44],139,.inl 0,{ lv:=[⟨none,4,0⟩,⟨none,5,0⟩,⟨some 0,16423,0⟩],ps:=[(I,0),(I,0),((.mset .str),0)],D:=⟨33554416⟩,wr:=[⟨0,16423⟩],rs:=[⟨0,7⟩],Dn:=⟨33488880⟩ }),
 ([44],139,.block 0,{ lv:=[⟨some 0,16423,0⟩],ps:=[((.mset .str),0)],abn:=true,D:=⟨33552832⟩,wr:=[⟨0,16423⟩] }),
 ([44],139,.loop 0,{ lv:=[⟨none,11,0⟩,⟨some 0,16423,0⟩],ps:=[(I,0),((.mset .str),0)],D:=⟨33552832⟩,wr:=[⟨0,16423⟩],rs:=[⟨0,7⟩],Dn:=⟨33487296⟩ }),
 ([56],141,.inl 0,{ lv:=[⟨none,4,0⟩,⟨none,5,0⟩,⟨some 0,16435,0⟩],ps:=[(I,0),(I,0),((.mset .str),0)],D:=⟨33554416⟩,wr:=[⟨0,16435⟩,⟨1,7⟩],rs:=[⟨0,4⟩,⟨0,7⟩,⟨1,7⟩],Dn:=⟨33488752⟩ }),
 ([56],141,.block 0,{ lv:=[⟨some 0,16435,0⟩],ps:=[((.mset .str),0)],abn:=true,D:=⟨33552832⟩,wr:=[⟨0,16435⟩,⟨1,7⟩] }),
 ([56],141,.loop 0,{ lv:=[⟨none,11,0⟩,⟨some 0,16435,0⟩],ps:=[(I,0),((.mset .str),0)],D:=⟨33552832⟩,wr:=[⟨0,16435⟩,⟨1,7⟩],rs:=[⟨0,4⟩,⟨0,7⟩,⟨1,7⟩],Dn:=⟨33487168⟩ }),
 ([66],144,.inl 0,{ lv:=[⟨none,4,0⟩,⟨none,5,0⟩],ps:=[(I,0),(I,0)],D:=⟨33554416⟩,wr:=[⟨1,7⟩],rs:=[⟨0,4⟩,⟨1,7⟩],Dn:=⟨33488752⟩ }),
 ([66],144,.block 0,{ lv:=[],ps:=[],abn:=true,D:=⟨33552832⟩,wr:=[⟨1,7⟩] }),
 ([66],144,.loop 0,{ lv:=[⟨none,11,0⟩],ps:=[(I,0)],D:=⟨33552832⟩,wr:=[⟨1,7⟩],rs:=[⟨0,4⟩,⟨1,7⟩],Dn:=⟨33487168⟩ })] []
theorem qhr:KT qbR qhn [qI,qeO,qdZ,qy] 40:=λx=>by kernel_rfl
theorem qgV:OT qbR:=entK (qg qaA (qg qof (qg ql2 (qg q9 qo)))) hJ qhr
def qg1 (a0:(List Int)):Option Int :=
 (qG (λ(s2:(Int × Int)) =>
   bif decide (s2.2 < (a0.length:Int)) then
    (idx a0 s2.2).bind λx3 =>
    (qyU .i64 (1:Int) x3).bind λx4 =>
    some (.inl (orI .i64 s2.1 x4,w64 (s2.2 + 1)))
   else
    some (.inr s2.1)) (0,0)).bind λ(p5:Int) =>
 some p5
def qit:Entry:=⟨202,[.ty (.sl I)],[(I,0)],λx=>qg1 x⟩
def qtt:TH:=qcs [([],202,.block 0,{ lv:=[⟨none,3,0⟩],ps:=[(I,0)],D:=⟨130856⟩ }),
 ([],202,.loop 0,{ lv:=[⟨none,3,0⟩,⟨none,8,0⟩],ps:=[(I,0),(I,0)],D:=⟨130856⟩ })] []
theorem qtI:KT qit qtt [] 40:=λx=>by kernel_rfl
theorem qtR:OT qit:=entK qo hJ qtI
def qaB (a0:((List Int) × (List Int) × Unit)):Option (Int × Int × Unit) :=
 (qg1 a0.1).bind λx1 =>
 (qg1 a0.2.1).bind λx2 =>
 some (x1,x2,())
def qdW:Entry:=⟨168,[.ty (.pair (.sl I) (.pair (.sl I) .unit))],[(gT,0)],λx=>qaB x⟩
def qlD:TH:=qcs [] []
theorem qlJ:KT qdW qlD [qit] 40:=λx=>by kernel_rfl
theorem qlU:OT qdW:=entK (qg qtR qo) hJ qlJ
def qgk (a0:((List (List UInt8)) × (List ((List UInt8) × (List Int) × (List Int) × (List Int) × (List Int) × Unit)) × (List ((List Int) × (List Int) × Unit)) × Unit)):Option (((List (Int × Int × Unit)) × (List (Int × Int × Unit)) × (List (Int × Int × Unit)) × Int × Unit) × Int) :=
 (qbl a0).bind λx1 =>
 bif !(decide (x1.2 = 0)) then
  some (([],[],[],0,()),x1.2)
 else
  (qyU .i64 (1:Int) (a0.1.length:Int)).bind λx2 =>
  (qG (λ(s5:(Int × (List (Int × Int × Unit)) × (List (Int × Int × Unit)) × (List (Int × Int × Unit)) × Int)) =>
    bif decide (s5.1 < (a0.2.1.length:Int)) then
     (idx a0.2.1 s5.1).bind λx6 =>
     (qaB (x6.2.1,x6.2.2.1,())).bind λx7 =>
     (app s5.2.1 ([x7])).bind λx8 =>
     (qaB (x6.2.2.2.1,x6.2.2.2.2.1,())).bind λx9 =>
     (app s5.2.2.1 ([x9])).bind λx10 =>
     some (.inl (w64 (s5.1 + 1),x8,x10,s5.2.2.2.1,s5.2.2.2.2))
    else
     some (.inr (s5.2.1,s5.2.2.1,s5.2.2.2.1,s5.2.2.2.2))) (0,[],[],[],x2)).bind λ(p11:((List (Int × Int × Unit)) × (List (Int × Int × Unit)) × (List (Int × Int × Unit)) × Int)) =>
  (qG (λ(s14:(Int × (List (Int × Int × Unit)) × (List (Int × Int × Unit)) × (List (Int × Int × Unit)) × Int)) =>
    bif decide (s14.1 < (a0.2.2.1.length:Int)) then
     (idx a0.2.2.1 s14.1).bind λx15 =>
     (qaB x15).bind λx16 =>
     (app s14.2.2.2.1 ([x16])).bind λx17 =>
     some (.inl (w64 (s14.1 + 1),s14.2.1,s14.2.2.1,x17,s14.2.2.2.2))
    else
     some (.inr (s14.2.1,s14.2.2.1,s14.2.2.2.1,s14.2.2.2.2))) (0,p11.1,p11.2.1,p11.2.2.1,p11.2.2.2)).bind λ(p18:((List (Int × Int × Unit)) × (List (Int × Int × Unit)) × (List (Int × Int × Unit)) × Int)) =>
  some ((p18.1,p18.2.1,p18.2.2.1,p18.2.2.2,()),0)
def qf4:Entry:=⟨115,[.ty (.pair (.sl .str) (.pair (.sl (.pair .str (.pair (.sl I) (.pair (.sl I) (.pair (.sl I) (.pair (.sl I) .unit)))))) (.pair (.sl (.pair (.sl I) (.pair (.sl I) .unit))) .unit)))],[((.pair (.sl gT) (.pair (.sl gT) (.pair (.sl gT) (.pair I .unit)))),2000),(I,0)],λx=>qgk x⟩
def qqX:TH:=qcs [([],115,.block 0,{ lv:=[⟨some 0,6,0⟩,⟨some 0,6,1⟩,⟨some 0,6,2⟩,⟨some 0,6,3⟩],ps:=[((.sl gT),1),((.sl gT),1),((.sl gT),1),(I,0)],D:=⟨562949684987136⟩,wr:=[⟨0,6⟩,⟨0,8⟩] }),
 ([],115,.loop 0,{ lv:=[⟨none,28,0⟩,⟨some 0,6,0⟩,⟨some 0,6,1⟩,⟨some 0,6,2⟩,⟨some 0,6,3⟩],ps:=[(I,0),((.sl gT),1),((.sl gT),1),((.sl gT),1),(I,0)],D:=⟨562949684987136⟩,wr:=[⟨0,6⟩,⟨0,8⟩],rs:=[⟨0,6⟩,⟨0,8⟩],Dn:=⟨349073198547968⟩ }),
 ([],115,.block 2,{ lv:=[⟨some 0,6,0⟩,⟨some 0,6,1⟩,⟨some 0,6,2⟩,⟨some 0,6,3⟩],ps:=[((.sl gT),1),((.sl gT),1),((.sl gT),1),(I,0)],D:=⟨18442240474082182400⟩,wr:=[⟨0,6⟩,⟨0,8⟩,⟨0,10⟩] }),
 ([],115,.loop 2,{ lv:=[⟨none,52,0⟩,⟨some 0,6,0⟩,⟨some 0,6,1⟩,⟨some 0,6,2⟩,⟨some 0,6,3⟩],ps:=[(I,0),((.sl gT),1),((.sl gT),1),((.sl gT),1),(I,0)],D:=⟨18442240474082182400⟩,wr:=[⟨0,6⟩,⟨0,8⟩,⟨0,10⟩],rs:=[⟨0,6⟩,⟨0,10⟩],Dn:=⟨13758496861616865536⟩ })] []
theorem qq9:KT qf4 qqX [qbR,qdW] 40:=λx=>by kernel_rfl
theorem qqk:OT qf4:=entK (qg qgV (qg qlU qo)) hJ qq9
def qam (a0:((List (List UInt8)) × (List ((List UInt8) × (List Int) × (List Int) × (List Int) × (List Int) × Unit)) × (List ((List Int) × (List Int) × Unit)) × Unit)) (a1:Int):Option (((List (Int × Int × Unit)) × (List (Int × Int × Unit)) × (List (Int × Int × Unit)) × Int × Unit) × Int × Int) :=
 (qgk a0).bind λx1 =>
 (qq a1 (0:Int) (w64 (x1.1.2.2.2.1 - 1))).bind λx2 =>
 (qm x2 (2:Int)).bind λx3 =>
 (qx ([x1.2,x3])).bind λx4 =>
 some (x1.1,a1,x4)
def qaj:Entry:=⟨51,[.ty (.pair (.sl .str) (.pair (.sl (.pair .str (.pair (.sl I) (.pair (.sl I) (.pair (.sl I) (.pair (.sl I) .unit)))))) (.pair (.sl (.pair (.sl I) (.pair (.sl I) .unit))) .unit))),.ty I],[((.pair (.sl gT) (.pair (.sl gT) (.pair (.sl gT) (.pair I .unit)))),0),(I,0),(I,0)],λx=>qam x.1 x.2⟩
def qjP:TH:=qcs [] []
theorem qj2:KT qaj qjP [qI,qf4,qy,qz] 40:=λx=>by kernel_rfl
theorem qaY:OT qaj:=entK (qg qaA (qg qqk (qg q9 (qg q8 qo)))) hJ qj2
def qS (a0:(Int × Int × Unit)) (a1:Int):Option Bool :=
 (bif decide (qqY .i64 a1 a0.1 = a0.1) then
   some (decide (qqY .i64 a1 a0.2.1 = 0))
  else
   some false).bind λ(p1:Bool) =>
 some p1
def qat:Entry:=⟨120,[.ty gT,.ty I],[(.bool,0)],λx=>qS x.1 x.2⟩
def qiL:TH:=qcs [([],120,.region 1,{ lv:=[⟨none,4,0⟩],ps:=[(.bool,0)],D:=⟨524272⟩,rs:=[⟨0,2⟩],Dn:=⟨507312⟩ })] []
theorem qip:KT qat qiL [] 40:=λx=>by kernel_rfl
theorem qbs:OT qat:=entK qo hJ qip
def qw (a0:((List (Int × Int × Unit)) × (List (Int × Int × Unit)) × (List (Int × Int × Unit)) × Int × Unit)) (a1:Int):Option Bool :=
 ((qG (λ(s2:Int) =>
    bif decide (s2 < (a0.2.2.1.length:Int)) then
     (idx a0.2.2.1 s2).bind λx3 =>
     (qS x3 a1).bind λx4 =>
     bif x4 then
      some (.inr (.inr s2))
     else
      some (.inl (w64 (s2 + 1)))
    else
     some (.inr (.inl ()))) 0).bind (Sum.elim (λ(p5:Unit) =>
  some (-1)) some)).bind λ(p6:Int) =>
 some (decide (p6>=0))
def q3:Entry:=⟨58,[.ty (.pair (.sl gT) (.pair (.sl gT) (.pair (.sl gT) (.pair I .unit)))),.ty I],[(.bool,0)],λx=>qw x.1 x.2⟩
def qgm:TH:=qcs [([7,8],179,.inl 0,{ lv:=[⟨none,4,0⟩],ps:=[(I,0)],D:=⟨524272⟩,rs:=[⟨0,3⟩],Dn:=⟨522224⟩ }),
 ([7,8],179,.block 0,{ lv:=[],ps:=[],abn:=true,D:=⟨524064⟩ }),
 ([7,8],179,.loop 0,{ lv:=[⟨none,8,0⟩],ps:=[(I,0)],D:=⟨524064⟩,rs:=[⟨0,3⟩],Dn:=⟨522016⟩ })] []
theorem qf8:KT q3 qgm [qat] 40:=λx=>by kernel_rfl
theorem qaK:OT q3:=entK (qg qbs qo) hJ qf8
def qan (a0:(Int × Int × Unit)) (a1:Int):Option Int :=
 some (qiR .i64 (orI .i64 a1 a0.1) a0.2.1)
def qa0:Entry:=⟨128,[.ty gT,.ty I],[(I,0)],λx=>qan x.1 x.2⟩
def qjV:TH:=qcs [] []
theorem qkc:KT qa0 qjV [] 40:=λx=>by kernel_rfl
theorem qcO:OT qa0:=entK qo hJ qkc
def qac (a0:((List (Int × Int × Unit)) × (List (Int × Int × Unit)) × (List (Int × Int × Unit)) × Int × Unit)) (a1:Int) (a2:Int):Option (List (Int × Int × Int × Unit)) :=
 (qG (λ(s2:((List (Int × Int × Int × Unit)) × Int × (List Int))) =>
   bif decide (s2.2.1 < (s2.1.length:Int)) then
    ((idx s2.1 s2.2.1).bind λx3 =>
     (qw a0 x3.1).bind λx4 =>
     bif x4 then
      some (s2.1,s2.2.2)
     else
      (idx s2.1 s2.2.1).bind λx5 =>
      ((qG (λ(s7:(Int × (List (Int × Int × Int × Unit)) × (List Int))) =>
         bif decide (s7.1 < (a0.1.length:Int)) then
          (idx a0.1 s7.1).bind λx8 =>
          ((qsQ .i64 a2 s7.1).bind λx9 =>
           bif decide (qqY .i64 x9 (1:Int) = 0) then
            (qS x8 x5.1).bind λx10 =>
            bif x10 then
             (idx a0.2.1 s7.1).bind λx11 =>
             (qan x11 x5.1).bind λx12 =>
             (bif !(qfS I s7.2.2 x12) then
               (app s7.2.1 ([(x12,s2.2.1,s7.1,())])).bind λx13 =>
               some (x13,qju I s7.2.2 x12)
              else
               some (s7.2.1,s7.2.2)).bind λ(p14:((List (Int × Int × Int × Unit)) × (List Int))) =>
             some (false,p14.1,p14.2)
            else
             some (false,s7.2.1,s7.2.2)
           else
            some (false,s7.2.1,s7.2.2)).bind λ(p15:(Bool × (List (Int × Int × Int × Unit)) × (List Int))) =>
          bif p15.1 then
           some (.inr (.inr (p15.2.1,p15.2.2)))
          else
           some (.inl (w64 (s7.1 + 1),p15.2.1,p15.2.2))
         else
          some (.inr (.inl (s7.2.1,s7.2.2)))) (0,s2.1,s2.2.2)).bind (Sum.elim (λ(p16:((List (Int × Int × Int × Unit)) × (List Int))) =>
       some (p16.1,p16.2)) some)).bind λ(p17:((List (Int × Int × Int × Unit)) × (List Int))) =>
      some (p17.1,p17.2)).bind λ(p18:((List (Int × Int × Int × Unit)) × (List Int))) =>
    some (.inl (p18.1,w64 (s2.2.1 + 1),p18.2))
   else
    some (.inr s2.1)) ([(a1,(-1),(-1),())],0,qju I [] a1)).bind λ(p19:(List (Int × Int × Int × Unit))) =>
 some p19
def qak:Entry:=⟨52,[.ty (.pair (.sl gT) (.pair (.sl gT) (.pair (.sl gT) (.pair I .unit)))),.ty I,.ty I],[((.sl (.pair I gT)),1)],λx=>qac x.1 x.2.1 x.2.2⟩
def qge:TH:=qcs [([],52,.block 0,{ lv:=[⟨some 0,7,0⟩],ps:=[((.sl (.pair I gT)),1)],D:=⟨36028797018705408⟩,wr:=[⟨0,7⟩,⟨0,9⟩,⟨0,16399⟩],rs:=[⟨0,9⟩],Dn:=⟨36028797018704896⟩ }),
 ([],52,.loop 0,{ lv:=[⟨some 0,7,0⟩,⟨some 0,9,0⟩,⟨some 0,16399,0⟩],ps:=[((.sl (.pair I gT)),1),(I,0),((.mset I),0)],D:=⟨36028797018705408⟩,wr:=[⟨0,7⟩,⟨0,9⟩,⟨0,16399⟩],rs:=[⟨0,9⟩],Dn:=⟨36028797018704896⟩,kp:=[(9,⟨0,9⟩,0)] }),
 ([],52,.block 1,{ lv:=[⟨some 0,7,0⟩,⟨some 0,16399,0⟩],ps:=[((.sl (.pair I gT)),1),((.mset I),0)],D:=⟨549739036672⟩,wr:=[⟨0,7⟩,⟨0,16399⟩] }),
 ([39],127,.inl 0,{ lv:=[⟨some 0,7,0⟩,⟨some 0,16399,0⟩],ps:=[((.sl (.pair I gT)),1),((.mset I),0)],D:=⟨549755813856⟩,wr:=[⟨0,7⟩,⟨0,16399⟩,⟨1,6⟩],rs:=[⟨0,39⟩,⟨1,6⟩],Dn:=⟨549688704928⟩ }),
 ([39],127,.block 0,{ lv:=[⟨some 0,7,0⟩,⟨some 0,16399,0⟩],ps:=[((.sl (.pair I gT)),1),((.mset I),0)],abn:=true,D:=⟨549755812960⟩,wr:=[⟨0,7⟩,⟨0,16399⟩,⟨1,6⟩] }),
 ([39],127,.loop 0,{ lv:=[⟨none,10,0⟩,⟨some 0,7,0⟩,⟨some 0,16399,0⟩],ps:=[(I,0),((.sl (.pair I gT)),1),((.mset I),0)],D:=⟨549755812960⟩,wr:=[⟨0,7⟩,⟨0,16399⟩,⟨1,6⟩],rs:=[⟨0,39⟩,⟨1,6⟩],Dn:=⟨549688704032⟩ }),
 ([39],127,.region 3,{ lv:=[⟨none,37,0⟩,⟨some 0,7,0⟩,⟨some 0,16399,0⟩],ps:=[(.bool,0),((.sl (.pair I gT)),1),((.mset I),0)],D:=⟨274877874176⟩,wr:=[⟨0,7⟩,⟨0,16399⟩],rs:=[⟨0,39⟩],Dn:=⟨274810765312⟩ }),
 ([35,39],52,.cond 44,{ lv:=[⟨some 0,7,0⟩,⟨some 0,16399,0⟩],ps:=[((.sl (.pair I gT)),1),((.mset I),0)],D:=⟨17979214137393152⟩,wr:=[⟨0,7⟩,⟨0,16399⟩],rs:=[⟨0,16399⟩],Dn:=⟨17944029765304320⟩ })] [([],52,38)]
theorem qgz:KT qak qge [q3,qa0,qat] 40:=λx=>by kernel_rfl
theorem qbo:OT qak:=entK (qg qaK (qg qcO (qg qbs qo))) hJ qgz
def qbH (a0:((List (List UInt8)) × (List ((List UInt8) × (List Int) × (List Int) × (List Int) × (List Int) × Unit)) × (List ((List Int) × (List Int) × Unit)) × Unit)) (a1:Int):Option ((List Int) × Int) :=
 (qam a0 a1).bind λx1 =>
 bif !(decide (x1.2.2 = 0)) then
  some ([],x1.2.2)
 else
  (qac x1.1 x1.2.1 (0:Int)).bind λx2 =>
  (qG (λ(s5:((List Int) × Int)) =>
    bif decide (s5.2 < (x2.length:Int)) then
     (idx x2 s5.2).bind λx6 =>
     (app s5.1 ([x6.1])).bind λx7 =>
     some (.inl (x7,w64 (s5.2 + 1)))
    else
     some (.inr s5.1)) ([],0)).bind λ(p8:(List Int)) =>
  (qwS p8).bind λx9 =>
  some (x9,0)
def qch:Entry:=⟨10,[.ty (.pair (.sl .str) (.pair (.sl (.pair .str (.pair (.sl I) (.pair (.sl I) (.pair (.sl I) (.pair (.sl I) .unit)))))) (.pair (.sl (.pair (.sl I) (.pair (.sl I) .unit))) .unit))),.ty I],[((.sl I),1),(I,0)],λx=>qbH x.1 x.2⟩
def qh3:TH:=qcs [([],10,.block 0,{ lv:=[⟨none,9,0⟩],ps:=[((.sl I),1)],D:=⟨68652370432⟩,wr:=[⟨0,11⟩] }),
 ([],10,.loop 0,{ lv:=[⟨none,9,0⟩,⟨none,26,0⟩],ps:=[((.sl I),1),(I,0)],D:=⟨68652370432⟩,wr:=[⟨0,11⟩],rs:=[⟨0,11⟩],Dn:=⟨66504884736⟩ })] []
theorem qid:KT qch qh3 [qak,qaj] 40:=λx=>by kernel_rfl
theorem qia:OT qch:=entK (qg qbo (qg qaY qo)) hJ qid
def qaN (a0:((List (List UInt8)) × (List ((List UInt8) × (List Int) × (List Int) × (List Int) × (List Int) × Unit)) × (List ((List Int) × (List Int) × Unit)) × Unit)) (a1:Int):Option ((List Int) × Int) :=
 (qam a0 a1).bind λx1 =>
 bif !(decide (x1.2.2 = 0)) then
  some ([],x1.2.2)
 else
  (qac x1.1 x1.2.1 (0:Int)).bind λx2 =>
  ((qG (λ(s4:Int) =>
     bif decide (s4 < (x2.length:Int)) then
      (idx x2 s4).bind λx5 =>
      (qw x1.1 x5.1).bind λx6 =>
      bif x6 then
       some (.inr (.inr s4))
      else
       some (.inl (w64 (s4 + 1)))
     else
      some (.inr (.inl ()))) 0).bind (Sum.elim (λ(p7:Unit) =>
   some (-1)) some)).bind λ(p8:Int) =>
  bif decide (p8 < 0) then
   some ([],12)
  else
   (idx x2 p8).bind λx9 =>
   (qG (λ(s11:((List Int) × Int × Int × Int)) =>
     bif decide (s11.2.2.1>=0) then
      (app s11.1 ([s11.2.2.2])).bind λx12 =>
      (idx x2 s11.2.2.1).bind λx13 =>
      some (.inl (x12,x13.1,x13.2.1,x13.2.2.1))
     else
      some (.inr s11.1)) ([],x9.1,x9.2.1,x9.2.2.1)).bind λ(p14:(List Int)) =>
   (qBd p14).bind λx15 =>
   some (x15,0)
def qdp:Entry:=⟨12,[.ty (.pair (.sl .str) (.pair (.sl (.pair .str (.pair (.sl I) (.pair (.sl I) (.pair (.sl I) (.pair (.sl I) .unit)))))) (.pair (.sl (.pair (.sl I) (.pair (.sl I) .unit))) .unit))),.ty I],[((.sl I),1),(I,0)],λx=>qaN x.1 x.2⟩
def qk2:TH:=qcs [([28],56,.inl 0,{ lv:=[⟨none,4,0⟩],ps:=[(I,0)],D:=⟨524272⟩,rs:=[⟨0,6⟩],Dn:=⟨522224⟩ }),
 ([28],56,.block 0,{ lv:=[],ps:=[],abn:=true,D:=⟨524064⟩ }),
 ([28],56,.loop 0,{ lv:=[⟨none,8,0⟩],ps:=[(I,0)],D:=⟨524064⟩,rs:=[⟨0,6⟩],Dn:=⟨522016⟩ }),
 ([],12,.block 0,{ lv:=[⟨none,11,0⟩],ps:=[((.sl I),1)],D:=⟨562915593689088⟩,wr:=[⟨0,12⟩],rs:=[⟨0,12⟩],Dn:=⟨562881233946624⟩ }),
 ([],12,.loop 0,{ lv:=[⟨none,11,0⟩,⟨some 0,12,0⟩,⟨some 0,12,1⟩,⟨some 0,12,2⟩],ps:=[((.sl I),1),(I,0),(I,0),(I,0)],D:=⟨562915593689088⟩,wr:=[⟨0,12⟩],rs:=[⟨0,12⟩],Dn:=⟨562365837871104⟩,kp:=[(12,⟨0,12⟩,0)] })] []
theorem qkp:KT qdp qk2 [q3,qak,qaj] 40:=λx=>by kernel_rfl
theorem qkD:OT qdp:=entK (qg qaK (qg qbo (qg qaY qo))) hJ qkp
def qb8 (a0:Int):Option (List Int) :=
 (qG (λ(s3:(Int × (List Int))) =>
   bif !(decide (s3.1 = 0)) then
    (qR (IntKind.wrap .u64 (s3.1))).bind λx4 =>
    (app s3.2 ([x4])).bind λx5 =>
    some (.inl (qqY .i64 s3.1 (w64 (s3.1 - 1)),x5))
   else
    some (.inr s3.2)) (a0,[])).bind λ(p6:(List Int)) =>
 some p6
def qcy:Entry:=⟨60,[.ty I],[((.sl I),1)],λx=>qb8 x⟩
def qiH:TH:=qcs [([],60,.block 0,{ lv:=[⟨none,3,0⟩],ps:=[((.sl I),1)],D:=⟨65529⟩ }),
 ([],60,.loop 0,{ lv:=[⟨none,0,0⟩,⟨none,3,0⟩],ps:=[(I,0),((.sl I),1)],D:=⟨65529⟩ })] []
theorem qiQ:KT qcy qiH [q7] 40:=λx=>by kernel_rfl
theorem qiO:OT qcy:=entK (qg qfi qo) hJ qiQ
def cmp_isNaN_int (a0:Int):Option Bool :=
 some (!(decide (a0 = a0)))
def qcV:Entry:=⟨182,[.ty I],[(.bool,0)],λx=>cmp_isNaN_int x⟩
def qm4:TH:=qcs [] []
theorem qmU:KT qcV qm4 [] 40:=λx=>by kernel_rfl
theorem qg0:OT qcV:=entK qo hJ qmU
def qbS (a0:Int) (a1:Int):Option Int :=
 (cmp_isNaN_int a0).bind λx1 =>
 (cmp_isNaN_int a1).bind λx2 =>
 bif x1 then
  bif x2 then
   some 0
  else
   some (-1)
 else
  bif x2 then
   some 1
  else
   bif decide (a0 < a1) then
    some (-1)
   else
    bif decide (a0 > a1) then
     some 1
    else
     some 0
def qdi:Entry:=⟨122,[.ty I,.ty I],[(I,0)],λx=>qbS x.1 x.2⟩
def qko:TH:=qcs [] []
theorem qkW:KT qdi qko [qcV] 40:=λx=>by kernel_rfl
theorem qkv:OT qdi:=entK (qg qg0 qo) hJ qkW
def qah (a0:(List Int)) (a1:(List Int)):Option Int :=
 (qG (λ(s2:Int) =>
   bif decide (s2 < (a0.length:Int)) then
    (idx a0 s2).bind λx3 =>
    bif decide (s2>=(a1.length:Int)) then
     some (.inr (.inr 1))
    else
     (idx a1 s2).bind λx4 =>
     (qbS x3 x4).bind λx5 =>
     bif !(decide (x5 = 0)) then
      some (.inr (.inr x5))
     else
      some (.inl (w64 (s2 + 1)))
   else
    some (.inr (.inl ()))) 0).bind (Sum.elim (λ(p6:Unit) =>
 bif decide ((a0.length:Int) < (a1.length:Int)) then
  some (-1)
 else
  some 0) some)
def qa2:Entry:=⟨61,[.ty (.sl I),.ty (.sl I)],[(I,0)],λx=>qah x.1 x.2⟩
def qfp:TH:=qcs [([],61,.block 0,{ lv:=[],ps:=[],abn:=true,D:=⟨2147482080⟩ }),
 ([],61,.loop 0,{ lv:=[⟨none,11,0⟩],ps:=[(I,0)],D:=⟨2147482080⟩ })] []
theorem qfs:KT qa2 qfp [qdi] 40:=λx=>by kernel_rfl
theorem qfk:OT qa2:=entK (qg qkv qo) hJ qfs
def qbz (a0:((List (List UInt8)) × (List ((List UInt8) × (List Int) × (List Int) × (List Int) × (List Int) × Unit)) × (List ((List Int) × (List Int) × Unit)) × Unit)) (a1:Int):Option ((List Int) × Int) :=
 (qam a0 a1).bind λx1 =>
 (bif decide (x1.2.2 = 0) then
   (qw x1.1 x1.2.1).bind λx2 =>
   some x2
  else
   some false).bind λ(p3:Bool) =>
 (bif p3 then
   some 20
  else
   some x1.2.2).bind λ(p4:Int) =>
 bif !(decide (p4 = 0)) then
  some ([],p4)
 else
  (qyU .i64 (1:Int) (a0.2.1.length:Int)).bind λx5 =>
  (qG (λ(s7:((List Int) × Bool × Int)) =>
    bif decide (s7.2.2 < x5) then
     ((qb8 s7.2.2).bind λx8 =>
      (bif s7.2.1 then
        bif decide ((x8.length:Int) > (s7.1.length:Int)) then
         some true
        else
         bif decide ((x8.length:Int) = (s7.1.length:Int)) then
          (qah x8 s7.1).bind λx9 =>
          some (decide (x9>=0))
         else
          some false
       else
        some false).bind λ(p10:Bool) =>
      bif p10 then
       some (s7.1,s7.2.1)
      else
       (qac x1.1 x1.2.1 s7.2.2).bind λx11 =>
       ((qG (λ(s13:Int) =>
          bif decide (s13 < (x11.length:Int)) then
           (idx x11 s13).bind λx14 =>
           (qw x1.1 x14.1).bind λx15 =>
           bif x15 then
            some (.inr (.inr s13))
           else
            some (.inl (w64 (s13 + 1)))
          else
           some (.inr (.inl ()))) 0).bind (Sum.elim (λ(p16:Unit) =>
        some (-1)) some)).bind λ(p17:Int) =>
       (bif !(decide (p17>=0)) then
         some (x8,true)
        else
         some (s7.1,s7.2.1)).bind λ(p18:((List Int) × Bool)) =>
       some (p18.1,p18.2)).bind λ(p19:((List Int) × Bool)) =>
     some (.inl (p19.1,p19.2,w64 (s7.2.2 + 1)))
    else
     some (.inr s7.1)) ([],false,0)).bind λ(p20:(List Int)) =>
  some (p20,0)
def qc4:Entry:=⟨13,[.ty (.pair (.sl .str) (.pair (.sl (.pair .str (.pair (.sl I) (.pair (.sl I) (.pair (.sl I) (.pair (.sl I) .unit)))))) (.pair (.sl (.pair (.sl I) (.pair (.sl I) .unit))) .unit))),.ty I],[((.sl I),1),(I,0)],λx=>qbz x.1 x.2⟩
def qka:TH:=qcs [([],13,.region 2,{ lv:=[⟨none,26,0⟩],ps:=[(.bool,0)],D:=⟨133169152⟩ }),
 ([],13,.cond 26,{ lv:=[⟨none,8,0⟩],ps:=[(I,0)],D:=⟨256⟩ }),
 ([],13,.block 0,{ lv:=[⟨none,9,0⟩],ps:=[((.sl I),1)],D:=⟨590295810341525790208⟩ }),
 ([],13,.loop 0,{ lv:=[⟨none,9,0⟩,⟨none,10,0⟩,⟨none,34,0⟩],ps:=[((.sl I),1),(.bool,0),(I,0)],D:=⟨590295810341525790208⟩,rs:=[⟨0,6⟩],Dn:=⟨571849066267816238592⟩ }),
 ([],13,.block 1,{ lv:=[⟨none,9,0⟩,⟨none,10,0⟩],ps:=[((.sl I),1),(.bool,0)],D:=⟨295147905110633356800⟩,rs:=[⟨0,6⟩],Dn:=⟨276701161036923805184⟩ }),
 ([],13,.region 12,{ lv:=[⟨none,59,0⟩],ps:=[(.bool,0)],D:=⟨1152920954851033088⟩ }),
 ([7,65],56,.inl 0,{ lv:=[⟨none,4,0⟩],ps:=[(I,0)],D:=⟨524272⟩,rs:=[⟨0,6⟩],Dn:=⟨522224⟩ }),
 ([7,65],56,.block 0,{ lv:=[],ps:=[],abn:=true,D:=⟨524064⟩ }),
 ([7,65],56,.loop 0,{ lv:=[⟨none,8,0⟩],ps:=[(I,0)],D:=⟨524064⟩,rs:=[⟨0,6⟩],Dn:=⟨522016⟩ }),
 ([],13,.cond 66,{ lv:=[⟨none,9,0⟩,⟨none,10,0⟩],ps:=[((.sl I),1),(.bool,0)],D:=⟨147573952589676418560⟩ })] []
theorem qjh:KT qc4 qka [qcy,q3,qak,qaj,qa2] 40:=λx=>by kernel_rfl
theorem qjF:OT qc4:=entK (qg qiO (qg qaK (qg qbo (qg qaY (qg qfk qo))))) hJ qjh
def qer (a0:(List UInt8)):Option Bool :=
 (bif decide ((a0.length:Int) < 1) then
   some true
  else
   some (decide ((a0.length:Int) > 12))).bind λ(p1:Bool) =>
 bif p1 then
  some false
 else
  (qG (λ(s3:Int) =>
    bif decide (s3 < (a0.length:Int)) then
     (idx a0 s3).bind λx4 =>
     (bif decide ((x4.toNat:Int)>=97) then
       bif decide ((x4.toNat:Int)<=122) then
        some true
       else
        bif decide ((x4.toNat:Int)>=65) then
         some (decide ((x4.toNat:Int)<=90))
        else
         some false
      else
       bif decide ((x4.toNat:Int)>=65) then
        some (decide ((x4.toNat:Int)<=90))
       else
        some false).bind λ(p5:Bool) =>
     (bif !p5 then
       bif decide (s3 = 0) then
        some true
       else
        bif !(decide ((x4.toNat:Int) = 45)) then
         bif decide ((x4.toNat:Int) < 48) then
          some true
         else
          some (decide ((x4.toNat:Int) > 57))
        else
         some false
      else
       some false).bind λ(p6:Bool) =>
     bif p6 then
      some (.inr (.inr false))
     else
      some (.inl (w64 (s3 + 1)))
    else
     some (.inr (.inl ()))) 0).bind (Sum.elim (λ(p7:Unit) =>
  some true) some)
def qgg:Entry:=⟨102,[.ty .str],[(.bool,0)],λx=>qer x⟩
def qqV:TH:=qcs [([],102,.region 1,{ lv:=[⟨none,13,0⟩],ps:=[(.bool,0)],D:=⟨16320⟩ }),
 ([],102,.block 0,{ lv:=[],ps:=[],abn:=true,D:=⟨36028797018947640⟩ }),
 ([],102,.loop 0,{ lv:=[⟨none,3,0⟩],ps:=[(I,0)],D:=⟨36028797018947640⟩ }),
 ([],102,.region 7,{ lv:=[⟨none,5,0⟩],ps:=[(.bool,0)],D:=⟨137430564896⟩ }),
 ([],102,.region 8,{ lv:=[⟨none,54,0⟩],ps:=[(.bool,0)],D:=⟨36028659580010496⟩ })] []
theorem qqc:KT qgg qqV [] 40:=λx=>by kernel_rfl
theorem qpY:OT qgg:=entK qo hJ qqc
def qe4 (a0:(List (List UInt8))) (a1:(List UInt8)):Option Bool :=
 (qG (λ(s2:Int) =>
   bif decide (s2 < (a0.length:Int)) then
    (idx a0 s2).bind λx3 =>
    bif decide (x3 = a1) then
     some (.inr (.inr true))
    else
     some (.inl (w64 (s2 + 1)))
   else
    some (.inr (.inl ()))) 0).bind (Sum.elim (λ(p4:Unit) =>
 some false) some)
def qfr:Entry:=⟨94,[.ty (.sl .str),.ty .str],[(.bool,0)],λx=>qe4 x.1 x.2⟩
def qoN:TH:=qcs [([],94,.block 0,{ lv:=[],ps:=[],abn:=true,D:=⟨262112⟩ }),
 ([],94,.loop 0,{ lv:=[⟨none,5,0⟩],ps:=[(I,0)],D:=⟨262112⟩ })] []
theorem qoF:KT qfr qoN [] 40:=λx=>by kernel_rfl
theorem qoM:OT qfr:=entK qo hJ qoF
def qbA (a0:(List Int)) (a1:Int):Option Int :=
 (qG (λ(s2:Int) =>
   bif decide (s2 < (a0.length:Int)) then
    (idx a0 s2).bind λx3 =>
    (qeK x3 (0:Int) (w64 (a1 - 1))).bind λx4 =>
    bif !x4 then
     some (.inr (.inr 6))
    else
     (bif decide (s2 > 0) then
       (idx a0 s2).bind λx5 =>
       (idx a0 (w64 (s2 - 1))).bind λx6 =>
       some (decide (x5<=x6))
      else
       some false).bind λ(p7:Bool) =>
     bif p7 then
      some (.inr (.inr 9))
     else
      some (.inl (w64 (s2 + 1)))
   else
    some (.inr (.inl ()))) 0).bind (Sum.elim (λ(p8:Unit) =>
 some 0) some)
def qcT:Entry:=⟨199,[.ty (.sl I),.ty I],[(I,0)],λx=>qbA x.1 x.2⟩
def qjJ:TH:=qcs [([],199,.block 0,{ lv:=[],ps:=[],abn:=true,D:=⟨17179869152⟩ }),
 ([],199,.loop 0,{ lv:=[⟨none,5,0⟩],ps:=[(I,0)],D:=⟨17179869152⟩ }),
 ([],199,.region 6,{ lv:=[⟨none,33,0⟩],ps:=[(.bool,0)],D:=⟨17178820608⟩ })] []
theorem qjs:KT qcT qjJ [qeh] 40:=λx=>by kernel_rfl
theorem qj0:OT qcT:=entK (qg qjL qo) hJ qjs
def qjr (a0:(List Int)) (a1:Int):Option Bool :=
 (qG (λ(s2:Int) =>
   bif decide (s2 < (a0.length:Int)) then
    (idx a0 s2).bind λx3 =>
    bif decide (x3 = a1) then
     some (.inr (.inr true))
    else
     some (.inl (w64 (s2 + 1)))
   else
    some (.inr (.inl ()))) 0).bind (Sum.elim (λ(p4:Unit) =>
 some false) some)
def qhv:Entry:=⟨44,[.ty (.sl I),.ty I],[(.bool,0)],λx=>qjr x.1 x.2⟩
def qvt:TH:=qcs [([],44,.block 0,{ lv:=[],ps:=[],abn:=true,D:=⟨262112⟩ }),
 ([],44,.loop 0,{ lv:=[⟨none,5,0⟩],ps:=[(I,0)],D:=⟨262112⟩ })] []
theorem qv6:KT qhv qvt [] 40:=λx=>by kernel_rfl
theorem qpn:OT qhv:=entK qo hJ qv6
def qcb (a0:((List Int) × (List Int) × Unit)) (a1:Int):Option Int :=
 (qbA a0.1 a1).bind λx1 =>
 bif !(decide (x1 = 0)) then
  some x1
 else
  (qbA a0.2.1 a1).bind λx2 =>
  bif !(decide (x2 = 0)) then
   some x2
  else
   (qG (λ(s4:Int) =>
     bif decide (s4 < (a0.1.length:Int)) then
      (idx a0.1 s4).bind λx5 =>
      (qjr a0.2.1 x5).bind λx6 =>
      bif x6 then
       some (.inr (.inr 13))
      else
       some (.inl (w64 (s4 + 1)))
     else
      some (.inr (.inl ()))) 0).bind (Sum.elim (λ(p7:Unit) =>
   some 0) some)
def qes:Entry:=⟨153,[.ty (.pair (.sl I) (.pair (.sl I) .unit)),.ty I],[(I,0)],λx=>qcb x.1 x.2⟩
def qmF:TH:=qcs [([],153,.block 0,{ lv:=[],ps:=[],abn:=true,D:=⟨137434759296⟩,rs:=[⟨0,2⟩],Dn:=⟨137426370688⟩ }),
 ([],153,.loop 0,{ lv:=[⟨none,7,0⟩],ps:=[(I,0)],D:=⟨137434759296⟩,rs:=[⟨0,2⟩],Dn:=⟨134742016128⟩ })] []
theorem qn6:KT qes qmF [qhv,qcT] 40:=λx=>by kernel_rfl
theorem qm7:OT qes:=entK (qg qpn (qg qj0 qo)) hJ qn6
def qbJ (a0:((List (List UInt8)) × (List ((List UInt8) × (List Int) × (List Int) × (List Int) × (List Int) × Unit)) × (List ((List Int) × (List Int) × Unit)) × Unit)):Option (Int × Int) :=
 bif decide ((a0.1.length:Int) = 0) then
  some (0,10)
 else
  (bif decide ((a0.1.length:Int) > 8) then
    some true
   else
    bif decide ((a0.2.1.length:Int) > 10) then
     some true
    else
     some (decide ((a0.2.2.1.length:Int) > 4))).bind λ(p1:Bool) =>
  bif p1 then
   some (0,8)
  else
   (qG (λ(s3:Int) =>
     bif decide (s3 < (a0.1.length:Int)) then
      (idx a0.1 s3).bind λx4 =>
      (qer x4).bind λx5 =>
      bif !x5 then
       some (.inr (.inr (s3,4)))
      else
       (slc a0.1 0 s3).bind λx6 =>
       (idx a0.1 s3).bind λx7 =>
       (qe4 x6 x7).bind λx8 =>
       bif x8 then
        some (.inr (.inr (s3,5)))
       else
        some (.inl (w64 (s3 + 1)))
     else
      some (.inr (.inl ()))) 0).bind (Sum.elim (λ(p9:Unit) =>
   (qG (λ(s11:Int) =>
     bif decide (s11 < (a0.2.1.length:Int)) then
      (idx a0.2.1 s11).bind λx12 =>
      (qer x12.1).bind λx13 =>
      bif !x13 then
       some (.inr (.inr (s11,4)))
      else
       (qG (λ(s15:Int) =>
         bif decide (s15 < s11) then
          (idx a0.2.1 s15).bind λx16 =>
          bif decide (x16.1 = x12.1) then
           some (.inr (.inr (.inr (.inr (s11,5)))))
          else
           some (.inl (w64 (s15 + 1)))
         else
          some (.inr (.inl ()))) 0).bind (Sum.elim (λ(p17:Unit) =>
       (qcb (x12.2.1,x12.2.2.1,()) (a0.1.length:Int)).bind λx18 =>
       bif !(decide (x18 = 0)) then
        some (.inr (.inr (s11,x18)))
       else
        (qcb (x12.2.2.2.1,x12.2.2.2.2.1,()) (a0.1.length:Int)).bind λx19 =>
        bif !(decide (x19 = 0)) then
         some (.inr (.inr (s11,x19)))
        else
         some (.inl (w64 (s11 + 1)))) some)
     else
      some (.inr (.inl ()))) 0).bind (Sum.elim (λ(p20:Unit) =>
   (qG (λ(s22:Int) =>
     bif decide (s22 < (a0.2.2.1.length:Int)) then
      (idx a0.2.2.1 s22).bind λx23 =>
      (qcb x23 (a0.1.length:Int)).bind λx24 =>
      bif !(decide (x24 = 0)) then
       some (.inr (.inr (s22,x24)))
      else
       some (.inl (w64 (s22 + 1)))
     else
      some (.inr (.inl ()))) 0).bind (Sum.elim (λ(p25:Unit) =>
   some (0,0)) some)) some)) some)
def qcd:Entry:=⟨100,[.ty (.pair (.sl .str) (.pair (.sl (.pair .str (.pair (.sl I) (.pair (.sl I) (.pair (.sl I) (.pair (.sl I) .unit)))))) (.pair (.sl (.pair (.sl I) (.pair (.sl I) .unit))) .unit)))],[(I,0),(I,0)],λx=>qbJ x⟩
def qib:TH:=qcs [([],100,.region 3,{ lv:=[⟨none,31,0⟩],ps:=[(.bool,0)],D:=⟨4294901760⟩,rs:=[⟨0,1⟩],Dn:=⟨4158521344⟩ }),
 ([],100,.block 0,{ lv:=[],ps:=[],abn:=true,D:=⟨288230371856744464⟩,rs:=[⟨0,1⟩],Dn:=⟨288230363266809872⟩ }),
 ([],100,.loop 0,{ lv:=[⟨none,4,0⟩],ps:=[(I,0)],D:=⟨288230371856744464⟩,rs:=[⟨0,1⟩],Dn:=⟨285837276208955408⟩ }),
 ([],100,.block 2,{ lv:=[],ps:=[],abn:=true,D:=⟨1298074214633706618902247930594272⟩,wr:=[⟨0,6⟩],rs:=[⟨0,1⟩],Dn:=⟨1298074214633706042441495627170784⟩ }),
 ([],100,.loop 2,{ lv:=[⟨none,5,0⟩],ps:=[(I,0)],D:=⟨1298074214633706618902247930594272⟩,wr:=[⟨0,6⟩],rs:=[⟨0,1⟩,⟨0,6⟩],Dn:=⟨1291729771931150983423772785116064⟩ }),
 ([],100,.block 4,{ lv:=[],ps:=[],abn:=true,D:=⟨1237902260353517317737414784⟩ }),
 ([],100,.loop 4,{ lv:=[⟨none,7,0⟩],ps:=[(I,0)],D:=⟨1237902260353517317737414784⟩,rs:=[⟨0,1⟩,⟨0,6⟩],Dn:=⟨1159322082078566421381513344⟩ }),
 ([],100,.block 6,{ lv:=[],ps:=[],abn:=true,D:=⟨1361128169609539220146591297102990543872⟩,rs:=[⟨0,1⟩],Dn:=⟨1361125573461109952732777031854825933824⟩ }),
 ([],100,.loop 6,{ lv:=[⟨none,10,0⟩],ps:=[(I,0)],D:=⟨1361128169609539220146591297102990543872⟩,rs:=[⟨0,1⟩],Dn:=⟨1355642507978497174757048827731169512448⟩ })] []
theorem qh1:KT qcd qib [qfr,qgg,qes] 40:=λx=>by kernel_rfl
theorem qh4:OT qcd:=entK (qg qoM (qg qpY (qg qm7 qo))) hJ qh1
def qcx (a0:((List (List UInt8)) × (List ((List UInt8) × (List Int) × (List Int) × (List Int) × (List Int) × Unit)) × (List ((List Int) × (List Int) × Unit)) × Unit)):Option Int :=
 (qbJ a0).bind λx1 =>
 some x1.2
def qcI:Entry:=⟨36,[.ty (.pair (.sl .str) (.pair (.sl (.pair .str (.pair (.sl I) (.pair (.sl I) (.pair (.sl I) (.pair (.sl I) .unit)))))) (.pair (.sl (.pair (.sl I) (.pair (.sl I) .unit))) .unit)))],[(I,0)],λx=>qcx x⟩
def qjI:TH:=qcs [] []
theorem qkb:KT qcI qjI [qcd] 40:=λx=>by kernel_rfl
theorem qjH:OT qcI:=entK (qg qh4 qo) hJ qkb
def qgu (a0:((List (List UInt8)) × (List ((List UInt8) × (List Int) × (List Int) × (List Int) × (List Int) × Unit)) × (List ((List Int) × (List Int) × Unit)) × Unit)) (a1:Int):Option Bool :=
 (qyU .i64 (1:Int) (a0.1.length:Int)).bind λx1 =>
 (qeK a1 (0:Int) (w64 (x1 - 1))).bind λx2 =>
 some x2
def qeI:Entry:=⟨123,[.ty (.pair (.sl .str) (.pair (.sl (.pair .str (.pair (.sl I) (.pair (.sl I) (.pair (.sl I) (.pair (.sl I) .unit)))))) (.pair (.sl (.pair (.sl I) (.pair (.sl I) .unit))) .unit))),.ty I],[(.bool,0)],λx=>qgu x.1 x.2⟩
def qmH:TH:=qcs [] []
theorem qon:KT qeI qmH [qeh] 40:=λx=>by kernel_rfl
theorem qns:OT qeI:=entK (qg qjL qo) hJ qon
def qfm (a0:((List (List UInt8)) × (List ((List UInt8) × (List Int) × (List Int) × (List Int) × (List Int) × Unit)) × (List ((List Int) × (List Int) × Unit)) × Unit)) (a1:Int):Option Int :=
 (qgu a0 a1).bind λx1 =>
 bif !x1 then
  some 2
 else
  some 0
def qd0:Entry:=⟨64,[.ty (.pair (.sl .str) (.pair (.sl (.pair .str (.pair (.sl I) (.pair (.sl I) (.pair (.sl I) (.pair (.sl I) .unit)))))) (.pair (.sl (.pair (.sl I) (.pair (.sl I) .unit))) .unit))),.ty I],[(I,0)],λx=>qfm x.1 x.2⟩
def qlP:TH:=qcs [] []
theorem qlL:KT qd0 qlP [qeI] 40:=λx=>by kernel_rfl
theorem qlE:OT qd0:=entK (qg qns qo) hJ qlL
def qdC (a0:((List (List UInt8)) × (List ((List UInt8) × (List Int) × (List Int) × (List Int) × (List Int) × Unit)) × (List ((List Int) × (List Int) × Unit)) × Unit)) (a1:Int):Option Int :=
 (qcx a0).bind λx1 =>
 bif !(decide (x1 = 0)) then
  some x1
 else
  (qfm a0 a1).bind λx2 =>
  some x2
def qdV:Entry:=⟨14,[.ty (.pair (.sl .str) (.pair (.sl (.pair .str (.pair (.sl I) (.pair (.sl I) (.pair (.sl I) (.pair (.sl I) .unit)))))) (.pair (.sl (.pair (.sl I) (.pair (.sl I) .unit))) .unit))),.ty I],[(I,0)],λx=>qdC x.1 x.2⟩
def qlT:TH:=qcs [] []
theorem qlR:KT qdV qlT [qcI,qd0] 40:=λx=>by kernel_rfl
theorem ql3:OT qdV:=entK (qg qjH (qg qlE qo)) hJ qlR
def qf1 (a0:((List Int) × (List Int) × Unit)) (a1:Int):Option Bool :=
 (qG (λ(s2:Int) =>
   bif decide (s2 < (a0.1.length:Int)) then
    (idx a0.1 s2).bind λx3 =>
    (qsQ .i64 a1 x3).bind λx4 =>
    bif decide (qqY .i64 x4 (1:Int) = 0) then
     some (.inr (.inr false))
    else
     some (.inl (w64 (s2 + 1)))
   else
    some (.inr (.inl ()))) 0).bind (Sum.elim (λ(p5:Unit) =>
 (qG (λ(s7:Int) =>
   bif decide (s7 < (a0.2.1.length:Int)) then
    (idx a0.2.1 s7).bind λx8 =>
    (qsQ .i64 a1 x8).bind λx9 =>
    bif decide (qqY .i64 x9 (1:Int) = 1) then
     some (.inr (.inr false))
    else
     some (.inl (w64 (s7 + 1)))
   else
    some (.inr (.inl ()))) 0).bind (Sum.elim (λ(p10:Unit) =>
 some true) some)) some)
def qgf:Entry:=⟨67,[.ty (.pair (.sl I) (.pair (.sl I) .unit)),.ty I],[(.bool,0)],λx=>qf1 x.1 x.2⟩
def qqE:TH:=qcs [([],67,.block 0,{ lv:=[],ps:=[],abn:=true,D:=⟨8388512⟩,rs:=[⟨0,2⟩],Dn:=⟨8388256⟩ }),
 ([],67,.loop 0,{ lv:=[⟨none,5,0⟩],ps:=[(I,0)],D:=⟨8388512⟩,rs:=[⟨0,2⟩],Dn:=⟨8355488⟩ }),
 ([],67,.block 2,{ lv:=[],ps:=[],abn:=true,D:=⟨549747425344⟩,rs:=[⟨0,2⟩],Dn:=⟨549730648128⟩ }),
 ([],67,.loop 2,{ lv:=[⟨none,6,0⟩],ps:=[(I,0)],D:=⟨549747425344⟩,rs:=[⟨0,2⟩],Dn:=⟨547583164480⟩ })] []
theorem qpU:KT qgf qqE [] 40:=λx=>by kernel_rfl
theorem qqf:OT qgf:=entK qo hJ qpU
def qaX (a0:((List (List UInt8)) × (List ((List UInt8) × (List Int) × (List Int) × (List Int) × (List Int) × Unit)) × (List ((List Int) × (List Int) × Unit)) × Unit)) (a1:Int):Option Bool :=
 (qG (λ(s2:Int) =>
   bif decide (s2 < (a0.2.2.1.length:Int)) then
    (idx a0.2.2.1 s2).bind λx3 =>
    (qf1 x3 a1).bind λx4 =>
    bif x4 then
     some (.inr (.inr true))
    else
     some (.inl (w64 (s2 + 1)))
   else
    some (.inr (.inl ()))) 0).bind (Sum.elim (λ(p5:Unit) =>
 some false) some)
def qfc:Entry:=⟨18,[.ty (.pair (.sl .str) (.pair (.sl (.pair .str (.pair (.sl I) (.pair (.sl I) (.pair (.sl I) (.pair (.sl I) .unit)))))) (.pair (.sl (.pair (.sl I) (.pair (.sl I) .unit))) .unit))),.ty I],[(.bool,0)],λx=>qaX x.1 x.2⟩
def qoD:TH:=qcs [([],18,.block 0,{ lv:=[],ps:=[],abn:=true,D:=⟨1048544⟩,rs:=[⟨0,2⟩],Dn:=⟨1048416⟩ }),
 ([],18,.loop 0,{ lv:=[⟨none,5,0⟩],ps:=[(I,0)],D:=⟨1048544⟩,rs:=[⟨0,2⟩],Dn:=⟨1040224⟩ })] []
theorem qoy:KT qfc qoD [qgf] 40:=λx=>by kernel_rfl
theorem qoP:OT qfc:=entK (qg qqf qo) hJ qoy
def cmp_Less_int (a0:Int) (a1:Int):Option Bool :=
 ((cmp_isNaN_int a0).bind λx1 =>
  bif x1 then
   (cmp_isNaN_int a1).bind λx2 =>
   bif !x2 then
    some true
   else
    some (decide (a0 < a1))
  else
   some (decide (a0 < a1))).bind λ(p3:Bool) =>
 some p3
def qfb:Entry:=⟨125,[.ty I,.ty I],[(.bool,0)],λx=>cmp_Less_int x.1 x.2⟩
def qow:TH:=qcs [([],125,.region 1,{ lv:=[⟨none,4,0⟩],ps:=[(.bool,0)],D:=⟨131056⟩ })] []
theorem qox:KT qfb qow [qcV] 40:=λx=>by kernel_rfl
theorem qoJ:OT qfb:=entK (qg qg0 qo) hJ qox
def qcu (a0:Int):Option Bool :=
 some (!(decide (a0 = a0)))
def qc7:Entry:=⟨126,[.ty I],[(.bool,0)],λx=>qcu x⟩
def qjT:TH:=qcs [] []
theorem qj6:KT qc7 qjT [] 40:=λx=>by kernel_rfl
theorem qkh:OT qc7:=entK qo hJ qj6
def qM (a0:(List Int)) (a1:Int):Option (Int × Bool) :=
 (qG (λ(s2:(Int × Int)) =>
   bif decide (s2.1 < s2.2) then
    (qsQ .u64 (IntKind.wrap .u64 (w64 (s2.1 + s2.2))) (1:Int)).bind λx3 =>
    (idx a0 (w64 (x3))).bind λx4 =>
    (cmp_Less_int x4 a1).bind λx5 =>
    (bif x5 then
      some (w64 ((w64 (x3)) + 1),s2.2)
     else
      some (s2.1,w64 (x3))).bind λ(p6:(Int × Int)) =>
    some (.inl (p6.1,p6.2))
   else
    some (.inr s2.1)) (0,(a0.length:Int))).bind λ(p7:Int) =>
 (bif decide (p7 < (a0.length:Int)) then
   (idx a0 p7).bind λx8 =>
   bif decide (x8 = a1) then
    some (p7,true)
   else
    (idx a0 p7).bind λx9 =>
    (qcu x9).bind λx10 =>
    bif x10 then
     (qcu a1).bind λx11 =>
     some (p7,x11)
    else
     some (p7,false)
  else
   some (p7,false)).bind λ(p12:(Int × Bool)) =>
 some (p12.1,p12.2)
def qaF:Entry:=⟨76,[.ty (.sl I),.ty I],[(I,0),(.bool,0)],λx=>qM x.1 x.2⟩
def qdT:TH:=qcs [([],76,.block 0,{ lv:=[⟨none,7,0⟩],ps:=[(I,0)],D:=⟨2147476352⟩ }),
 ([],76,.loop 0,{ lv:=[⟨none,7,0⟩,⟨none,8,0⟩],ps:=[(I,0),(I,0)],D:=⟨2147476352⟩ }),
 ([],76,.cond 27,{ lv:=[⟨none,7,0⟩,⟨none,8,0⟩],ps:=[(I,0),(I,0)],D:=⟨1879048576⟩ }),
 ([],76,.region 8,{ lv:=[⟨none,4,0⟩,⟨none,5,0⟩],ps:=[(I,0),(.bool,0)],D:=⟨18014396361998384⟩ })] []
theorem qdI:KT qaF qdT [qfb,qc7] 40:=λx=>by kernel_rfl
theorem qdF:OT qaF:=entK (qg qoJ (qg qkh qo)) hJ qdI
def qbD (a0:((List (List UInt8)) × (List ((List UInt8) × (List Int) × (List Int) × (List Int) × (List Int) × Unit)) × (List ((List Int) × (List Int) × Unit)) × Unit)) (a1:Int) (a2:(List Int)):Option (Int × Int) :=
 (qam a0 a1).bind λx1 =>
 bif !(decide (x1.2.2 = 0)) then
  some (0,x1.2.2)
 else
  ((qG (λ(s3:(Int × Int)) =>
     bif decide (s3.1 < (a2.length:Int)) then
      (idx a2 s3.1).bind λx4 =>
      (qq x4 (0:Int) (w64 (x1.1.2.2.2.1 - 1))).bind λx5 =>
      (qm x5 (2:Int)).bind λx6 =>
      (qm (decide (x4 > s3.2)) (9:Int)).bind λx7 =>
      (qx ([x6,x7])).bind λx8 =>
      bif !(decide (x8 = 0)) then
       some (.inr (.inr (s3.1,x8,x4)))
      else
       some (.inl (w64 (s3.1 + 1),x4))
     else
      some (.inr (.inl s3.2))) (0,(-1))).bind (Sum.elim (λ(p9:Int) =>
   some (0,0,p9)) some)).bind λ(p10:(Int × Int × Int)) =>
  bif !(decide (p10.2.1 = 0)) then
   some (p10.1,p10.2.1)
  else
   (qM a2 a1).bind λx11 =>
   bif !x11.2 then
    some (0,6)
   else
    ((qG (λ(s13:Int) =>
       bif decide (s13 < (a2.length:Int)) then
        (idx a2 s13).bind λx14 =>
        ((qw x1.1 x14).bind λx15 =>
         bif x15 then
          some 22
         else
          (qG (λ(s17:Int) =>
            bif decide (s17 < (x1.1.1.length:Int)) then
             ((idx x1.1.1 s17).bind λx18 =>
              (qsQ .i64 (0:Int) s17).bind λx19 =>
              bif decide (qqY .i64 x19 (1:Int) = 0) then
               (qS x18 x14).bind λx20 =>
               bif x20 then
                (idx x1.1.2.1 s17).bind λx21 =>
                (qan x21 x14).bind λx22 =>
                (qM a2 x22).bind λx23 =>
                bif !x23.2 then
                 some (.inr (.inr (.inr 21)))
                else
                 some (.inl ())
               else
                some (.inl ())
              else
               some (.inl ())).bind (Sum.elim (λ(p24:Unit) =>
             some (.inl (w64 (s17 + 1)))) some)
            else
             some (.inr (.inl ()))) 0).bind (Sum.elim (λ(p25:Unit) =>
          some 0) some)).bind λ(p26:Int) =>
        bif !(decide (p26 = 0)) then
         some (.inr (.inr (s13,p26)))
        else
         some (.inl (w64 (s13 + 1)))
       else
        some (.inr (.inl ()))) 0).bind (Sum.elim (λ(p27:Unit) =>
     some (0,0)) some)).bind λ(p28:(Int × Int)) =>
    some (p28.1,p28.2)
def qcg:Entry:=⟨20,[.ty (.pair (.sl .str) (.pair (.sl (.pair .str (.pair (.sl I) (.pair (.sl I) (.pair (.sl I) (.pair (.sl I) .unit)))))) (.pair (.sl (.pair (.sl I) (.pair (.sl I) .unit))) .unit))),.ty I,.ty (.sl I)],[(I,0),(I,0)],λx=>qbD x.1 x.2.1 x.2.2⟩
def qh7:TH:=qcs [([28],70,.inl 0,{ lv:=[⟨none,4,0⟩,⟨none,5,0⟩,⟨some 0,11,0⟩],ps:=[(I,0),(I,0),(I,0)],D:=⟨33554416⟩,wr:=[⟨0,11⟩],rs:=[⟨0,8⟩,⟨0,11⟩],Dn:=⟨33488880⟩ }),
 ([28],70,.block 0,{ lv:=[⟨some 0,11,0⟩],ps:=[(I,0)],abn:=true,D:=⟨33552832⟩,wr:=[⟨0,11⟩] }),
 ([28],70,.loop 0,{ lv:=[⟨none,11,0⟩,⟨some 0,11,0⟩],ps:=[(I,0),(I,0)],D:=⟨33552832⟩,wr:=[⟨0,11⟩],rs:=[⟨0,8⟩,⟨0,11⟩],Dn:=⟨33487296⟩ }),
 ([42],70,.inl 0,{ lv:=[⟨none,4,0⟩,⟨none,5,0⟩],ps:=[(I,0),(I,0)],D:=⟨33554416⟩,rs:=[⟨0,8⟩,⟨0,14⟩],Dn:=⟨33488880⟩ }),
 ([42],70,.block 0,{ lv:=[],ps:=[],abn:=true,D:=⟨33552832⟩ }),
 ([42],70,.loop 0,{ lv:=[⟨none,11,0⟩],ps:=[(I,0)],D:=⟨33552832⟩,rs:=[⟨0,8⟩,⟨0,14⟩],Dn:=⟨33487296⟩ }),
 ([42],70,.region 4,{ lv:=[⟨none,8,0⟩],ps:=[(I,0)],D:=⟨983296⟩,rs:=[⟨0,8⟩,⟨0,14⟩],Dn:=⟨917760⟩ }),
 ([15,19,42],127,.block 0,{ lv:=[],ps:=[],abn:=true,D:=⟨549755812960⟩,wr:=[⟨3,6⟩] }),
 ([15,19,42],127,.loop 0,{ lv:=[⟨none,10,0⟩],ps:=[(I,0)],D:=⟨549755812960⟩,wr:=[⟨3,6⟩],rs:=[⟨2,15⟩,⟨3,6⟩],Dn:=⟨549688704032⟩ }),
 ([15,19,42],127,.block 1,{ lv:=[],ps:=[],abn:=true,D:=⟨274877902944⟩,wr:=[⟨3,6⟩],rs:=[⟨2,15⟩,⟨3,6⟩],Dn:=⟨274810794016⟩ })] [([19,42],77,14)]
theorem qhY:KT qcg qh7 [qI,q3,qaj,qa0,qat,qy,qz,qaF] 40:=λx=>by kernel_rfl
theorem qic:OT qcg:=entK (qg qaA (qg qaK (qg qaY (qg qcO (qg qbs (qg q9 (qg q8 (qg qdF qo)))))))) hJ qhY
def qcR (a0:((List (List UInt8)) × (List ((List UInt8) × (List Int) × (List Int) × (List Int) × (List Int) × Unit)) × (List ((List Int) × (List Int) × Unit)) × Unit)) (a1:Int) (a2:Int):Option (Int × Int) :=
 (qam a0 a1).bind λx1 =>
 (qq a2 (0:Int) (w64 ((a0.2.1.length:Int) - 1))).bind λx2 =>
 (qm x2 (6:Int)).bind λx3 =>
 (qx ([x1.2.2,x3])).bind λx4 =>
 bif !(decide (x4 = 0)) then
  some (0,x4)
 else
  (idx x1.1.1 a2).bind λx5 =>
  (qS x5 x1.2.1).bind λx6 =>
  bif !x6 then
   some (0,20)
  else
   (idx x1.1.2.1 a2).bind λx7 =>
   (qan x7 x1.2.1).bind λx8 =>
   some (x8,0)
def qeR:Entry:=⟨79,[.ty (.pair (.sl .str) (.pair (.sl (.pair .str (.pair (.sl I) (.pair (.sl I) (.pair (.sl I) (.pair (.sl I) .unit)))))) (.pair (.sl (.pair (.sl I) (.pair (.sl I) .unit))) .unit))),.ty I,.ty I],[(I,0),(I,0)],λx=>qcR x.1 x.2.1 x.2.2⟩
def qod:TH:=qcs [] []
theorem qnH:KT qeR qod [qI,qaj,qa0,qat,qy,qz] 40:=λx=>by kernel_rfl
theorem qm5:OT qeR:=entK (qg qaA (qg qaY (qg qcO (qg qbs (qg q9 (qg q8 qo)))))) hJ qnH
def qbN (a0:((List (List UInt8)) × (List ((List UInt8) × (List Int) × (List Int) × (List Int) × (List Int) × Unit)) × (List ((List Int) × (List Int) × Unit)) × Unit)) (a1:Int) (a2:(List Int)):Option (Int × Bool) :=
 (qG (λ(s2:(Int × Int)) =>
   bif decide (s2.2 < (a2.length:Int)) then
    (qbB a0).bind λx3 =>
    (idx a2 s2.2).bind λx4 =>
    (qcR x3 s2.1 x4).bind λx5 =>
    bif !(decide (x5.2 = 0)) then
     some (.inr (.inr (0,false)))
    else
     some (.inl (x5.1,w64 (s2.2 + 1)))
   else
    some (.inr (.inl s2.1))) (a1,0)).bind (Sum.elim (λ(p6:Int) =>
 some (p6,true)) some)
def qfd:Entry:=⟨22,[.ty (.pair (.sl .str) (.pair (.sl (.pair .str (.pair (.sl I) (.pair (.sl I) (.pair (.sl I) (.pair (.sl I) .unit)))))) (.pair (.sl (.pair (.sl I) (.pair (.sl I) .unit))) .unit))),.ty I,.ty (.sl I)],[(I,0),(.bool,0)],λx=>qbN x.1 x.2.1 x.2.2⟩
def qou:TH:=qcs [([],22,.block 0,{ lv:=[⟨none,1,0⟩],ps:=[(I,0)],abn:=true,D:=⟨2147483394⟩ }),
 ([],22,.loop 0,{ lv:=[⟨none,1,0⟩,⟨none,8,0⟩],ps:=[(I,0),(I,0)],D:=⟨2147483394⟩ })] []
theorem qoE:KT qfd qou [qdS,qeR] 40:=λx=>by kernel_rfl
theorem qoB:OT qfd:=entK (qg qgR (qg qm5 qo)) hJ qoE
def qcZ (a0:((List (List UInt8)) × (List ((List UInt8) × (List Int) × (List Int) × (List Int) × (List Int) × Unit)) × (List ((List Int) × (List Int) × Unit)) × Unit)) (a1:(List Int)):Option ((List (List UInt8)) × (List ((List UInt8) × (List Int) × (List Int) × (List Int) × (List Int) × Unit)) × (List ((List Int) × (List Int) × Unit)) × Unit) :=
 (qbB a0).bind λx1 =>
 (qG (λ(s3:(Int × (List (List UInt8)) × (List ((List UInt8) × (List Int) × (List Int) × (List Int) × (List Int) × Unit)) × (List ((List Int) × (List Int) × Unit)))) =>
   bif decide (s3.1 < (a0.2.1.length:Int)) then
    (qjr a1 s3.1).bind λx4 =>
    (bif !x4 then
      (qbB a0).bind λx5 =>
      (idx x5.2.1 s3.1).bind λx6 =>
      (app s3.2.2.1 ([x6])).bind λx7 =>
      some (s3.2.1,x7,s3.2.2.2)
     else
      some (s3.2.1,s3.2.2.1,s3.2.2.2)).bind λ(p8:((List (List UInt8)) × (List ((List UInt8) × (List Int) × (List Int) × (List Int) × (List Int) × Unit)) × (List ((List Int) × (List Int) × Unit)))) =>
    some (.inl (w64 (s3.1 + 1),p8.1,p8.2.1,p8.2.2))
   else
    some (.inr (s3.2.1,s3.2.2.1,s3.2.2.2))) (0,x1.1,[],x1.2.2.1)).bind λ(p9:((List (List UInt8)) × (List ((List UInt8) × (List Int) × (List Int) × (List Int) × (List Int) × Unit)) × (List ((List Int) × (List Int) × Unit)))) =>
 some (p9.1,p9.2.1,p9.2.2,())
def qeN:Entry:=⟨23,[.ty (.pair (.sl .str) (.pair (.sl (.pair .str (.pair (.sl I) (.pair (.sl I) (.pair (.sl I) (.pair (.sl I) .unit)))))) (.pair (.sl (.pair (.sl I) (.pair (.sl I) .unit))) .unit))),.ty (.sl I)],[((.pair (.sl .str) (.pair (.sl (.pair .str (.pair (.sl I) (.pair (.sl I) (.pair (.sl I) (.pair (.sl I) .unit)))))) (.pair (.sl (.pair (.sl I) (.pair (.sl I) .unit))) .unit))),0)],λx=>qcZ x.1 x.2⟩
def qnp:TH:=qcs [([],23,.block 0,{ lv:=[⟨some 0,5,0⟩,⟨some 0,5,1⟩,⟨some 0,5,2⟩],ps:=[((.sl .str),0),((.sl (.pair .str (.pair (.sl I) (.pair (.sl I) (.pair (.sl I) (.pair (.sl I) .unit)))))),1),((.sl (.pair (.sl I) (.pair (.sl I) .unit))),0)],D:=⟨4294966336⟩,wr:=[⟨0,5⟩],rs:=[⟨0,2⟩],Dn:=⟨4294964288⟩ }),
 ([],23,.loop 0,{ lv:=[⟨none,6,0⟩,⟨some 0,5,0⟩,⟨some 0,5,1⟩,⟨some 0,5,2⟩],ps:=[(I,0),((.sl .str),0),((.sl (.pair .str (.pair (.sl I) (.pair (.sl I) (.pair (.sl I) (.pair (.sl I) .unit)))))),1),((.sl (.pair (.sl I) (.pair (.sl I) .unit))),0)],D:=⟨4294966336⟩,wr:=[⟨0,5⟩],rs:=[⟨0,2⟩,⟨0,5⟩],Dn:=⟨2145383488⟩ }),
 ([],23,.cond 20,{ lv:=[⟨some 0,5,0⟩,⟨some 0,5,1⟩,⟨some 0,5,2⟩],ps:=[((.sl .str),0),((.sl (.pair .str (.pair (.sl I) (.pair (.sl I) (.pair (.sl I) (.pair (.sl I) .unit)))))),1),((.sl (.pair (.sl I) (.pair (.sl I) .unit))),0)],D:=⟨4292870144⟩,wr:=[⟨0,5⟩],rs:=[⟨0,5⟩],Dn:=⟨2143289344⟩ })] []
theorem qnE:KT qeN qnp [qhv,qdS] 40:=λx=>by kernel_rfl
theorem qnP:OT qeN:=entK (qg qpn (qg qgR qo)) hJ qnE
def qcK (a0:((List (List UInt8)) × (List ((List UInt8) × (List Int) × (List Int) × (List Int) × (List Int) × Unit)) × (List ((List Int) × (List Int) × Unit)) × Unit)) (a1:Int) (a2:(List Int)):Option Bool :=
 (qiK).bind λx1 =>
 bif !x1 then
  some false
 else
  ((qjZ a0).bind λx2 =>
   bif !x2 then
    some true
   else
    bif decide ((a0.2.1.length:Int) > 6) then
     some true
    else
     (qdC a0 a1).bind λx3 =>
     bif !(decide (x3 = 0)) then
      some true
     else
      some (decide ((a2.length:Int) > 8))).bind λ(p4:Bool) =>
  bif p4 then
   some true
  else
   (qbB a0).bind λx5 =>
   (qbH x5 a1).bind λx6 =>
   (qbB a0).bind λx7 =>
   (qaN x7 a1).bind λx8 =>
   (bif !(decide (x6.2 = 0)) then
     some true
    else
     some (decide ((x6.1.length:Int) > 256))).bind λ(p9:Bool) =>
   bif p9 then
    some false
   else
    (qbB a0).bind λx10 =>
    (qb5 x6.1).bind λx11 =>
    (qbD x10 a1 x11).bind λx12 =>
    (bif !(decide (x12.2 = 0) == decide (x8.2 = 12)) then
      some true
     else
      bif !(decide (x8.2 = 0)) then
       some (!(decide (x8.2 = 12)))
      else
       some false).bind λ(p13:Bool) =>
    bif p13 then
     some false
    else
     (bif decide (x8.2 = 0) then
       (qbN a0 a1 x8.1).bind λx14 =>
       (bif !x14.2 then
         some true
        else
         (qaX a0 x14.1).bind λx15 =>
         bif !x15 then
          some true
         else
          some (decide ((x8.1.length:Int) > 256))).bind λ(p16:Bool) =>
       bif p16 then
        some (.inr false)
       else
        (bif decide ((x8.1.length:Int) > 0) then
          (slc x8.1 0 (w64 ((x8.1.length:Int) - 1))).bind λx17 =>
          (qbN a0 a1 x17).bind λx18 =>
          (bif !x18.2 then
            some true
           else
            (qaX a0 x18.1).bind λx19 =>
            some x19).bind λ(p20:Bool) =>
          bif p20 then
           some (.inr (.inr false))
          else
           some (.inl ())
         else
          some (.inl ())).bind (Sum.elim (λ(p21:Unit) =>
        some (.inl ())) some)
      else
       some (.inl ())).bind (Sum.elim (λ(p22:Unit) =>
     (qbN a0 a1 a2).bind λx23 =>
     (bif x23.2 then
       (qaX a0 x23.1).bind λx24 =>
       bif x24 then
        bif !(decide (x8.2 = 0)) then
         some true
        else
         some (decide ((x8.1.length:Int) > (a2.length:Int)))
       else
        some false
      else
       some false).bind λ(p25:Bool) =>
     bif p25 then
      some false
     else
      (qbB a0).bind λx26 =>
      (qbz x26 a1).bind λx27 =>
      (qaX a0 a1).bind λx28 =>
      bif x28 then
       some (decide (x27.2 = 20))
      else
       (bif !(decide (x27.2 = 0)) then
         some true
        else
         some (!(decide ((x27.1.length:Int) = 0) == decide (x8.2 = 12)))).bind λ(p29:Bool) =>
       bif p29 then
        some false
       else
        (qG (λ(s31:Int) =>
          bif decide (s31 < (x27.1.length:Int)) then
           (qG (λ(s33:((List Int) × Int)) =>
             bif decide (s33.2 < (x27.1.length:Int)) then
              (bif !(decide (s33.2 = s31)) then
                (idx x27.1 s33.2).bind λx34 =>
                (app s33.1 ([x34])).bind λx35 =>
                some x35
               else
                some s33.1).bind λ(p36:(List Int)) =>
              some (.inl (p36,w64 (s33.2 + 1)))
             else
              some (.inr s33.1)) ([],0)).bind λ(p37:(List Int)) =>
           (qcZ a0 p37).bind λx38 =>
           (qaN x38 a1).bind λx39 =>
           (bif decide (s31 < 0) then
             bif !(decide (x39.2 = 12)) then
              some true
             else
              bif decide (s31>=0) then
               some (!(decide (x39.2 = 0)))
              else
               some false
            else
             bif decide (s31>=0) then
              some (!(decide (x39.2 = 0)))
             else
              some false).bind λ(p40:Bool) =>
           bif p40 then
            some (.inr (.inr false))
           else
            some (.inl (w64 (s31 + 1)))
          else
           some (.inr (.inl ()))) (-1)).bind (Sum.elim (λ(p41:Unit) =>
        some true) some)) some)
def qa6:Entry:=⟨4,[.ty (.pair (.sl .str) (.pair (.sl (.pair .str (.pair (.sl I) (.pair (.sl I) (.pair (.sl I) (.pair (.sl I) .unit)))))) (.pair (.sl (.pair (.sl I) (.pair (.sl I) .unit))) .unit))),.ty I,.ty (.sl I)],[(.bool,0)],λx=>qcK x.1 x.2.1 x.2.2⟩
def qh0:TH:=qcs [([],4,.region 3,{ lv:=[⟨none,47,0⟩],ps:=[(.bool,0)],D:=⟨281474708275200⟩,rs:=[⟨0,3⟩],Dn:=⟨281470413307904⟩ }),
 ([],4,.region 7,{ lv:=[⟨none,68,0⟩],ps:=[(.bool,0)],D:=⟨585684124340278263808⟩ }),
 ([],4,.region 10,{ lv:=[⟨none,90,0⟩],ps:=[(.bool,0)],D:=⟨2475577847115856892504571904⟩ }),
 ([],4,.cond 92,{ lv:=[],ps:=[],abn:=true,D:=⟨21778071482930158141341691833433972662272⟩ }),
 ([],4,.region 14,{ lv:=[⟨none,112,0⟩],ps:=[(.bool,0)],D:=⟨10383326066469427027659495955234816⟩ }),
 ([],4,.cond 115,{ lv:=[],ps:=[],abn:=true,D:=⟨21777988406190325104413918387691898109952⟩ }),
 ([],4,.region 18,{ lv:=[⟨none,133,0⟩],ps:=[(.bool,0)],D:=⟨21607930299479592429924287571917281427456⟩ }),
 ([],4,.region 21,{ lv:=[⟨none,157,0⟩],ps:=[(.bool,0)],D:=⟨365372621739575913223028516214286673868794888704⟩ }),
 ([],4,.region 26,{ lv:=[⟨none,179,0⟩],ps:=[(.bool,0)],D:=⟨1530998963189262013770106453881607709806611447259594752⟩ }),
 ([],4,.block 0,{ lv:=[],ps:=[],abn:=true,D:=⟨26959946667149107299126149198161272326609994113356953741981491659392⟩ }),
 ([],4,.loop 0,{ lv:=[⟨none,21,0⟩],ps:=[(I,0)],D:=⟨26959946667149107299126149198161272326609994113356953741981491659392⟩ }),
 ([],4,.block 2,{ lv:=[⟨none,22,0⟩],ps:=[((.sl I),1)],D:=⟨6427654097321345685280913435154912790301060375827351603249792⟩ }),
 ([],4,.loop 2,{ lv:=[⟨none,22,0⟩,⟨none,23,0⟩],ps:=[((.sl I),1),(I,0)],D:=⟨6427654097321345685280913435154912790301060375827351603249792⟩ }),
 ([],4,.cond 194,{ lv:=[⟨none,22,0⟩],ps:=[((.sl I),1)],D:=⟨6377535363152867656057162053978989078759993131575459069296640⟩ }),
 ([],4,.region 38,{ lv:=[⟨none,223,0⟩],ps:=[(.bool,0)],D:=⟨26958301162593318588624860117837073323132161686674938901240261640192⟩ })] []
theorem qh6:KT qa6 qh0 [qcL,qc1,qiJ,qdV,qfd,qeN,qdS,qfc,qc4,qcg,qdp,qch] 40:=λx=>by kernel_rfl
theorem qh8:OT qa6:=entK (qg qhl (qg qql (qg qtp (qg ql3 (qg qoB (qg qnP (qg qgR (qg qoP (qg qjF (qg qic (qg qkD (qg qia qo)))))))))))) hJ qh6
end
end Go.Proofs.YtkcaaaiihhhnmaaGreatDoor
end
section
namespace Go.Proofs.YtkcaaaiihhhnmaaGreatDoor
open Go Go.Ab Go.Tx
theorem wit (n lo hi:Int):qq n lo hi = some (decide (lo<=n/\n<=hi)):=by
 unfold qq;by_cases h:lo<=n <;> by_cases h':n<=hi <;> simp [h,h']
theorem Wit (n lo hi:Int):qeK n lo hi = some (decide (lo<=n/\n<=hi)):=by
 unfold qeK;by_cases h:lo<=n <;> by_cases h':n<=hi <;> simp [h,h']
theorem wq {n:Int} (h1 : -9223372036854775808<=n) (h2:n<=9223372036854775807):w64 n = n:=qhp h1 h2
theorem unl (b:Bool) (e:Int):qm b e = some (if b then 0 else e):=by cases b <;> rfl
theorem qAh (l:List Int) (h:l.length<=1000000000):qx l = some (qiB l):=by
 unfold qx; exact qwE l h
abbrev Rg:=Int × Int × Unit
def wOk (w:Rg):Prop:=(-1000000<=w.1/\w.1<=1000000)/\(1<=w.2.1/\w.2.1<=8)
instance (w:Rg):Decidable (wOk w):=by unfold wOk; infer_instance
end Go.Proofs.YtkcaaaiihhhnmaaGreatDoor
end
section
namespace Go.Proofs.YtkcaaaiihhhnmaaGreatDoor
open Go Go.Ab Go.Tx
abbrev Nm:=List UInt8
abbrev Gt:=List UInt8 × List (List UInt8) × Int × Unit
theorem qCE (l:List Nm) (m:Nm):qfS .str l m = decide (m ∈ l):=by
 have:=quB (τ:=.str) rfl (l:=l) (k:=m);by_cases h:m ∈ l
 ·rw [decide_eq_true h]; exact this.2 h
 ·rw [decide_eq_false h];cases hm:qfS .str l m with
  | false=>rfl
  | true=>exact absurd (this.1 hm) h
theorem qC1 (l:List Nm) (k:Nm):qju .str l k = if k ∈ l then l else l ++ [k]:=by
 unfold qju;rw [qCE];by_cases h:k ∈ l
 ·rw [decide_eq_true h,if_pos h]; rfl
 ·rw [decide_eq_false h,if_neg h]; rfl
theorem qu6 (l:List Nm) (m k:Nm):m ∈ qju .str l k ↔ m ∈ l\/m = k:=by
 rw [qC1];split
 ·rename_i h; exact ⟨λh=>.inl h,λh'=>h'.elim id λe=>e ▸ h⟩
 ·simp
theorem qj7 {ρ:Type} (n:Nat) (K:Int->Option (Int ⊕ (Unit ⊕ ρ))) (q:Nat->Prop) [∀ i,Decidable (q i)] (r:ρ) (c:Prop) [Decidable c] (hc:c ↔ ∃ j,j < n/\q j)
  (h:∀ i,i < n->K (i:Int) = some (if q i then .inr (.inr r) else .inl ((i:Int) + 1))) :
  qG (λs=>bif decide (s < (n:Int)) then K s else some (.inr (.inl ()))) 0 = some (if c then .inr r else .inl ()):=by
 refine Ok.eq (qdk n (λi (s:Int)=>s = (i:Int)/\∀ j,j < i -> ¬ q j) _ ⟨rfl,by omega⟩ ?_);rintro i s hi ⟨rfl,hI⟩;by_cases hlt:i < n
 ·have h0:decide ((i:Int) < (n:Int)) = true:=by simp <;> omega
  simp only [h0,cond_true];rw [h i hlt];by_cases hq:q i
  ·rw [if_pos hq,qa1,if_pos (hc.2 ⟨i,hlt,hq⟩)]
  ·rw [if_neg hq,qaz];refine ⟨hlt,by simp,λj hj=>?_⟩;by_cases e:j = i
   ·subst e; exact hq
   ·exact hI j (by omega)
 ·have h0:decide ((i:Int) < (n:Int)) = false:=by simp <;> omega
  simp only [h0,cond_false];rw [qa1,if_neg (λh=>by
   obtain ⟨j,h1,h2⟩:=hc.1 h;exact hI j (by omega) h2)]
theorem qgt {α:Type} {l:List α} {i:Nat} {a:α}:a ∈ l.take i ↔ ∃ j,j < i/\l[j]? = some a:=by
 rw [List.mem_iff_getElem?];constructor
 ·rintro ⟨j,h⟩;rw [List.getElem?_take] at h;split at h
  ·exact ⟨j,by assumption,h⟩
  ·cases h
 ·rintro ⟨j,h1,h2⟩;exact ⟨j,by rw [List.getElem?_take,if_pos h1]; exact h2⟩
theorem qn5 {α:Type} {g:Nat->α->Int}:∀ (l m:List α) (k:Nat),qaM g k (l ++ m) = if (qaM g k l).2 = 0 then qaM g (k + l.length) m else qaM g k l
 | [],m,k=>by simp [qaM]
 | a :: l,m,k=>by
  simp only [List.cons_append,qaM];by_cases h:g k a = 0
  ·simp only [h,if_true];rw [qn5 l m (k + 1),List.length_cons,show k + 1 + l.length = k + (l.length + 1) by omega]
  ·simp [h]
theorem qq7 {α:Type} {g:Nat->α->Int}:∀ {l:List α} {k:Nat},(qaM g k l).2 = 0->qaM g k l = (0,0)
 | [],k,_=>rfl
 | a :: l,k,h=>by
  simp only [qaM] at h ⊢;by_cases h0:g k a = 0
  ·simp only [h0,if_true] at h ⊢; exact qq7 h
  ·simp [h0] at h
theorem qwa {α:Type} {g:Nat->α->Int} {l:List α} {i:Nat} {a:α} (h:l[i]? = some a):(qaM g 0 (l.take (i + 1))).2 = if (qaM g 0 (l.take i)).2 = 0 then g i a else (qaM g 0 (l.take i)).2:=by
 have hlt:=qaQ h;rw [qc0 a hlt,qaS h,qn5];split
 ·rw [List.length_take,Nat.min_eq_left (by omega),Nat.zero_add];simp only [qaM];by_cases h0:g i a = 0 <;> simp [h0]
 ·rfl
theorem qxP {α:Type} {g:Nat->α->Int} {l:List α} {i:Nat} {a:α} (h:l[i]? = some a) (h0:(qaM g 0 (l.take i)).2 = 0) (ha:g i a ≠ 0):qaM g 0 l = ((i:Int),g i a):=by
 have hlt:=qaQ h;have hl:l = l.take i ++ a :: l.drop (i + 1):=by
  have h2:l[i] = a:=by
   have:=List.getElem?_eq_getElem hlt;rw [this] at h; exact Option.some.inj h
  rw [<- h2,<- List.drop_eq_getElem_cons hlt]; simp
 rw [hl,qn5,if_pos h0,List.length_take,Nat.min_eq_left (by omega),Nat.zero_add];simp [qaM,ha]
def qy4 (c:UInt8):Bool:=decide (97<=(c.toNat:Int)/\(c.toNat:Int)<=122) || decide (65<=(c.toNat:Int)/\(c.toNat:Int)<=90)
def qv1 (i:Nat) (c:UInt8):Bool:=!qy4 c && (decide ((i:Int) = 0) || (!decide ((c.toNat:Int) = 45) && !decide (48<=(c.toNat:Int)/\(c.toNat:Int)<=57)))
def isN (s:Nm):Bool:=decide (1<=(s.length:Int)/\(s.length:Int)<=12) && (qa3 (λi c=>if qv1 i c = true then some false else none) 0 s).isNone
theorem qB1 (c:UInt8):(c.toNat:Int) < 256:=by
 have:=UInt8.toNat_lt c; omega
theorem qsf (s:Nm) (hl:s.length<=1000000000):qbv s = some (isN s):=by
 unfold qbv;rw [qaO s _ (λi c=>if qv1 i c = true then some false else none) (λi c hi=>by
  have:=qaQ hi;have hu:=qB1 c;rw [qV hi];simp only [qa];rw [wq (by omega) (by omega)];simp only [wit,qa];have c1:(bif decide (97<=(c.toNat:Int)/\(c.toNat:Int)<=122) then some true else some (decide (65<=(c.toNat:Int)/\(c.toNat:Int)<=90))) = some (qy4 c):=by
   unfold qy4; cases decide (97<=(c.toNat:Int)/\(c.toNat:Int)<=122) <;> rfl
  rw [c1];simp only [qa];have c2:(bif !qy4 c then bif decide ((i:Int) = 0) then some true else bif !(decide ((c.toNat:Int) = 45)) then some (!decide (48<=(c.toNat:Int)/\(c.toNat:Int)<=57)) else some false else some false) = some (qv1 i c):=by
   unfold qv1;cases qy4 c <;> cases decide ((i:Int) = 0) <;> cases decide ((c.toNat:Int) = 45) <;> rfl
  rw [c2];simp only [qa];cases qv1 i c
  ·simp only [cond_false,qf,if_false,stp]; rw [wq (by omega) (by omega)]
  ·rfl),q5]
 unfold isN;have hs:∀ r,qa3 (λi c=>if qv1 i c = true then some false else none) 0 s = some r->r = false:=by
  intro r hr;obtain ⟨i,a,_,h2,_⟩:=qaH hr;split at h2
  ·exact (Option.some.inj h2).symm
  ·cases h2
 cases hf:qa3 (λi c=>if qv1 i c = true then some false else none) 0 s with
 | none=>simp [wit]
 | some r=>rw [hs r hf]; simp
theorem qrg (s:Nm):qer s = some (isN s):=by
 unfold qer;by_cases h1:(s.length:Int) < 1
 ·have:¬ (1<=(s.length:Int)/\(s.length:Int)<=12):=by omega
  simp only [isN,decide_eq_false this,Bool.false_and];simp only [h1,decide_true,cond_true,qa]
 ·by_cases h2:(s.length:Int) > 12
  ·have:¬ (1<=(s.length:Int)/\(s.length:Int)<=12):=by omega
   simp only [isN,decide_eq_false this,Bool.false_and];simp only [h1,h2,decide_true,decide_false,cond_true,cond_false,qa]
  ·have hr:(1<=(s.length:Int)/\(s.length:Int)<=12):=by omega
   simp only [isN,decide_eq_true hr,Bool.true_and];simp only [h1,h2,decide_true,decide_false,cond_true,cond_false,qa];rw [qaO s _ (λi c=>if qv1 i c = true then some false else none) (λi c hi=>by
    have:=qaQ hi;have hu:=qB1 c;rw [qV hi];simp only [qa];have c1:(bif decide ((c.toNat:Int)>=97) then bif decide ((c.toNat:Int)<=122) then some true else bif decide ((c.toNat:Int)>=65) then some (decide ((c.toNat:Int)<=90)) else some false
      else bif decide ((c.toNat:Int)>=65) then some (decide ((c.toNat:Int)<=90)) else some false) = some (qy4 c):=by
     unfold qy4;by_cases a1:(c.toNat:Int)>=97 <;> by_cases a2:(c.toNat:Int)<=122 <;> by_cases a3:(c.toNat:Int)>=65 <;> by_cases a4:(c.toNat:Int)<=90 <;> simp [a1,a2,a3,a4]
    rw [c1];simp only [qa];have c2:(bif !qy4 c then bif decide ((i:Int) = 0) then some true else bif !(decide ((c.toNat:Int) = 45)) then bif decide ((c.toNat:Int) < 48) then some true else some (decide ((c.toNat:Int) > 57)) else some false else some false) = some (qv1 i c):=by
     unfold qv1;have e:(bif decide ((c.toNat:Int) < 48) then some true else some (decide ((c.toNat:Int) > 57))) = some (!decide (48<=(c.toNat:Int)/\(c.toNat:Int)<=57)):=by
      by_cases a1:(c.toNat:Int) < 48
      ·have:¬ (48<=(c.toNat:Int)/\(c.toNat:Int)<=57):=by omega
       rw [decide_eq_true a1,decide_eq_false this]; rfl
      ·rw [decide_eq_false a1];by_cases a2:(c.toNat:Int) > 57
       ·have:¬ (48<=(c.toNat:Int)/\(c.toNat:Int)<=57):=by omega
        rw [decide_eq_true a2,decide_eq_false this]; rfl
       ·have:(48<=(c.toNat:Int)/\(c.toNat:Int)<=57):=by omega
        rw [decide_eq_false a2,decide_eq_true this]; rfl
     rw [e];cases qy4 c <;> cases decide ((i:Int) = 0) <;> cases decide ((c.toNat:Int) = 45) <;> rfl
    rw [c2];simp only [qa];cases qv1 i c
    ·simp only [cond_false,qf,if_false,stp]; rw [wq (by omega) (by omega)]
    ·rfl),q5]
   have hs:∀ r,qa3 (λi c=>if qv1 i c = true then some false else none) 0 s = some r->r = false:=by
    intro r hr;obtain ⟨i,a,_,h2,_⟩:=qaH hr;split at h2
    ·exact (Option.some.inj h2).symm
    ·cases h2
   cases hf:qa3 (λi c=>if qv1 i c = true then some false else none) 0 s with
   | none=>simp
   | some r=>rw [hs r hf]; simp
structure GB (gs:List Gt):Prop where
 len:gs.length<=8
 nm:∀ g ∈ gs,g.1.length<=30
 rl:∀ g ∈ gs,g.2.1.length<=6
 rn:∀ g ∈ gs,∀ r ∈ g.2.1,r.length<=30
theorem qvO (l:List Nm) (t:Nm) (hl:l.length<=1000000000):qe4 l t = some (decide (t ∈ l)):=by
 unfold qe4;rw [qj7 l.length _ (λj=>l[j]? = some t) true (t ∈ l) (by
  rw [List.mem_iff_getElem?];exact ⟨λ⟨j,h⟩=>⟨j,qaQ h,h⟩,λ⟨j,_,h⟩=>⟨j,h⟩⟩) (λi hi=>by
  have hx:l[i]? = some l[i]:=List.getElem?_eq_getElem hi;rw [qV hx];simp only [qa,hx,qb];by_cases h:l[i] = t
  ·simp [h]
  ·simp only [h,decide_false,cond_false,if_false]; rw [wq (by omega) (by omega)])]
 by_cases h:t ∈ l <;> simp [h]
end Go.Proofs.YtkcaaaiihhhnmaaGreatDoor
end
section
namespace Go.Proofs.YtkcaaaiihhhnmaaGreatDoor
open Go Go.Ab Go.Tx
abbrev Lm:=Int × Int × Int × Int × Int × Unit
abbrev Mo:=Int × Int × Int × Unit
abbrev En:=Int × Int × Int × Int × Unit
structure LimOk (x:Lm):Prop where
 lo : -60<=x.1/\x.1<=60
 hi : -60<=x.2.1/\x.2.1<=60
 sp:1<=x.2.2.1/\x.2.2.1<=8
 pu:1<=x.2.2.2.1/\x.2.2.2.1<=3
 je:1<=x.2.2.2.2.1/\x.2.2.2.2.1<=6
theorem qwT (x:Lm):LimOk x ↔ (-60<=x.1/\x.1<=60)/\(-60<=x.2.1/\x.2.1<=60)/\(1<=x.2.2.1/\x.2.2.1<=8)/\(1<=x.2.2.2.1/\x.2.2.2.1<=3)/\(1<=x.2.2.2.2.1/\x.2.2.2.2.1<=6) :=
 ⟨λh=>⟨h.1,h.2,h.3,h.4,h.5⟩,λh=>⟨h.1,h.2.1,h.2.2.1,h.2.2.2.1,h.2.2.2.2⟩⟩
instance (x:Lm):Decidable (LimOk x):=decidable_of_iff _ (qwT x).symm
def qyq (x:Lm) (s:Mo):Prop:=(x.1<=s.1/\s.1<=x.2.1)/\(-x.2.2.1<=s.2.1/\s.2.1<=x.2.2.1)/\(-x.2.2.2.1<=s.2.2.1/\s.2.2.1<=x.2.2.2.1)
instance (x:Lm) (s:Mo):Decidable (qyq x s):=by unfold qyq; infer_instance
def nxt (s:Mo) (p:Int):Mo:=(s.1 + (s.2.1 + p),s.2.1 + p,p,())
def pok (x:Lm) (s:Mo) (p:Int):Prop:=(-x.2.2.2.1<=p/\p<=x.2.2.2.1)/\(-x.2.2.2.2.1<=p - s.2.2.1/\p - s.2.2.1<=x.2.2.2.2.1)/\qyq x (nxt s p)
instance (x:Lm) (s:Mo) (p:Int):Decidable (pok x s p):=by unfold pok; infer_instance
def mot (e:En):Mo:=(e.1,e.2.1,e.2.2.1,())
def qyI (m:Mo):Prop:=m.2.1 = 0/\m.2.2.1 = 0
instance (m:Mo):Decidable (qyI m):=by unfold qyI; infer_instance
def qC2 (m:Mo) (k:Int):En:=(m.1,m.2.1,m.2.2.1,k,())
inductive Pth (all:List En):Nat->List Int->Prop
 | nil {k:Nat} {e:En}:all[k]? = some e->e.2.2.2.1 < 0->Pth all k []
 | snoc {k:Nat} {e:En} {l:List Int}:all[k]? = some e->0<=e.2.2.2.1->Pth all e.2.2.2.1.toNat l->Pth all k (l ++ [e.2.2.1])
structure Good (x:Lm) (all:List En):Prop where
 nd:(all.map mot).Nodup
 ok:∀ e ∈ all,qyq x (mot e)
 bef:∀ (k:Nat) e,all[k]? = some e->e.2.2.2.1 < k /\ -1<=e.2.2.2.1
 pos:0 < all.length
def qCM (x:Lm) (m:Mo):Int:=((m.1 - x.1) * (2 * x.2.2.1 + 1) + (m.2.1 + x.2.2.1)) * (2 * x.2.2.2.1 + 1) + (m.2.2.1 + x.2.2.2.1)
def NN (x:Lm):Int:=(x.2.1 - x.1 + 1) * (2 * x.2.2.1 + 1) * (2 * x.2.2.2.1 + 1)
end Go.Proofs.YtkcaaaiihhhnmaaGreatDoor
end
section
namespace Go.Proofs.YtkcaaaiihhhnmaaGreatDoor
open Go Go.Ab Go.Tx
abbrev E6:=Int × Int × Int × Int × Int × Unit
def prj (e:E6):En:=(e.1,e.2.1,e.2.2.1,e.2.2.2.1,())
structure Sn (x:Lm) (fo:List E6) (sn:List Bool):Prop where
 len:sn.length = (NN x).toNat
 at_:∀ m,qyq x m->sn[(qCM x m).toNat]? = some (decide (m ∈ (fo.map prj).map mot))
end Go.Proofs.YtkcaaaiihhhnmaaGreatDoor
end
section
namespace Go.Proofs.YtkcaaaiihhhnmaaGreatDoor
open Go Go.Ab Go.Tx
theorem qi6 (l:List Int) (h:l.length<=1000):qb5 l = some l:=by
 unfold qb5;rw [qye (by omega)]; rfl
end Go.Proofs.YtkcaaaiihhhnmaaGreatDoor
end
section
namespace Go.Proofs.YtkcaaaiihhhnmaaGreatDoor
open Go Go.Ab Go.Tx
structure Bf (x:Lm) (s:Mo) (i:Nat) (all:List En) (d:Nat->Nat):Prop where
 le:i<=all.length
 root:all[0]? = some (qC2 s (-1))/\d 0 = 0
 par:∀ (k:Nat) e,all[k]? = some e->0 < k->∃ (j:Nat) (e':En),e.2.2.2.1 = (j:Int)/\j < k/\d k = d j + 1/\all[j]? = some e'/\pok x (mot e') e.2.2.1/\mot e = nxt (mot e') e.2.2.1
 mono:∀ k k',k<=k'->k' < all.length->d k<=d k'
 done:∀ (k:Nat) e,k < i->all[k]? = some e -> ¬ qyI (mot e)/\∀ p,pok x (mot e) p->∃ (k2:Nat) (e2:En),all[k2]? = some e2/\mot e2 = nxt (mot e) p/\d k2<=d k + 1
 top:∀ k,k < all.length->i < all.length->d k<=d i + 1
end Go.Proofs.YtkcaaaiihhhnmaaGreatDoor
end
section
namespace Go.Proofs.YtkcaaaiihhhnmaaGreatDoor
open Go Go.Ab Go.Tx
theorem qAt (l:List Int) (t:Int) (hl:l.length<=1000000000):qjr l t = some (decide (t ∈ l)):=by
 unfold qjr;have key:=qaO l (λs2=>(idx l s2).bind λx3 =>
    bif decide (x3 = t) then
     some (.inr (.inr true))
    else
     some (.inl (w64 (s2 + 1)))) (λ_ a=>if a = t then some true else none) (λi a hi=>by
  have:=qaQ hi;rw [qV hi];simp only [qa];by_cases h:a = t
  ·simp [h,stp]
  ·simp only [h,decide_false,cond_false,if_false,stp]; rw [wq (by omega) (by omega)])
 rw [key,q5];cases hf:qa3 (λ(_:Nat) a=>if a = t then some true else none) 0 l with
 | none =>
  rw [qba] at hf;have:t ∉ l:=λh=>by
   obtain ⟨i,hi⟩:=List.mem_iff_getElem?.1 h;have:=hf i t hi;simp at this
  simp [this]
 | some r =>
  obtain ⟨i,a,h1,h2,_⟩:=qaH hf;split at h2
  ·rename_i h; subst h;simp only [qb] at h2; subst h2;simp [List.mem_of_getElem? h1]
  ·cases h2
end Go.Proofs.YtkcaaaiihhhnmaaGreatDoor
end
section
namespace Go.Proofs.YtkcaaaiihhhnmaaGreatDoor
open Go Go.Ab Go.Tx
abbrev Ts:=List Int × List Int × Unit
abbrev Ac:=Nm × List Int × List Int × List Int × List Int × Unit
abbrev Mc:=List Nm × List Ac × List Ts × Unit
abbrev qb2 (a:Ac):Ts:=(a.2.1,a.2.2.1,())
abbrev dos (a:Ac):Ts:=(a.2.2.2.1,a.2.2.2.2.1,())
def shT (t:Ts):Prop:=t.1.length<=10/\t.2.1.length<=10
instance (t:Ts):Decidable (shT t):=by unfold shT; infer_instance
structure MB (m:Mc):Prop where
 fl:m.1.length<=10
 ac:m.2.1.length<=12
 hm:m.2.2.1.length<=6
 fn:∀ s ∈ m.1,s.length<=30
 an:∀ a ∈ m.2.1,a.1.length<=30/\shT (qb2 a)/\shT (dos a)
 ht:∀ t ∈ m.2.2.1,shT t
theorem qu4 (t:Ts):qds t = some (decide (shT t)):=by
 unfold qds shT;by_cases h1:t.1.length<=10
 ·have h1':(t.1.length:Int)<=10:=by omega
  by_cases h2:t.2.1.length<=10
  ·have h2':(t.2.1.length:Int)<=10:=by omega
   simp [h1,h2,h1',h2']
  ·have h2':¬ (t.2.1.length:Int)<=10:=by omega
   simp [h1,h2,h1',h2']
 ·have h1':¬ (t.1.length:Int)<=10:=by omega
  simp [h1,h1']
theorem qCd (m:Mc):∃ b,qjZ m = some b/\(b = true->MB m):=by
 unfold qjZ;by_cases g1:(m.1.length:Int) > 10
 ·exact ⟨false,by simp only [g1,decide_true,cond_true,qa],λh=>by cases h⟩
 by_cases g2:(m.2.1.length:Int) > 12
 ·exact ⟨false,by simp only [g1,g2,decide_true,decide_false,cond_true,cond_false,qa],λh=>by cases h⟩
 by_cases g3:(m.2.2.1.length:Int) > 6
 ·exact ⟨false,by simp only [g1,g2,g3,decide_true,decide_false,cond_true,cond_false,qa],λh=>by cases h⟩
 simp only [g1,g2,g3,decide_false,cond_false,qa];rw [qaO m.1 _ (λ_ s=>if (s.length:Int) > 30 then some false else none) (λi a hi=>by
  have:=qaQ hi;rw [qV hi];simp only [qa];by_cases h:(a.length:Int) > 30
  ·simp only [h,decide_true,cond_true,if_true,stp]
  ·simp only [h,decide_false,cond_false,if_false,stp]; rw [wq (by omega) (by omega)]),q5]
 cases hf1:qa3 (λ_ (s:Nm)=>if (s.length:Int) > 30 then some false else none) 0 m.1 with
 | some r =>
  obtain ⟨i,a,_,h2,_⟩:=qaH hf1;split at h2
  ·cases h2; exact ⟨false,rfl,λh=>by cases h⟩
  ·cases h2
 | none =>
  simp only
  rw [qaO m.2.1 _ (λ_ a=>if (a.1.length:Int) > 30 \/ ¬ shT (qb2 a) \/ ¬ shT (dos a) then some false else none) (λi a hi=>by
   have:=qaQ hi;rw [qV hi];simp only [qa,qu4];by_cases h:(a.1.length:Int) > 30
   ·simp only [h,decide_true,cond_true,true_or,if_true,stp,qa]
   ·by_cases h2:shT (qb2 a)
    ·by_cases h3:shT (dos a)
     ·simp only [h,h2,h3,decide_true,decide_false,cond_false,Bool.not_true,not_true,or_self,if_false,stp,qa]; rw [wq (by omega) (by omega)]
     ·simp only [h,h2,h3,decide_true,decide_false,cond_false,cond_true,Bool.not_true,Bool.not_false,not_true,not_false_eq_true,or_true,if_true,stp,qa]
    ·simp only [h,h2,decide_true,decide_false,cond_false,cond_true,Bool.not_true,Bool.not_false,not_false_eq_true,or_true,true_or,if_true,stp,qa]),q5]
  cases hf2:qa3 (λ_ (a:Ac)=>if (a.1.length:Int) > 30 \/ ¬ shT (qb2 a) \/ ¬ shT (dos a) then some false else none) 0 m.2.1 with
  | some r =>
   obtain ⟨i,a,_,h2,_⟩:=qaH hf2;split at h2
   ·cases h2; exact ⟨false,rfl,λh=>by cases h⟩
   ·cases h2
  | none =>
   simp only
   rw [qaO m.2.2.1 _ (λ_ a=>if ¬ shT a then some false else none) (λi a hi=>by
    have:=qaQ hi;rw [qV hi];simp only [qa,qu4];by_cases h:shT a
    ·simp only [h,decide_true,cond_false,Bool.not_true,not_true,if_false,stp]; rw [wq (by omega) (by omega)]
    ·simp only [h,decide_false,cond_true,Bool.not_false,not_false_eq_true,if_true,stp]),q5]
   cases hf3:qa3 (λ_ (a:Ts)=>if ¬ shT a then some false else none) 0 m.2.2.1 with
   | some r =>
    obtain ⟨i,a,_,h2,_⟩:=qaH hf3;split at h2
    ·cases h2; exact ⟨false,rfl,λh=>by cases h⟩
    ·cases h2
   | none =>
    refine ⟨true,rfl,λ_=>⟨by omega,by omega,by omega,λs hs=>?_,λa ha=>?_,λt ht=>?_⟩⟩
    ·obtain ⟨i,hi⟩:=List.mem_iff_getElem?.1 hs;have:=qba.1 hf1 i s hi;by_cases h:(s.length:Int) > 30
     ·simp only [h,if_true] at this; cases this
     ·omega
    ·obtain ⟨i,hi⟩:=List.mem_iff_getElem?.1 ha;have:=qba.1 hf2 i a hi;by_cases h:(a.1.length:Int) > 30 \/ ¬ shT (qb2 a) \/ ¬ shT (dos a)
     ·simp only [h,if_true] at this; cases this
     ·simp only [not_or,Classical.not_not] at h;exact ⟨by omega,h.2⟩
    ·obtain ⟨i,hi⟩:=List.mem_iff_getElem?.1 ht;have:=qba.1 hf3 i t hi;by_cases h:¬ shT t
     ·simp only [h,not_false_eq_true,if_true] at this; cases this
     ·exact Classical.not_not.1 h
theorem qiE {t:Ts} (h:shT t):qaD t = some t:=by
 obtain ⟨h1,h2⟩:=h;unfold qaD;rw [qi6 _ (by omega),qi6 _ (by omega)]; rfl
theorem qtd {m:Mc} (hb:MB m):qbB m = some m:=by
 have h1:=hb.fl; have h2:=hb.ac; have h3:=hb.hm;unfold qbB qfn;rw [qye (by omega)];simp only [qa];have k1:Ok (qG (λ(s4:(Int × (List Nm) × (List Ac) × (List Ts))) =>
   bif decide (s4.1 < (m.2.1.length:Int)) then
    (idx m.2.1 s4.1).bind λx5 =>
    (idx m.2.1 s4.1).bind λx6 =>
    (qaD (x6.2.1,x6.2.2.1,())).bind λx7 =>
    (idx m.2.1 s4.1).bind λx8 =>
    (qaD (x8.2.2.2.1,x8.2.2.2.2.1,())).bind λx9 =>
    (app s4.2.2.1 ([(x5.1,x7.1,x7.2.1,x9.1,x9.2.1,())])).bind λx10 =>
    some (.inl (w64 (s4.1 + 1),s4.2.1,x10,s4.2.2.2))
   else
    some (.inr (s4.2.1,s4.2.2.1,s4.2.2.2))) (0,m.1,[],[])) (λr=>r = (m.1,m.2.1,[])):=by
  refine qdk m.2.1.length (λi (s:Int × List Nm × List Ac × List Ts)=>s = ((i:Int),m.1,m.2.1.take i,[])) _ rfl ?_;rintro i s hi rfl;by_cases hlt:i < m.2.1.length
  ·obtain ⟨a,ha⟩:∃ a,m.2.1[i]? = some a:=⟨_,List.getElem?_eq_getElem hlt⟩
   have h0:decide ((i:Int) < (m.2.1.length:Int)) = true:=by simp <;> omega
   obtain ⟨_,b1,b2⟩:=hb.an a (List.mem_of_getElem? ha);simp only [h0,cond_true,qV ha,qa];rw [qiE b1,qiE b2];simp only [qa];rw [qeH (by rw [List.length_take]; omega)];simp only [qa];rw [wq (by omega) (by omega),qaz];exact ⟨hlt,by rw [qc0 a hlt,qaS ha]; simp⟩
  ·have:i = m.2.1.length:=by omega
   subst this;have h0:decide ((m.2.1.length:Int) < (m.2.1.length:Int)) = false:=by simp
   simp only [h0,cond_false];rw [qa1,List.take_length]
 rw [k1.eq];simp only [qa];have k2:Ok (qG (λ(s13:(Int × (List Nm) × (List Ac) × (List Ts))) =>
   bif decide (s13.1 < (m.2.2.1.length:Int)) then
    (idx m.2.2.1 s13.1).bind λx14 =>
    (qaD x14).bind λx15 =>
    (app s13.2.2.2 ([x15])).bind λx16 =>
    some (.inl (w64 (s13.1 + 1),s13.2.1,s13.2.2.1,x16))
   else
    some (.inr (s13.2.1,s13.2.2.1,s13.2.2.2))) (0,m.1,m.2.1,[])) (λr=>r = (m.1,m.2.1,m.2.2.1)):=by
  refine qdk m.2.2.1.length (λi (s:Int × List Nm × List Ac × List Ts)=>s = ((i:Int),m.1,m.2.1,m.2.2.1.take i)) _ rfl ?_;rintro i s hi rfl;by_cases hlt:i < m.2.2.1.length
  ·obtain ⟨a,ha⟩:∃ a,m.2.2.1[i]? = some a:=⟨_,List.getElem?_eq_getElem hlt⟩
   have h0:decide ((i:Int) < (m.2.2.1.length:Int)) = true:=by simp <;> omega
   have b1:=hb.ht a (List.mem_of_getElem? ha);simp only [h0,cond_true,qV ha,qa];rw [qiE b1];simp only [qa];rw [qeH (by rw [List.length_take]; omega)];simp only [qa];rw [wq (by omega) (by omega),qaz];exact ⟨hlt,by rw [qc0 a hlt,qaS ha]; simp⟩
  ·have:i = m.2.2.1.length:=by omega
   subst this;have h0:decide ((m.2.2.1.length:Int) < (m.2.2.1.length:Int)) = false:=by simp
   simp only [h0,cond_false];rw [qa1,List.take_length]
 rw [k2.eq];rfl
theorem qu0 {α:Type} (g:Nat->α->Int):∀ (l:List α) (k:Nat),qa3 (λi a=>if g i a = 0 then none else some (g i a)) k l = if (qaM g k l).2 = 0 then none else some (qaM g k l).2
 | [],k=>rfl
 | a :: l,k=>by
  simp only [qa3,qaM];by_cases h:g k a = 0
  ·simp only [h,if_true]; exact qu0 g l (k + 1)
  ·simp [h]
theorem qqw {α σ:Type} (l:List α) (g:Nat->α->Int) (J:Nat->σ->Prop) (K:Int × σ->Option ((Int × σ) ⊕ (σ ⊕ (Int × Int × σ)))) (s0:σ) (h0:J 0 s0)
  (h:∀ (i:Nat) a s,l[i]? = some a->J i s->∃ s',J (i + 1) s'/\K ((i:Int),s) = some (if g i a = 0 then .inl ((i:Int) + 1,s') else .inr (.inr ((i:Int),g i a,s')))) :
  Ok ((qG (λs=>bif decide (s.1 < (l.length:Int)) then K s else some (.inr (.inl s.2))) (0,s0)).bind (Sum.elim (λp=>some (0,0,p)) some)) (λr=>(r.1,r.2.1) = qaM g 0 l):=by
 rw [qA4];refine (qdk l.length (λi (s:Int × σ)=>s.1 = (i:Int)/\J i s.2/\(qaM g 0 (l.take i)).2 = 0)
  (λr:σ ⊕ (Int × Int × σ)=>match r with
   | .inl _=>(qaM g 0 l) = (0,0)
   | .inr q=>(q.1,q.2.1) = qaM g 0 l) ⟨rfl,h0,rfl⟩ ?_).mono ?_
 ·rintro i ⟨i0,s⟩ hi ⟨e1,e2,e3⟩;simp only at e1 e2;subst e1;by_cases hlt:i < l.length
  ·have h0:decide ((i:Int) < (l.length:Int)) = true:=by simp <;> omega
   obtain ⟨a,ha⟩:∃ a,l[i]? = some a:=⟨_,List.getElem?_eq_getElem hlt⟩
   simp only [h0,cond_true];obtain ⟨s',hJ,hK⟩:=h i a s ha e2;rw [hK];by_cases hg:g i a = 0
   ·rw [if_pos hg,qaz];exact ⟨hlt,by simp,hJ,by rw [qwa ha,if_pos e3,hg]⟩
   ·rw [if_neg hg,qa1];exact (qxP ha e3 hg).symm
  ·have:i = l.length:=by omega
   subst this;have h0:decide ((l.length:Int) < (l.length:Int)) = false:=by simp
   simp only [h0,cond_false];rw [qa1];rw [List.take_length] at e3;exact qq7 e3
 ·intro r hr;cases r with
  | inl p=>simp only at hr ⊢; rw [qnx]; exact hr.symm
  | inr q=>exact hr
def ixE (f:Int) (l:List Int) (i:Nat) (n:Int):Int:=if 0<=n/\n<=f - 1 then (if 0 < i/\n<=l.getD (i - 1) 0 then 9 else 0) else 6
def qvy (f:Int) (l:List Int):Int:=(qaM (ixE f l) 0 l).2
theorem qjd (l:List Int) (f:Int) (hl:l.length<=1000) (hf:0<=f/\f<=1000):qbc l f = some (qvy f l):=by
 unfold qbc;have key:=qqw l (ixE f l) (λi (p:Int)=>p = if i = 0 then -1 else l.getD (i - 1) 0) (λ(s2:Int × Int)=>(idx l s2.1).bind λx3 =>
     (qq x3 (0:Int) (w64 (f - 1))).bind λx4 =>
     (qm x4 (6:Int)).bind λx5 =>
     (qm (decide (x3 > s2.2)) (9:Int)).bind λx6 =>
     (qx ([x5,x6])).bind λx7 =>
     bif !(decide (x7 = 0)) then
      some (.inr (.inr (s2.1,x7,x3)))
     else
      some (.inl (w64 (s2.1 + 1),x3))) (-1) rfl (by
  rintro i a p ha rfl;have hlt:=qaQ ha;refine ⟨a,by simp [ha],?_⟩;rw [wq (by omega) (by omega),qV ha];simp only [qa,wit,unl];rw [qAh _ (by simp)];simp only [qa];rw [wq (by omega) (by omega)];unfold ixE;by_cases c1:0<=a/\a<=f - 1
  ·by_cases c2:i = 0
   ·subst c2;have c3:a > -1:=by omega
    simp [c1,c3,qiB]
   ·have c4:0 < i:=by omega
    by_cases c3:a<=l.getD (i - 1) 0
    ·have c3':¬ a > l.getD (i - 1) 0:=by omega
     simp only [c1,c2,c3,c3',c4,and_self,decide_true,decide_false,if_true,if_false,qf,qiB];rfl
    ·have c3':a > l.getD (i - 1) 0:=by omega
     simp only [c1,c2,c3,c3',c4,and_self,and_false,decide_true,decide_false,if_true,if_false,qf,qiB];rfl
  ·simp only [c1,decide_false,if_false,qf,qiB];rfl)
 obtain ⟨r,h1,h2⟩:=key;rw [h1];simp only [qa];unfold qvy;rw [<- h2]
theorem qjv (l:List Int) (f:Int) (hl:l.length<=1000) (hf:0<=f/\f<=1000):qbA l f = some (qvy f l):=by
 unfold qbA;rw [qaO l _ (λi n=>if ixE f l i n = 0 then none else some (ixE f l i n)) (λi a hi=>by
  have hlt:=qaQ hi;rw [qV hi];simp only [qa,Wit];rw [wq (n:=f - 1) (by omega) (by omega)];unfold ixE;by_cases c1:0<=a/\a<=f - 1
  ·by_cases c2:0 < i
   ·have c2':(i:Int) > 0:=by omega
    have e1:((i:Int) - 1) = ((i - 1:Nat):Int):=by omega
    obtain ⟨b,hb⟩:∃ b,l[i - 1]? = some b:=⟨_,List.getElem?_eq_getElem (by omega)⟩
    rw [wq (n:=(i:Int) - 1) (by omega) (by omega),e1,qV hb,qaS hb];by_cases c3:a<=b
    ·simp [c1,c2,c2',c3,stp]
    ·simp only [c1,c2,c2',c3,and_self,and_false,decide_true,decide_false,Bool.not_true,cond_false,cond_true,qa,if_true,if_false,stp];rw [wq (by omega) (by omega)]
   ·have c2':¬ (i:Int) > 0:=by omega
    simp only [c1,c2,c2',and_self,false_and,decide_true,decide_false,Bool.not_true,cond_false,cond_true,qa,if_true,if_false,stp];rw [wq (by omega) (by omega)]
  ·simp [c1,stp]),q5,qu0]
 unfold qvy;by_cases h:(qaM (ixE f l) 0 l).2 = 0 <;> simp [h]
def tsE (f:Int) (t:Ts):Int:=if qvy f t.1 = 0 then (if qvy f t.2.1 = 0 then (if ∃ x ∈ t.1,x ∈ t.2.1 then 13 else 0) else qvy f t.2.1) else qvy f t.1
theorem qsF (l:List Int) (x:Int) (hl:l.length<=1000000000):qae l x = some (decide (x ∈ l)):=by
 unfold qae qbP;rw [qaO l _ (λi n=>if x = n then some (i:Int) else none) (λi a hi=>by
  have:=qaQ hi;rw [qV hi];simp only [qa];by_cases h:x = a
  ·simp only [h,decide_true,cond_true,if_true,stp]
  ·simp only [h,decide_false,cond_false,if_false,stp]; rw [wq (by omega) (by omega)]),q5]
 cases hf:qa3 (λi n=>if x = n then some (i:Int) else none) 0 l with
 | none =>
  have:x ∉ l:=λh=>by
   obtain ⟨i,hi⟩:=List.mem_iff_getElem?.1 h;have:=qba.1 hf i x hi;simp at this
  simp [this]
 | some r =>
  obtain ⟨i,a,h1,h2,_⟩:=qaH hf;by_cases h:x = a
  ·subst h;simp only [if_true,qb] at h2;have:x ∈ l:=List.mem_of_getElem? h1;have h3:r>=0:=by omega
   simp [this,h3]
  ·simp [h] at h2
theorem qlb (t:Ts) (f:Int) (h:shT t) (hf:0<=f/\f<=1000):qaC t f = some (tsE f t):=by
 obtain ⟨h1,h2⟩:=h;unfold qaC;have key:=qyA t.1 (λx=>qae t.2.1 x) (λx=>decide (x ∈ t.2.1)) (λx _=>qsF _ _ (by omega)) (by omega);obtain ⟨p,e1,e2⟩:=qd.1 key;rw [e1];simp only [qa];rw [qjd _ _ (by omega) hf,qjd _ _ (by omega) hf];simp only [qa,unl];rw [Option.some.inj e2,qAh _ (by simp)];simp only [qa];unfold tsE;by_cases c1:qvy f t.1 = 0
 ·by_cases c2:qvy f t.2.1 = 0
  ·by_cases c3:∃ x ∈ t.1,x ∈ t.2.1
   ·simp [c1,c2,c3,qiB]
   ·simp [c1,c2,c3,qiB]
  ·simp [c1,c2,qiB]
 ·simp [c1,qiB]
theorem qkt (t:Ts) (f:Int) (h:shT t) (hf:0<=f/\f<=1000):qcb t f = some (tsE f t):=by
 obtain ⟨h1,h2⟩:=h;unfold qcb;rw [qjv _ _ (by omega) hf,qjv _ _ (by omega) hf];simp only [qa];unfold tsE;by_cases c1:qvy f t.1 = 0
 ·by_cases c2:qvy f t.2.1 = 0
  ·simp only [c1,c2,decide_true,Bool.not_true,cond_false,if_true];rw [qj7 t.1.length _ (λj=>∃ x,t.1[j]? = some x/\x ∈ t.2.1) (13:Int) (∃ x ∈ t.1,x ∈ t.2.1) (by
    constructor
    ·rintro ⟨x,hx,hm⟩;obtain ⟨j,hj⟩:=List.mem_iff_getElem?.1 hx;exact ⟨j,qaQ hj,x,hj,hm⟩
    ·rintro ⟨j,_,x,hj,hm⟩;exact ⟨x,List.mem_of_getElem? hj,hm⟩) (λi hi=>by
    obtain ⟨a,ha⟩:∃ a,t.1[i]? = some a:=⟨_,List.getElem?_eq_getElem hi⟩
    rw [qV ha];simp only [qa];rw [qAt _ _ (by omega)];simp only [qa];by_cases c:a ∈ t.2.1
    ·simp [c,ha]
    ·simp only [c,decide_false,cond_false,ha,qb,exists_eq_left',if_false];rw [wq (by omega) (by omega)])]
   by_cases c3:∃ x ∈ t.1,x ∈ t.2.1
   ·rw [if_pos c3,if_pos c3]; rfl
   ·rw [if_neg c3,if_neg c3]; rfl
  ·simp [c1,c2]
 ·simp [c1]
def nmE (l:List Nm) (i:Nat) (s:Nm):Int:=if isN s = true then (if s ∈ l.take i then 5 else 0) else 4
def acE (m:Mc) (i:Nat) (a:Ac):Int :=
 if isN a.1 = true then (if a.1 ∈ (m.2.1.take i).map (·.1) then 5 else if tsE m.1.length (qb2 a) = 0 then tsE m.1.length (dos a) else tsE m.1.length (qb2 a)) else 4
def hmE (m:Mc) (_:Nat) (t:Ts):Int:=tsE m.1.length t
def qfF (m:Mc):Int × Int :=
 if (m.1.length:Int) > 0 then (if (m.1.length:Int)<=8/\(m.2.1.length:Int)<=10/\(m.2.2.1.length:Int)<=4 then
  (if (qaM (nmE m.1) 0 m.1).2 = 0 then (if (qaM (acE m) 0 m.2.1).2 = 0 then qaM (hmE m) 0 m.2.2.1 else qaM (acE m) 0 m.2.1) else qaM (nmE m.1) 0 m.1) else (0,8)) else (0,10)
theorem qmR {m:Mc} (hb:MB m):qbl m = some (qfF m):=by
 have h1:=hb.fl; have h2:=hb.ac; have h3:=hb.hm;unfold qbl qfF;have c0:(bif decide ((m.1.length:Int)<=8) then bif decide ((m.2.1.length:Int)<=10) then some (decide ((m.2.2.1.length:Int)<=4)) else some false else some false)
   = some (decide ((m.1.length:Int)<=8/\(m.2.1.length:Int)<=10/\(m.2.2.1.length:Int)<=4)):=by
  by_cases a1:(m.1.length:Int)<=8 <;> by_cases a2:(m.2.1.length:Int)<=10 <;> simp [a1,a2]
 rw [c0];simp only [unl,qa];rw [qAh _ (by simp)];simp only [qa];by_cases g1:(m.1.length:Int) > 0
 ·by_cases g2:(m.1.length:Int)<=8/\(m.2.1.length:Int)<=10/\(m.2.2.1.length:Int)<=4
  ·rw [if_pos g1,if_pos g2,decide_eq_true g1,decide_eq_true g2];simp only [if_true,qiB,decide_true,Bool.not_true,cond_false];obtain ⟨r1,e1,q1⟩:=qqw m.1 (nmE m.1) (λi (kn:List Nm)=>∀ r,r ∈ kn ↔ r ∈ m.1.take i) (λs6=>(idx m.1 s6.1).bind λx7 =>
      (qbv x7).bind λx8 =>
      (qx ([if x8 = true then 0 else 4,if (!(qfS .str s6.2 x7)) = true then 0 else 5])).bind λx11 =>
      bif !(decide (x11 = 0)) then
       some (.inr (.inr (s6.1,x11,qju .str s6.2 x7)))
      else
       some (.inl (w64 (s6.1 + 1),qju .str s6.2 x7))) [] (by simp) (by
    intro i a kn ha hk;have hlt:=qaQ ha;refine ⟨qju .str kn a,λr=>by rw [qu6,hk,qc0 a hlt,qaS ha]; simp,?_⟩;rw [qV ha];simp only [qa];rw [qsf a (by have:=hb.fn a (List.mem_of_getElem? ha); omega),qCE];simp only [qa];rw [qAh _ (by simp)];simp only [qa];rw [wq (by omega) (by omega)];unfold nmE;by_cases a3:isN a = true
    ·by_cases a4:a ∈ m.1.take i
     ·have:a ∈ kn:=(hk a).2 a4;simp [a3,a4,this,qiB]
     ·have:a ∉ kn:=λh=>a4 ((hk a).1 h);simp [a3,a4,this,qiB]
    ·simp [a3,qiB])
   rw [e1];simp only [qa];by_cases E1:(qaM (nmE m.1) 0 m.1).2 = 0
   ·have E1':r1.2.1 = 0:=by rw [<- q1] at E1; exact E1
    rw [if_pos E1];simp only [E1',decide_true,Bool.not_true,cond_false];obtain ⟨r2,e2,q2⟩:=qqw m.2.1 (acE m) (λi (kn:List Nm)=>∀ r,r ∈ kn ↔ r ∈ (m.2.1.take i).map (·.1)) (λs15=>(idx m.2.1 s15.1).bind λx16 =>
       (qbv x16.1).bind λx17 =>
       (qx ([if x17 = true then 0 else 4,if (!(qfS .str s15.2 x16.1)) = true then 0 else 5])).bind λx20 =>
       (qaC (x16.2.1,x16.2.2.1,()) (m.1.length:Int)).bind λx21 =>
       (qaC (x16.2.2.2.1,x16.2.2.2.2.1,()) (m.1.length:Int)).bind λx22 =>
       (qx ([x20,x21,x22])).bind λx23 =>
       bif !(decide (x23 = 0)) then
        some (.inr (.inr (s15.1,x23,qju .str s15.2 x16.1)))
       else
        some (.inl (w64 (s15.1 + 1),qju .str s15.2 x16.1))) [] (by simp) (by
     intro i a kn ha hk;have hlt:=qaQ ha;refine ⟨qju .str kn a.1,λr=>by rw [qu6,hk,qc0 a hlt,qaS ha]; simp,?_⟩;rw [qV ha];simp only [qa];obtain ⟨b0,b1,b2⟩:=hb.an a (List.mem_of_getElem? ha);rw [qsf a.1 (by omega),qCE];simp only [qa];rw [qAh _ (by simp)];simp only [qa];rw [qlb (qb2 a) _ b1 (by omega),qlb (dos a) _ b2 (by omega)];simp only [qa];rw [qAh _ (by simp)];simp only [qa];rw [wq (by omega) (by omega)];unfold acE;by_cases a3:isN a.1 = true
     ·by_cases a4:a.1 ∈ (m.2.1.take i).map (·.1)
      ·have:a.1 ∈ kn:=(hk a.1).2 a4;simp only [a3,a4,this,decide_true,Bool.not_true,qf,if_true,if_false,qiB];rfl
      ·have:a.1 ∉ kn:=λh=>a4 ((hk a.1).1 h);simp only [a3,a4,this,decide_false,Bool.not_false,if_true,if_false,qiB];by_cases a5:tsE m.1.length (qb2 a) = 0
       ·by_cases a6:tsE m.1.length (dos a) = 0
        ·simp [a5,a6]
        ·simp [a5,a6]
       ·simp [a5]
     ·simp [a3,qiB])
    rw [e2];simp only [qa];by_cases E2:(qaM (acE m) 0 m.2.1).2 = 0
    ·have E2':r2.2.1 = 0:=by rw [<- q2] at E2; exact E2
     rw [if_pos E2];simp only [E2',decide_true,Bool.not_true,cond_false];have e3:=qub m.2.2.1 (λ_ t=>qaC t (m.1.length:Int)) (hmE m) (λi a ha=>qlb a _ (hb.ht a (List.mem_of_getElem? ha)) (by omega)) (by omega);rw [e3];rfl
    ·have E2':r2.2.1 ≠ 0:=by rw [<- q2] at E2; exact E2
     rw [if_neg E2];simp only [E2',decide_false,Bool.not_false,cond_true];rw [q2]
   ·have E1':r1.2.1 ≠ 0:=by rw [<- q1] at E1; exact E1
    rw [if_neg E1];simp only [E1',decide_false,Bool.not_false,cond_true];rw [q1]
  ·rw [if_pos g1,if_neg g2,decide_eq_true g1,decide_eq_false g2];rfl
 ·rw [if_neg g1,decide_eq_false g1];rfl
theorem qmZ {m:Mc} (hb:MB m):qbJ m = some (qfF m):=by
 have h1:=hb.fl; have h2:=hb.ac; have h3:=hb.hm;unfold qbJ qfF;by_cases g1:(m.1.length:Int) > 0
 ·have g1':¬ (m.1.length:Int) = 0:=by omega
  rw [if_pos g1,decide_eq_false g1'];simp only [cond_false];by_cases g2:(m.1.length:Int)<=8/\(m.2.1.length:Int)<=10/\(m.2.2.1.length:Int)<=4
  ·obtain ⟨a1,a2,a3⟩:=g2;have a1':¬ (m.1.length:Int) > 8:=by omega
   have a2':¬ (m.2.1.length:Int) > 10:=by omega
   have a3':¬ (m.2.2.1.length:Int) > 4:=by omega
   rw [if_pos ⟨a1,a2,a3⟩];simp only [a1',a2',a3',decide_false,cond_false,qa];rw [qaO m.1 _ (λi s=>if nmE m.1 i s = 0 then none else some ((i:Int),nmE m.1 i s)) (λi a hi=>by
    have hlt:=qaQ hi;rw [qV hi];simp only [qa];rw [qrg];simp only [qa];unfold nmE;by_cases c1:isN a = true
    ·rw [qAz (by omega)];simp only [qa,Int.toNat_natCast,Int.toNat_zero,List.drop_zero,c1,Bool.not_true,cond_false,if_true];rw [qvO _ _ (by simp; omega)];simp only [qa];by_cases c2:a ∈ m.1.take i
     ·simp [c2,stp]
     ·simp only [c2,decide_false,cond_false,if_false,if_true,stp]; rw [wq (by omega) (by omega)]
    ·simp [c1,stp]),q5]
   have f1:=qfQ (nmE m.1) m.1 0;cases hf1:qa3 (λi s=>if nmE m.1 i s = 0 then none else some ((i:Int),nmE m.1 i s)) 0 m.1 with
   | some r =>
    rw [hf1] at f1;simp only at f1;have hr:r.2 ≠ 0:=by
     obtain ⟨i,a,_,h2,_⟩:=qaH hf1;split at h2
     ·cases h2
     ·rename_i h; cases h2; exact h
    simp only
    rw [f1,if_neg (by rw [<- Option.some.inj f1]; exact hr)]
   | none =>
    rw [hf1] at f1;simp only at f1 ⊢;rw [if_pos (by rw [<- Option.some.inj f1])];rw [qaO m.2.1 _ (λi s=>if acE m i s = 0 then none else some ((i:Int),acE m i s)) (λi a hi=>by
     have hlt:=qaQ hi;obtain ⟨b0,b1,b2⟩:=hb.an a (List.mem_of_getElem? hi);rw [qV hi];simp only [qa];rw [qrg];simp only [qa];unfold acE;by_cases c1:isN a.1 = true
     ·simp only [c1,Bool.not_true,cond_false,if_true];rw [qj7 i _ (λj=>∃ x,m.2.1[j]? = some x/\x.1 = a.1) (.inr (.inr ((i:Int),5)):Int ⊕ (Unit ⊕ (Int × Int))) (a.1 ∈ (m.2.1.take i).map (·.1)) (by
       rw [List.mem_map];constructor
       ·rintro ⟨x,hx,e⟩;obtain ⟨j,hj,hx⟩:=qgt.1 hx;exact ⟨j,hj,x,hx,e⟩
       ·rintro ⟨j,hj,x,hx,e⟩;exact ⟨x,qgt.2 ⟨j,hj,hx⟩,e⟩) (λj hj=>by
       obtain ⟨x,hx⟩:∃ x,m.2.1[j]? = some x:=⟨_,List.getElem?_eq_getElem (by omega)⟩
       rw [qV hx];simp only [qa];by_cases c:x.1 = a.1
       ·simp [c,hx]
       ·simp only [c,decide_false,cond_false,hx,qb,exists_eq_left',if_false];rw [wq (by omega) (by omega)])]
      by_cases c2:a.1 ∈ (m.2.1.take i).map (·.1)
      ·rw [if_pos c2,if_pos c2]; rfl
      ·rw [if_neg c2,if_neg c2];simp only [qa,Sum.elim_inl];rw [qkt (qb2 a) _ b1 (by omega),qkt (dos a) _ b2 (by omega)];simp only [qa];by_cases c3:tsE m.1.length (qb2 a) = 0
       ·by_cases c4:tsE m.1.length (dos a) = 0
        ·simp only [c3,c4,decide_true,Bool.not_true,cond_false,if_true,stp]; rw [wq (by omega) (by omega)]
        ·simp [c3,c4,stp]
       ·simp [c3,stp]
     ·simp [c1,stp]),q5]
    have f2:=qfQ (acE m) m.2.1 0;cases hf2:qa3 (λi s=>if acE m i s = 0 then none else some ((i:Int),acE m i s)) 0 m.2.1 with
    | some r =>
     rw [hf2] at f2;simp only at f2;have hr:r.2 ≠ 0:=by
      obtain ⟨i,a,_,h2,_⟩:=qaH hf2;split at h2
      ·cases h2
      ·rename_i h; cases h2; exact h
     simp only
     rw [f2,if_neg (by rw [<- Option.some.inj f2]; exact hr)]
    | none =>
     rw [hf2] at f2;simp only at f2 ⊢;rw [if_pos (by rw [<- Option.some.inj f2])];rw [qaO m.2.2.1 _ (λi s=>if hmE m i s = 0 then none else some ((i:Int),hmE m i s)) (λi a hi=>by
      have hlt:=qaQ hi;rw [qV hi];simp only [qa];rw [qkt a _ (hb.ht a (List.mem_of_getElem? hi)) (by omega)];simp only [qa];unfold hmE;by_cases c3:tsE m.1.length a = 0
      ·simp only [c3,decide_true,Bool.not_true,cond_false,if_true,stp]; rw [wq (by omega) (by omega)]
      ·simp [c3,stp]),q5]
     rw [<- qfQ (hmE m) m.2.2.1 0];cases qa3 (λi s=>if hmE m i s = 0 then none else some ((i:Int),hmE m i s)) 0 m.2.2.1 <;> rfl
  ·rw [if_neg g2];have key:(bif decide ((m.1.length:Int) > 8) then some true else bif decide ((m.2.1.length:Int) > 10) then some true else some (decide ((m.2.2.1.length:Int) > 4))) = some true:=by
    by_cases a1:(m.1.length:Int) > 8
    ·simp [a1]
    ·by_cases a2:(m.2.1.length:Int) > 10
     ·simp [a1,a2]
     ·have a3:(m.2.2.1.length:Int) > 4:=by
       rw [not_and,not_and] at g2;have:=g2 (by omega) (by omega);omega
      simp [a1,a2,a3]
   rw [key]; rfl
 ·have g1':(m.1.length:Int) = 0:=by omega
  rw [if_neg g1,decide_eq_true g1']; rfl
theorem qq0 {m:Mc} (hb:MB m):qcx m = some (qfF m).2:=by
 unfold qcx;rw [qmZ hb]; rfl
end Go.Proofs.YtkcaaaiihhhnmaaGreatDoor
end
section
namespace Go.Proofs.YtkcaaaiihhhnmaaGreatDoor
open Go Go.Ab Go.Tx
theorem qfN {a:Nat} (h:a < 9223372036854775808):(BitVec.ofInt 64 (a:Int)).toNat = a:=by
 rw [BitVec.ofInt_natCast,BitVec.toNat_ofNat,Nat.mod_eq_of_lt (by omega)]
theorem qjB {a b:Nat} (ha:a < 9223372036854775808) (hb:b < 9223372036854775808):qqY .i64 (a:Int) (b:Int) = ((a &&& b:Nat):Int):=by
 unfold qqY;have e:(BitVec.ofInt 64 (a:Int) &&& BitVec.ofInt 64 (b:Int)).toNat = a &&& b:=by rw [BitVec.toNat_and,qfN ha,qfN hb]
 show IntKind.wrap .i64 ((BitVec.ofInt 64 (a:Int) &&& BitVec.ofInt 64 (b:Int)).toNat:Int) = _;rw [e];have h:=Nat.and_le_left (n:=a) (m:=b);exact qhp (by omega) (by omega)
theorem qxE {a b:Nat} (ha:a < 2 ^ 62) (hb:b < 2 ^ 62):orI .i64 (a:Int) (b:Int) = ((a ||| b:Nat):Int):=by
 unfold orI;have e:(BitVec.ofInt 64 (a:Int) ||| BitVec.ofInt 64 (b:Int)).toNat = a ||| b:=by rw [BitVec.toNat_or,qfN (by omega),qfN (by omega)]
 show IntKind.wrap .i64 ((BitVec.ofInt 64 (a:Int) ||| BitVec.ofInt 64 (b:Int)).toNat:Int) = _;rw [e];have h:=Nat.or_lt_two_pow ha hb;exact qhp (by omega) (by omega)
def qBD (a b:Nat):Nat:=a &&& (2 ^ 64 - (b + 1))
theorem qtH {a b:Nat} (ha:a < 2 ^ 62) (hb:b < 2 ^ 62):qiR .i64 (a:Int) (b:Int) = ((qBD a b:Nat):Int):=by
 unfold qiR;have e:(BitVec.ofInt 64 (a:Int) &&& ~~~ BitVec.ofInt 64 (b:Int)).toNat = qBD a b:=by
  rw [BitVec.toNat_and,BitVec.toNat_not,qfN (by omega),qfN (by omega)];unfold qBD;congr 1
  omega
 show IntKind.wrap .i64 ((BitVec.ofInt 64 (a:Int) &&& ~~~ BitVec.ofInt 64 (b:Int)).toNat:Int) = _;rw [e];have h:=Nat.and_le_left (n:=a) (m:=2 ^ 64 - (b + 1));unfold qBD;exact qhp (by omega) (by omega)
theorem qAp {a b k:Nat} (ha:a < 2 ^ 62) (hb:b < 2 ^ 62):(qBD a b).testBit k = (a.testBit k && !b.testBit k):=by
 unfold qBD;rw [Nat.testBit_and,Nat.testBit_two_pow_sub_succ (by omega)];by_cases h:k < 64
 ·simp [h]
 ·have:a.testBit k = false:=Nat.testBit_lt_two_pow (Nat.lt_of_lt_of_le ha (Nat.pow_le_pow_right (by omega) (by omega)));simp [h,this]
theorem qmn {x:Int} (h0:0<=x) (h1:x < 62):qyU .i64 1 x = some ((2 ^ x.toNat:Nat):Int):=by
 unfold qyU;rw [if_pos h0];have e:min x.toNat (IntKind.bits .i64) = x.toNat:=by
  show min x.toNat 64 = x.toNat;omega
 rw [e,Int.one_mul];have h2:2 ^ x.toNat < 2 ^ 62:=Nat.pow_lt_pow_right (by omega) (by omega);have h3:((2:Int) ^ x.toNat) = ((2 ^ x.toNat:Nat):Int):=by simp
 rw [h3];generalize 2 ^ x.toNat = p at h2 ⊢;exact congrArg some (qhp (by omega) (by omega))
theorem ql8 {a:Nat} {x:Int} (h0:0<=x) (h1:x < 62):qsQ .i64 (a:Int) x = some ((a / 2 ^ x.toNat:Nat):Int):=by
 unfold qsQ;rw [if_pos h0];have e:min x.toNat (IntKind.bits .i64) = x.toNat:=by
  show min x.toNat 64 = x.toNat;omega
 rw [e];have h3:((2:Int) ^ x.toNat) = ((2 ^ x.toNat:Nat):Int):=by simp
 rw [h3];generalize 2 ^ x.toNat = p;rw [Int.fdiv_eq_ediv_of_nonneg _ (by omega)]
 norm_cast
theorem qtS {a k:Nat} (ha:a < 9223372036854775808):qqY .i64 ((a / 2 ^ k:Nat):Int) 1 = if a.testBit k = true then 1 else 0:=by
 have h:=qjB (a:=a / 2 ^ k) (b:=1) (Nat.lt_of_le_of_lt (Nat.div_le_self ..) ha) (by omega);rw [show ((1:Nat):Int) = 1 from rfl] at h;rw [h,Nat.and_one_is_mod,Nat.testBit_eq_decide_div_mod_eq];by_cases c:a / 2 ^ k % 2 = 1
 ·rw [c]; simp
 ·have:a / 2 ^ k % 2 = 0:=by omega
  rw [this]; simp
def qed (l:List Int):Nat:=l.foldl (λa x=>a ||| 2 ^ x.toNat) 0
theorem qy2 (l:List Int) (h:∀ x ∈ l,0<=x) (k:Nat):∀ a:Nat,(l.foldl (λa x=>a ||| 2 ^ x.toNat) a).testBit k = (a.testBit k || decide ((k:Int) ∈ l)):=by
 induction l with
 | nil=>simp
 | cons x l ih =>
  intro a;rw [List.foldl_cons,ih (λy hy=>h y (by simp [hy])),Nat.testBit_or,Nat.testBit_two_pow];have:=h x (by simp);by_cases e:x = (k:Int)
  ·subst e; simp
  ·have e':x.toNat ≠ k:=by omega
   have e'':(k:Int) ≠ x:=λh=>e h.symm;simp [e',e'']
theorem qfX {l:List Int} (h:∀ x ∈ l,0<=x) (k:Nat):(qed l).testBit k = decide ((k:Int) ∈ l):=by
 unfold qed; rw [qy2 l h k]; simp
theorem qA8 {l:List Int} {f:Nat} (h:∀ x ∈ l,0<=x/\x < f):qed l < 2 ^ f:=by
 refine Nat.lt_pow_two_of_testBit _ λk hk=>?_;rw [qfX λx hx=>(h x hx).1];simp only [decide_eq_false_iff_not];intro hm;have:=(h _ hm).2;omega
def qBK (l:List Int):Prop:=∀ x ∈ l,0<=x/\x < 8
theorem qnB {l:List Int} (h:qBK l):qed l < 256:=by
 have:=qA8 (f:=8) h;omega
theorem of_eq {l:List Int} (h:qBK l) (hl:l.length<=1000):qg1 l = some ((qed l:Nat):Int):=by
 unfold qg1;have key:Ok (qG (λ(s2:(Int × Int)) =>
   bif decide (s2.2 < (l.length:Int)) then
    (idx l s2.2).bind λx3 =>
    (qyU .i64 (1:Int) x3).bind λx4 =>
    some (.inl (orI .i64 s2.1 x4,w64 (s2.2 + 1)))
   else
    some (.inr s2.1)) (0,0)) (λr=>r = ((qed l:Nat):Int)):=by
  refine qdk l.length (λi (s:Int × Int)=>s = (((qed (l.take i):Nat):Int),(i:Int))) _ (by simp [qed]) ?_;rintro i s hi rfl;by_cases hlt:i < l.length
  ·obtain ⟨a,ha⟩:∃ a,l[i]? = some a:=⟨_,List.getElem?_eq_getElem hlt⟩
   have h0:decide ((i:Int) < (l.length:Int)) = true:=by simp <;> omega
   obtain ⟨b1,b2⟩:=h a (List.mem_of_getElem? ha);simp only [h0,cond_true,qV ha,qa];rw [qmn b1 (by omega)];simp only [qa];have c1:qed (l.take i) < 256:=qnB λx hx=>h x (List.mem_of_mem_take hx);have c2:2 ^ a.toNat < 2 ^ 62:=Nat.pow_lt_pow_right (by omega) (by omega);rw [qxE (by omega) c2,wq (by omega) (by omega),qaz];refine ⟨hlt,?_⟩;rw [qc0 a hlt,qaS ha];unfold qed;rw [List.foldl_append];simp
  ·have:i = l.length:=by omega
   subst this;have h0:decide ((l.length:Int) < (l.length:Int)) = false:=by simp
   simp only [h0,cond_false];rw [qa1,List.take_length]
 rw [key.eq]; rfl
def qBJ (t:Ts):Prop:=qBK t.1/\qBK t.2.1/\shT t
abbrev Bt:=Int × Int × Unit
def bt (t:Ts):Bt:=(((qed t.1:Nat):Int),((qed t.2.1:Nat):Int),())
def hold (t:Ts) (s:Nat):Bool:=(t.1.all λx=>s.testBit x.toNat) && (t.2.1.all λx=>!s.testBit x.toNat)
def qqA (t:Ts) (s:Nat):Nat:=qBD (s ||| qed t.1) (qed t.2.1)
theorem qk5 {t:Ts} (h:qBJ t):qaB t = some (bt t):=by
 obtain ⟨h1,h2,h3,h4⟩:=h;unfold qaB;rw [of_eq h1 (by omega),of_eq h2 (by omega)]; rfl
theorem qz6 {l:List Int} (h:qBK l) (s:Nat):s &&& qed l = qed l ↔ ∀ x ∈ l,s.testBit x.toNat = true:=by
 constructor
 ·intro e x hx;have h0:=(h x hx).1;have:(s &&& qed l).testBit x.toNat = true:=by
   rw [e,qfX λx hx=>(h x hx).1];have:((x.toNat:Nat):Int) = x:=by omega
   rw [this]; simp [hx]
  rw [Nat.testBit_and] at this;simp only [qe] at this;exact this.1
 ·intro hs;refine Nat.eq_of_testBit_eq λk=>?_;rw [Nat.testBit_and,qfX λx hx=>(h x hx).1];by_cases hk:(k:Int) ∈ l
  ·have:=hs _ hk;rw [Int.toNat_natCast] at this;simp [hk,this]
  ·simp [hk]
theorem qAm {l:List Int} (h:qBK l) (s:Nat):s &&& qed l = 0 ↔ ∀ x ∈ l,s.testBit x.toNat = false:=by
 constructor
 ·intro e x hx;have h0:=(h x hx).1;have:(s &&& qed l).testBit x.toNat = false:=by rw [e]; simp
  rw [Nat.testBit_and,qfX λx hx=>(h x hx).1] at this;have e2:((x.toNat:Nat):Int) = x:=by omega
  rw [e2] at this;simpa [hx] using this
 ·intro hs;refine Nat.eq_of_testBit_eq λk=>?_;rw [Nat.testBit_and,qfX λx hx=>(h x hx).1];by_cases hk:(k:Int) ∈ l
  ·have:=hs _ hk;rw [Int.toNat_natCast] at this;simp [this]
  ·simp [hk]
theorem qhu {t:Ts} (h:qBJ t) {s:Nat} (hs:s < 256):qS (bt t) (s:Int) = some (hold t s):=by
 obtain ⟨h1,h2,_⟩:=h;have b1:=qnB h1;have b2:=qnB h2;unfold qS bt hold;simp only
 rw [qjB (by omega) (by omega),qjB (by omega) (by omega)];have e1:(((s &&& qed t.1:Nat):Int) = ((qed t.1:Nat):Int)) ↔ ∀ x ∈ t.1,s.testBit x.toNat = true:=by
  rw [<- qz6 h1]; omega
 have e2:(((s &&& qed t.2.1:Nat):Int) = 0) ↔ ∀ x ∈ t.2.1,s.testBit x.toNat = false:=by
  rw [<- qAm h2]; omega
 have f1:(t.1.all λx=>s.testBit x.toNat) = decide (∀ x ∈ t.1,s.testBit x.toNat = true):=by
  rw [Bool.eq_iff_iff]; simp
 have f2:(t.2.1.all λx=>!s.testBit x.toNat) = decide (∀ x ∈ t.2.1,s.testBit x.toNat = false):=by
  rw [Bool.eq_iff_iff]; simp
 rw [f1,f2];by_cases c1:∀ x ∈ t.1,s.testBit x.toNat = true
 ·rw [decide_eq_true (e1.2 c1),decide_eq_true c1];simp only [cond_true,Bool.true_and,qa];by_cases c2:∀ x ∈ t.2.1,s.testBit x.toNat = false
  ·rw [decide_eq_true (e2.2 c2),decide_eq_true c2]
  ·rw [decide_eq_false λe=>c2 (e2.1 e),decide_eq_false c2]
 ·rw [decide_eq_false λe=>c1 (e1.1 e),decide_eq_false c1];rfl
theorem qtT {t:Ts} (h:qBJ t) {s:Nat} (hs:s < 256):qan (bt t) (s:Int) = some ((qqA t s:Nat):Int):=by
 obtain ⟨h1,h2,_⟩:=h;have b1:=qnB h1;have b2:=qnB h2;unfold qan bt qqA;simp only
 have b3:s ||| qed t.1 < 2 ^ 8:=Nat.or_lt_two_pow (by omega) (by omega)
 rw [qxE (by omega) (by omega),qtH (by omega) (by omega)]
theorem qzk {t:Ts} (h:qBJ t) {s:Nat} (hs:s < 256) (k:Nat):(qqA t s).testBit k = ((s.testBit k || decide ((k:Int) ∈ t.1)) && !decide ((k:Int) ∈ t.2.1)):=by
 obtain ⟨h1,h2,_⟩:=h;have b1:=qnB h1;have b2:=qnB h2;have b3:s ||| qed t.1 < 2 ^ 8:=Nat.or_lt_two_pow (by omega) (by omega)
 unfold qqA;rw [qAp (by omega) (by omega),Nat.testBit_or,qfX λx hx=>(h1 x hx).1,qfX λx hx=>(h2 x hx).1]
theorem qtu {t:Ts} {f:Nat} (h:qBJ t) (hf:∀ x ∈ t.1,x < f) {s:Nat} (h8:f<=8) (hs:s < 2 ^ f):qqA t s < 2 ^ f:=by
 have h256:s < 256:=Nat.lt_of_lt_of_le hs (Nat.pow_le_pow_right (n:=2) (by omega) h8);refine Nat.lt_pow_two_of_testBit _ λk hk=>?_;rw [qzk h h256];have e1:s.testBit k = false:=Nat.testBit_lt_two_pow (Nat.lt_of_lt_of_le hs (Nat.pow_le_pow_right (by omega) hk));have e2:(k:Int) ∉ t.1:=λhm=>by have:=hf _ hm; omega
 simp [e1,e2]
theorem qy3 {t:Ts} (h:qBJ t) {s:Nat} (hs:s < 256):qf1 t (s:Int) = some (hold t s):=by
 obtain ⟨h1,h2,hl1,hl2⟩:=h;unfold qf1 hold;rw [qaO t.1 _ (λ_ x=>if s.testBit x.toNat = true then none else some false) (λi a hi=>by
  have:=qaQ hi;obtain ⟨b1,b2⟩:=h1 a (List.mem_of_getElem? hi);rw [qV hi];simp only [qa];rw [ql8 b1 (by omega)];simp only [qa];rw [qtS (by omega)];by_cases c:s.testBit a.toNat = true
  ·simp only [c,if_true,show ¬ ((1:Int) = 0) by omega,decide_false,cond_false,stp]; rw [wq (by omega) (by omega)]
  ·simp only [c,if_false,decide_true,cond_true,stp,qf]),q5]
 cases hf:qa3 (λ_ (x:Int)=>if s.testBit x.toNat = true then none else some false) 0 t.1 with
 | some r =>
  obtain ⟨i,a,ha,e,_⟩:=qaH hf;by_cases c:s.testBit a.toNat = true
  ·simp [c] at e
  ·simp only [c,if_false,qf,qb] at e;subst e;have:(t.1.all λx=>s.testBit x.toNat) = false:=List.all_eq_false.2 ⟨a,List.mem_of_getElem? ha,by simpa using c⟩;rw [this]; rfl
 | none =>
  have e1:(t.1.all λx=>s.testBit x.toNat) = true:=List.all_eq_true.2 λx hx=>by
   obtain ⟨i,hi⟩:=List.mem_iff_getElem?.1 hx;have:=qba.1 hf i x hi;by_cases c:s.testBit x.toNat = true
   ·exact c
   ·simp [c] at this
  rw [e1];simp only [Bool.true_and];rw [qaO t.2.1 _ (λ_ x=>if s.testBit x.toNat = true then some false else none) (λi a hi=>by
   have:=qaQ hi;obtain ⟨b1,b2⟩:=h2 a (List.mem_of_getElem? hi);rw [qV hi];simp only [qa];rw [ql8 b1 (by omega)];simp only [qa];rw [qtS (by omega)];by_cases c:s.testBit a.toNat = true
   ·simp only [c,if_true,decide_true,cond_true,stp]
   ·simp only [c,if_false,show ¬ ((0:Int) = 1) by omega,decide_false,cond_false,stp,qf]; rw [wq (by omega) (by omega)]),q5]
  cases hf2:qa3 (λ_ (x:Int)=>if s.testBit x.toNat = true then some false else none) 0 t.2.1 with
  | some r =>
   obtain ⟨i,a,ha,e,_⟩:=qaH hf2;by_cases c:s.testBit a.toNat = true
   ·simp only [c,if_true,qb] at e;subst e;have:(t.2.1.all λx=>!s.testBit x.toNat) = false:=List.all_eq_false.2 ⟨a,List.mem_of_getElem? ha,by simp [c]⟩;rw [this]
   ·simp [c] at e
  | none =>
   have e1:(t.2.1.all λx=>!s.testBit x.toNat) = true:=List.all_eq_true.2 λx hx=>by
    obtain ⟨i,hi⟩:=List.mem_iff_getElem?.1 hx;have:=qba.1 hf2 i x hi;by_cases c:s.testBit x.toNat = true
    ·simp [c] at this
    ·simpa using c
   rw [e1]
end Go.Proofs.YtkcaaaiihhhnmaaGreatDoor
end
section
namespace Go.Proofs.YtkcaaaiihhhnmaaGreatDoor
open Go Go.Ab Go.Tx
end Go.Proofs.YtkcaaaiihhhnmaaGreatDoor
end
section
namespace Go.Proofs.YtkcaaaiihhhnmaaGreatDoor
open Go Go.Ab Go.Tx
end Go.Proofs.YtkcaaaiihhhnmaaGreatDoor
end
section
namespace Go.Proofs.YtkcaaaiihhhnmaaGreatDoor
open Go Go.Ab Go.Tx
def okF (f:Nat) (t:Ts):Prop:=(∀ x ∈ t.1,0<=x/\x < f)/\(∀ x ∈ t.2.1,0<=x/\x < f)/\shT t
theorem okF.ok {f:Nat} {t:Ts} (h:okF f t) (h8:f<=8):qBJ t:=⟨λx hx=>by have:=h.1 x hx; omega,λx hx=>by have:=h.2.1 x hx; omega,h.2.2⟩
structure VM (m:Mc):Prop where
 f0:0 < m.1.length
 f8:m.1.length<=8
 a10:m.2.1.length<=10
 h4:m.2.2.1.length<=4
 nd:∀ a ∈ m.2.1,okF m.1.length (qb2 a)
 ds:∀ a ∈ m.2.1,okF m.1.length (dos a)
 ht:∀ t ∈ m.2.2.1,okF m.1.length t
theorem qyx {f:Nat} {l:List Int} (h:qvy f l = 0):∀ x ∈ l,0<=x/\x < (f:Int):=by
 intro x hx;obtain ⟨i,hi⟩:=List.mem_iff_getElem?.1 hx;have:=qb6.1 h i x hi;unfold ixE at this;split at this
 ·omega
 ·omega
theorem qwD {f:Nat} {t:Ts} (hs:shT t) (h:tsE f t = 0):okF f t:=by
 unfold tsE at h;split at h
 ·rename_i h1;split at h
  ·rename_i h2; exact ⟨qyx h1,qyx h2,hs⟩
  ·rename_i h2; exact absurd h h2
 ·rename_i h1; exact absurd h h1
theorem qmb {m:Mc} (hb:MB m) (h:(qfF m).2 = 0):VM m/\qfF m = (0,0):=by
 unfold qfF at h ⊢;split at h
 ·rename_i h1;split at h
  ·rename_i h2;split at h
   ·rename_i h3;split at h
    ·rename_i h4;rw [if_pos h1,if_pos h2,if_pos h3,if_pos h4];refine ⟨⟨by omega,by omega,by omega,by omega,λa ha=>?_,λa ha=>?_,λt ht=>?_⟩,qq7 h⟩
     ·obtain ⟨i,hi⟩:=List.mem_iff_getElem?.1 ha;have:=qb6.1 h4 i a hi;obtain ⟨_,b1,b2⟩:=hb.an a ha;unfold acE at this;split at this
      ·split at this
       ·omega
       ·split at this
        ·rename_i h5; exact qwD b1 h5
        ·rename_i h5; exact absurd this h5
      ·omega
     ·obtain ⟨i,hi⟩:=List.mem_iff_getElem?.1 ha;have:=qb6.1 h4 i a hi;obtain ⟨_,b1,b2⟩:=hb.an a ha;unfold acE at this;split at this
      ·split at this
       ·omega
       ·split at this
        ·exact qwD b2 this
        ·rename_i h5; exact absurd this h5
      ·omega
     ·obtain ⟨i,hi⟩:=List.mem_iff_getElem?.1 ht;exact qwD (hb.ht t ht) (qb6.1 h i t hi)
    ·rename_i h4; exact absurd h h4
   ·rename_i h3; exact absurd h h3
  ·cases h
 ·cases h
abbrev Bm:=List Bt × List Bt × List Bt × Int × Unit
def bm (m:Mc):Bm:=(m.2.1.map λa=>bt (qb2 a),m.2.1.map λa=>bt (dos a),m.2.2.1.map bt,((2 ^ m.1.length:Nat):Int),())
def qwf (m:Mc):Bm × Int:=if (qfF m).2 = 0 then (bm m,0) else (([],[],[],0,()),(qfF m).2)
theorem qBI {m:Mc} (hb:MB m):qgk m = some (qwf m):=by
 unfold qgk qwf;rw [qmR hb];simp only [qa];by_cases h:(qfF m).2 = 0
 ·obtain ⟨hv,_⟩:=qmb hb h;have h8:=hv.f8; have h10:=hv.a10; have h4:=hv.h4;simp only [h,decide_true,Bool.not_true,cond_false,if_true];rw [qmn (by omega) (by omega)];simp only [qa,Int.toNat_natCast];have k1:Ok (qG (λ(s5:(Int × (List Bt) × (List Bt) × (List Bt) × Int)) =>
    bif decide (s5.1 < (m.2.1.length:Int)) then
     (idx m.2.1 s5.1).bind λx6 =>
     (qaB (x6.2.1,x6.2.2.1,())).bind λx7 =>
     (app s5.2.1 ([x7])).bind λx8 =>
     (qaB (x6.2.2.2.1,x6.2.2.2.2.1,())).bind λx9 =>
     (app s5.2.2.1 ([x9])).bind λx10 =>
     some (.inl (w64 (s5.1 + 1),x8,x10,s5.2.2.2.1,s5.2.2.2.2))
    else
     some (.inr (s5.2.1,s5.2.2.1,s5.2.2.2.1,s5.2.2.2.2))) (0,[],[],[],((2 ^ m.1.length:Nat):Int))) (λr=>r = (m.2.1.map λa=>bt (qb2 a),m.2.1.map λa=>bt (dos a),[],((2 ^ m.1.length:Nat):Int))):=by
   refine qdk m.2.1.length (λi (s:Int × List Bt × List Bt × List Bt × Int)=>s = ((i:Int),(m.2.1.take i).map (λa=>bt (qb2 a)),(m.2.1.take i).map (λa=>bt (dos a)),[],((2 ^ m.1.length:Nat):Int))) _ rfl ?_;rintro i s hi rfl;by_cases hlt:i < m.2.1.length
   ·obtain ⟨a,ha⟩:∃ a,m.2.1[i]? = some a:=⟨_,List.getElem?_eq_getElem hlt⟩
    have h0:decide ((i:Int) < (m.2.1.length:Int)) = true:=by simp <;> omega
    have hm:=List.mem_of_getElem? ha;simp only [h0,cond_true,qV ha,qa];rw [qk5 ((hv.nd a hm).ok h8)];simp only [qa];rw [qeH (by simp; omega)];simp only [qa];rw [qk5 ((hv.ds a hm).ok h8)];simp only [qa];rw [qeH (by simp; omega)];simp only [qa];rw [wq (by omega) (by omega),qaz];exact ⟨hlt,by rw [qc0 a hlt,qaS ha]; simp⟩
   ·have:i = m.2.1.length:=by omega
    subst this;have h0:decide ((m.2.1.length:Int) < (m.2.1.length:Int)) = false:=by simp
    simp only [h0,cond_false];rw [qa1,List.take_length]
  rw [k1.eq];simp only [qa];have k2:Ok (qG (λ(s14:(Int × (List Bt) × (List Bt) × (List Bt) × Int)) =>
    bif decide (s14.1 < (m.2.2.1.length:Int)) then
     (idx m.2.2.1 s14.1).bind λx15 =>
     (qaB x15).bind λx16 =>
     (app s14.2.2.2.1 ([x16])).bind λx17 =>
     some (.inl (w64 (s14.1 + 1),s14.2.1,s14.2.2.1,x17,s14.2.2.2.2))
    else
     some (.inr (s14.2.1,s14.2.2.1,s14.2.2.2.1,s14.2.2.2.2))) (0,m.2.1.map (λa=>bt (qb2 a)),m.2.1.map (λa=>bt (dos a)),[],((2 ^ m.1.length:Nat):Int))) (λr=>r = (m.2.1.map (λa=>bt (qb2 a)),m.2.1.map (λa=>bt (dos a)),m.2.2.1.map bt,((2 ^ m.1.length:Nat):Int))):=by
   refine qdk m.2.2.1.length (λi (s:Int × List Bt × List Bt × List Bt × Int)=>s = ((i:Int),m.2.1.map (λa=>bt (qb2 a)),m.2.1.map (λa=>bt (dos a)),(m.2.2.1.take i).map bt,((2 ^ m.1.length:Nat):Int))) _ rfl ?_;rintro i s hi rfl;by_cases hlt:i < m.2.2.1.length
   ·obtain ⟨a,ha⟩:∃ a,m.2.2.1[i]? = some a:=⟨_,List.getElem?_eq_getElem hlt⟩
    have h0:decide ((i:Int) < (m.2.2.1.length:Int)) = true:=by simp <;> omega
    have hm:=List.mem_of_getElem? ha;simp only [h0,cond_true,qV ha,qa];rw [qk5 ((hv.ht a hm).ok h8)];simp only [qa];rw [qeH (by simp; omega)];simp only [qa];rw [wq (by omega) (by omega),qaz];exact ⟨hlt,by rw [qc0 a hlt,qaS ha]; simp⟩
   ·have:i = m.2.2.1.length:=by omega
    subst this;have h0:decide ((m.2.2.1.length:Int) < (m.2.2.1.length:Int)) = false:=by simp
    simp only [h0,cond_false];rw [qa1,List.take_length]
  rw [k2.eq];rfl
 ·simp [h]
def stE (m:Mc) (s:Int):Int:=if (qfF m).2 = 0 then (if 0<=s/\s<=((2 ^ m.1.length:Nat):Int) - 1 then 0 else 2) else (qfF m).2
theorem qgv {m:Mc} (hv:VM m):0 < 2 ^ m.1.length/\2 ^ m.1.length<=256:=⟨Nat.pow_pos (by omega),Nat.pow_le_pow_right (n:=2) (by omega) hv.f8⟩
theorem qdE {m:Mc} (hb:MB m) (s:Int):qam m s = some ((qwf m).1,s,stE m s):=by
 unfold qam;rw [qBI hb];simp only [qa,wit,unl];rw [qAh _ (by simp)];simp only [qa];unfold qwf stE;by_cases h:(qfF m).2 = 0
 ·obtain ⟨hv,_⟩:=qmb hb h;obtain ⟨p1,p2⟩:=qgv hv;simp only [h,if_true,bm,qiB];generalize 2 ^ m.1.length = p at p1 p2 ⊢;rw [wq (by omega) (by omega)];by_cases c:0<=s/\s<=(p:Int) - 1 <;> simp [c,qiB]
 ·simp [h,qiB]
theorem qtn {m:Mc} (hb:MB m) (s:Int):qdC m s = some (stE m s):=by
 unfold qdC;rw [qq0 hb];simp only [qa];unfold stE;by_cases h:(qfF m).2 = 0
 ·obtain ⟨hv,_⟩:=qmb hb h;obtain ⟨p1,p2⟩:=qgv hv;have h8:=hv.f8;simp only [h,if_true,decide_true,Bool.not_true,cond_false];unfold qfm qgu;rw [qmn (by omega) (by omega)];simp only [qa,Int.toNat_natCast,Wit];generalize 2 ^ m.1.length = p at p1 p2 ⊢;rw [wq (by omega) (by omega)];by_cases c:0<=s/\s<=(p:Int) - 1 <;> simp [c]
 ·simp [h]
theorem qgT {m:Mc} (hb:MB m) {s:Int} (h:stE m s = 0):VM m/\qfF m = (0,0)/\qwf m = (bm m,0)/\∃ n:Nat,s = (n:Int)/\n < 2 ^ m.1.length/\n < 256:=by
 unfold stE at h;split at h
 ·rename_i h1;obtain ⟨hv,h2⟩:=qmb hb h1;obtain ⟨p1,p2⟩:=qgv hv;split at h
  ·rename_i h3;refine ⟨hv,h2,by unfold qwf; rw [if_pos h1],s.toNat,by omega,?_,?_⟩
   ·generalize 2 ^ m.1.length = p at p1 p2 h3 ⊢; omega
   ·generalize 2 ^ m.1.length = p at p1 p2 h3 ⊢; omega
  ·cases h
 ·rename_i h1; exact absurd h h1
def qjb (m:Mc) (i:Nat):Ac:=m.2.1.getD i ([],[],[],[],[],())
theorem qdA {m:Mc} {i:Nat} {a:Ac} (h:m.2.1[i]? = some a):qjb m i = a:=qaS h
theorem qzu {i:Nat} (h:i < 62):qsQ .i64 0 (i:Int) = some 0:=by
 have:=ql8 (a:=0) (x:=(i:Int)) (by omega) (by omega);simpa using this
theorem and_zero:qqY .i64 0 1 = 0:=by
 have:=qjB (a:=0) (b:=1) (by omega) (by omega);simpa using this
end Go.Proofs.YtkcaaaiihhhnmaaGreatDoor
end
section
namespace Go.Proofs.YtkcaaaiihhhnmaaGreatDoor
open Go Go.Ab Go.Tx
theorem qBb (a b:Int):cmp_Less_int a b = some (decide (a < b)):=by
 unfold cmp_Less_int cmp_isNaN_int;simp
theorem qA3 {n:Nat} (h:n < 1000000):qsQ .u64 (n:Int) 1 = some ((n / 2:Nat):Int):=by
 unfold qsQ;rw [if_pos (by omega)];have e:min (1:Int).toNat (IntKind.bits .u64) = 1:=by
  show min 1 64 = 1;rfl
 rw [e,show ((2:Int) ^ 1) = 2 from rfl,Int.fdiv_eq_ediv_of_nonneg _ (by omega)]
 norm_cast
theorem wrap_u64 {n:Int} (h0:0<=n) (h:n < 1000000):IntKind.wrap .u64 n = n:=by
 show n % (2 ^ 64:Int) = n;omega
def asc (l:List Int):Prop:=∀ (i j:Nat) a b,i < j->l[i]? = some a->l[j]? = some b->a < b
theorem qrt {l:List Int} (hs:asc l) (hl:l.length<=1000) (t:Int):∃ p,qM l t = some (p,decide (t ∈ l)):=by
 unfold qM;have k1:Ok (qG (λ(s2:(Int × Int)) =>
   bif decide (s2.1 < s2.2) then
    (qsQ .u64 (IntKind.wrap .u64 (w64 (s2.1 + s2.2))) (1:Int)).bind λx3 =>
    (idx l (w64 (x3))).bind λx4 =>
    (cmp_Less_int x4 t).bind λx5 =>
    (bif x5 then
      some (w64 ((w64 (x3)) + 1),s2.2)
     else
      some (s2.1,w64 (x3))).bind λ(p6:(Int × Int)) =>
    some (.inl (p6.1,p6.2))
   else
    some (.inr s2.1)) (0,(l.length:Int))) (λr:Int=>∃ n:Nat,r = (n:Int)/\n<=l.length/\(∀ k a,k < n->l[k]? = some a->a < t)/\∀ k a,n<=k->l[k]? = some a->t<=a):=by
  refine qn4 (λs:Int × Int=>(s.2 - s.1).toNat) (λs:Int × Int=>∃ i j:Nat,s = ((i:Int),(j:Int))/\i<=j/\j<=l.length/\(∀ k a,k < i->l[k]? = some a->a < t)/\∀ k a,j<=k->l[k]? = some a->t<=a) _ ⟨0,l.length,rfl,by omega,by omega,by omega,λk a hk ha=>by have:=qaQ ha; omega⟩ ?_;rintro s ⟨i,j,rfl,h1,h2,h3,h4⟩;by_cases hlt:i < j
  ·have h0:decide ((i:Int) < (j:Int)) = true:=by simp <;> omega
   simp only [h0,cond_true];rw [wq (n:=(i:Int) + (j:Int)) (by omega) (by omega),wrap_u64 (by omega) (by omega),show (i:Int) + (j:Int) = ((i + j:Nat):Int) by omega,qA3 (by omega)];simp only [qa];rw [wq (n:=(((i + j) / 2:Nat):Int)) (by omega) (by omega)];obtain ⟨a,ha⟩:∃ a,l[(i + j) / 2]? = some a:=⟨_,List.getElem?_eq_getElem (by omega)⟩
   rw [qV ha];simp only [qa,qBb];rw [wq (n:=(((i + j) / 2:Nat):Int) + 1) (by omega) (by omega)];by_cases c:a < t
   ·simp only [c,decide_true,cond_true,qa];rw [qaz];refine ⟨⟨(i + j) / 2 + 1,j,by simp,by omega,h2,λk b hk hb=>?_,h4⟩,by simp only; omega⟩;by_cases e:k = (i + j) / 2
    ·subst e; rw [ha] at hb; cases hb; exact c
    ·have:=hs k _ b a (by omega) hb ha; omega
   ·simp only [c,decide_false,cond_false,qa];rw [qaz];refine ⟨⟨i,(i + j) / 2,rfl,by omega,by omega,h3,λk b hk hb=>?_⟩,by simp only; omega⟩;by_cases e:k = (i + j) / 2
    ·subst e; rw [ha] at hb; cases hb; omega
    ·have:=hs _ k a b (by omega) ha hb; omega
  ·have h0:decide ((i:Int) < (j:Int)) = false:=by simp <;> omega
   simp only [h0,cond_false];rw [qa1];exact ⟨i,rfl,by omega,h3,λk a hk ha=>h4 k a (by omega) ha⟩
 obtain ⟨r,e1,n,rfl,hn,h3,h4⟩:=k1;rw [e1];simp only [qa];by_cases hlt:n < l.length
 ·have h0:decide ((n:Int) < (l.length:Int)) = true:=by simp <;> omega
  obtain ⟨a,ha⟩:∃ a,l[n]? = some a:=⟨_,List.getElem?_eq_getElem hlt⟩
  simp only [h0,cond_true,qV ha,qa];by_cases c:a = t
  ·subst c;have:a ∈ l:=List.mem_of_getElem? ha;exact ⟨n,by simp [this]⟩
  ·have:t ∉ l:=λhm=>by
    obtain ⟨k,hk⟩:=List.mem_iff_getElem?.1 hm;by_cases e:k < n
    ·have:=h3 k t e hk; omega
    ·by_cases e2:k = n
     ·subst e2; rw [ha] at hk; cases hk; exact c rfl
     ·have h5:=h4 n a (by omega) ha;have:=hs n k a t (by omega) ha hk; omega
   exact ⟨n,by simp [c,this,qcu]⟩
 ·have h0:decide ((n:Int) < (l.length:Int)) = false:=by simp <;> omega
  have:t ∉ l:=λhm=>by
   obtain ⟨k,hk⟩:=List.mem_iff_getElem?.1 hm;have:=h3 k t (by have:=qaQ hk; omega) hk; omega
  exact ⟨n,by simp only [h0,cond_false,qa,this,decide_false]⟩
def qgI (m:Mc) (s:Nat):Bool:=m.2.2.1.any λt=>hold t s
theorem qje {m:Mc} (hv:VM m) {n:Nat} (hn:n < 256):qw (bm m) (n:Int) = some (qgI m n):=by
 unfold qw;have h4:=hv.h4;have h8:=hv.f8;have key:=qyA (m.2.2.1.map bt) (λx=>qS x (n:Int)) (λx=>decide (∃ t ∈ m.2.2.1,bt t = x/\hold t n = true)) (λx hx=>by
  obtain ⟨t,ht,rfl⟩:=List.mem_map.1 hx;rw [qhu ((hv.ht t ht).ok h8) hn];congr 1
  rw [Bool.eq_iff_iff,decide_eq_true_iff];constructor
  ·intro h; exact ⟨t,ht,rfl,h⟩
  ·rintro ⟨t2,ht2,e,h⟩;have a1:=qhu ((hv.ht t ht).ok h8) hn;have a2:=qhu ((hv.ht t2 ht2).ok h8) hn;rw [e,a1] at a2;rw [Option.some.inj a2]; exact h) (by simp; omega)
 refine key.trans ?_;congr 1
 unfold qgI;rw [Bool.eq_iff_iff,List.any_eq_true,List.any_eq_true];constructor
 ·rintro ⟨x,hx,h⟩;obtain ⟨t,ht,_,h⟩:=of_decide_eq_true h;exact ⟨t,ht,h⟩
 ·rintro ⟨t,ht,h⟩;exact ⟨bt t,List.mem_map.2 ⟨t,ht,rfl⟩,decide_eq_true ⟨t,ht,rfl,h⟩⟩
theorem qjX {m:Mc} (hv:VM m) {n:Nat} (hn:n < 256):qaX m (n:Int) = some (qgI m n):=by
 unfold qaX;have h4:=hv.h4;have h8:=hv.f8;rw [qj7 m.2.2.1.length _ (λj=>∃ t,m.2.2.1[j]? = some t/\hold t n = true) true (qgI m n = true) (by
  unfold qgI;rw [List.any_eq_true];constructor
  ·rintro ⟨t,ht,h⟩;obtain ⟨j,hj⟩:=List.mem_iff_getElem?.1 ht;exact ⟨j,qaQ hj,t,hj,h⟩
  ·rintro ⟨j,_,t,hj,h⟩;exact ⟨t,List.mem_of_getElem? hj,h⟩) (λi hi=>by
  obtain ⟨t,ht⟩:∃ t,m.2.2.1[i]? = some t:=⟨_,List.getElem?_eq_getElem hi⟩
  rw [qV ht];simp only [qa];rw [qy3 ((hv.ht t (List.mem_of_getElem? ht)).ok h8) hn];simp only [qa];by_cases c:hold t n = true
  ·simp [c,ht]
  ·have c':hold t n = false:=by simpa using c
   simp only [c',cond_false,ht,qb,exists_eq_left',qf,if_false];rw [wq (by omega) (by omega)])]
 by_cases c:qgI m n = true
 ·simp [c]
 ·simp [c]
def seE (p:Int) (l:List Int) (i:Nat) (n:Int):Int:=if 0<=n/\n<=p - 1 then (if 0 < i/\n<=l.getD (i - 1) 0 then 9 else 0) else 2
def opens (m:Mc) (l:List Int) (n:Nat):Prop:=∃ a ∈ m.2.1,hold (qb2 a) n = true/\(((qqA (dos a) n:Nat):Int) ∉ l)
instance (m:Mc) (l:List Int) (n:Nat):Decidable (opens m l n):=by unfold opens; infer_instance
def clE (m:Mc) (l:List Int) (_:Nat) (n:Int):Int:=if qgI m n.toNat = true then 22 else if opens m l n.toNat then 21 else 0
def qis (m:Mc) (s:Int) (l:List Int):Int × Int :=
 if (qaM (seE ((2 ^ m.1.length:Nat):Int) l) 0 l).2 = 0 then (if s ∈ l then qaM (clE m l) 0 l else (0,6)) else qaM (seE ((2 ^ m.1.length:Nat):Int) l) 0 l
theorem qCR {m:Mc} (hv:VM m) {l:List Int} (h:(qaM (seE ((2 ^ m.1.length:Nat):Int) l) 0 l).2 = 0):asc l/\∀ x ∈ l,∃ n:Nat,x = (n:Int)/\n < 256/\n < 2 ^ m.1.length:=by
 obtain ⟨p1,p2⟩:=qgv hv;generalize 2 ^ m.1.length = p at p1 p2 h ⊢;have h1:=qb6.1 h;have hstep:∀ (i:Nat) a b,l[i]? = some a->l[i + 1]? = some b->a < b:=λi a b ha hb=>by
  have:=h1 (i + 1) b hb;unfold seE at this;split at this
  ·simp only [Nat.zero_add] at this;rw [show i + 1 - 1 = i from rfl,qaS ha] at this;split at this
   ·omega
   ·rename_i hn; simp only [Nat.zero_lt_succ,true_and] at hn; omega
  ·omega
 constructor
 ·intro i j a b hij ha hb;obtain ⟨d,rfl⟩:∃ d,j = i + 1 + d:=⟨j - (i + 1),by omega⟩
  clear hij;induction d generalizing b with
  | zero=>exact hstep i a b ha hb
  | succ d ih =>
   have hlt:=qaQ hb;obtain ⟨c,hc⟩:∃ c,l[i + 1 + d]? = some c:=⟨_,List.getElem?_eq_getElem (by omega)⟩
   have:=ih c hc;have:=hstep _ c b hc hb;omega
 ·intro x hx;obtain ⟨i,hi⟩:=List.mem_iff_getElem?.1 hx;have:=h1 i x hi;unfold seE at this;split at this
  ·exact ⟨x.toNat,by omega,by omega,by omega⟩
  ·omega
theorem qoH {m:Mc} (hb:MB m) (s:Int) (l:List Int) (hl:l.length<=1000):qbD m s l = some (if stE m s = 0 then qis m s l else (0,stE m s)):=by
 unfold qbD;rw [qdE hb];simp only [qa];by_cases h:stE m s = 0
 ·obtain ⟨hv,_,ho,n,rfl,hn,hn2⟩:=qgT hb h;have h8:=hv.f8; have h10:=hv.a10;obtain ⟨p1,p2⟩:=qgv hv;simp only [h,decide_true,Bool.not_true,cond_false,if_true,ho];unfold qis;have hbm:(bm m).2.2.2.1 = ((2 ^ m.1.length:Nat):Int):=rfl;rw [hbm];obtain ⟨r1,e1,q1⟩:=qqw l (seE ((2 ^ m.1.length:Nat):Int) l) (λi (p:Int)=>p = if i = 0 then -1 else l.getD (i - 1) 0) (λ(s2:Int × Int)=>(idx l s2.1).bind λx4 =>
      (qq x4 (0:Int) (w64 (((2 ^ m.1.length:Nat):Int) - 1))).bind λx5 =>
      (qm x5 (2:Int)).bind λx6 =>
      (qm (decide (x4 > s2.2)) (9:Int)).bind λx7 =>
      (qx ([x6,x7])).bind λx8 =>
      bif !(decide (x8 = 0)) then
       some (.inr (.inr (s2.1,x8,x4)))
      else
       some (.inl (w64 (s2.1 + 1),x4))) (-1) rfl (by
   rintro i a p ha rfl;have hlt:=qaQ ha;refine ⟨a,by simp [ha],?_⟩;generalize 2 ^ m.1.length = q at p1 p2 ⊢;rw [wq (by omega) (by omega),qV ha];simp only [qa,wit,unl];rw [qAh _ (by simp)];simp only [qa];rw [wq (by omega) (by omega)];unfold seE;by_cases c1:0<=a/\a<=(q:Int) - 1
   ·by_cases c2:i = 0
    ·subst c2;have c3:a > -1:=by omega
     simp [c1,c3,qiB]
    ·have c4:0 < i:=by omega
     by_cases c3:a<=l.getD (i - 1) 0
     ·have c3':¬ a > l.getD (i - 1) 0:=by omega
      simp only [c1,c2,c3,c3',c4,and_self,decide_true,decide_false,if_true,if_false,qf,qiB];rfl
     ·have c3':a > l.getD (i - 1) 0:=by omega
      simp only [c1,c2,c3,c3',c4,and_self,and_false,decide_true,decide_false,if_true,if_false,qf,qiB];rfl
   ·simp only [c1,decide_false,if_false,qf,qiB];rfl)
  rw [e1];simp only [qa];by_cases E1:(qaM (seE ((2 ^ m.1.length:Nat):Int) l) 0 l).2 = 0
  ·have E1':r1.2.1 = 0:=by rw [<- q1] at E1; exact E1
   obtain ⟨hasc,hel⟩:=qCR hv E1;rw [if_pos E1];simp only [E1',decide_true,Bool.not_true,cond_false];obtain ⟨p,hp⟩:=qrt hasc hl (n:Int);rw [hp];simp only [qa];by_cases hm:(n:Int) ∈ l
   ·simp only [hm,decide_true,Bool.not_true,cond_false,if_true];have e3:=qub l (λ_ x14=>(qw (bm m) x14).bind λx15 =>
         bif x15 then
          some 22
         else
          (qG (λ(s17:Int) =>
            bif decide (s17 < ((bm m).1.length:Int)) then
             ((idx (bm m).1 s17).bind λx18 =>
              (qsQ .i64 (0:Int) s17).bind λx19 =>
              bif decide (qqY .i64 x19 (1:Int) = 0) then
               (qS x18 x14).bind λx20 =>
               bif x20 then
                (idx (bm m).2.1 s17).bind λx21 =>
                (qan x21 x14).bind λx22 =>
                (qM l x22).bind λx23 =>
                bif !x23.2 then
                 some (.inr (.inr (.inr 21)))
                else
                 some (.inl ())
               else
                some (.inl ())
              else
               some (.inl ())).bind (Sum.elim (λ(p24:Unit) =>
             some (.inl (w64 (s17 + 1)))) some)
            else
             some (.inr (.inl ()))) 0).bind (Sum.elim (λ(p25:Unit) =>
          some 0) some)) (clE m l) (λi a ha=>by
     obtain ⟨k,rfl,hk,_⟩:=hel a (List.mem_of_getElem? ha);rw [qje hv hk];simp only [qa];unfold clE;rw [Int.toNat_natCast];by_cases c:qgI m k = true
     ·simp [c]
     ·have c':qgI m k = false:=by simpa using c
      simp only [c',cond_false,qf,if_false];rw [show ((bm m).1.length:Int) = ((m.2.1.length:Nat):Int) by simp [bm]];rw [qj7 m.2.1.length _ (λj=>∃ a,m.2.1[j]? = some a/\hold (qb2 a) k = true/\(((qqA (dos a) k:Nat):Int) ∉ l)) (21:Int) (opens m l k) (by
       unfold opens;constructor
       ·rintro ⟨t,ht,h⟩;obtain ⟨j,hj⟩:=List.mem_iff_getElem?.1 ht;exact ⟨j,qaQ hj,t,hj,h⟩
       ·rintro ⟨j,_,t,hj,h⟩;exact ⟨t,List.mem_of_getElem? hj,h⟩) (λi hi=>by
       obtain ⟨a,ha⟩:∃ a,m.2.1[i]? = some a:=⟨_,List.getElem?_eq_getElem hi⟩
       have hm:=List.mem_of_getElem? ha;have i1:(bm m).1[i]? = some (bt (qb2 a)):=by simp [bm,ha]
       have i2:(bm m).2.1[i]? = some (bt (dos a)):=by simp [bm,ha]
       rw [qV i1,qV i2,qzu (by omega)];simp only [qa];rw [and_zero,qhu ((hv.nd a hm).ok h8) hk,qtT ((hv.ds a hm).ok h8) hk];simp only [decide_true,cond_true,qa];by_cases d:hold (qb2 a) k = true
       ·obtain ⟨p,hp⟩:=qrt hasc hl ((qqA (dos a) k:Nat):Int);simp only [d,cond_true,hp,qa,ha,qb,exists_eq_left',true_and];by_cases d2:((qqA (dos a) k:Nat):Int) ∈ l
        ·simp only [d2,decide_true,Bool.not_true,cond_false,qa,Sum.elim_inl,not_true,if_false]; rw [wq (by omega) (by omega)]
        ·simp [d2]
       ·have d':hold (qb2 a) k = false:=by simpa using d
        simp only [d',cond_false,qa,Sum.elim_inl,ha,qb,exists_eq_left',qf,false_and,if_false];rw [wq (by omega) (by omega)])]
      by_cases d:opens m l k
      ·simp [d]
      ·simp [d]) (by omega)
    rw [e3];rfl
   ·simp [hm]
  ·have E1':r1.2.1 ≠ 0:=by rw [<- q1] at E1; exact E1
   rw [if_neg E1];simp only [E1',decide_false,Bool.not_false,cond_true];rw [q1]
 ·simp [h]
end Go.Proofs.YtkcaaaiihhhnmaaGreatDoor
end
section
namespace Go.Proofs.YtkcaaaiihhhnmaaGreatDoor
open Go Go.Ab Go.Tx
abbrev Ent:=Nat × Int × Int × List Int
structure SS where
 nA:Nat
 hm:Nat->Bool
 nx:Nat->Nat->Option Nat
def qsP (x:SS) (i:Nat) (e:Ent) (out:List Ent) (a:Nat):List Ent :=
 match x.nx e.1 a with
 | none=>out
 | some t=>if t ∈ out.map (·.1) then out else out ++ [(t,(i:Int),(a:Int),e.2.2.2 ++ [(a:Int)])]
def qdf (x:SS) (i:Nat) (e:Ent) (out:List Ent) (n:Nat):List Ent:=(List.range n).foldl (qsP x i e) out
theorem qhK (x:SS) (i:Nat) (e:Ent) (out:List Ent) (n:Nat):qdf x i e out (n + 1) = qsP x i e (qdf x i e out n) n:=by
 unfold qdf;rw [List.range_succ,List.foldl_append]; rfl
def qgQ (x:SS) (i:Nat) (out:List Ent):List Ent :=
 match out[i]? with
 | none=>out
 | some e=>if x.hm e.1 = true then out else qdf x i e out x.nA
def RA (x:SS) (s:Nat):Nat->List Ent
 | 0=>[(s,-1,-1,[])]
 | i + 1=>qgQ x i (RA x s i)
def qeG (x:SS) (s:Nat):List Ent:=RA x s 256
def qzV (x:SS) (out:List Ent) (k:Nat) (e:Ent):Prop :=
 (k = 0/\e.2.1 = -1/\e.2.2.1 = -1/\e.2.2.2 = []) \/
 ∃ (b a:Nat) (eb:Ent),b < k/\out[b]? = some eb/\a < x.nA/\e.2.1 = (b:Int)/\e.2.2.1 = (a:Int)/\x.nx eb.1 a = some e.1/\x.hm eb.1 = false/\e.2.2.2 = eb.2.2.2 ++ [(a:Int)]
structure GA (x:SS) (s:Nat) (out:List Ent):Prop where
 nd:(out.map (·.1)).Nodup
 lt:∀ e ∈ out,e.1 < 256
 zero:out[0]? = some (s,-1,-1,[])
 aft:∀ (k:Nat) e,out[k]? = some e->qzV x out k e
theorem qyP:∀ (N:Nat) (l:List Nat),l.Nodup->(∀ a ∈ l,a < N)->l.length<=N
 | 0,l,_,h=>by
  cases l with
  | nil=>simp
  | cons a l=>exact absurd (h a (by simp)) (by omega)
 | N + 1,l,hd,h=>by
  have h1:=qyP N (l.filter λa=>decide (a ≠ N)) (hd.filter _) (λa ha=>by
   simp only [List.mem_filter,decide_eq_true_eq] at ha;have:=h a ha.1; omega)
  have h2:(l.filter λa=>!decide (a ≠ N)).length<=1:=by
   have hn:(l.filter λa=>!decide (a ≠ N)).Nodup:=hd.filter _
   match hl:l.filter λa=>!decide (a ≠ N) with
   | []=>simp
   | [a]=>simp
   | a :: b :: t =>
    exfalso
    have ha:a ∈ l.filter λa=>!decide (a ≠ N):=by rw [hl]; simp
    have hb:b ∈ l.filter λa=>!decide (a ≠ N):=by rw [hl]; simp
    simp only [List.mem_filter,Bool.not_eq_true',decide_eq_false_iff_not,Decidable.not_not] at ha hb;rw [hl] at hn;have:a ≠ b:=by
     have:=(List.nodup_cons.1 hn).1;simp only [List.mem_cons,not_or] at this; exact this.1
    exact this (by rw [ha.2,hb.2])
  have h3:l.length = (l.filter λa=>decide (a ≠ N)).length + (l.filter λa=>!decide (a ≠ N)).length:=by
   clear h h1 h2 hd;induction l with
   | nil=>rfl
   | cons a l ih =>
    by_cases e:a = N
    ·simp [e,List.filter_cons] at ih ⊢; omega
    ·simp [e,List.filter_cons] at ih ⊢; omega
  omega
theorem GA.len {x:SS} {s:Nat} {out:List Ent} (h:GA x s out):out.length<=256:=by
 have:=qyP 256 (out.map (·.1)) h.nd (λa ha=>by
  obtain ⟨e,he,rfl⟩:=List.mem_map.1 ha;exact h.lt e he)
 simpa using this
def SS.ok (x:SS):Prop:=∀ s a t,s < 256->x.nx s a = some t->t < 256
theorem qld {α:Type} {l m:List α} {k:Nat} {a:α} (h:l[k]? = some a):(l ++ m)[k]? = some a:=by
 have:=(List.getElem?_eq_some_iff.1 h).1;rw [List.getElem?_append_left this]; exact h
theorem qzV.app {x:SS} {out m:List Ent} {k:Nat} {e:Ent} (h:qzV x out k e):qzV x (out ++ m) k e:=by
 rcases h with h | ⟨b,a,eb,h1,h2,h3⟩
 ·exact .inl h
 ·exact .inr ⟨b,a,eb,h1,qld h2,h3⟩
theorem qrY {x:SS} (hx:x.ok) {s:Nat} {out:List Ent} (h:GA x s out) {i a:Nat} {e:Ent} (he:out[i]? = some e) (hh:x.hm e.1 = false) (ha:a < x.nA) :
  GA x s (qsP x i e out a)/\∃ l,qsP x i e out a = out ++ l:=by
 unfold qsP;split
 ·exact ⟨h,[],by simp⟩
 ·rename_i t ht;split
  ·exact ⟨h,[],by simp⟩
  ·rename_i hn;refine ⟨⟨?_,?_,qld h.zero,?_⟩,_,rfl⟩
   ·rw [List.map_append,List.nodup_append];refine ⟨h.nd,by simp,?_⟩;intro b hb c hc e1;simp only [List.map_cons,List.map_nil,List.mem_singleton] at hc;subst e1; subst hc;exact hn hb
   ·intro e' h';rw [List.mem_append] at h';rcases h' with h' | h'
    ·exact h.lt e' h'
    ·simp only [List.mem_singleton] at h';subst h';exact hx _ _ _ (h.lt e (List.mem_of_getElem? he)) ht
   ·intro k e' h';by_cases hk:k < out.length
    ·rw [List.getElem?_append_left hk] at h';exact (h.aft k e' h').app
    ·rw [List.getElem?_append_right (by omega)] at h';have hk0:k - out.length = 0:=by
      rcases Nat.eq_zero_or_pos (k - out.length) with h0 | h0
      ·exact h0
      ·rw [List.getElem?_eq_none (by simp; omega)] at h'; cases h'
     rw [hk0] at h';simp only [List.getElem?_cons_zero,qb] at h';subst h';have:=(List.getElem?_eq_some_iff.1 he).1;exact .inr ⟨i,a,e,by omega,qld he,ha,rfl,rfl,ht,hh,rfl⟩
theorem qhw {x:SS} (hx:x.ok) {s:Nat} {out:List Ent} (h:GA x s out) {i:Nat} {e:Ent} (he:out[i]? = some e) (hh:x.hm e.1 = false) :
  ∀ n,n<=x.nA->GA x s (qdf x i e out n)/\∃ l,qdf x i e out n = out ++ l
 | 0,_=>⟨h,[],by simp [qdf]⟩
 | n + 1,hn=>by
  obtain ⟨h1,l,h2⟩:=qhw hx h he hh n (by omega);rw [qhK];obtain ⟨h3,l',h4⟩:=qrY hx h1 (i:=i) (a:=n) (e:=e) (by rw [h2]; exact qld he) hh (by omega);exact ⟨h3,l ++ l',by rw [h4,h2,List.append_assoc]⟩
theorem qpb {x:SS} (hx:x.ok) {s:Nat} {out:List Ent} (h:GA x s out) (i:Nat):GA x s (qgQ x i out)/\∃ l,qgQ x i out = out ++ l:=by
 unfold qgQ;split
 ·exact ⟨h,[],by simp⟩
 ·rename_i e he;split
  ·exact ⟨h,[],by simp⟩
  ·rename_i hh;exact qhw hx h he (by simpa using hh) _ (by omega)
theorem qhc {x:SS} (hx:x.ok) {s:Nat} (hs:s < 256):∀ i,GA x s (RA x s i)
 | 0=>⟨by simp [RA],by simp [RA,hs],rfl,λk e h=>by
   cases k with
   | zero=>simp only [RA,List.getElem?_cons_zero,qb] at h; subst h; exact .inl ⟨rfl,rfl,rfl,rfl⟩
   | succ k=>simp [RA] at h⟩
 | i + 1=>(qpb hx (qhc hx hs i) i).1
theorem qAu {x:SS} (hx:x.ok) {s:Nat} (hs:s < 256) (i:Nat):∀ k,∃ l,RA x s (i + k) = RA x s i ++ l
 | 0=>⟨[],by simp⟩
 | k + 1=>by
  obtain ⟨l,h⟩:=qAu hx hs i k;obtain ⟨l',h'⟩:=(qpb hx (qhc hx hs (i + k)) (i + k)).2;exact ⟨l ++ l',by show qgQ x (i + k) (RA x s (i + k)) = _; rw [h',h,List.append_assoc]⟩
theorem qs4 {x:SS} {s i:Nat} (h:(RA x s i).length<=i):∀ k,RA x s (i + k) = RA x s i
 | 0=>rfl
 | k + 1=>by
  show qgQ x (i + k) (RA x s (i + k)) = _;rw [qs4 h k];unfold qgQ;rw [List.getElem?_eq_none (by omega)]
theorem qxv {x:SS} {s i:Nat} (hx:x.ok) (hs:s < 256) (h:(RA x s i).length<=i):qeG x s = RA x s i:=by
 unfold qeG;by_cases hi:i<=256
 ·obtain ⟨k,e⟩:∃ k,256 = i + k:=⟨256 - i,by omega⟩
  rw [e]; exact qs4 h k
 ·obtain ⟨k,rfl⟩:∃ k,i = 256 + k:=⟨i - 256,by omega⟩
  exact (qs4 (GA.len (qhc hx hs 256)) k).symm
theorem qdP {x:SS} (hx:x.ok) {s:Nat} (hs:s < 256):GA x s (qeG x s):=qhc hx hs 256
theorem qBf {x:SS} (hx:x.ok) {s:Nat} (hs:s < 256) {i j k:Nat} {e:Ent} (h:(RA x s i)[k]? = some e) (hj:i<=j):(RA x s j)[k]? = some e:=by
 obtain ⟨d,rfl⟩:∃ d,j = i + d:=⟨j - i,by omega⟩
 obtain ⟨l,e1⟩:=qAu hx hs i d;rw [e1]; exact qld h
theorem qxg {x:SS} (hx:x.ok) {s:Nat} (hs:s < 256):∀ {k:Nat} {e:Ent},(qeG x s)[k]? = some e->(RA x s k)[k]? = some e:=by
 intro k e h;by_cases hk:k < (RA x s k).length
 ·obtain ⟨e',he'⟩:∃ e',(RA x s k)[k]? = some e':=⟨_,List.getElem?_eq_getElem hk⟩
  have hl:=(GA.len (qhc hx hs k))
  have:=qBf hx hs he' (j:=256) (by omega);unfold qeG at h;rw [h] at this;rw [he',this]
 ·have:=qxv hx hs (i:=k) (by omega);rw [this,List.getElem?_eq_none (by omega)] at h;cases h
theorem qnD {x:SS} (hx:x.ok) {s:Nat} {out:List Ent} (h:GA x s out) {i:Nat} {e:Ent} (he:out[i]? = some e) (hh:x.hm e.1 = false) {a t:Nat} (ht:x.nx e.1 a = some t) :
  ∀ n,n<=x.nA->a < n->t ∈ (qdf x i e out n).map (·.1)
 | 0,_,h0=>by omega
 | n + 1,hn,h0=>by
  rw [qhK];obtain ⟨h1,l,h2⟩:=qhw hx h he hh n (by omega);obtain ⟨_,l',h4⟩:=qrY hx h1 (i:=i) (a:=n) (e:=e) (by rw [h2]; exact qld he) hh (by omega);by_cases ha:a < n
  ·rw [h4,List.map_append,List.mem_append];exact .inl (qnD hx h he hh ht n (by omega) ha)
  ·have:a = n:=by omega
   subst this;unfold qsP;rw [ht];simp only
   split
   ·assumption
   ·simp
theorem qol {x:SS} (hx:x.ok) {s:Nat} (hs:s < 256) {e:Ent} (he:e ∈ qeG x s) (hh:x.hm e.1 = false) {a t:Nat} (ha:a < x.nA) (ht:x.nx e.1 a = some t):∃ e' ∈ qeG x s,e'.1 = t:=by
 obtain ⟨k,hk⟩:=List.mem_iff_getElem?.1 he;have h1:=qxg hx hs hk;have h2:=qnD hx (qhc hx hs k) h1 hh ht x.nA (by omega) ha;have h3:RA x s (k + 1) = qdf x k e (RA x s k) x.nA:=by
  show qgQ x k (RA x s k) = _;unfold qgQ;rw [h1];simp [hh]
 rw [<- h3] at h2;obtain ⟨e',h4,h5⟩:=List.mem_map.1 h2;obtain ⟨j,hj⟩:=List.mem_iff_getElem?.1 h4;have hk':=(GA.len (qdP hx hs))
 have hlt:=(List.getElem?_eq_some_iff.1 hk).1;exact ⟨e',List.mem_of_getElem? (qBf hx hs hj (j:=256) (by omega)),h5⟩
theorem qty {x:SS} (hx:x.ok) {s:Nat} (hs:s < 256) (p:Nat->Prop) (h0:p s) (h:∀ u a t,p u->x.hm u = false->a < x.nA->x.nx u a = some t->p t):∀ e ∈ qeG x s,p e.1:=by
 have hg:=qdP hx hs;have key:∀ n:Nat,∀ k:Nat,k < n->∀ e:Ent,(qeG x s)[k]? = some e->p e.1:=by
  intro n;induction n with
  | zero=>intro k hk; omega
  | succ n ih =>
   intro k hk e he;rcases hg.aft k e he with ⟨rfl,_⟩ | ⟨b,a,eb,hb,h1,h2,_,_,h3,h4,_⟩
   ·rw [hg.zero] at he;obtain rfl:=Option.some.inj he;exact h0
   ·exact h _ a _ (ih b (by omega) eb h1) h4 h2 h3
 intro e he;obtain ⟨k,hk⟩:=List.mem_iff_getElem?.1 he;exact key (k + 1) k (by omega) e hk
end Go.Proofs.YtkcaaaiihhhnmaaGreatDoor
end
section
namespace Go.Proofs.YtkcaaaiihhhnmaaGreatDoor
open Go Go.Ab Go.Tx
theorem qCn (l:List Int) (m:Int):qfS I l m = decide (m ∈ l):=by
 have:=quB (τ:=I) rfl (l:=l) (k:=m);by_cases h:m ∈ l
 ·rw [decide_eq_true h]; exact this.2 h
 ·rw [decide_eq_false h];cases hm:qfS I l m with
  | false=>rfl
  | true=>exact absurd (this.1 hm) h
theorem qCr (l:List Int) (m k:Int):m ∈ qju I l k ↔ m ∈ l\/m = k:=by
 unfold qju;rw [qCn];by_cases h:k ∈ l
 ·rw [decide_eq_true h];exact ⟨λh=>.inl h,λh'=>h'.elim id λe=>e ▸ h⟩
 ·rw [decide_eq_false h];show m ∈ l ++ [k] ↔ _;simp
def nxB (m:Mc) (bar:Nat->Bool) (s a:Nat):Option Nat :=
 if a < m.2.1.length/\bar a = false/\hold (qb2 (qjb m a)) s = true then some (qqA (dos (qjb m a)) s) else none
def qbX (m:Mc) (bar:Nat->Bool):SS:=⟨m.2.1.length,qgI m,nxB m bar⟩
theorem qcP {m:Mc} (hv:VM m) (bar:Nat->Bool):(qbX m bar).ok:=by
 intro s a t hs h;simp only [qbX,nxB] at h;split at h
 ·rename_i hc;cases h;obtain ⟨x,hx⟩:∃ x,m.2.1[a]? = some x:=⟨_,List.getElem?_eq_getElem hc.1⟩
  rw [qdA hx];have h8:=hv.f8;have hd:=hv.ds x (List.mem_of_getElem? hx);have:=qtu (f:=8) (hd.ok h8) (λy hy=>by have:=hd.1 y hy; omega) (by omega) (s:=s) (by omega);omega
 ·cases h
theorem qks {m:Mc} (hv:VM m) (bar:Nat->Bool) {n:Nat} (hn:n < 2 ^ m.1.length):∀ e ∈ qeG (qbX m bar) n,e.1 < 2 ^ m.1.length:=by
 have h256:=qgv hv;refine qty (qcP hv bar) (by omega) (λu=>u < 2 ^ m.1.length) hn λu a t hu _ _ ht=>?_;simp only [qbX,nxB] at ht;split at ht
 ·rename_i hc;cases ht;obtain ⟨x,hx⟩:∃ x,m.2.1[a]? = some x:=⟨_,List.getElem?_eq_getElem hc.1⟩
  rw [qdA hx];have hd:=hv.ds x (List.mem_of_getElem? hx);exact qtu (hd.ok hv.f8) (λy hy=>(hd.1 y hy).2) hv.f8 hu
 ·cases ht
def prg (e:Ent):Int × Int × Int × Unit:=((e.1:Int),e.2.1,e.2.2.1,())
theorem qxT (l:List Ent) (t:Nat):((t:Int) ∈ (l.map λe=>((e.1:Nat):Int))) ↔ t ∈ l.map (·.1):=by
 simp only [List.mem_map];constructor
 ·rintro ⟨e,he,h⟩; exact ⟨e,he,by omega⟩
 ·rintro ⟨e,he,h⟩; exact ⟨e,he,by omega⟩
theorem qxU {m:Mc} (hv:VM m) {b:Nat} (hb:b < 9223372036854775808) {s:Nat} {out:List Ent} (hg:GA (qbX m b.testBit) s out) {i:Nat} {e:Ent} (he:out[i]? = some e) (hh:qgI m e.1 = false) {kn:List Int} (hk:∀ t,t ∈ kn ↔ t ∈ out.map λe=>((e.1:Nat):Int)) :
  Ok (qG (λ(s7:(Int × (List (Int × Int × Int × Unit)) × (List Int))) =>
         bif decide (s7.1 < ((bm m).1.length:Int)) then
          (idx (bm m).1 s7.1).bind λx8 =>
          ((qsQ .i64 (b:Int) s7.1).bind λx9 =>
           bif decide (qqY .i64 x9 (1:Int) = 0) then
            (qS x8 (e.1:Int)).bind λx10 =>
            bif x10 then
             (idx (bm m).2.1 s7.1).bind λx11 =>
             (qan x11 (e.1:Int)).bind λx12 =>
             (bif !(qfS I s7.2.2 x12) then
               (app s7.2.1 ([(x12,(i:Int),s7.1,())])).bind λx13 =>
               some (x13,qju I s7.2.2 x12)
              else
               some (s7.2.1,s7.2.2)).bind λ(p14:((List (Int × Int × Int × Unit)) × (List Int))) =>
             some (false,p14.1,p14.2)
            else
             some (false,s7.2.1,s7.2.2)
           else
            some (false,s7.2.1,s7.2.2)).bind λ(p15:(Bool × (List (Int × Int × Int × Unit)) × (List Int))) =>
          bif p15.1 then
           some (.inr (.inr (p15.2.1,p15.2.2)))
          else
           some (.inl (w64 (s7.1 + 1),p15.2.1,p15.2.2))
         else
          some (.inr (.inl (s7.2.1,s7.2.2)))) (0,out.map prg,kn))
   λ(r:((List (Int × Int × Int × Unit)) × (List Int)) ⊕ ((List (Int × Int × Int × Unit)) × (List Int)))=>∃ kn',r = .inl ((qdf (qbX m b.testBit) i e out m.2.1.length).map prg,kn')/\∀ t,t ∈ kn' ↔ t ∈ (qdf (qbX m b.testBit) i e out m.2.1.length).map λe=>((e.1:Nat):Int):=by
 have h8:=hv.f8; have h10:=hv.a10;have hE:e.1 < 256:=hg.lt e (List.mem_of_getElem? he);have hlen:(bm m).1.length = m.2.1.length:=by simp [bm]
 refine qdk m.2.1.length (λj (st:Int × List (Int × Int × Int × Unit) × List Int)=>st.1 = (j:Int)/\st.2.1 = (qdf (qbX m b.testBit) i e out j).map prg/\∀ t,t ∈ st.2.2 ↔ t ∈ (qdf (qbX m b.testBit) i e out j).map λe=>((e.1:Nat):Int)) _ ⟨rfl,rfl,hk⟩ ?_;rintro j ⟨j0,l,kn'⟩ hj ⟨e1,e2,e3⟩;simp only at e1 e2 e3;subst e1;by_cases hlt:j < m.2.1.length
 ·have h0:decide ((j:Int) < ((bm m).1.length:Int)) = true:=by rw [hlen]; simp <;> omega
  obtain ⟨a,ha⟩:∃ a,m.2.1[j]? = some a:=⟨_,List.getElem?_eq_getElem hlt⟩
  have hm:=List.mem_of_getElem? ha;have i1:(bm m).1[j]? = some (bt (qb2 a)):=by simp [bm,ha]
  have i2:(bm m).2.1[j]? = some (bt (dos a)):=by simp [bm,ha]
  have hsh:=ql8 (a:=b) (x:=(j:Int)) (by omega) (by omega);rw [Int.toNat_natCast] at hsh;simp only [h0,cond_true,qV i1,qa];rw [hsh];simp only [qa];rw [qtS hb];have hgn:qdf (qbX m b.testBit) i e out (j + 1) = qsP (qbX m b.testBit) i e (qdf (qbX m b.testBit) i e out j) j:=qhK _ _ _ _ _;obtain ⟨hg2,_⟩:=qhw (qcP hv _) hg he hh j (by show j<=m.2.1.length; omega);have hl2:=hg2.len;by_cases hbit:b.testBit j = true
  ·have hnx:(qbX m b.testBit).nx e.1 j = none:=by simp [qbX,nxB,hbit]
   have ht:qsP (qbX m b.testBit) i e (qdf (qbX m b.testBit) i e out j) j = qdf (qbX m b.testBit) i e out j:=by unfold qsP; rw [hnx]
   simp only [hbit,if_true];simp only [show decide ((1:Int) = 0) = false from rfl,cond_false,qa];rw [wq (by omega) (by omega),qaz];rw [hgn,ht];exact ⟨hlt,by simp,e2,e3⟩
  ·have hbit':b.testBit j = false:=by simpa using hbit
   simp only [hbit',qf,if_false,decide_true,cond_true];rw [qhu ((hv.nd a hm).ok h8) hE];simp only [qa];by_cases c:hold (qb2 a) e.1 = true
   ·have hnx:(qbX m b.testBit).nx e.1 j = some (qqA (dos a) e.1):=by
     simp only [qbX,nxB];rw [qdA ha,if_pos ⟨hlt,hbit',c⟩]
    simp only [c,cond_true,qV i2,qa];rw [qtT ((hv.ds a hm).ok h8) hE];simp only [qa,qCn];by_cases hin:((qqA (dos a) e.1:Nat):Int) ∈ kn'
    ·have ht:qsP (qbX m b.testBit) i e (qdf (qbX m b.testBit) i e out j) j = qdf (qbX m b.testBit) i e out j:=by
      unfold qsP; rw [hnx];simp only
      rw [if_pos ((qxT _ _).1 ((e3 _).1 hin))]
     rw [decide_eq_true hin];simp only [Bool.not_true,cond_false,qa];rw [wq (by omega) (by omega),qaz];rw [hgn,ht];exact ⟨hlt,by simp,e2,e3⟩
    ·have ht:qsP (qbX m b.testBit) i e (qdf (qbX m b.testBit) i e out j) j = qdf (qbX m b.testBit) i e out j ++ [(qqA (dos a) e.1,(i:Int),(j:Int),e.2.2.2 ++ [(j:Int)])]:=by
      unfold qsP; rw [hnx];simp only
      rw [if_neg (λh=>hin ((e3 _).2 ((qxT _ _).2 h)))]
     rw [decide_eq_false hin];simp only [Bool.not_false,cond_true];rw [qeH (by rw [e2]; simp; omega)];simp only [qa,cond_false];rw [wq (by omega) (by omega),qaz];rw [hgn,ht];refine ⟨hlt,by simp,?_,λt=>?_⟩
     ·rw [e2,List.map_append]; rfl
     ·simp only
      rw [qCr,e3,List.map_append,List.mem_append];simp
   ·have c':hold (qb2 a) e.1 = false:=by simpa using c
    have hnx:(qbX m b.testBit).nx e.1 j = none:=by
     simp only [qbX,nxB];rw [qdA ha,if_neg (λh=>c h.2.2)]
    have ht:qsP (qbX m b.testBit) i e (qdf (qbX m b.testBit) i e out j) j = qdf (qbX m b.testBit) i e out j:=by unfold qsP; rw [hnx]
    simp only [c',cond_false,qa];rw [wq (by omega) (by omega),qaz];rw [hgn,ht];exact ⟨hlt,by simp,e2,e3⟩
 ·have:j = m.2.1.length:=by omega
  subst this;have h0:decide ((m.2.1.length:Int) < ((bm m).1.length:Int)) = false:=by rw [hlen]; simp
  simp only [h0,cond_false];rw [qa1];exact ⟨kn',by rw [e2],e3⟩
theorem qiC {m:Mc} (hv:VM m) {n b:Nat} (hn:n < 256) (hb:b < 9223372036854775808):qac (bm m) (n:Int) (b:Int) = some ((qeG (qbX m b.testBit) n).map prg):=by
 have hok:=qcP hv b.testBit;unfold qac;have key:∀ o:Option (List (Int × Int × Int × Unit)),Ok o (λr=>r = (qeG (qbX m b.testBit) n).map prg)->(o.bind λp19=>some p19) = some ((qeG (qbX m b.testBit) n).map prg):=by
  intro o h; rw [h.eq]; rfl
 refine key _ (qn4 (λst=>257 - st.2.1.toNat) (λ(st:List (Int × Int × Int × Unit) × Int × List Int)=>∃ i:Nat,st.2.1 = (i:Int)/\i<=256/\st.1 = (RA (qbX m b.testBit) n i).map prg/\∀ t,t ∈ st.2.2 ↔ t ∈ (RA (qbX m b.testBit) n i).map λe=>((e.1:Nat):Int)) _ ⟨0,rfl,by omega,rfl,λt=>?_⟩ ?_)
 ·simp only
  rw [qCr];simp [RA]
 ·rintro ⟨l,i0,kn⟩ ⟨i,e1,e0,e2,e3⟩;simp only at e1 e2 e3;subst e1;have hg:=qhc hok hn i;have hl:=hg.len;have hll:l.length = (RA (qbX m b.testBit) n i).length:=by rw [e2]; simp
  by_cases hlt:i < (RA (qbX m b.testBit) n i).length
  ·obtain ⟨e,he⟩:∃ e,(RA (qbX m b.testBit) n i)[i]? = some e:=⟨_,List.getElem?_eq_getElem hlt⟩
   have hE:e.1 < 256:=hg.lt e (List.mem_of_getElem? he);have h0:decide ((i:Int) < (l.length:Int)) = true:=by simp <;> omega
   have hi:l[i]? = some (prg e):=by rw [e2]; simp [he]
   have hst:RA (qbX m b.testBit) n (i + 1) = if qgI m e.1 = true then RA (qbX m b.testBit) n i else qdf (qbX m b.testBit) i e (RA (qbX m b.testBit) n i) m.2.1.length:=by
    show qgQ _ _ _ = _;unfold qgQ;rw [he]; rfl
   simp only [h0,cond_true,qV hi,qa];rw [show (prg e).1 = (e.1:Int) from rfl,qje hv hE];simp only [qa];by_cases hh:qgI m e.1 = true
   ·simp only [hh,cond_true,qa];rw [wq (by omega) (by omega),qaz];rw [if_pos hh] at hst;exact ⟨⟨i + 1,by simp,by omega,by rw [hst]; exact e2,by rw [hst]; exact e3⟩,by simp only; omega⟩
   ·have hh':qgI m e.1 = false:=by simpa using hh
    rw [if_neg hh] at hst;simp only [hh',cond_false];obtain ⟨r,hr,kn',rfl,h3⟩:=qxU hv hb hg he hh' e3;rw [<- e2] at hr;rw [hr];simp only [qa,Sum.elim_inl];rw [wq (by omega) (by omega),qaz];exact ⟨⟨i + 1,by simp,by omega,by rw [hst],by rw [hst]; exact h3⟩,by simp only; omega⟩
  ·have h0:decide ((i:Int) < (l.length:Int)) = false:=by simp <;> omega
   simp only [h0,cond_false];rw [qa1,e2,qxv hok hn (i:=i) (by omega)]
theorem GA.path {x:SS} {s:Nat} {out:List Ent} (h:GA x s out):∀ (n k:Nat) (e:Ent),k < n->out[k]? = some e->e.2.2.2.length<=k
 | 0,_,_,h0,_=>by omega
 | n + 1,k,e,h0,he=>by
  rcases h.aft k e he with ⟨rfl,_,_,h1⟩ | ⟨b,a,eb,hb,h1,_,_,_,_,_,h2⟩
  ·rw [h1]; simp
  ·have:=GA.path h n b eb (by omega) h1;rw [h2,List.length_append,List.length_singleton]; omega
end Go.Proofs.YtkcaaaiihhhnmaaGreatDoor
end
section
namespace Go.Proofs.YtkcaaaiihhhnmaaGreatDoor
open Go Go.Ab Go.Tx
def hIx (m:Mc) (l:List Ent):Option (Nat × Ent):=qa3 (λi e=>if qgI m e.1 = true then some (i,e) else none) 0 l
theorem qha {α ρ π:Type} (g:Nat->α->Option ρ) (f:ρ->π):∀ (l:List α) (k:Nat),qa3 (λi a=>(g i a).map f) k l = (qa3 g k l).map f
 | [],_=>rfl
 | a :: l,k=>by
  unfold qa3;cases g k a with
  | some r=>rfl
  | none=>exact qha g f l (k + 1)
theorem qpM {α ρ:Type} {g:Nat->α->Option ρ}:∀ (l:List α) (k:Nat) {r:ρ},qa3 g k l = some r->∃ i a,l[i]? = some a/\g (k + i) a = some r
 | [],_,_,h=>by cases h
 | a :: l,k,r,h=>by
  unfold qa3 at h;cases hg:g k a with
  | some r'=>rw [hg] at h; cases h; exact ⟨0,a,rfl,hg⟩
  | none =>
   rw [hg] at h;obtain ⟨i,a',h1,h2⟩:=qpM l (k + 1) h;exact ⟨i + 1,a',h1,by rw [show k + (i + 1) = k + 1 + i by omega]; exact h2⟩
theorem quv {m:Mc} {l:List Ent} {i:Nat} {e:Ent} (h:hIx m l = some (i,e)):l[i]? = some e/\qgI m e.1 = true:=by
 obtain ⟨j,a,h1,h2⟩:=qpM l 0 h;simp only [Nat.zero_add] at h2;split at h2
 ·rename_i hh;cases h2;exact ⟨h1,hh⟩
 ·cases h2
theorem qyy {x:SS} {s:Nat} {out:List Ent} (hg:GA x s out) {k0:Nat} {e0:Ent} (he0:out[k0]? = some e0) :
  qG (λ(s11:((List Int) × Int × Int × Int)) =>
     bif decide (s11.2.2.1>=0) then
      (app s11.1 ([s11.2.2.2])).bind λx12 =>
      (idx (out.map prg) s11.2.2.1).bind λx13 =>
      some (.inl (x12,x13.1,x13.2.1,x13.2.2.1))
     else
      some (.inr s11.1)) ([],(prg e0).1,(prg e0).2.1,(prg e0).2.2.1) = some e0.2.2.2.reverse:=by
 have hl:=hg.len;refine Ok.eq (qn4 (λst=>(st.2.2.1 + 1).toNat) (λ(st:List Int × Int × Int × Int)=>∃ (k:Nat) (e:Ent),out[k]? = some e/\st.2 = ((e.1:Int),e.2.1,e.2.2.1)/\e0.2.2.2 = e.2.2.2 ++ st.1.reverse/\st.1.length<=e0.2.2.2.length) _ ⟨k0,e0,he0,rfl,by simp,by simp⟩ ?_);rintro ⟨acc,q⟩ ⟨k,e,he,e1,e2,e3⟩;simp only at e1 e2 e3;subst e1;have hp0:=hg.path (k0 + 1) k0 e0 (by omega) he0;have hk0:=(List.getElem?_eq_some_iff.1 he0).1;rcases hg.aft k e he with ⟨rfl,h1,h2,h3⟩ | ⟨b,a,eb,hb,h1,h2,h3,h4,h5,h6,h7⟩
 ·simp only
  rw [h1];simp only [show decide ((-1:Int)>=0) = false from rfl,cond_false];rw [qa1,e2,h3];simp
 ·simp only
  rw [h3,h4];have h0:decide ((b:Int)>=0) = true:=by simp
  have hi:(out.map prg)[b]? = some (prg eb):=by rw [List.getElem?_map,h1]; rfl
  simp only [h0,cond_true];rw [qeH (by omega)];simp only [qa,qV hi];rw [qaz];refine ⟨⟨b,eb,h1,rfl,?_,?_⟩,?_⟩
  ·simp only
   rw [e2,h7]; simp
  ·have:e0.2.2.2.length = (e.2.2.2 ++ acc.reverse).length:=by rw [<- e2]
   rw [h7] at this;simp only [List.length_append,List.length_singleton,List.length_reverse] at this ⊢;omega
  ·rcases hg.aft b eb h1 with ⟨_,h8,_⟩ | ⟨b',_,_,h8,_,_,h9,_⟩
   ·show (eb.2.1 + 1).toNat < ((b:Int) + 1).toNat;rw [h8]; omega
   ·show (eb.2.1 + 1).toNat < ((b:Int) + 1).toNat;rw [h9]; omega
def qi5 (m:Mc) (n:Nat):List Int × Int:=match hIx m (qeG (qbX m λ_=>false) n) with
 | some p=>(p.2.2.2.2,0)
 | none=>([],12)
theorem qmt:Nat.testBit 0 = λ_=>false:=by funext k; simp
theorem qsI {m:Mc} (hv:VM m) {out:List Ent} (hl:out.length<=256) (hs:∀ e ∈ out,e.1 < 256) :
  qG (ρ:=Unit ⊕ Int) (λ(s4:Int) =>
     bif decide (s4 < ((out.map prg).length:Int)) then
      (idx (out.map prg) s4).bind λx5 =>
      (qw (bm m) x5.1).bind λx6 =>
      bif x6 then
       some (.inr (.inr s4))
      else
       some (.inl (w64 (s4 + 1)))
     else
      some (.inr (.inl ()))) 0 = some (qxF ((hIx m out).map λp=>(p.1:Int))):=by
 have h:=qaO out (λs4=>(idx (out.map prg) s4).bind λx5 =>
      (qw (bm m) x5.1).bind λx6 =>
      bif x6 then
       some (.inr (.inr s4))
      else
       some (.inl (w64 (s4 + 1)))) (λi e=>(if qgI m e.1 = true then some (i,e) else none).map λ(p:Nat × Ent)=>(p.1:Int)) (λi e he=>by
  have hi:(out.map prg)[i]? = some (prg e):=by rw [List.getElem?_map,he]; rfl
  have:=(List.getElem?_eq_some_iff.1 he).1;rw [qV hi];simp only [qa];rw [show (prg e).1 = (e.1:Int) from rfl,qje hv (hs e (List.mem_of_getElem? he))];simp only [qa];by_cases c:qgI m e.1 = true
  ·simp [c,stp]
  ·have c':qgI m e.1 = false:=by simpa using c
   simp only [c',cond_false];rw [wq (by omega) (by omega)];simp [stp])
 rw [List.length_map];refine h.trans ?_;rw [qha];rfl
theorem qnG {m:Mc} (hb:MB m) (s:Int):qaN m s = some (if stE m s = 0 then qi5 m s.toNat else ([],stE m s)):=by
 unfold qaN;rw [qdE hb];simp only [qa];by_cases h:stE m s = 0
 ·obtain ⟨hv,_,ho,n,rfl,hn,hn2⟩:=qgT hb h;simp only [h,decide_true,Bool.not_true,cond_false,if_true,ho,Int.toNat_natCast];have hms:=qiC hv (n:=n) (b:=0) hn2 (by omega);rw [qmt] at hms;rw [show ((0:Nat):Int) = 0 from rfl] at hms;rw [hms];simp only [qa];have hg:=qdP (qcP hv λ_=>false) hn2;have hl:=hg.len;rw [qsI hv hl hg.lt,q5];unfold qi5;cases hx:hIx m (qeG (qbX m λ_=>false) n) with
  | none=>rfl
  | some p =>
   obtain ⟨i,e⟩:=p;obtain ⟨h1,h2⟩:=quv hx;have hi:((qeG (qbX m λ_=>false) n).map prg)[i]? = some (prg e):=by rw [List.getElem?_map,h1]; rfl
   have h0:decide ((i:Int) < 0) = false:=by simp
   simp only [Option.map_some,qa,h0,cond_false,qV hi];rw [qyy hg h1];have hp:=hg.path (i + 1) i e (by omega) h1;have:=(List.getElem?_eq_some_iff.1 h1).1;simp only [qa];unfold qBd;rw [if_pos (by rw [List.length_reverse]; omega),List.reverse_reverse];rfl
 ·simp [h]
theorem qp5 (x y:Int):∀ l:List Int,y ∈ Go.Ab.qsS x l ↔ y = x\/y ∈ l
 | []=>by simp [Go.Ab.qsS]
 | z :: l=>by
  unfold Go.Ab.qsS;split
  ·simp
  ·simp only [List.mem_cons,qp5 x y l];constructor
   ·rintro (h | h | h) <;> simp [h]
   ·rintro (h | h | h) <;> simp [h]
theorem qnu (y:Int):∀ l:List Int,y ∈ qfx l ↔ y ∈ l
 | []=>by simp [qfx]
 | x :: l=>by
  show y ∈ Go.Ab.qsS x (qfx l) ↔ _;rw [qp5,qnu y l,List.mem_cons]
theorem qul (x:Int):∀ l:List Int,l.Pairwise (· < ·)->x ∉ l->(Go.Ab.qsS x l).Pairwise (· < ·)
 | [],_,_=>by simp [Go.Ab.qsS]
 | z :: l,h,hx=>by
  unfold Go.Ab.qsS;rw [List.pairwise_cons] at h;rw [List.mem_cons,not_or] at hx;split
  ·rename_i hz;refine List.pairwise_cons.2 ⟨λy hy=>?_,List.pairwise_cons.2 h⟩;rcases List.mem_cons.1 hy with rfl | hy
   ·omega
   ·have:=h.1 y hy; omega
  ·rename_i hz;refine List.pairwise_cons.2 ⟨λy hy=>?_,qul x l h.2 hx.2⟩;rcases (qp5 x y l).1 hy with rfl | hy
   ·omega
   ·exact h.1 y hy
theorem qrJ:∀ l:List Int,l.Nodup->(qfx l).Pairwise (· < ·)
 | [],_=>by simp [qfx]
 | x :: l,h=>by
  rw [List.nodup_cons] at h;show (Go.Ab.qsS x (qfx l)).Pairwise _;exact qul x _ (qrJ l h.2) (λhm=>h.1 ((qnu x l).1 hm))
theorem qu8:∀ {l m:List Int},l.Pairwise (· < ·)->m.Pairwise (· < ·)->(∀ x,x ∈ l ↔ x ∈ m)->l = m
 | [],[],_,_,_=>rfl
 | [],b :: m,_,_,h=>by have:=(h b).2 List.mem_cons_self; cases this
 | a :: l,[],_,_,h=>by have:=(h a).1 List.mem_cons_self; cases this
 | a :: l,b :: m,h1,h2,h=>by
  rw [List.pairwise_cons] at h1 h2;have e:a = b:=by
   rcases List.mem_cons.1 ((h a).1 List.mem_cons_self) with e | e
   ·exact e
   ·rcases List.mem_cons.1 ((h b).2 List.mem_cons_self) with e' | e'
    ·exact e'.symm
    ·have:=h1.1 b e'; have:=h2.1 a e; omega
  subst e;rw [qu8 h1.2 h2.2 λx=>?_];constructor
  ·intro hx;rcases List.mem_cons.1 ((h x).1 (List.mem_cons_of_mem _ hx)) with e | e
   ·have:=h1.1 x hx; omega
   ·exact e
  ·intro hx;rcases List.mem_cons.1 ((h x).2 (List.mem_cons_of_mem _ hx)) with e | e
   ·have:=h2.1 x hx; omega
   ·exact e
def qgZ (l:List Ent) (N:Nat):List Int:=List.map (λi:Nat=>(i:Int)) ((List.range N).filter λi=>decide (i ∈ l.map (·.1)))
theorem qtE (l:List Ent) (N:Nat):(qgZ l N).length<=N:=by
 unfold qgZ;rw [List.length_map];exact Nat.le_trans (List.length_filter_le ..) (by simp)
theorem qom (l:List Ent) (N:Nat):(qgZ l N).Pairwise (· < ·):=by
 unfold qgZ;rw [List.pairwise_map];exact List.Pairwise.imp (λh=>by omega) (List.Pairwise.filter _ List.pairwise_lt_range)
theorem qqq {x:SS} {s:Nat} {out:List Ent} (hg:GA x s out) {N:Nat} (hN:∀ e ∈ out,e.1 < N):qfx (out.map λe=>((e.1:Nat):Int)) = qgZ out N:=by
 refine qu8 (qrJ _ ?_) (qom _ _) λy=>?_
 ·have:=hg.nd;rw [List.Nodup,List.pairwise_map] at this ⊢;exact this.imp λh e=>h (by omega)
 ·rw [qnu];unfold qgZ;simp only [List.mem_map,List.mem_filter,List.mem_range,decide_eq_true_eq];constructor
  ·rintro ⟨e,he,rfl⟩;exact ⟨e.1,⟨hN e he,e,he,rfl⟩,rfl⟩
  ·rintro ⟨a,⟨_,e,he,rfl⟩,rfl⟩;exact ⟨e,he,rfl⟩
def qea (m:Mc) (n:Nat):List Int:=qgZ (qeG (qbX m λ_=>false) n) (2 ^ m.1.length)
theorem qoL {m:Mc} (hb:MB m) (s:Int):qbH m s = some (if stE m s = 0 then (qea m s.toNat,0) else ([],stE m s)):=by
 unfold qbH;rw [qdE hb];simp only [qa];by_cases h:stE m s = 0
 ·obtain ⟨hv,_,ho,n,rfl,hn,hn2⟩:=qgT hb h;simp only [h,decide_true,Bool.not_true,cond_false,if_true,ho,Int.toNat_natCast];have hms:=qiC hv (n:=n) (b:=0) hn2 (by omega);rw [qmt] at hms;rw [show ((0:Nat):Int) = 0 from rfl] at hms;rw [hms];simp only [qa];have hg:=qdP (qcP hv λ_=>false) hn2;have hl:=hg.len;rw [qA0 ((qeG (qbX m λ_=>false) n).map prg) (λx6=>x6.1)]
  ·simp only [qa];rw [List.map_map];unfold qwS;rw [if_pos (by simp; omega)];simp only [qa];have:=qqq hg (qks hv (λ_=>false) hn);unfold qea;rw [<- this];rfl
  ·intro i a out ha ho';have hlt:=(List.getElem?_eq_some_iff.1 ha).1;rw [List.length_map] at hlt;have h0:decide ((i:Int) < (((qeG (qbX m λ_=>false) n).map prg).length:Int)) = true:=by rw [List.length_map]; simp <;> omega
   simp only [h0,cond_true,qV ha,qa];rw [qeH (by omega)];simp only [qa];rw [wq (by omega) (by omega)]
  ·intro out ho';have h0:decide ((((qeG (qbX m λ_=>false) n).map prg).length:Int) < (((qeG (qbX m λ_=>false) n).map prg).length:Int)) = false:=by simp
   simp only [h0,cond_false]
 ·simp [h]
end Go.Proofs.YtkcaaaiihhhnmaaGreatDoor
end
section
namespace Go.Proofs.YtkcaaaiihhhnmaaGreatDoor
open Go Go.Ab Go.Tx
def qdb (k b:Nat):List Int:=List.map (λi:Nat=>(i:Int)) ((List.range k).filter λi=>b.testBit i)
theorem qwR:∀ s:Fin 64,s.val ≠ 0->qdb 6 s.val = ((Lib.ctz 64 s.val:Nat):Int) :: qdb 6 (s.val &&& (s.val - 1))/\s.val &&& (s.val - 1) < s.val:=by decide +kernel
theorem qmc (k b:Nat):(qdb k b).length<=k:=by
 unfold qdb;rw [List.length_map];exact Nat.le_trans (List.length_filter_le ..) (by simp)
theorem qzG {b:Nat} (hb:b < 64) (a:Nat):b.testBit a = decide ((a:Int) ∈ qdb 6 b):=by
 rw [Bool.eq_iff_iff,decide_eq_true_iff];unfold qdb;simp only [List.mem_map,List.mem_filter,List.mem_range];constructor
 ·intro h;refine ⟨a,⟨?_,h⟩,rfl⟩;rcases Nat.lt_or_ge a 6 with h6 | h6
  ·exact h6
  ·have:=Nat.testBit_lt_two_pow (x:=b) (i:=a) (Nat.lt_of_lt_of_le hb (Nat.pow_le_pow_right (n:=2) (by omega) h6));rw [this] at h; cases h
 ·rintro ⟨i,⟨_,h⟩,e⟩;have:i = a:=by omega
  rw [<- this]; exact h
theorem qzS {n:Nat} (h:n < 64):qR (n:Int) = some ((Lib.ctz 64 n:Nat):Int):=by
 unfold qR;rw [if_pos ⟨Int.natCast_nonneg _,Int.lt_trans (show (n:Int) < 64 by omega) (by decide)⟩,Int.toNat_natCast]
theorem qyk {a b:Nat} (ha:a < 64) (hb:b < 64):qqY .i64 (a:Int) (b:Int) = ((a &&& b:Nat):Int):=qjB (Nat.lt_trans ha (by decide)) (Nat.lt_trans hb (by decide))
theorem qxy {b:Nat} (hb:b < 64) (T:Int->Option Int) (hT:∀ n:Nat,n < 64->T (n:Int) = some ((Lib.ctz 64 n:Nat):Int)) :
  Ok (qG (λ(s3:(Int × (List Int))) =>
   bif !(decide (s3.1 = 0)) then
    (T (IntKind.wrap .u64 (s3.1))).bind λx4 =>
    (app s3.2 ([x4])).bind λx5 =>
    some (.inl (qqY .i64 s3.1 (w64 (s3.1 - 1)),x5))
   else
    some (.inr s3.2)) ((b:Int),[])) (λr=>r = qdb 6 b):=by
 refine qn4 (λst=>st.1.toNat) (λ(st:Int × List Int)=>∃ s:Nat,s < 64/\st.1 = (s:Int)/\st.2 ++ qdb 6 s = qdb 6 b) _ ⟨b,hb,rfl,rfl⟩ ?_;rintro ⟨s0,acc⟩ ⟨s,hs,e1,e2⟩;simp only at e1 e2;subst e1;by_cases h:s = 0
 ·subst h;have h0:(!(decide (((0:Nat):Int) = 0))) = false:=rfl;simp only [h0,cond_false];rw [qa1];have:qdb 6 0 = []:=by decide
  rw [this,List.append_nil] at e2;exact e2
 ·have h0:(!(decide ((s:Int) = 0))) = true:=by simp <;> omega
  obtain ⟨b1,b2⟩:=qwR ⟨s,hs⟩ h;simp only at b1 b2;have hl:acc.length<=6:=by
   have h1:=qmc 6 b;rw [<- e2,List.length_append] at h1; omega
  simp only [h0,cond_true];rw [wrap_u64 (by omega) (by omega)];rw [hT s hs];simp only [qa];rw [qeH (by omega)];simp only [qa];rw [wq (by omega) (by omega),show (s:Int) - 1 = ((s - 1:Nat):Int) by omega,qyk (by omega) (by omega),qaz];refine ⟨⟨s &&& (s - 1),by omega,rfl,?_⟩,?_⟩
  ·simp only
   rw [<- e2,b1]; simp
  ·simp only [Int.toNat_natCast]; exact b2
theorem qBe {b:Nat} (hb:b < 64):qb8 (b:Int) = some (qdb 6 b):=by
 unfold qb8;rw [(qxy hb qR λn hn=>qzS hn).eq];rfl
def qBQ (l m:List Int):Bool:=match qa3 (λi (x:Int)=>if x = m.getD i 0 then none else some (decide (x < m.getD i 0))) 0 l with
 | some b=>b
 | none=>false
theorem qBp (a b:Int):qbS a b = some (if a < b then -1 else if a > b then 1 else 0):=by
 unfold qbS cmp_isNaN_int;by_cases h1:a < b
 ·simp [h1]
 ·by_cases h2:a > b
  ·have h2':b < a:=h2;simp [h1,h2']
  ·have h2':¬ b < a:=h2;simp [h1,h2']
theorem qwi {l m:List Int} (h:l.length = m.length) (hl:l.length<=1000):∃ c,qah l m = some c/\decide (c>=0) = !qBQ l m:=by
 unfold qah;have hf:=qaO l (λs2=>(idx l s2).bind λx3 =>
    bif decide (s2>=(m.length:Int)) then
     some (.inr (.inr 1))
    else
     (idx m s2).bind λx4 =>
     (qbS x3 x4).bind λx5 =>
     bif !(decide (x5 = 0)) then
      some (.inr (.inr x5))
     else
      some (.inl (w64 (s2 + 1)))) (λi (x:Int)=>(if x = m.getD i 0 then none else some (decide (x < m.getD i 0))).map λb=>if b = true then (-1:Int) else 1) (λi a ha=>by
  have hlt:=(List.getElem?_eq_some_iff.1 ha).1;obtain ⟨b,hb⟩:∃ b,m[i]? = some b:=⟨_,List.getElem?_eq_getElem (by omega)⟩
  have h0:decide ((i:Int)>=(m.length:Int)) = false:=by simp <;> omega
  simp only [qV ha,qV hb,qa,qaS hb,h0,cond_false,qBp];by_cases c:a = b
  ·subst c;simp only [Int.lt_irrefl,gt_iff_lt,if_false,decide_true,Bool.not_true,cond_false,if_true,Option.map_none,stp];rw [wq (by omega) (by omega)]
  ·by_cases d:a < b
   ·simp [c,d,stp]
   ·have d':a > b:=by omega
    have d2:b < a:=d';simp [c,d,d2,stp])
 rw [hf,q5,qha];unfold qBQ;cases hx:qa3 (λi (x:Int)=>if x = m.getD i 0 then none else some (decide (x < m.getD i 0))) 0 l with
 | none=>exact ⟨0,by simp [h],rfl⟩
 | some b=>cases b with
  | true=>exact ⟨-1,rfl,rfl⟩
  | false=>exact ⟨1,rfl,rfl⟩
def qCq (m:Mc) (n:Nat) (st:List Int × Bool) (b:Nat):List Int × Bool :=
 if st.2 = true/\((qdb 6 b).length > st.1.length\/(qdb 6 b).length = st.1.length/\qBQ (qdb 6 b) st.1 = false) then st
 else if hIx m (qeG (qbX m b.testBit) n) = none then (qdb 6 b,true) else st
def qos (m:Mc) (n:Nat) (N:Nat):List Int × Bool:=(List.range N).foldl (qCq m n) ([],false)
theorem qop (m:Mc) (n N:Nat):qos m n (N + 1) = qCq m n (qos m n N) N:=by
 unfold qos;rw [List.range_succ,List.foldl_append]; rfl
theorem qp9 (m:Mc) (n:Nat):∀ N,(qos m n N).1.length<=6
 | 0=>by simp [qos]
 | N + 1=>by
  rw [qop];unfold qCq;split
  ·exact qp9 m n N
  ·split
   ·exact qmc 6 N
   ·exact qp9 m n N
theorem qyz {l best:List Int} {f:Bool} (h1:l.length<=6) (h2:best.length<=6) :
  (bif f then
        bif decide ((l.length:Int) > (best.length:Int)) then
         some true
        else
         bif decide ((l.length:Int) = (best.length:Int)) then
          (qah l best).bind λx9 =>
          some (decide (x9>=0))
         else
          some false
       else
        some false) = some (decide (f = true/\(l.length > best.length\/l.length = best.length/\qBQ l best = false))):=by
 cases f with
 | false=>simp
 | true =>
  simp only [cond_true];by_cases c:l.length > best.length
  ·have:decide ((l.length:Int) > (best.length:Int)) = true:=by simp <;> omega
   simp only [this,cond_true];simp [c]
  ·have:decide ((l.length:Int) > (best.length:Int)) = false:=by simp <;> omega
   simp only [this,cond_false];by_cases d:l.length = best.length
   ·have:decide ((l.length:Int) = (best.length:Int)) = true:=by simp <;> omega
    obtain ⟨q,hq,hq2⟩:=qwi d (by omega);simp only [this,cond_true,hq,qa,hq2];congr 1
    cases qBQ l best <;> simp [c,d]
   ·have:decide ((l.length:Int) = (best.length:Int)) = false:=by simp <;> omega
    simp only [this,cond_false];simp [c,d]
end Go.Proofs.YtkcaaaiihhhnmaaGreatDoor
end
section
namespace Go.Proofs.YtkcaaaiihhhnmaaGreatDoor
open Go Go.Ab Go.Tx
theorem qsc {m:Mc} (hb:MB m) (s:Int) (h6:stE m s = 0->m.2.1.length<=6):qbz m s = some (if stE m s = 0 then (if qgI m s.toNat = true then ([],20) else ((qos m s.toNat (2 ^ m.2.1.length)).1,0)) else ([],stE m s)):=by
 unfold qbz;rw [qdE hb];simp only [qa];by_cases h:stE m s = 0
 ·have h7:=h6 h;clear h6;obtain ⟨hv,_,ho,n,rfl,hn,hn2⟩:=qgT hb h;simp only [h,decide_true,cond_true,ho,Int.toNat_natCast];rw [qje hv hn2];simp only [qa];by_cases hh:qgI m n = true
  ·simp only [hh,cond_true,qa,if_true];rfl
  ·have hh':qgI m n = false:=by simpa using hh
   simp only [hh',cond_false,qa,if_true,qf,if_false,decide_true,Bool.not_true];have hp:2 ^ m.2.1.length<=64:=Nat.pow_le_pow_right (n:=2) (by omega) h7;rw [qmn (by omega) (by omega)];simp only [qa,Int.toNat_natCast];have key:∀ o:Option (List Int),Ok o (λr=>r = (qos m n (2 ^ m.2.1.length)).1)->(o.bind λp=>some (p,(0:Int))) = some ((qos m n (2 ^ m.2.1.length)).1,0):=by
    intro o h; rw [h.eq]; rfl
   refine key _ (qdk (2 ^ m.2.1.length) (λi (st:List Int × Bool × Int)=>st = ((qos m n i).1,(qos m n i).2,(i:Int))) _ rfl ?_);rintro i st hi rfl;have hbl:=qp9 m n i;by_cases hlt:i < 2 ^ m.2.1.length
   ·have h0:decide ((i:Int) < ((2 ^ m.2.1.length:Nat):Int)) = true:=by simp only [decide_eq_true_eq] <;> omega
    simp only [h0,cond_true];rw [qBe (by omega)];simp only [qa];rw [qyz (qmc 6 i) hbl];have hnx:=qop m n i;unfold qCq at hnx;simp only [qa];by_cases c:(qos m n i).2 = true/\((qdb 6 i).length > (qos m n i).1.length\/(qdb 6 i).length = (qos m n i).1.length/\qBQ (qdb 6 i) (qos m n i).1 = false)
    ·rw [if_pos c] at hnx;rw [decide_eq_true c];simp only [cond_true,qa];rw [wq (by omega) (by omega),qaz,hnx];exact ⟨hlt,rfl⟩
    ·rw [if_neg c] at hnx;rw [decide_eq_false c];simp only [cond_false];rw [qiC hv hn2 (Nat.lt_of_lt_of_le hlt (Nat.le_trans hp (by decide)))];simp only [qa];have hg:=qdP (qcP hv i.testBit) hn2;rw [qsI hv hg.len hg.lt,q5];cases hx:hIx m (qeG (qbX m i.testBit) n) with
     | none =>
      rw [if_pos hx] at hnx;simp only [Option.map_none,qa];simp only [show (!decide ((-1:Int)>=0)) = true from rfl,cond_true,qa];rw [wq (by omega) (by omega),qaz,hnx];exact ⟨hlt,rfl⟩
     | some p =>
      rw [if_neg (by rw [hx]; simp)] at hnx;have h1:(!decide ((p.1:Int)>=0)) = false:=by simp
      simp only [Option.map_some,qa];simp only [h1,cond_false,qa];rw [wq (by omega) (by omega),qaz,hnx];exact ⟨hlt,rfl⟩
   ·have:i = 2 ^ m.2.1.length:=by omega
    subst this;have h0:decide (((2 ^ m.2.1.length:Nat):Int) < ((2 ^ m.2.1.length:Nat):Int)) = false:=by simp
    simp only [h0,cond_false];rw [qa1]
 ·have h':decide (stE m s = 0) = false:=by simp [h]
  rw [if_neg h];simp only [h',cond_false,qa,Bool.not_false,cond_true]
end Go.Proofs.YtkcaaaiihhhnmaaGreatDoor
end
section
namespace Go.Proofs.YtkcaaaiihhhnmaaGreatDoor
open Go Go.Ab Go.Tx
def step (x:SS) (s:Nat) (a:Int):Option Nat:=if 0<=a/\a.toNat < x.nA then x.nx s a.toNat else none
def walk (x:SS):Nat->List Int->Option Nat
 | s,[]=>some s
 | s,a :: l=>(step x s a).bind λt=>walk x t l
theorem qmy (x:SS) (m:List Int):∀ (l:List Int) (s:Nat),walk x s (l ++ m) = (walk x s l).bind λt=>walk x t m
 | [],s=>rfl
 | a :: l,s=>by
  show (step x s a).bind (λt=>walk x t (l ++ m)) = ((step x s a).bind λt=>walk x t l).bind λt=>walk x t m;cases step x s a with
  | none=>rfl
  | some t=>exact qmy x m l t
theorem qnm {x:SS} {s:Nat} {out:List Ent} (hg:GA x s out):∀ (n k:Nat) (e:Ent),k < n->out[k]? = some e->walk x s e.2.2.2 = some e.1
 | 0,_,_,h,_=>by omega
 | n + 1,k,e,hk,he=>by
  rcases hg.aft k e he with ⟨rfl,_,_,h3⟩ | ⟨b,a,eb,hb,h1,h2,h3,h4,h5,h6,h7⟩
  ·rw [hg.zero] at he;cases he;rfl
  ·rw [h7,qmy,qnm hg n b eb (by omega) h1];simp only [qa];unfold walk step;rw [if_pos ⟨by omega,by simpa using h2⟩,Int.toNat_natCast,h5];rfl
theorem qtX {x:SS} {s:Nat} {out:List Ent} (hg:GA x s out) {k:Nat} {e:Ent} (he:out[k]? = some e) (hp:e.2.2.2 ≠ []):∃ u,walk x s e.2.2.2.dropLast = some u/\x.hm u = false:=by
 rcases hg.aft k e he with ⟨rfl,_,_,h3⟩ | ⟨b,a,eb,hb,h1,h2,h3,h4,h5,h6,h7⟩
 ·exact absurd h3 hp
 ·exact ⟨eb.1,by rw [h7,List.dropLast_concat]; exact qnm hg (b + 1) b eb (by omega) h1,h6⟩
def qpF (e:Ent):Nat:=e.2.2.2.length
structure BF (i:Nat) (out:List Ent):Prop where
 mono:∀ (j k:Nat) a b,j<=k->out[j]? = some a->out[k]? = some b->qpF a<=qpF b
 near:∀ a b,out[i]? = some a->b ∈ out->qpF b<=qpF a + 1
theorem qmX (x:SS) (i:Nat) (e:Ent) (out:List Ent):∀ n,∃ l,qdf x i e out n = out ++ l/\∀ b ∈ l,qpF b = qpF e + 1
 | 0=>⟨[],by simp [qdf],by simp⟩
 | n + 1=>by
  obtain ⟨l,h1,h2⟩:=qmX x i e out n;rw [qhK];unfold qsP;split
  ·exact ⟨l,h1,h2⟩
  ·split
   ·exact ⟨l,h1,h2⟩
   ·refine ⟨l ++ [_],by rw [h1,List.append_assoc],λb hb=>?_⟩;rcases List.mem_append.1 hb with hb | hb
    ·exact h2 b hb
    ·simp only [List.mem_singleton] at hb;subst hb;simp [qpF]
theorem qx3 (x:SS) (i:Nat) (out:List Ent):(qgQ x i out = out)\/∃ e l,out[i]? = some e/\qgQ x i out = out ++ l/\∀ b ∈ l,qpF b = qpF e + 1:=by
 unfold qgQ;split
 ·exact .inl rfl
 ·rename_i e he;split
  ·exact .inl rfl
  ·obtain ⟨l,h1,h2⟩:=qmX x i e out x.nA;exact .inr ⟨e,l,he,h1,h2⟩
theorem qA1 (x:SS) (s:Nat):∀ i,BF i (RA x s i)
 | 0=>⟨λj k a b _ ha hb=>by
   have h1:=(List.getElem?_eq_some_iff.1 ha).1;have h2:=(List.getElem?_eq_some_iff.1 hb).1;simp only [RA,List.length_singleton] at h1 h2;have e1:j = 0:=by omega
   have e2:k = 0:=by omega
   subst e1; subst e2;rw [ha] at hb; cases hb; exact Nat.le_refl _,λa b ha hb=>by
   simp only [RA,List.mem_singleton,List.getElem?_cons_zero,qb] at ha hb;subst ha; subst hb; omega⟩
 | i + 1=>by
  have hB:=qA1 x s i;show BF (i + 1) (qgQ x i (RA x s i));generalize RA x s i = out at hB ⊢;rcases qx3 x i out with h | ⟨e,l,he,h,hl⟩
  ·rw [h];refine ⟨hB.mono,λa b ha hb=>?_⟩;have hlt:=(List.getElem?_eq_some_iff.1 ha).1;obtain ⟨c,hc⟩:∃ c,out[i]? = some c:=⟨_,List.getElem?_eq_getElem (by omega)⟩
   have h1:=hB.near c b hc hb;have h2:=hB.mono i (i + 1) c a (by omega) hc ha;omega
  ·rw [h];have hil:=(List.getElem?_eq_some_iff.1 he).1;have up:∀ (k:Nat) b,(out ++ l)[k]? = some b->qpF b<=qpF e + 1:=λk b hb=>by
    rcases List.mem_append.1 (List.mem_of_getElem? hb) with h1 | h1
    ·exact hB.near e b he h1
    ·rw [hl b h1]; omega
   have lo:∀ (k:Nat) b,i<=k->(out ++ l)[k]? = some b->qpF e<=qpF b:=λk b hk hb=>by
    by_cases hlt:k < out.length
    ·rw [List.getElem?_append_left hlt] at hb;exact hB.mono i k e b hk he hb
    ·rw [List.getElem?_append_right (by omega)] at hb;rw [hl b (List.mem_of_getElem? hb)]; omega
   refine ⟨λj k a b hjk ha hb=>?_,λa b ha hb=>?_⟩
   ·by_cases hlt:k < out.length
    ·rw [List.getElem?_append_left hlt] at hb;rw [List.getElem?_append_left (by omega)] at ha;exact hB.mono j k a b hjk ha hb
    ·rw [List.getElem?_append_right (by omega)] at hb;rw [hl b (List.mem_of_getElem? hb)];exact up j a ha
   ·obtain ⟨k,hk⟩:=List.mem_iff_getElem?.1 hb;have h1:=up k b hk;have h2:=lo (i + 1) a (by omega) ha;omega
theorem qyd {x:SS} (hx:x.ok) {s:Nat} (hs:s < 256) {e:Ent} (he:e ∈ qeG x s) (hh:x.hm e.1 = false) {a t:Nat} (ha:a < x.nA) (ht:x.nx e.1 a = some t):∃ e' ∈ qeG x s,e'.1 = t/\qpF e'<=qpF e + 1:=by
 obtain ⟨k,hk⟩:=List.mem_iff_getElem?.1 he;have h1:=qxg hx hs hk;have h2:=qnD hx (qhc hx hs k) h1 hh ht x.nA (by omega) ha;have h3:RA x s (k + 1) = qdf x k e (RA x s k) x.nA:=by
  show qgQ x k (RA x s k) = _;unfold qgQ;rw [h1];simp [hh]
 obtain ⟨l,h6,h7⟩:=qmX x k e (RA x s k) x.nA;rw [<- h3] at h2;obtain ⟨e',h4,h5⟩:=List.mem_map.1 h2;obtain ⟨j,hj⟩:=List.mem_iff_getElem?.1 h4;have hk':=(GA.len (qdP hx hs))
 have hlt:=(List.getElem?_eq_some_iff.1 hk).1;refine ⟨e',List.mem_of_getElem? (qBf hx hs hj (j:=256) (by omega)),h5,?_⟩;rw [h3,h6] at h4;rcases List.mem_append.1 h4 with h4 | h4
 ·exact (qA1 x s k).near e e' h1 h4
 ·rw [h7 e' h4]; omega
theorem qpu {x:SS} (hx:x.ok) {s:Nat} (hs:s < 256):∀ (l:List Int) (e:Ent) (t:Nat),e ∈ qeG x s->walk x e.1 l = some t->x.hm t = true->∃ e' ∈ qeG x s,x.hm e'.1 = true/\qpF e'<=qpF e + l.length
 | [],e,t,he,h,hh=>by
  cases h;exact ⟨e,he,hh,by omega⟩
 | a :: l,e,t,he,h,hh=>by
  by_cases c:x.hm e.1 = true
  ·exact ⟨e,he,c,by omega⟩
  ·unfold walk at h;obtain ⟨u,hu,hw⟩:=qd.1 h;unfold step at hu;split at hu
   ·rename_i ha;obtain ⟨e',h1,h2,h3⟩:=qyd hx hs he (by simpa using c) ha.2 hu;subst h2;obtain ⟨e2,h4,h5,h6⟩:=qpu hx hs l e' t h1 hw hh;exact ⟨e2,h4,h5,by simp only [List.length_cons]; omega⟩
   ·cases hu
theorem qkN {x:SS} (hx:x.ok) {s:Nat} (hs:s < 256):(s,(-1:Int),(-1:Int),([]:List Int)) ∈ qeG x s:=List.mem_of_getElem? (qdP hx hs).zero
theorem qs8 {m:Mc} (hv:VM m) {n:Nat} (hn:n < 256) {bar:Nat->Bool} {l:List Int} {t:Nat} (h:walk (qbX m bar) n l = some t) (hh:qgI m t = true) :
  ∃ i e,hIx m (qeG (qbX m bar) n) = some (i,e)/\qpF e<=l.length:=by
 obtain ⟨e',h1,h2,h3⟩:=qpu (qcP hv bar) hn l _ t (qkN (qcP hv bar) hn) h hh;have h3':qpF e'<=l.length:=by simpa [qpF] using h3
 have h2':qgI m e'.1 = true:=h2;obtain ⟨k,hk⟩:=List.mem_iff_getElem?.1 h1;cases hx:hIx m (qeG (qbX m bar) n) with
 | none =>
  have:=qba.1 hx k e' hk;simp [h2'] at this
 | some p =>
  obtain ⟨i,e⟩:=p;refine ⟨i,e,rfl,?_⟩;obtain ⟨j,a,g1,g2,g3⟩:=qaH hx;simp only [Nat.zero_add] at g2 g3;have hij:j = i/\a = e:=by
   split at g2
   ·cases g2; exact ⟨rfl,rfl⟩
   ·cases g2
  obtain ⟨rfl,rfl⟩:=hij;by_cases hlt:k < j
  ·have:=g3 k e' hlt hk;simp [h2'] at this
  ·have:=(qA1 (qbX m bar) n 256).mono j k a e' (by omega) g1 hk;omega
theorem qms {m:Mc} {l:List Ent}:hIx m l = none ↔ ∀ e ∈ l,qgI m e.1 = false:=by
 unfold hIx;rw [qba];constructor
 ·intro h e he;obtain ⟨k,hk⟩:=List.mem_iff_getElem?.1 he;have:=h k e hk;cases c:qgI m e.1 with
  | true=>simp [c] at this
  | false=>rfl
 ·intro h i e he;simp [h e (List.mem_of_getElem? he)]
def ql0 (m:Mc) (n b:Nat):Prop:=hIx m (qeG (qbX m b.testBit) n) = none
theorem quH (m:Mc) (n:Nat):∀ N,((qos m n N).2 = true->∃ B,B < N/\(qos m n N).1 = qdb 6 B/\ql0 m n B)/\∀ B,B < N->ql0 m n B->(qos m n N).2 = true/\(qos m n N).1.length<=(qdb 6 B).length
 | 0=>⟨by simp [qos],λB h=>by omega⟩
 | N + 1=>by
  obtain ⟨h1,h2⟩:=quH m n N;rw [qop];unfold qCq;generalize qos m n N = st at h1 h2 ⊢;split
  ·rename_i c;refine ⟨λh=>?_,λB hB hs=>?_⟩
   ·obtain ⟨B,g1,g2,g3⟩:=h1 h;exact ⟨B,by omega,g2,g3⟩
   ·by_cases e:B < N
    ·exact h2 B e hs
    ·have:B = N:=by omega
     subst this;refine ⟨c.1,?_⟩;rcases c.2 with c | c
     ·omega
     ·omega
  ·rename_i c;split
   ·rename_i d;refine ⟨λ_=>⟨N,by omega,rfl,d⟩,λB hB hs=>⟨rfl,?_⟩⟩;by_cases e:B < N
    ·obtain ⟨g1,g2⟩:=h2 B e hs;have:¬ (qdb 6 N).length > st.1.length:=λh=>c ⟨g1,.inl h⟩;show (qdb 6 N).length<=_;omega
    ·have:B = N:=by omega
     subst this;exact Nat.le_refl _
   ·rename_i d;refine ⟨λh=>?_,λB hB hs=>?_⟩
    ·obtain ⟨B,g1,g2,g3⟩:=h1 h;exact ⟨B,by omega,g2,g3⟩
    ·by_cases e:B < N
     ·exact h2 B e hs
     ·have:B = N:=by omega
      subst this;exact absurd hs d
theorem qwv {m:Mc} (hv:VM m) {n:Nat} (hn:n < 256) (hh:qgI m n = false):ql0 m n (2 ^ m.2.1.length - 1):=by
 unfold ql0;rw [qms];refine qty (qcP hv _) hn (λu=>qgI m u = false) hh λu a t _ _ ha ht=>?_;simp only [qbX,nxB] at ht ha;rw [Nat.testBit_two_pow_sub_one,decide_eq_true ha] at ht;simp at ht
theorem qyO {m:Mc} (hv:VM m) {n:Nat} (hn:n < 256) (hh:qgI m n = false):∃ B,B < 2 ^ m.2.1.length/\(qos m n (2 ^ m.2.1.length)).1 = qdb 6 B/\ql0 m n B/\∀ B',B' < 2 ^ m.2.1.length->ql0 m n B'->(qdb 6 B).length<=(qdb 6 B').length:=by
 obtain ⟨h1,h2⟩:=quH m n (2 ^ m.2.1.length);have hp:0 < 2 ^ m.2.1.length:=Nat.pow_pos (by omega);obtain ⟨h3,_⟩:=h2 (2 ^ m.2.1.length - 1) (by omega) (qwv hv hn hh);obtain ⟨B,g1,g2,g3⟩:=h1 h3;exact ⟨B,g1,g2,g3,λB' hB hs=>by rw [<- g2]; exact (h2 B' hB hs).2⟩
def qjS (m:Mc) (left:List Int) (N:Nat):List Ac:=((List.range N).filter λi:Nat=>decide ((i:Int) ∉ left)).map (qjb m)
theorem qvJ (m:Mc) (left:List Int) (N:Nat):qjS m left (N + 1) = qjS m left N ++ if (N:Int) ∈ left then [] else [qjb m N]:=by
 unfold qjS;rw [List.range_succ,List.filter_append,List.map_append];congr 1
 by_cases h:(N:Int) ∈ left
 ·rw [if_pos h]; simp [h]
 ·rw [if_neg h]; simp [h]
theorem qxQ (m:Mc) (left:List Int) (N:Nat):(qjS m left N).length<=N:=by
 unfold qjS;rw [List.length_map];exact Nat.le_trans (List.length_filter_le ..) (by simp)
def wo (m:Mc) (left:List Int):Mc:=(m.1,qjS m left m.2.1.length,m.2.2.1,())
theorem qkd (m:Mc) (left:List Int):(qjS m left m.2.1.length).Sublist m.2.1:=by
 have h:m.2.1 = (List.range m.2.1.length).map (qjb m):=quD m.2.1 ([],[],[],[],[],());unfold qjS;have h2:=(List.filter_sublist (l:=List.range m.2.1.length) (p:=λi:Nat=>decide ((i:Int) ∉ left))).map (qjb m);rw [<- h] at h2;exact h2
theorem quh {m:Mc} {left:List Int} {N:Nat} {x:Ac}:x ∈ qjS m left N ↔ ∃ i:Nat,i < N/\(i:Int) ∉ left/\x = qjb m i:=by
 unfold qjS;simp only [List.mem_map,List.mem_filter,List.mem_range,decide_eq_true_eq];constructor
 ·rintro ⟨i,⟨h1,h2⟩,rfl⟩; exact ⟨i,h1,h2,rfl⟩
 ·rintro ⟨i,h1,h2,rfl⟩; exact ⟨i,⟨h1,h2⟩,rfl⟩
theorem qB2 {m:Mc} (hb:MB m) (left:List Int):MB (wo m left):=⟨hb.fl,Nat.le_trans (qkd m left).length_le hb.ac,hb.hm,hb.fn,λa ha=>hb.an a ((qkd m left).subset ha),hb.ht⟩
theorem qzc {m:Mc}:(qaM (acE m) 0 m.2.1).2 = 0 ↔ (m.2.1.map (·.1)).Nodup/\∀ a ∈ m.2.1,isN a.1 = true/\tsE m.1.length (qb2 a) = 0/\tsE m.1.length (dos a) = 0:=by
 rw [qb6];simp only [Nat.zero_add];constructor
 ·intro h;have one:∀ (i:Nat) a,m.2.1[i]? = some a->isN a.1 = true/\a.1 ∉ (m.2.1.take i).map (·.1)/\tsE m.1.length (qb2 a) = 0/\tsE m.1.length (dos a) = 0:=λi a ha=>by
   have:=h i a ha;unfold acE at this;split at this
   ·rename_i h1;split at this
    ·cases this
    ·rename_i h2;split at this
     ·rename_i h3; exact ⟨h1,h2,h3,this⟩
     ·rename_i h3; exact absurd this h3
   ·cases this
  refine ⟨?_,λa ha=>?_⟩
  ·rw [List.Nodup,List.pairwise_iff_getElem];intro i j hi hj hij he;rw [List.length_map] at hi hj;simp only [List.getElem_map] at he;obtain ⟨_,h2,_⟩:=one j m.2.1[j] (by simp [hj]);exact h2 (List.mem_map.2 ⟨m.2.1[i],List.mem_iff_getElem?.2 ⟨i,by rw [List.getElem?_take]; simp [hij,hi]⟩,he⟩)
  ·obtain ⟨i,hi⟩:=List.mem_iff_getElem?.1 ha;obtain ⟨h1,_,h3⟩:=one i a hi;exact ⟨h1,h3⟩
 ·rintro ⟨hd,h⟩ i a ha;obtain ⟨h1,h3,h4⟩:=h a (List.mem_of_getElem? ha);unfold acE;have h2:a.1 ∉ (m.2.1.take i).map (·.1):=λhm=>by
   have hlt:=(List.getElem?_eq_some_iff.1 ha).1;obtain ⟨b,hb,hab⟩:=List.mem_map.1 hm;obtain ⟨j,hj⟩:=List.mem_iff_getElem?.1 hb;rw [List.getElem?_take] at hj;split at hj
   ·rename_i hji;rw [List.Nodup,List.pairwise_iff_getElem] at hd;have h5:=hd j i (by rw [List.length_map]; omega) (by rw [List.length_map]; omega) hji;simp only [List.getElem_map] at h5;have e1:=(List.getElem?_eq_some_iff.1 ha).2;have e2:=(List.getElem?_eq_some_iff.1 hj).2;rw [e1,e2] at h5;exact h5 hab
   ·cases hj
  rw [if_pos h1,if_neg h2,if_pos h3,h4]
theorem qBj {m:Mc} (h:(qfF m).2 = 0) (left:List Int):(qfF (wo m left)).2 = 0:=by
 unfold qfF at h ⊢;split at h
 ·rename_i h1;split at h
  ·rename_i h2;split at h
   ·rename_i h3;split at h
    ·rename_i h4;have h2':((wo m left).1.length:Int)<=8/\((wo m left).2.1.length:Int)<=10/\((wo m left).2.2.1.length:Int)<=4:=⟨h2.1,by have:=(qkd m left).length_le; have e:(wo m left).2.1 = qjS m left m.2.1.length:=rfl; rw [e]; omega,h2.2.2⟩
     have h4':(qaM (acE (wo m left)) 0 (wo m left).2.1).2 = 0:=by
      rw [qzc] at h4 ⊢;exact ⟨h4.1.sublist ((qkd m left).map _),λa ha=>h4.2 a ((qkd m left).subset ha)⟩
     have h3':(qaM (nmE (wo m left).1) 0 (wo m left).1).2 = 0:=h3;have h1':((wo m left).1.length:Int) > 0:=h1;rw [if_pos h1',if_pos h2',if_pos h3',if_pos h4'];exact h
    ·rename_i h4; exact absurd h h4
   ·rename_i h3; exact absurd h h3
  ·cases h
 ·cases h
theorem qBS {m:Mc} {s:Int} (h:stE m s = 0) (left:List Int):stE (wo m left) s = 0:=by
 unfold stE at h ⊢;split at h
 ·rename_i h1;split at h
  ·rename_i h2;rw [if_pos (qBj h1 left)];exact if_pos h2
  ·cases h
 ·rename_i h1; exact absurd h h1
theorem quA {m1 m2:Mc} (v1:VM m1) (v2:VM m2) {b1 b2:Nat->Bool} {n:Nat} (hn:n < 256) (hh:m1.2.2.1 = m2.2.2.1) (ht:∀ u a t,nxB m1 b1 u a = some t->∃ a',nxB m2 b2 u a' = some t) :
  ∀ e ∈ qeG (qbX m1 b1) n,∃ e' ∈ qeG (qbX m2 b2) n,e'.1 = e.1:=by
 refine qty (qcP v1 b1) hn (λu=>∃ e' ∈ qeG (qbX m2 b2) n,e'.1 = u) ⟨_,qkN (qcP v2 b2) hn,rfl⟩ ?_;rintro u a t ⟨e',he,rfl⟩ h1 _ h2;obtain ⟨a',h3⟩:=ht _ a t h2;have h4:(qbX m2 b2).hm e'.1 = false:=by
  have:qgI m1 e'.1 = false:=h1;show qgI m2 e'.1 = false;unfold qgI at this ⊢;rw [<- hh]; exact this
 have h5:a' < (qbX m2 b2).nA:=by
  unfold nxB at h3;split at h3
  ·rename_i c; exact c.1
  ·cases h3
 exact qol (qcP v2 b2) hn he h4 h5 h3
theorem qAX {m:Mc} (v:VM m) {left:List Int} (v':VM (wo m left)) {bar:Nat->Bool} (hbar:∀ a,bar a = decide ((a:Int) ∈ left)) {n:Nat} (hn:n < 256) :
  hIx (wo m left) (qeG (qbX (wo m left) λ_=>false) n) = none ↔ hIx m (qeG (qbX m bar) n) = none:=by
 rw [qms,qms];have to:∀ u a t,nxB (wo m left) (λ_=>false) u a = some t->∃ a',nxB m bar u a' = some t:=λu a t h=>by
  unfold nxB at h;split at h
  ·rename_i c;obtain ⟨x,hx⟩:∃ x,(wo m left).2.1[a]? = some x:=⟨_,List.getElem?_eq_getElem c.1⟩
   rw [qdA hx] at c h;obtain ⟨i,h1,h2,h3⟩:=quh.1 (List.mem_of_getElem? hx);subst h3;refine ⟨i,?_⟩;unfold nxB;rw [if_pos ⟨h1,by rw [hbar,decide_eq_false h2],c.2.2⟩,h]
  ·cases h
 have fro:∀ u a t,nxB m bar u a = some t->∃ a',nxB (wo m left) (λ_=>false) u a' = some t:=λu a t h=>by
  unfold nxB at h;split at h
  ·rename_i c;have h2:(a:Int) ∉ left:=by
    have:=c.2.1;rw [hbar] at this;simpa using this
   have:qjb m a ∈ qjS m left m.2.1.length:=quh.2 ⟨a,c.1,h2,rfl⟩;obtain ⟨k,hk⟩:=List.mem_iff_getElem?.1 this;have hk':(wo m left).2.1[k]? = some (qjb m a):=hk;refine ⟨k,?_⟩;unfold nxB;rw [qdA hk',if_pos ⟨(List.getElem?_eq_some_iff.1 hk').1,rfl,c.2.2⟩,h]
  ·cases h
 constructor
 ·intro h e he;obtain ⟨e',h1,h2⟩:=quA v v' hn rfl fro e he;have:=h e' h1;rw [h2] at this;exact this
 ·intro h e he;obtain ⟨e',h1,h2⟩:=quA v' v hn rfl to e he;have:=h e' h1;rw [h2] at this;exact this
def qx8 (l:List Int) (k:Int) (N:Nat):List Int:=((List.range N).filter λi:Nat=>decide ((i:Int) ≠ k)).map λi=>l.getD i 0
theorem qxf (l:List Int) (k:Int) (N:Nat):qx8 l k (N + 1) = qx8 l k N ++ if (N:Int) = k then [] else [l.getD N 0]:=by
 unfold qx8;rw [List.range_succ,List.filter_append,List.map_append];congr 1
 by_cases h:(N:Int) = k
 ·rw [if_pos h]; simp [h]
 ·rw [if_neg h]; simp [h]
theorem quu (l:List Int) (k:Int) (N:Nat):(qx8 l k N).length<=N:=by
 unfold qx8;rw [List.length_map];exact Nat.le_trans (List.length_filter_le ..) (by simp)
theorem qzR (l:List Int):qx8 l (-1) l.length = l:=by
 unfold qx8;have h:(List.range l.length).filter (λi:Nat=>decide ((i:Int) ≠ -1)) = List.range l.length:=by
  rw [List.filter_eq_self];intro a _;simp only [decide_eq_true_eq] <;> omega
 rw [h];exact (quD l 0).symm
theorem qy1:∀ (B:Fin 64) (k:Fin 6),k.val < (qdb 6 B.val).length->B.val - 2 ^ ((qdb 6 B.val).getD k.val 0).toNat < 64/\(qdb 6 (B.val - 2 ^ ((qdb 6 B.val).getD k.val 0).toNat)).length < (qdb 6 B.val).length/\qx8 (qdb 6 B.val) (k.val:Int) (qdb 6 B.val).length = qdb 6 (B.val - 2 ^ ((qdb 6 B.val).getD k.val 0).toNat):=by decide +kernel
end Go.Proofs.YtkcaaaiihhhnmaaGreatDoor
end
section
namespace Go.Proofs.YtkcaaaiihhhnmaaGreatDoor
open Go Go.Ab Go.Tx
abbrev SS0 (m:Mc):SS:=qbX m λ_=>false
theorem qCx {m:Mc} (hv:VM m) {bar:Nat->Bool} {u a t:Nat} (hu:u < 2 ^ m.1.length) (h:nxB m bar u a = some t):t < 2 ^ m.1.length:=by
 unfold nxB at h;split at h
 ·rename_i hc;cases h;obtain ⟨x,hx⟩:∃ x,m.2.1[a]? = some x:=⟨_,List.getElem?_eq_getElem hc.1⟩
  rw [qdA hx];have hd:=hv.ds x (List.mem_of_getElem? hx);exact qtu (hd.ok hv.f8) (λy hy=>(hd.1 y hy).2) hv.f8 hu
 ·cases h
theorem qCe {m:Mc} (h:qfF m = (0,0)) {t:Nat} (ht:t < 2 ^ m.1.length):stE m (t:Int) = 0:=by
 unfold stE;rw [h];generalize 2 ^ m.1.length = p at ht ⊢;rw [if_pos rfl,if_pos ⟨by omega,by omega⟩]
theorem qyf {m:Mc} (hb:MB m) (s k:Int):qcR m s k = some (if stE m s = 0 then (if 0<=k/\k<=(m.2.1.length:Int) - 1 then (if hold (qb2 (qjb m k.toNat)) s.toNat = true then (((qqA (dos (qjb m k.toNat)) s.toNat:Nat):Int),0) else (0,20)) else (0,6)) else (0,stE m s)):=by
 unfold qcR;have h12:=hb.ac;rw [qdE hb];simp only [qa];rw [wq (by omega) (by omega)];simp only [wit,unl,qa];rw [qAh _ (by simp)];simp only [qa];by_cases h:stE m s = 0
 ·obtain ⟨hv,_,ho,n,rfl,hn,hn2⟩:=qgT hb h;have h8:=hv.f8; have h10:=hv.a10;simp only [h,qiB,if_true,ho,bm,Int.toNat_natCast];by_cases c:0<=k/\k<=(m.2.1.length:Int) - 1
  ·obtain ⟨i,rfl⟩:∃ i:Nat,k = (i:Int):=⟨k.toNat,by omega⟩
   obtain ⟨a,ha⟩:∃ a,m.2.1[i]? = some a:=⟨_,List.getElem?_eq_getElem (by omega)⟩
   have hm:=List.mem_of_getElem? ha;have i1:(m.2.1.map λa=>bt (qb2 a))[i]? = some (bt (qb2 a)):=by simp [ha]
   have i2:(m.2.1.map λa=>bt (dos a))[i]? = some (bt (dos a)):=by simp [ha]
   simp only [c,and_self,decide_true,if_true,Bool.not_true,cond_false,qV i1,qa,Int.toNat_natCast,qdA ha];rw [qhu ((hv.nd a hm).ok h8) hn2];simp only [qa];by_cases c:hold (qb2 a) n = true
   ·simp only [c,Bool.not_true,cond_false,if_true,qV i2,qa];rw [qtT ((hv.ds a hm).ok h8) hn2];rfl
   ·simp [c]
  ·simp [c]
 ·simp [h,qiB]
theorem qxD {m:Mc} (hb:MB m) {u:Nat} (h:stE m (u:Int) = 0) (k:Int):∃ e:Int,e ≠ 0/\qcR m (u:Int) k = some (match step (SS0 m) u k with | some t=>((t:Int),0) | none=>(0,e)):=by
 rw [qyf hb,if_pos h];have hA:(SS0 m).nA = m.2.1.length:=rfl;unfold step;by_cases c:0<=k/\k<=(m.2.1.length:Int) - 1
 ·have c1:0<=k/\k.toNat < (SS0 m).nA:=⟨c.1,by rw [hA]; omega⟩
  rw [if_pos c,if_pos c1];by_cases d:hold (qb2 (qjb m k.toNat)) u = true
  ·have:(SS0 m).nx u k.toNat = some (qqA (dos (qjb m k.toNat)) u):=by
    show nxB m (λ_=>false) u k.toNat = _;unfold nxB;rw [if_pos ⟨by omega,rfl,d⟩]
   rw [this,Int.toNat_natCast,if_pos d];exact ⟨1,by omega,rfl⟩
  ·have:(SS0 m).nx u k.toNat = none:=by
    show nxB m (λ_=>false) u k.toNat = _;unfold nxB;rw [if_neg (λh=>d h.2.2)]
   rw [this,Int.toNat_natCast,if_neg d];exact ⟨20,by omega,rfl⟩
 ·have c1:¬ (0<=k/\k.toNat < (SS0 m).nA):=by rw [hA]; omega
  rw [if_neg c,if_neg c1];exact ⟨6,by omega,rfl⟩
theorem qBs {m:Mc} (hv:VM m) {u t:Nat} {k:Int} (hu:u < 2 ^ m.1.length) (h:step (SS0 m) u k = some t):t < 2 ^ m.1.length:=by
 unfold step at h;split at h
 ·exact qCx (bar:=λ_=>false) hv hu h
 ·cases h
theorem qp1 {m:Mc} (hv:VM m):∀ {l:List Int} {u t:Nat},u < 2 ^ m.1.length->walk (SS0 m) u l = some t->t < 2 ^ m.1.length
 | [],u,t,hu,h=>by cases h; exact hu
 | a :: l,u,t,hu,h=>by
  unfold walk at h;obtain ⟨v,h1,h2⟩:=qd.1 h;exact qp1 hv (qBs hv hu h1) h2
theorem qnK {m:Mc} (hb:MB m) {n:Nat} (h:stE m (n:Int) = 0) (l:List Int) (hl:l.length<=1000):qbN m (n:Int) l = some (match walk (SS0 m) n l with | some t=>((t:Int),true) | none=>(0,false)):=by
 unfold qbN;obtain ⟨hv,hm0,_,n',e0,hn,hn2⟩:=qgT hb h;have:n' = n:=by omega
 subst this;have key:∀ o:Option (Int ⊕ (Int × Bool)),Ok o (λr=>r = match walk (SS0 m) n' l with | some t=>.inl (t:Int) | none=>.inr (0,false))->o.bind (Sum.elim (λ(p6:Int)=>some (p6,true)) some) = some (match walk (SS0 m) n' l with | some t=>((t:Int),true) | none=>(0,false)):=by
  intro o ho;rw [ho.eq];cases walk (SS0 m) n' l <;> rfl
 refine key _ (qdk l.length (λi (s:Int × Int)=>s.2 = (i:Int)/\∃ u:Nat,s.1 = (u:Int)/\walk (SS0 m) n' (l.take i) = some u) _ ⟨rfl,n',rfl,rfl⟩ ?_);rintro i ⟨s1,s2⟩ hi ⟨e1,u,e2,hw⟩;simp only at e1 e2;subst e1; subst e2;have hu:=qp1 hv hn hw;by_cases hlt:i < l.length
 ·have h0:decide ((i:Int) < (l.length:Int)) = true:=by simp <;> omega
  obtain ⟨k,hk⟩:∃ k,l[i]? = some k:=⟨_,List.getElem?_eq_getElem hlt⟩
  obtain ⟨e,he,hnx⟩:=qxD hb (qCe hm0 hu) k;simp only [h0,cond_true];rw [qtd hb];simp only [qa,qV hk];rw [hnx];have htk:l.take (i + 1) = l.take i ++ [k]:=by rw [qc0 0 hlt,qaS hk]
  have hws:walk (SS0 m) n' (l.take (i + 1)) = step (SS0 m) u k:=by
   rw [htk,qmy,hw];simp only [qa];unfold walk;cases step (SS0 m) u k <;> rfl
  cases hs:step (SS0 m) u k with
  | some t =>
   simp only [qa,decide_true,Bool.not_true,cond_false];rw [wq (by omega) (by omega),qaz];exact ⟨hlt,by simp,t,rfl,by rw [hws,hs]⟩
  | none =>
   have hc:(!decide (e = 0)) = true:=by simp [he]
   simp only [qa,hc,cond_true];rw [qa1];have:walk (SS0 m) n' l = none:=by
    rw [<- List.take_append_drop (i + 1) l,qmy,hws,hs]; rfl
   rw [this]
 ·have:i = l.length:=by omega
  subst this;have h0:decide ((l.length:Int) < (l.length:Int)) = false:=by simp
  simp only [h0,cond_false];rw [qa1];rw [List.take_length] at hw;rw [hw]
theorem qvA {m:Mc} (hb:MB m) (left:List Int) (hl:left.length<=1000):qcZ m left = some (wo m left):=by
 unfold qcZ;have h12:=hb.ac;rw [qtd hb];simp only [qa];have key:∀ o:Option (List Nm × List Ac × List Ts),Ok o (λr=>r = (m.1,qjS m left m.2.1.length,m.2.2.1))->(o.bind λ(p9:List Nm × List Ac × List Ts)=>some (p9.1,p9.2.1,p9.2.2,())) = some (wo m left):=by
  intro o ho;rw [ho.eq]; rfl
 refine key _ (qdk m.2.1.length (λi (s:Int × List Nm × List Ac × List Ts)=>s = ((i:Int),m.1,qjS m left i,m.2.2.1)) _ rfl ?_);rintro i s hi rfl;by_cases hlt:i < m.2.1.length
 ·have h0:decide ((i:Int) < (m.2.1.length:Int)) = true:=by simp <;> omega
  obtain ⟨a,ha⟩:∃ a,m.2.1[i]? = some a:=⟨_,List.getElem?_eq_getElem hlt⟩
  simp only [h0,cond_true];rw [qAt _ _ (by omega)];simp only [qa];have hk:=qxQ m left i;have hnx:=qvJ m left i;by_cases c:(i:Int) ∈ left
  ·rw [if_pos c,List.append_nil] at hnx;simp only [c,decide_true,Bool.not_true,cond_false,qa];rw [wq (by omega) (by omega),qaz,hnx];exact ⟨hlt,rfl⟩
  ·rw [if_neg c] at hnx;simp only [c,decide_false,Bool.not_false,cond_true];simp only [qa,qV ha];rw [qeH (by omega)];simp only [qa];rw [wq (by omega) (by omega),qaz,hnx,qdA ha];exact ⟨hlt,rfl⟩
 ·have:i = m.2.1.length:=by omega
  subst this;have h0:decide ((m.2.1.length:Int) < (m.2.1.length:Int)) = false:=by simp
  simp only [h0,cond_false];rw [qa1]
theorem qvP {m:Mc} (hv:VM m) {n:Nat} (hn:n < 2 ^ m.1.length):(qis m (n:Int) (qea m n)).2 = 0 ↔ hIx m (qeG (SS0 m) n) = none:=by
 have h256:=qgv hv;have hn2:n < 256:=by omega
 have hok:=qcP hv λ_=>false;have hmem:∀ x:Int,x ∈ qea m n ↔ ∃ e ∈ qeG (SS0 m) n,x = ((e.1:Nat):Int):=λx=>by
  unfold qea qgZ;simp only [List.mem_map,List.mem_filter,List.mem_range,decide_eq_true_eq];constructor
  ·rintro ⟨a,⟨_,e,he,rfl⟩,rfl⟩; exact ⟨e,he,rfl⟩
  ·rintro ⟨e,he,rfl⟩; exact ⟨e.1,⟨qks hv _ hn e he,e,he,rfl⟩,rfl⟩
 have hasc:=qom (qeG (SS0 m) n) (2 ^ m.1.length);have h1:(qaM (seE ((2 ^ m.1.length:Nat):Int) (qea m n)) 0 (qea m n)).2 = 0:=by
  rw [qb6];intro i x hx;obtain ⟨e,he,rfl⟩:=(hmem x).1 (List.mem_of_getElem? hx);have:=qks hv _ hn e he;unfold seE;rw [if_pos (by generalize 2 ^ m.1.length = p at this ⊢; omega),Nat.zero_add,if_neg];rintro ⟨g1,g2⟩;obtain ⟨j,rfl⟩:∃ j,i = j + 1:=⟨i - 1,by omega⟩
  have hlt:=(List.getElem?_eq_some_iff.1 hx).1;obtain ⟨y,hy⟩:∃ y,(qea m n)[j]? = some y:=⟨_,List.getElem?_eq_getElem (by omega)⟩
  rw [Nat.add_sub_cancel,qaS hy] at g2;have hp:(qea m n).Pairwise (· < ·):=hasc;rw [List.pairwise_iff_getElem] at hp;have:=hp j (j + 1) (by omega) hlt (by omega);have e1:=(List.getElem?_eq_some_iff.1 hx).2;have e2:=(List.getElem?_eq_some_iff.1 hy).2;rw [e1,e2] at this;omega
 have h2:(n:Int) ∈ qea m n:=(hmem _).2 ⟨_,qkN hok hn2,rfl⟩;unfold qis;rw [if_pos h1,if_pos h2,qb6,qms];constructor
 ·intro h e he;obtain ⟨i,hi⟩:=List.mem_iff_getElem?.1 ((hmem _).2 ⟨e,he,rfl⟩);have:=h i _ hi;unfold clE at this;rw [Int.toNat_natCast] at this;cases c:qgI m e.1 with
  | true=>rw [c,if_pos rfl] at this; cases this
  | false=>rfl
 ·intro h i x hx;obtain ⟨e,he,rfl⟩:=(hmem x).1 (List.mem_of_getElem? hx);unfold clE;rw [Int.toNat_natCast,h e he,if_neg (by simp),if_neg];rintro ⟨a,ha,g1,g2⟩;obtain ⟨k,hk⟩:=List.mem_iff_getElem?.1 ha;obtain ⟨e',h3,h4⟩:=qol hok hn2 he (h e he) (a:=k) (t:=qqA (dos a) e.1) (List.getElem?_eq_some_iff.1 hk).1 (by
   show nxB m (λ_=>false) e.1 k = _;unfold nxB;rw [qdA hk,if_pos ⟨(List.getElem?_eq_some_iff.1 hk).1,rfl,g1⟩])
  exact g2 ((hmem _).2 ⟨e',h3,by rw [h4]⟩)
theorem qnN (m:Mc) (n:Nat):(qi5 m n).2 = if hIx m (qeG (SS0 m) n) = none then 12 else 0:=by
 unfold qi5;cases hIx m (qeG (qbX m λ_=>false) n) <;> rfl
theorem qAL {m:Mc} (hb:MB m) {n:Nat} (h:stE m (n:Int) = 0) {B:Nat} (hB:B < 64):∃ q,qaN (wo m (qdb 6 B)) (n:Int) = some q/\(q.2 = 12/\ql0 m n B\/q.2 = 0 /\ ¬ ql0 m n B):=by
 have h':=qBS h (qdb 6 B);obtain ⟨hv,_,_,n',e0,hn,hn2⟩:=qgT hb h;have:n' = n:=by omega
 subst this;obtain ⟨hv',_⟩:=qgT (qB2 hb _) h';rw [qnG (qB2 hb _),if_pos h',Int.toNat_natCast];refine ⟨_,rfl,?_⟩;rw [qnN];have:=qAX hv hv' (bar:=B.testBit) (λa=>qzG hB a) hn2;unfold ql0;by_cases c:hIx m (qeG (qbX m B.testBit) n') = none
 ·exact .inl ⟨if_pos (this.2 c),c⟩
 ·exact .inr ⟨if_neg λh=>c (this.1 h),c⟩
theorem qyD (b:List Int) (hb:b.length<=1000) (k:Int):qG (λ(s33:((List Int) × Int)) =>
             bif decide (s33.2 < (b.length:Int)) then
              (bif !(decide (s33.2 = k)) then
                (idx b s33.2).bind λx34 =>
                (app s33.1 ([x34])).bind λx35 =>
                some x35
               else
                some s33.1).bind λ(p36:(List Int)) =>
              some (.inl (p36,w64 (s33.2 + 1)))
             else
              some (.inr s33.1)) ([],0) = some (qx8 b k b.length):=by
 refine Ok.eq (qdk b.length (λi (s:List Int × Int)=>s = (qx8 b k i,(i:Int))) _ rfl ?_);rintro i s hi rfl;by_cases hlt:i < b.length
 ·have h0:decide ((i:Int) < (b.length:Int)) = true:=by simp <;> omega
  obtain ⟨a,ha⟩:∃ a,b[i]? = some a:=⟨_,List.getElem?_eq_getElem hlt⟩
  have hk:=quu b k i;have hnx:=qxf b k i;simp only [h0,cond_true];by_cases c:(i:Int) = k
  ·rw [if_pos c,List.append_nil] at hnx;simp only [c,decide_true,Bool.not_true,cond_false,qa];rw [<- c,wq (by omega) (by omega),qaz,c,hnx];exact ⟨hlt,by rw [<- c]; rfl⟩
  ·rw [if_neg c] at hnx;simp only [c,decide_false,Bool.not_false,cond_true,qV ha,qa];rw [qeH (by omega)];simp only [qa];rw [wq (by omega) (by omega),qaz,hnx,qaS ha];exact ⟨hlt,rfl⟩
 ·have:i = b.length:=by omega
  subst this;have h0:decide ((b.length:Int) < (b.length:Int)) = false:=by simp
  simp only [h0,cond_false];rw [qa1]
theorem qw3 {B:Nat} (hB:B < 64) (h:qdb 6 B = []):B = 0:=by
 rcases Nat.eq_zero_or_pos B with h0 | h0
 ·exact h0
 ·have:=(qwR ⟨B,hB⟩ (by show B ≠ 0; omega)).1;simp only at this;rw [h] at this; cases this
theorem qqT {m:Mc} (hb:MB m) {n:Nat} (h:stE m (n:Int) = 0) (h6:m.2.1.length<=6) (h8:List Int × Int) (he:h8.2 = if hIx m (qeG (SS0 m) n) = none then 12 else 0) :
  ((qbz m (n:Int)).bind λx27 =>
      (qaX m (n:Int)).bind λx28 =>
      bif x28 then
       some (decide (x27.2 = 20))
      else
       (bif !(decide (x27.2 = 0)) then
         some true
        else
         some (!(decide ((x27.1.length:Int) = 0) == decide (h8.2 = 12)))).bind λ(p29:Bool) =>
       bif p29 then
        some false
       else
        (qG (λ(s31:Int) =>
          bif decide (s31 < (x27.1.length:Int)) then
           (qG (λ(s33:((List Int) × Int)) =>
             bif decide (s33.2 < (x27.1.length:Int)) then
              (bif !(decide (s33.2 = s31)) then
                (idx x27.1 s33.2).bind λx34 =>
                (app s33.1 ([x34])).bind λx35 =>
                some x35
               else
                some s33.1).bind λ(p36:(List Int)) =>
              some (.inl (p36,w64 (s33.2 + 1)))
             else
              some (.inr s33.1)) ([],0)).bind λ(p37:(List Int)) =>
           (qcZ m p37).bind λx38 =>
           (qaN x38 (n:Int)).bind λx39 =>
           (bif decide (s31 < 0) then
             bif !(decide (x39.2 = 12)) then
              some true
             else
              bif decide (s31>=0) then
               some (!(decide (x39.2 = 0)))
              else
               some false
            else
             bif decide (s31>=0) then
              some (!(decide (x39.2 = 0)))
             else
              some false).bind λ(p40:Bool) =>
           bif p40 then
            some (.inr (.inr false))
           else
            some (.inl (w64 (s31 + 1)))
          else
           some (.inr (.inl ()))) (-1)).bind (Sum.elim (λ(p41:Unit) =>
        some true) some)) = some true:=by
 obtain ⟨hv,_,_,n',e0,hn,hn2⟩:=qgT hb h;have:n' = n:=by omega
 subst this;clear e0;rw [qsc hb _ (λ_=>h6),if_pos h,Int.toNat_natCast,qjX hv hn2];simp only [qa];by_cases hh:qgI m n' = true
 ·simp [hh]
 ·have hh':qgI m n' = false:=by simpa using hh
  obtain ⟨B,hB,hbe,hs,hmin⟩:=qyO hv hn2 hh';have hp:2 ^ m.2.1.length<=64:=Nat.pow_le_pow_right (n:=2) (by omega) h6;have hp0:0 < 2 ^ m.2.1.length:=Nat.pow_pos (by omega);have hB6:B < 64:=by omega
  rw [hbe];have hbl:=qmc 6 B;have hz:decide (((qdb 6 B).length:Int) = 0) = decide (h8.2 = 12):=by
   rw [he];by_cases c:hIx m (qeG (SS0 m) n') = none
   ·rw [if_pos c];have s0:ql0 m n' 0:=by
     unfold ql0; rw [qmt]; exact c
    have:=hmin 0 hp0 s0;have e:(qdb 6 0).length = 0:=by decide
    have:(qdb 6 B).length = 0:=by omega
    simp [this]
   ·rw [if_neg c];have:(qdb 6 B).length ≠ 0:=λe=>by
     have e2:=qw3 hB6 (List.length_eq_zero_iff.1 e);subst e2;unfold ql0 at hs;rw [qmt] at hs;exact c hs
    have h1:decide (((qdb 6 B).length:Int) = 0) = false:=decide_eq_false (λe=>this (by omega));rw [h1]; rfl
  simp only [hh',qf,if_false,cond_false,decide_true,Bool.not_true,hz,BEq.rfl,qa];have key:∀ o:Option (Unit ⊕ Bool),Ok o (λr=>r = .inl ())->(o.bind (Sum.elim (λ(p41:Unit)=>some true) some)) = some true:=by
   intro o ho;rw [ho.eq]; rfl
  refine key _ (qn4 (λs:Int=>((qdb 6 B).length - s).toNat) (λs:Int=>-1<=s/\s<=(qdb 6 B).length) _ (by omega) ?_);intro s hs2;by_cases hlt:s < ((qdb 6 B).length:Int)
  ·have h0:decide (s < ((qdb 6 B).length:Int)) = true:=by simpa using hlt
   simp only [h0,cond_true];rw [qyD (qdb 6 B) (by omega)];simp only [qa];have hcl:=quu (qdb 6 B) s (qdb 6 B).length;rw [qvA hb (qx8 (qdb 6 B) s (qdb 6 B).length) (by omega)];simp only [qa];have fin:∀ o:Option Bool,o = some false->Rnd (o.bind λ(p40:Bool) =>
           bif p40 then
            some (.inr (.inr false))
           else
            some (.inl (w64 (s + 1)))) (λs':Int=>(-1<=s'/\s'<=(qdb 6 B).length)/\((qdb 6 B).length - s').toNat < ((qdb 6 B).length - s).toNat) (λr:Unit ⊕ Bool=>r = .inl ()):=by
    intro o ho;subst ho;simp only [qa,cond_false];rw [wq (by omega) (by omega),qaz];omega
   by_cases c:s < 0
   ·have e:s = -1:=by omega
    rw [e,qzR];obtain ⟨q,hq,hq2⟩:=qAL hb h hB6;rw [hq];simp only [qa];rw [e] at fin;refine fin _ ?_;rcases hq2 with ⟨q2,_⟩ | ⟨_,q2⟩
    ·simp [q2]
    ·exact absurd hs q2
   ·obtain ⟨k,rfl⟩:∃ k:Nat,s = (k:Int):=⟨s.toNat,by omega⟩
    obtain ⟨b1,b2,b3⟩:=qy1 ⟨B,hB6⟩ ⟨k,by omega⟩ (by show k < (qdb 6 B).length; omega);simp only at b1 b2 b3;rw [b3];obtain ⟨q,hq,hq2⟩:=qAL hb h b1;rw [hq];simp only [qa];refine fin _ ?_;rcases hq2 with ⟨_,q2⟩ | ⟨q2,_⟩
    ·exfalso
     have:=hmin _ (Nat.lt_of_le_of_lt (Nat.sub_le _ _) hB) q2;omega
    ·have c1:decide ((k:Int) < 0) = false:=by simp
     have c2:decide ((k:Int)>=0) = true:=by simp
     simp [c1,c2,q2]
  ·have h0:decide (s < ((qdb 6 B).length:Int)) = false:=by simpa using hlt
   simp only [h0,cond_false];rw [qa1]
theorem qzj {m:Mc} (hb:MB m) {n:Nat} (h:stE m (n:Int) = 0) (acts:List Int) (ha:acts.length<=8) {α:Type} (k:Option α) (bad:Option α) :
  ((qbN m (n:Int) acts).bind λx23 =>
     (bif x23.2 then
       (qaX m x23.1).bind λx24 =>
       bif x24 then
        bif !(decide ((qi5 m n).2 = 0)) then
         some true
        else
         some (decide (((qi5 m n).1.length:Int) > (acts.length:Int)))
       else
        some false
      else
       some false).bind λ(p25:Bool) =>
     bif p25 then bad else k) = k:=by
 obtain ⟨hv,_,_,n',e0,hn,hn2⟩:=qgT hb h;have:n' = n:=by omega
 subst this;rw [qnK hb h _ (by omega)];simp only [qa];cases hw:walk (SS0 m) n' acts with
 | none=>simp
 | some t =>
  have ht:=qp1 hv hn hw;have h256:=qgv hv;simp only [cond_true];rw [qjX hv (by omega)];simp only [qa];by_cases c:qgI m t = true
  ·obtain ⟨i,e,h1,h2⟩:=qs8 hv hn2 hw c;unfold qi5;rw [h1];have h3:decide ((e.2.2.2.length:Int) > (acts.length:Int)) = false:=by
    have:e.2.2.2.length<=acts.length:=h2;exact decide_eq_false (by omega)
   simp only [c,h3,cond_true,decide_true,Bool.not_true,cond_false,qa]
  ·have c':qgI m t = false:=by simpa using c
   simp [c']
theorem qlH (m:Mc) (s:Int) (acts:List Int):qcK m s acts = some true:=by
 unfold qcK qiK;simp only [qa,Bool.not_true,cond_false];obtain ⟨b,e,hb⟩:=qCd m;rw [e];cases b with
 | false=>simp
 | true =>
  have hb:=hb rfl;simp only [qa,Bool.not_true,cond_false];by_cases c:(m.2.1.length:Int) > 6
  ·simp only [c,decide_true,cond_true,qa]
  ·rw [decide_eq_false c];simp only [cond_false];rw [qtn hb];simp only [qa];by_cases h:stE m s = 0
   ·by_cases hl:(acts.length:Int) > 8
    ·simp only [h,hl,decide_true,Bool.not_true,cond_false,qa,cond_true]
    ·simp only [h,decide_true,Bool.not_true,cond_false,qa];rw [decide_eq_false hl];simp only [cond_false,qtd hb,qa];rw [qoL hb,qnG hb,if_pos h,if_pos h];have hst:=h;obtain ⟨hv,_,ho,n,rfl,hn,hn2⟩:=qgT hb h;have hr:=qtE (qeG (qbX m λ_=>false) n) (2 ^ m.1.length);have hp:=qgv hv;have hr2:(qea m n).length<=256:=by unfold qea; omega
     have c1:decide (((qea m n).length:Int) > 256) = false:=by simp <;> omega
     simp only [qa,Int.toNat_natCast,decide_true,Bool.not_true,cond_false,c1];rw [qi6 _ (by omega)];simp only [qa];rw [qoH hb _ _ (by omega),if_pos h];simp only [qa];have hcl:=qvP hv hn;have hT:=qqT hb h (by omega) (qi5 m n) (qnN m n);have hG:=λ(k bad:Option Bool)=>qzj hb h acts (by omega) k bad;have hg:=qdP (qcP hv λ_=>false) hn2;have hlen:=hg.len;cases hx:hIx m (qeG (SS0 m) n) with
     | none =>
      have q1:=hcl.2 hx;have q2:(qi5 m n).2 = 12:=by rw [qnN,if_pos hx]
      have d1:decide ((qi5 m n).2 = 12) = true:=by rw [q2]; rfl
      have d2:decide ((qi5 m n).2 = 0) = false:=by rw [q2]; rfl
      have d3:decide ((qis m (n:Int) (qea m n)).2 = 0) = true:=by rw [q1]; rfl
      rw [d1] at hT;rw [d2] at hG;simp only [Bool.not_false,cond_true] at hG;simp only [d1,d2,d3,BEq.rfl,Bool.not_true,Bool.not_false,cond_false,cond_true,qa,Sum.elim_inl];rw [hG];exact hT
     | some p =>
      obtain ⟨i,e⟩:=p;obtain ⟨h1,h2⟩:=quv hx;have q1:(qis m (n:Int) (qea m n)).2 ≠ 0:=λq=>by rw [hcl.1 q] at hx; cases hx
      have q2:qi5 m n = (e.2.2.2,0):=by unfold qi5; rw [hx]
      have d1:decide ((qi5 m n).2 = 12) = false:=by rw [q2]; rfl
      have d2:decide ((qi5 m n).2 = 0) = true:=by rw [q2]; rfl
      have d3:decide ((qis m (n:Int) (qea m n)).2 = 0) = false:=by simp [q1]
      rw [d1] at hT;rw [d2] at hG;have hw:=qnm hg (i + 1) i e (by omega) h1;have hpl:=hg.path (i + 1) i e (by omega) h1;have hi:i < (qeG (qbX m λ_=>false) n).length:=(List.getElem?_eq_some_iff.1 h1).1;have d4:decide ((e.2.2.2.length:Int) > 256) = false:=by simp <;> omega
      simp only [d1,d2,d3,BEq.rfl,Bool.not_true,Bool.not_false,cond_false,cond_true,qa];rw [q2] at hG ⊢;simp only [Bool.not_true,cond_false] at hG ⊢;rw [qnK hb h _ (by omega),hw];simp only [qa,Bool.not_true,cond_false];rw [qjX hv (hg.lt e (List.mem_of_getElem? h1)),h2];simp only [qa,Bool.not_true,cond_false,d4];by_cases hnil:e.2.2.2 = []
      ·have d5:decide ((e.2.2.2.length:Int) > 0) = false:=by rw [hnil]; rfl
       simp only [d5,cond_false,qa,Sum.elim_inl];rw [hG];exact hT
      ·have h0:0 < e.2.2.2.length:=List.length_pos_iff.2 hnil;have d5:decide ((e.2.2.2.length:Int) > 0) = true:=by simp <;> omega
       obtain ⟨u,hu,hu2⟩:=qtX hg h1 hnil;have hul:=qp1 hv hn hu;have hu3:qgI m u = false:=hu2;simp only [d5,cond_true];rw [wq (by omega) (by omega),qAz (by omega)];have e6:((e.2.2.2.length:Int) - 1).toNat = e.2.2.2.length - 1:=by omega
       have e5:(e.2.2.2.take ((e.2.2.2.length:Int) - 1).toNat).drop (0:Int).toNat = e.2.2.2.dropLast:=by
        rw [e6,List.dropLast_eq_take];exact List.drop_zero
       rw [e5];simp only [qa];rw [qnK hb h _ (by rw [List.length_dropLast]; omega),hu];simp only [qa,Bool.not_true,cond_false];rw [qjX hv (by omega),hu3];simp only [qa,cond_false,Sum.elim_inl];rw [hG];exact hT
   ·have h':decide (stE m s = 0) = false:=decide_eq_false h;simp only [h',Bool.not_false,cond_true,qa]
end Go.Proofs.YtkcaaaiihhhnmaaGreatDoor
end
