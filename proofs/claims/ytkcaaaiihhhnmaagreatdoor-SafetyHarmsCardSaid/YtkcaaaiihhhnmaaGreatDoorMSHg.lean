/-
  ONE LAW OF A CHAPTER: its program side is run by an interpreter that is proved sound; what it computes is shown to be what the law says. No conditions. Part 7 of 7.
-/
import Derived.Test.YtkcaaaiihhhnmaaGreatDoorMSHf
import Derived.Test.YtkcaaaiihhhnmaaGreatDoorRows
import Derived.WalkKit
import Derived.ProofKit
import Derived.LaidMore
import Derived.OpenShut
import Derived.Stop.Joined
import Derived.ChangeArms
import Derived.Test.YtkcaaaiihhhnmaaGreatDoorProg
import Derived.Shelf.Spec.TrailingZeros
import Derived.KernelRfl
import Derived.Lib.TrailingZeros
import Derived.Test.YtkcaaaiihhhnmaaGreatDoorTie
import Derived.Test.YtkcaaaiihhhnmaaGreatDoorCards
import Derived.Lay
import Derived.SevenTiedAt
set_option linter.unusedSimpArgs false
set_option linter.unusedVariables false
set_option linter.unnecessarySimpa false
section
namespace Go.Tx
open Go Go.Ab Go.RowKit Go.ChangeShapes Go.WideShapes Go.Deep
section
variable {H:Type} {enc:TypeId × Value->H} {P:Program}
theorem qp0 {f:Func} {s:ChangeSpec} {apart fresh handsOn again:Bool} {W W':World} {args:Array Value} {v:Value} {ds gs:List (DataW H)} {before pa pv:List MemPlace}
  (hW:DataW.Whole enc P f.params.toList s.vars apart W args.toList ds gs before)
  (hres:∀ (b:Nat) (sp:Nat->Bool) (hd:Bool),DataW.TrodAll enc P W' b sp hd f.resultTypes.toList (v.resultList f.resultTypes.size) (s.fn H (ds ++ gs)).results [])
  (hargs:∀ sp:Nat->Bool,(∀ p ∈ before,sp p.block = true)->DataW.TrodAll enc P W' 0 sp true f.params.toList args.toList (s.fn H (ds ++ gs)).args pa)
  (hvars:∀ sp:Nat->Bool,(∀ p ∈ before,sp p.block = true)->DataW.TrodVars enc P W' sp s.vars (s.fn H (ds ++ gs)).vars pv)
  (hps:before = pa ++ pv) (hb:Below W.heap.size W W')
  (hok:∀ (j:Nat) (t:TypeId) (r:Value),f.resultTypes[j]? = some t->(v.resultList f.resultTypes.size)[j]? = some r->Value.okWide P W' .any 0 t r) :
  s.post enc P f apart fresh handsOn again W args v W':=by
 have hlt:∀ p ∈ before,p.block < W.heap.size:=λp hp=>hW.lt p hp;have hold:∀ p ∈ before,(λb=>decide (b < W.heap.size)) p.block = true:=λp hp=>by simpa using hlt p hp
 refine ⟨ds,gs,before,[],pa,pv,hW,hres _ _ _,hargs _ hold,hvars _ hold,World.keptBut_mono (λp hp=>⟨hp,?_⟩) (hb.frame (· ∈ before)),λ_=>?_⟩
 ·rw [hps,List.mem_append] at hp;exact Or.inr hp
 ·obtain ⟨_,_,_,_,_,hz,hn⟩:=hW;refine ⟨hok,_,_,([] ++ pa) ++ pv,⟨[] ++ pa,pv,trodAll_append (hargs _ (λ_ _=>rfl)) (hres _ _ _),hvars _ (λ_ _=>rfl),rfl,?_,?_⟩,?_⟩
  ·intro b off hp;have hin:MemPlace.cell b off ∈ before:=by rw [hps]; simpa using hp
   rw [hb.frozen (hlt _ hin)];exact hz b off hin
  ·intro ha;have:=hn ha;rw [hps] at this;simpa using this
  ·intro p hp _;rw [hps];simpa using hp
theorem qnn:∀ {ts:List TypeId} {vs:List Value} {ds:List (DataW H)} {ps:List MemPlace} {w:World} {b:Nat} {sp:Nat->Bool} {hd:Bool},DataW.TrodAll enc P w b sp hd ts vs ds ps->ds.length = ts.length
 | [],[],[],_,_,_,_,_,_=>rfl
 | [],[],d :: ds,_,_,_,_,_,h=>h.elim
 | [],v :: vs,_,_,_,_,_,_,h=>by cases h
 | t :: ts,[],_,_,_,_,_,_,h=>by cases h
 | t :: ts,v :: vs,[],_,_,_,_,_,h=>by cases h
 | t :: ts,v :: vs,d :: ds,ps,w,b,sp,hd,⟨p,q,h1,h2,e⟩=>by simp [qnn h2]
end
theorem qBE {H:Type}:Sm (H:=H) maxLen (λ_=>True) where
 slice:=λes sp _ h=>⟨h,λ_ _=>trivial⟩
 agg:=λ_ _ _ _=>trivial
 str:=λ_ _ h=>h
theorem qsr {P:Program} {H0:Hints} {lib:FuncId->Option (List V->Option V)} (hm:P.follows .mixedOrders = true) (qcg:qj2 P H0)
  (hlib:∀ g h args r,lib g = some h->h args = some r->qa8 P g args [] r []) (hl:laidOutB P = true) {k:FuncId} {fn:Func} (hfn:P.funcs[k]? = some fn) (hbody:fn.body.isSome = true)
  {ts:List TypeId} {τs:List Ty} (hps:fn.params.toList = ts) (hts:ts.mapM (qAx P) = some τs) (hok:ts.all (okT P 10) = true) (hrd:ts.all (λt=>P.readableRec t && decide (t < P.types.size)) = true)
  {tb:TypeId} (hres:fn.resultTypes = #[tb]) (htb:P.underlying tb = some .bool) {F:denP (τs.map .ty)->Option Bool}
  (he:qbj P H0 lib ⟨k,τs.map .ty,[(.bool,0)],F⟩) (hF:∀ x,qB4 maxLen τs x->F x = some true)
  {s:ChangeSpec} (hv:s.vars = []) (hs:∀ (H:Type) (ds:List (DataW H)),ds.length = ts.length->s.fn H ds = { results:=[.lit (.bool true)],args:=ds })
  (H:Type) (enc:TypeId × Value->H) (W:World) (base:Nat) (args:Array Value) (ds gs:List (DataW H)) (before:List MemPlace)
  (hval:∀ (j:Nat) t v,fn.params[j]? = some t->args[j]? = some v->Value.okWide P W .any base t v)
  (hW:DataW.Whole enc P fn.params.toList s.vars false W args.toList ds gs before) (hgl:qlQ W (cx0 W)) :
  Calls P k args W λe W'=>∃ v,e = .returned v/\s.post enc P fn false true false false W args v W':=by
 have hW':=hW;have hlt:∀ p ∈ before,p.block < W.heap.size:=λp hp=>hW.lt p hp;obtain ⟨p,q,hA,hV,rfl,hfz,hnd⟩:=hW;rw [hv] at hV;obtain ⟨rfl,rfl⟩:=trodVars_none hV;rw [hps] at hA;have hlen:=qnn hA;have hval':∀ (j:Nat) t v,ts[j]? = some t->args.toList[j]? = some v->Value.okWide P W .any base t v:=λj t v h1 h2 =>
  hval j t v (by rw [<- hps] at h1; simpa using h1) (by simpa using h2)
 refine (qwZ hm qcg hlib hl qBE hfn hbody hts hok he hF hval' hA (λ_ _=>trivial) hgl).mono λe W' ⟨h1,hb⟩=>?_;subst h1;have hfs:s.fn H (ds ++ []) = { results:=[.lit (.bool true)],args:=ds }:=by rw [List.append_nil]; exact hs H ds hlen
 refine ⟨_,rfl,qp0 (pa:=p) (pv:=[]) hW' ?_ ?_ ?_ rfl hb ?_⟩
 ·intro b sp hd;rw [hfs,hres];exact trodAll_mk1 (shut_bool htb true)
 ·intro sp hsp;rw [hfs,hps];exact qjp hl hb hrd hA (λx hx=>hlt x (by simpa using hx)) sp (λx hx=>hsp x (by simpa using hx))
 ·intro sp _;rw [hfs,hv];rfl
 ·exact ok_one hres rfl (okWide_bool_mk htb true)
end Go.Tx
namespace Go.Proofs.YtkcaaaiihhhnmaaGreatDoor
open Go Go.Ab Go.Tx
theorem own:ownKnob Tryz.prog.godebug = none:=by kernel_rfl
theorem qzd:laidOutB Tryz.prog = true:=by kernel_rfl
end Go.Proofs.YtkcaaaiihhhnmaaGreatDoor
end
section
namespace Go.Proofs.YtkcaaaiihhhnmaaGreatDoor
open Go Go.Ab Go.Tx Go.ChangeShapes Go.WideShapes Go.ChangeAt Go.WideMaps Go.WideElems Go.RowKit
theorem g1 : Tryz.prog.globalNamed "math/bits.deBruijn64tab" = some 1 := by kernel_rfl
theorem qCt {W:World} (h:∀ j,j < 64->W.cell? ⟨1,j,none⟩ = some (.int .u8 (Lib.deBruijn64tab.getD j 0))):qlQ W (cx0 W):=by
 intro x hx;obtain ⟨j,hj,rfl⟩:=List.mem_map.1 hx;have hj':=List.mem_range.1 hj;have hc:=h j hj';simp only
 cases hb:W.heap[1]? with
 | none=>simp [World.cell?,hb] at hc
 | some b =>
  cases b with
  | cells c t fr =>
   refine ⟨c.size,_,by simp [cx0,hb],?_,hc,rfl⟩;simp only [World.cell?,hb] at hc;rcases Nat.lt_or_ge j c.size with h1 | h1
   ·exact h1
   ·simp [Array.getElem?_eq_none h1] at hc
  | _=>simp [World.cell?,hb] at hc
def qvA : List (String × DataW Unit) := [("math/bits.deBruijn32tab", Rows.laid_math_bits_deBruijn32tab), ("math/bits.deBruijn64tab", Rows.laid_math_bits_deBruijn64tab)]
theorem qzi {W:World} (h:laidMetH Tryz.prog qvA W) (r:Nat) (hr:r < 64):W.cell? ⟨1,r,none⟩ = some (.int .u8 (Lib.deBruijn64tab.getD r 0)):=by
 rw [MakeChecks.laidMetH_plain _ _ _ (by kernel_rfl)] at h;obtain ⟨ps,⟨_,_,_,_,_,_,_,_,_,_,⟨g,t,cs,fuel,p,q,hg,ht,hv,hd,_,_⟩,_⟩,_,_⟩:=h;obtain rfl:=Option.some.inj (g1.symm.trans hg);obtain rfl:=Option.some.inj ((show (Tryz.prog.globals[1]?).map (·.type) = some 268 by kernel_rfl).symm.trans ht);obtain ⟨xs,m,_,ex,_,hl,hel⟩:=DataW.trod_array Tryz.underlying268 hd;have c5:Tryz.prog.cellsOf 5 = 1:=by kernel_rfl
 have hE:=hel r hr;rw [c5,Nat.mul_one,List.getElem?_eq_getElem (by omega)] at hE;obtain ⟨z,e1,e2,_⟩:=DataW.trod_int Tryz.underlying5 hE;have hlen:Lib.deBruijn64tab.length = 64:=by kernel_rfl
 have e3:(xs.map (·.1)) = Lib.deBruijn64tab.map λn:Nat=>(.lit (.int .u8 (n:Int)):DataW Unit):=(DataW.agg.inj (Prod.mk.inj ex).1).symm;have e4:(xs.map (·.1))[r]? = (Lib.deBruijn64tab.map λn:Nat=>(DataW.lit (.int .u8 (n:Int)):DataW Unit))[r]?:=by rw [e3]
 rw [List.getElem?_map,List.getElem?_map,List.getElem?_eq_getElem (by omega:r < xs.length),List.getElem?_eq_getElem (by omega:r < Lib.deBruijn64tab.length),e2] at e4;have hz:z = ((Lib.deBruijn64tab.getD r 0:Nat):Int):=by
  simp only [Option.map_some,qb,DataW.lit.injEq,Lit.int.injEq,true_and] at e4;rw [e4,List.getD,List.getElem?_eq_getElem (by omega:r < Lib.deBruijn64tab.length)]; rfl
 rw [World.var?_cell hg hv r,<- hz];have:cs.toList[r]? = some (.int .u8 z):=by
  have h0:((cs.toList.drop r).take 1)[0]? = some (.int .u8 z):=by rw [e1]; rfl
  simpa using h0
 simpa using this
theorem qAB {W:World} (h:laidMetH Tryz.prog qvA W):qlQ W (cx0 W):=qCt λj hj=>qzi h j hj
end Go.Proofs.YtkcaaaiihhhnmaaGreatDoor
end
section
namespace Go.Proofs.YtkcaaaiihhhnmaaGreatDoor
open Go Go.Ab
def qAF:Go.Shelf.Ren:=⟨λ| 27=>121 | 28=>180 | 29=>181 | n=>n,λ| 25=>175 | 3=>3 | 27=>244 | 22=>246 | 4=>4 | 53=>267 | 0=>0 | 5=>5 | 54=>268 | n=>n,λ| 0=>0 | 1=>1 | n=>n⟩
theorem l27:Lays7.n27 Tryz.prog qAF where
 mixed:=by kernel_rfl
 f27:=Tryz.func121.trans (congrArg some (by kernel_rfl))
 f28:=Tryz.func180.trans (congrArg some (by kernel_rfl))
 f29:=Tryz.func181.trans (congrArg some (by kernel_rfl))
 t0:=Tryz.underlying0
 a0:=Tryz.isAgg0
 z0:=Tryz.sizeOf0
 v0:=Tryz.zeroValue0
 i0:=by kernel_rfl
 t3:=Tryz.underlying3
 a3:=Tryz.isAgg3
 z3:=Tryz.sizeOf3
 v3:=Tryz.zeroValue3
 i3:=by kernel_rfl
 t4:=Tryz.underlying4
 a4:=Tryz.isAgg4
 z4:=Tryz.sizeOf4
 v4:=Tryz.zeroValue4
 i4:=by kernel_rfl
 t5:=Tryz.underlying5
 a5:=Tryz.isAgg5
 z5:=Tryz.sizeOf5
 v5:=Tryz.zeroValue5
 i5:=by kernel_rfl
 t22:=Tryz.underlying246
 a22:=Tryz.isAgg246
 z22:=Tryz.sizeOf246
 v22:=Tryz.zeroValue246
 i22:=by kernel_rfl
 t25:=Tryz.underlying175
 a25:=Tryz.isAgg175
 z25:=Tryz.sizeOf175
 v25:=Tryz.zeroValue175
 i25:=by kernel_rfl
 t27:=Tryz.underlying244
 a27:=Tryz.isAgg244
 z27:=Tryz.sizeOf244
 v27:=Tryz.zeroValue244
 i27:=by kernel_rfl
 t53:=Tryz.underlying267
 a53:=Tryz.isAgg267
 z53:=Tryz.sizeOf267
 v53:=Tryz.zeroValue267
 i53:=by kernel_rfl
 t54:=Tryz.underlying268
 a54:=Tryz.isAgg268
 z54:=Tryz.sizeOf268
 g0:=by kernel_rfl
 g1:=by kernel_rfl
theorem qwe {P:Program} {g:FuncId} {args:List V} {u:Value} (h:∀ (w:World) (X:Cx) (vals:List Value),RepL w X args vals []->qlQ w X->(callFunc g vals.toArray).run P w = .ok (.enter g vals.toArray) w/\Calls P g vals.toArray w λe w'=>e = .returned u/\w' = w) :
  qa8 P g args [] (.val u) []:=by
 intro w X vals O h1 h2 h3 _ _;obtain ⟨h4,h5⟩:=h w X vals h1 h2;refine .inl ⟨h4,h5.mono ?_⟩;rintro e w' ⟨rfl,rfl⟩;refine ⟨u,rfl,X,O,[],⟨rfl,rfl⟩,h3,Lin.nil,λ_ _ hb=>absurd hb (by simp),λq hq=>absurd hq (by simp [V.qj]),rfl,λ_=>rfl,⟨Nat.le_refl _,λ_ _ _=>⟨rfl,rfl⟩,λb e fz hb=>⟨e,fz,hb,Nat.le_refl _,λh=>h,λ_ _ _ h=>h⟩,λ_ _=>rfl,?_,rfl,rfl,rfl⟩⟩;rintro b (hb | ⟨q,hb⟩)
 ·exact absurd hb (by simp)
 ·exact .inr (.inr ⟨q,hb⟩)
theorem qzs {w:World} {X:Cx} (h:qlQ w X):TabAt 1 Lib.deBruijn64tab w:=by
 intro j hj;obtain ⟨e,v,_,_,h3,h4⟩:=h (1,j,λv=>v = .int .u8 (Lib.deBruijn64tab.getD j 0)) (List.mem_map.2 ⟨j,List.mem_range.2 hj,rfl⟩);simp only at h3 h4;rw [h3,h4]
theorem qCx (x:Nat) (hx:x < 18446744073709551616):qa8 Tryz.prog 121 [.val (.int .u64 x)] [] (.val (.int .i64 (Lib.ctz 64 x))) []:=by
 refine qwe λw X vals h1 h2=>?_;simp only [RepL,Rep] at h1;obtain ⟨u,vs,O1,O2,rfl,_,⟨rfl,_⟩,rfl,_⟩:=h1;refine ⟨Tn.enters Tryz.func121 (by kernel_rfl) (by kernel_rfl) _ _,?_⟩;exact Any7.bits_TrailingZeros l27 x hx w (λ_=>qzs h2)
end Go.Proofs.YtkcaaaiihhhnmaaGreatDoor
end
section
namespace Go.Tx
open Go
theorem qgG {n:Int} (h1 : -9223372036854775808<=n) (h2:n<=9223372036854775807):IntKind.wrap .i64 n = n:=by
 rw [IntKind.wrap_i64]; omega
theorem qU {α:Type} {l:List α} {i:Nat} {a:α} (h:l[i]? = some a):idx l (i:Int) = some a:=by simp [idx,h]
theorem qAo {α:Type} {l l2:List α} (h:l.length + l2.length<=4294967296):app l l2 = some (l ++ l2):=by simp [app,h]
section
variable {σ ρ:Type} {f:σ->Option (σ ⊕ ρ)}
theorem qkz:∀ {n m:Nat} {s:σ} {r:ρ},qcS f n s = some r->n<=m->qcS f m s = some r
 | 0,m,s,r,h,_=>by simp [qcS] at h
 | n + 1,0,s,r,h,hm=>by omega
 | n + 1,m + 1,s,r,h,hm=>by
  simp only [qcS] at h ⊢;cases hf:f s with
  | none=>rw [hf] at h; cases h
  | some x =>
   rw [hf] at h;cases x with
   | inl s'=>exact qkz h (by omega)
   | inr r'=>exact h
theorem qj5 {n:Nat} {s:σ} {r:ρ} (h:qcS f n s = some r):qz f s = some r:=by
 have hex:∃ n r,qcS f n s = some r:=⟨n,r,h⟩
 cases hl:qz f s with
 | none=>exfalso; unfold qz at hl; rw [dif_pos hex] at hl; cases hl
 | some r' =>
  obtain ⟨m,hm⟩:=qhG hl;have h1:=qkz h (Nat.le_max_left n m);have h2:=qkz hm (Nat.le_max_right n m);rw [<- h1,<- h2]
theorem qn2 {s s':σ} (h:f s = some (.inl s')):qz f s = qz f s':=by
 cases hl:qz f s' with
 | some r =>
  obtain ⟨n,hn⟩:=qhG hl;exact qj5 (n:=n + 1) (by simp [qcS,h,hn])
 | none =>
  cases hl2:qz f s with
  | none=>rfl
  | some r =>
   obtain ⟨n,hn⟩:=qhG hl2;cases n with
   | zero=>simp [qcS] at hn
   | succ n =>
    simp only [qcS,h] at hn;rw [qj5 hn] at hl;cases hl
theorem qfJ {s:σ} {r:ρ} (h:f s = some (.inr r)):qz f s = some r:=qj5 (n:=1) (by simp [qcS,h])
theorem qy9 (n:Nat) (I:Nat->σ->Prop) (Q:ρ->Prop)
  (hs:∀ i s,i<=n->I i s->(∃ s',f s = some (.inl s')/\i < n/\I (i + 1) s')\/(∃ r,f s = some (.inr r)/\Q r)) {s:σ} (h0:I 0 s):∃ r,qz f s = some r/\Q r:=by
 have h:∀ k i s,n - i = k->i<=n->I i s->∃ r,qz f s = some r/\Q r:=by
  intro k;induction k with
  | zero =>
   intro i s hk hi hI;rcases hs i s hi hI with ⟨s',_,h,_⟩ | ⟨r,h,hq⟩
   ·omega
   ·exact ⟨r,qfJ h,hq⟩
  | succ k ih =>
   intro i s hk hi hI;rcases hs i s hi hI with ⟨s',h,hlt,hI'⟩ | ⟨r,h,hq⟩
   ·obtain ⟨r,hr,hq⟩:=ih (i + 1) s' (by omega) (by omega) hI';exact ⟨r,by rw [qn2 h,hr],hq⟩
   ·exact ⟨r,qfJ h,hq⟩
 exact h n 0 s (by omega) (by omega) h0
end
def qaL {α ρ:Type} (g:Nat->α->Option ρ):Nat->List α->Option ρ
 | _,[]=>none
 | k,a :: l=>match g k a with
  | some r=>some r
  | none=>qaL g (k + 1) l
def qx3 {ρ:Type}:Option ρ->Unit ⊕ ρ
 | some r=>.inr r
 | none=>.inl ()
def stp {ρ:Type} (i:Nat):Option ρ->Int ⊕ (Unit ⊕ ρ)
 | some r=>.inr (.inr r)
 | none=>.inl ((i:Int) + 1)
theorem qym {α ρ:Type} (l:List α) {f:Int->Option (Int ⊕ (Unit ⊕ ρ))} (g:Nat->α->Option ρ)
  (h:∀ (i:Nat) (a:α),l[i]? = some a->f i = some (stp i (g i a)))
  (he:f l.length = some (.inr (.inl ()))):qz f 0 = some (qx3 (qaL g 0 l)):=by
 have key:∀ (l2 l1:List α),l1 ++ l2 = l->qz f (l1.length:Nat) = some (qx3 (qaL g l1.length l2)):=by
  intro l2;induction l2 with
  | nil =>
   intro l1 e;have:l1 = l:=by simpa using e
   subst this;rw [qfJ he]; rfl
  | cons a l2 ih =>
   intro l1 e;have hi:l[l1.length]? = some a:=by rw [<- e]; simp
   have hf:=h _ _ hi;simp only [qaL];cases hg:g l1.length a with
   | some r=>rw [hg] at hf; rw [qfJ hf]; rfl
   | none =>
    rw [hg] at hf;rw [qn2 hf];have:=ih (l1 ++ [a]) (by simp [e]);simpa using this
 simpa using key l [] rfl
end Go.Tx
end
section
namespace Go.Tx
open Go
def Ok {α:Type} (o:Option α) (Q:α->Prop):Prop:=∃ a,o = some a/\Q a
section
variable {α β σ ρ τ:Type}
theorem qkT {a:α} {Q:α->Prop}:Ok (some a) Q ↔ Q a:=⟨λ⟨_,h,hq⟩=>by cases h; exact hq,λh=>⟨a,rfl,h⟩⟩
theorem ok_none {Q:α->Prop}:Ok (none:Option α) Q ↔ False:=⟨λ⟨_,h,_⟩=>(by cases h),λh=>h.elim⟩
theorem ok_eq {o:Option α} {a:α}:Ok o (λr=>r = a) ↔ o = some a:=⟨λ⟨_,h,hq⟩=>by rw [h,hq],λh=>⟨a,h,rfl⟩⟩
theorem Ok.eq {o:Option α} {a:α} (h:Ok o (λr=>r = a)):o = some a:=ok_eq.1 h
theorem Ok.mono {o:Option α} {P Q:α->Prop} (h:Ok o P) (hq:∀ a,P a->Q a):Ok o Q:=by obtain ⟨a,h1,h2⟩:=h; exact ⟨a,h1,hq a h2⟩
theorem Ok.bind {o:Option α} {k:α->Option β} {P:α->Prop} {Q:β->Prop} (h:Ok o P) (hk:∀ a,P a->Ok (k a) Q):Ok (o.bind k) Q:=by
 obtain ⟨a,h1,h2⟩:=h; rw [h1]; exact hk a h2
theorem qA6 {o:Option α} {k:α->Option β} {Q:β->Prop}:Ok (o.bind k) Q ↔ Ok o λa=>Ok (k a) Q:=by
 cases o with
 | none=>simp [ok_none]
 | some a=>simp [qkT]
theorem qB7 {l:List α} {n:Int} (d:α) (h0:0<=n) (h1:n < l.length):idx l n = some (l.getD n.toNat d):=by
 unfold idx;rw [if_pos h0];have:n.toNat < l.length:=by omega
 simp [this]
theorem qxi {l:List Int} {n:Int} (h0:0<=n) (h1:n < l.length):idx l n = some (l.getD n.toNat 0):=qB7 0 h0 h1
theorem qda {l:List α} {a:α} (h:l.length<=4294967295):app l [a] = some (l ++ [a]):=qAo (by simp; omega)
theorem qwC {l2:List α} (h:l2.length<=4294967296):app [] l2 = some l2:=by rw [qAo (by simpa using h)]; rfl
theorem qB5 {l:List α} {a b:Int} (h:0<=a/\a<=b/\b<=l.length):slc l a b = some ((l.take b.toNat).drop a.toNat):=by unfold slc; rw [if_pos h]
def Rnd (o:Option (σ ⊕ ρ)) (I:σ->Prop) (Q:ρ->Prop):Prop:=Ok o λx=>match x with
 | .inl s=>I s
 | .inr r=>Q r
theorem qV {s:σ} {I:σ->Prop} {Q:ρ->Prop}:Rnd (some (.inl s)) I Q ↔ I s:=qkT
theorem qaD {r:ρ} {I:σ->Prop} {Q:ρ->Prop}:Rnd (some (.inr r):Option (σ ⊕ ρ)) I Q ↔ Q r:=qkT
theorem qpV {f:σ->Option (σ ⊕ ρ)} (μ:σ->Nat) (I:σ->Prop) (Q:ρ->Prop) {s:σ} (h0:I s)
  (hs:∀ s,I s->Rnd (f s) (λs'=>I s'/\μ s' < μ s) Q):Ok (qz f s) Q:=by
 have key:∀ n s,μ s<=n->I s->Ok (qz f s) Q:=by
  intro n;induction n with
  | zero =>
   intro s hn hI;obtain ⟨x,hx,h⟩:=hs s hI;cases x with
   | inl s'=>exact absurd h.2 (by omega)
   | inr r=>exact ⟨r,qfJ hx,h⟩
  | succ n ih =>
   intro s hn hI;obtain ⟨x,hx,h⟩:=hs s hI;cases x with
   | inl s'=>rw [qn2 hx]; exact ih s' (by have:=h.2; omega) h.1
   | inr r=>exact ⟨r,qfJ hx,h⟩
 exact key _ s (Nat.le_refl _) h0
theorem qbM {f:σ->Option (σ ⊕ ρ)} (n:Nat) (I:Nat->σ->Prop) (Q:ρ->Prop) {s:σ} (h0:I 0 s)
  (hs:∀ i s,i<=n->I i s->Rnd (f s) (λs'=>i < n/\I (i + 1) s') Q):Ok (qz f s) Q:=by
 obtain ⟨r,h1,h2⟩:=qy9 n I Q (λi s hi hI=>by
  obtain ⟨x,hx,h⟩:=hs i s hi hI;cases x with
  | inl s'=>exact .inl ⟨s',hx,h⟩
  | inr r=>exact .inr ⟨r,hx,h⟩) h0
 exact ⟨r,h1,h2⟩
theorem qwD {o:Option (α ⊕ β)} {k:α->Option β} {Q:β->Prop}:Ok (o.bind (Sum.elim k some)) Q ↔ Ok o λx=>match x with
  | .inl a=>Ok (k a) Q
  | .inr b=>Q b:=by
 rw [qA6];cases o with
 | none=>simp [ok_none]
 | some x=>cases x <;> simp [qkT]
end
theorem qaU {α:Type} {l:List α} {i:Nat} {a d:α} (h:l[i]? = some a):l.getD i d = a:=by simp [h]
theorem qcj {α:Type} {l:List α} {i:Nat} (d:α) (h:i < l.length):l.take (i + 1) = l.take i ++ [l.getD i d]:=by
 rw [List.take_add_one]; simp [h]
end Go.Tx
end
section
namespace Go.Tx
open Go
section
variable {α β ρ τ:Type}
theorem qa6 {l:List α} {i:Nat} {a:α} (h:l[i]? = some a):i < l.length:=(List.getElem?_eq_some_iff.1 h).1
theorem qaw (l:List α) (K:Int->Option (Int ⊕ (Unit ⊕ ρ))) (g:Nat->α->Option ρ) (h:∀ (i:Nat) (a:α),l[i]? = some a->K i = some (stp i (g i a))) :
  qz (λs=>bif decide (s < (l.length:Int)) then K s else some (.inr (.inl ()))) 0 = some (qx3 (qaL g 0 l)):=by
 refine qym l g (λi a hi=>?_) ?_
 ·have:=qa6 hi;have e:decide ((i:Int) < (l.length:Int)) = true:=by simp <;> omega
  simp only [e,cond_true];exact h i a hi
 ·simp
theorem qQ {o:Option ρ} {k:Unit->Option ρ}:(some (qx3 o)).bind (Sum.elim k some) = (match o with
  | some r=>some r
  | none=>k ()):=by cases o <;> rfl
theorem qbZ {g:Nat->α->Option ρ}:∀ {l:List α} {k:Nat},qaL g k l = none ↔ ∀ i a,l[i]? = some a->g (k + i) a = none
 | [],k=>by simp [qaL]
 | a :: l,k=>by
  simp only [qaL];cases hg:g k a with
  | some r =>
   simp only [reduceCtorEq,false_iff];intro h;have:=h 0 a rfl;simp [hg] at this
  | none =>
   simp only
   rw [qbZ (l:=l) (k:=k + 1)];constructor
   ·intro h i b hb;cases i with
    | zero=>simp at hb; subst hb; simpa using hg
    | succ i=>have:=h i b (by simpa using hb); rw [<- this]; congr 1; omega
   ·intro h i b hb;have:=h (i + 1) b (by simpa using hb);rw [<- this]; congr 1; omega
theorem qaH {g:Nat->α->Option ρ} {r:ρ}:∀ {l:List α} {k:Nat},qaL g k l = some r->∃ i a,l[i]? = some a/\g (k + i) a = some r/\∀ j b,j < i->l[j]? = some b->g (k + j) b = none
 | [],k,h=>by simp [qaL] at h
 | a :: l,k,h=>by
  simp only [qaL] at h;cases hg:g k a with
  | some r' =>
   rw [hg] at h;simp only [qb] at h;subst h;exact ⟨0,a,rfl,by simpa using hg,λj b hj=>by omega⟩
  | none =>
   rw [hg] at h;obtain ⟨i,b,h1,h2,h3⟩:=qaH (l:=l) (k:=k + 1) h;refine ⟨i + 1,b,by simpa using h1,by rw [<- h2]; congr 1; omega,λj c hj hc=>?_⟩;cases j with
   | zero=>simp at hc; subst hc; simpa using hg
   | succ j=>have:=h3 j c (by omega) (by simpa using hc); rw [<- this]; congr 1; omega
theorem qyx (l:List α) (pf:α->Option Bool) (p:α->Bool) (h:∀ x ∈ l,pf x = some (p x)) (hl:l.length<=1000000000) :
  ((qz (λ(s2:Int) =>
   bif decide (s2 < (l.length:Int)) then
    (idx l s2).bind λx3 =>
    (pf x3).bind λx4 =>
    bif x4 then
     some (.inr (.inr s2))
    else
     some (.inl (IntKind.wrap .i64 (s2 + 1)))
   else
    some (.inr (.inl ()))) 0).bind (Sum.elim (λ(p5:Unit) =>
  some (-1)) some)).bind (λx1=>some (decide (x1>=0))) = some (l.any p):=by
 rw [qaw l _ (λi a=>if p a then some (i:Int) else none) (λi a hi=>by
  have:=qa6 hi;rw [qU hi];simp only [qa];rw [h a (List.mem_of_getElem? hi)];simp only [qa];cases hp:p a
  ·simp only [cond_false,qf,if_false,stp]; rw [qgG (by omega) (by omega)]
  ·simp [stp]),qQ]
 cases hf:qaL (λi a=>if p a then some (i:Int) else none) 0 l with
 | none =>
  rw [qbZ] at hf;have:l.any p = false:=by
   rw [List.any_eq_false];intro x hx;obtain ⟨i,hi⟩:=List.mem_iff_getElem?.1 hx;have:=hf i x hi;simpa using this
  rw [this]; rfl
 | some r =>
  obtain ⟨i,a,h1,h2,_⟩:=qaH hf;have hp:p a = true:=by
   cases hp:p a
   ·simp [hp] at h2
   ·rfl
  have:l.any p = true:=List.any_eq_true.2 ⟨a,List.mem_of_getElem? h1,hp⟩;rw [this];simp only [hp,if_true,qb] at h2;simp only [qa];have:decide (r>=0) = true:=by simp <;> omega
  rw [this]
def qlB:List Int->Int
 | []=>0
 | e :: l=>if e = 0 then qlB l else e
theorem qoy:∀ (l:List Int) (k:Nat),qaL (λ_ e=>if e = 0 then none else some e) k l = if qlB l = 0 then none else some (qlB l)
 | [],k=>rfl
 | e :: l,k=>by
  simp only [qaL,qlB];by_cases h:e = 0
  ·simp only [h,if_true]; exact qoy l (k + 1)
  ·simp [h]
theorem qwM (l:List Int) (hl:l.length<=1000000000) :
  (qz (λ(s2:Int) =>
   bif decide (s2 < (l.length:Int)) then
    (idx l s2).bind λx3 =>
    bif !(decide (x3 = 0)) then
     some (.inr (.inr x3))
    else
     some (.inl (IntKind.wrap .i64 (s2 + 1)))
   else
    some (.inr (.inl ()))) 0).bind (Sum.elim (λ(p4:Unit)=>some 0) some) = some (qlB l):=by
 rw [qaw l _ (λ_ e=>if e = 0 then none else some e) (λi a hi=>by
  have:=qa6 hi;rw [qU hi];simp only [qa];by_cases h:a = 0
  ·simp only [h,decide_true,Bool.not_true,cond_false,if_true,stp]; rw [qgG (by omega) (by omega)]
  ·simp [h,stp]),qQ,qoy]
 by_cases h:qlB l = 0
 ·simp [h]
 ·simp [h]
def qbg (g:Nat->α->Int):Nat->List α->Int × Int
 | _,[]=>(0,0)
 | k,a :: l=>if g k a = 0 then qbg g (k + 1) l else ((k:Int),g k a)
theorem qfw (g:Nat->α->Int):∀ (l:List α) (k:Nat),(match qaL (λi a=>if g i a = 0 then none else some ((i:Int),g i a)) k l with
  | some r=>some r
  | none=>some (0,0)) = some (qbg g k l)
 | [],k=>rfl
 | a :: l,k=>by
  simp only [qaL,qbg];by_cases h:g k a = 0
  ·simp only [h,if_true]; exact qfw g l (k + 1)
  ·simp [h]
theorem qyP (l:List α) (cb:Int->α->Option Int) (g:Nat->α->Int) (h:∀ (i:Nat) a,l[i]? = some a->cb i a = some (g i a)) (hl:l.length<=1000000000) :
  (qz (λ(s2:Int) =>
   bif decide (s2 < (l.length:Int)) then
    (idx l s2).bind λx3 =>
    (cb s2 x3).bind λx4 =>
    bif !(decide (x4 = 0)) then
     some (.inr (.inr (s2,x4)))
    else
     some (.inl (IntKind.wrap .i64 (s2 + 1)))
   else
    some (.inr (.inl ()))) 0).bind (Sum.elim (λ(p5:Unit) =>
  some (0,0)) some) = some (qbg g 0 l):=by
 rw [qaw l _ (λi a=>if g i a = 0 then none else some ((i:Int),g i a)) (λi a hi=>by
  have:=qa6 hi;rw [qU hi];simp only [qa];rw [h i a hi];simp only [qa];by_cases h:g i a = 0
  ·simp only [h,decide_true,Bool.not_true,cond_false,if_true,stp]; rw [qgG (by omega) (by omega)]
  ·simp [h,stp]),qQ,<- qfw g l 0]
 cases qaL (λi a=>if g i a = 0 then none else some ((i:Int),g i a)) 0 l <;> rfl
theorem qfq {g:Nat->α->Int}:∀ {l:List α} {k:Nat},(qbg g k l).2 = 0 ↔ ∀ i a,l[i]? = some a->g (k + i) a = 0
 | [],k=>by simp [qbg]
 | a :: l,k=>by
  simp only [qbg];by_cases h:g k a = 0
  ·rw [if_pos h,qfq];constructor
   ·intro hh i b hb;cases i with
    | zero=>simp at hb; subst hb; simpa using h
    | succ i=>have:=hh i b (by simpa using hb); rw [<- this]; congr 1; omega
   ·intro hh i b hb;have:=hh (i + 1) b (by simpa using hb);rw [<- this]; congr 1; omega
  ·rw [if_neg h];constructor
   ·intro hh; exact absurd hh h
   ·intro hh; exact absurd (by simpa using hh 0 a rfl) h
end
end Go.Tx
end
section
namespace Go.Tx
open Go
end Go.Tx
end
section
namespace Go.Tx
open Go
section
variable {α:Type}
end
end Go.Tx
end
section
namespace Go.Tx
open Go
section
variable {α β:Type}
def mkL (n:Nat) (f:Nat->α):List α:=(List.range n).map f
theorem qA3 (n:Nat) (f:Nat->α):(mkL n f).length = n:=by simp [mkL]
theorem qAO {n:Nat} (f:Nat->α) {k:Nat} (h:k < n):(mkL n f)[k]? = some (f k):=by simp [mkL,h]
theorem qyD {n:Nat} {f g:Nat->α} (h:∀ k,k < n->f k = g k):mkL n f = mkL n g:=List.map_congr_left λk hk=>h k (by simpa using hk)
theorem quB (l:List α) (d:α):l = mkL l.length λk=>l.getD k d:=by
 apply List.ext_getElem?;intro k;by_cases h:k < l.length
 ·rw [qAO _ h]; simp [h]
 ·rw [List.getElem?_eq_none (by omega),List.getElem?_eq_none (by rw [qA3]; omega)]
theorem qul {l:List α} {i:Nat} {d:α} (h:i < l.length):l.getD i d ∈ l:=by
 have:l[i]? = some (l.getD i d):=by simp [h]
 exact List.mem_of_getElem? this
theorem qA8 {K:List β × Int->Option ((List β × Int) ⊕ List β)} (l:List α) (f:α->β)
  (h:∀ (i:Nat) a out,l[i]? = some a->out.length = i->K (out,(i:Int)) = some (.inl (out ++ [f a],(i:Int) + 1))) (he:∀ out,out.length = l.length->K (out,(l.length:Int)) = some (.inr out)):qz K ([],0) = some (l.map f):=by
 refine Ok.eq (qbM l.length (λi (s:List β × Int)=>s = ((l.take i).map f,(i:Int))) (λr=>r = l.map f) (by simp) ?_);rintro i s hi rfl;by_cases hlt:i < l.length
 ·have ha:l[i]? = some l[i]:=by simp [hlt]
  rw [h i _ _ ha (by simp; omega),qV];refine ⟨hlt,?_⟩;have e:(l.take (i + 1)).map f = (l.take i).map f ++ [f l[i]]:=by rw [List.take_add_one,ha]; simp only [List.map_append,Option.toList_some,List.map_cons,List.map_nil]
  rw [e]; rfl
 ·have:i = l.length:=by omega
  subst this;rw [he _ (by simp),qaD];simp
theorem qy1 {l m:List α} (d:α):(l.length = m.length/\∀ i,i < l.length->l.getD i d = m.getD i d) ↔ l = m:=by
 constructor
 ·rintro ⟨h1,h2⟩;rw [quB l d,quB m d,h1];exact qyD λk hk=>h2 k (by omega)
 ·rintro rfl; exact ⟨rfl,λ_ _=>rfl⟩
theorem qxh [DecidableEq α] {l m:List α} (d:α) (hl:l.length = m.length) (hb:l.length<=1000000000) (e:α->α->Bool) (he:∀ a b,a ∈ l->b ∈ m->(e a b = true ↔ a = b)) {K:Int->Option (Int ⊕ (Unit ⊕ Bool))}
  (h:∀ i,i < l.length->K (i:Int) = some (if e (l.getD i d) (m.getD i d) = true then .inl ((i:Int) + 1) else .inr (.inr false))) :
  (qz (λs=>bif decide (s < (l.length:Int)) then K s else some (.inr (.inl ()))) 0).bind (Sum.elim (λ(p5:Unit)=>some true) some) = some (decide (l = m)):=by
 refine Ok.eq (qwD.2 ?_);refine (qbM l.length (λi (s:Int)=>s = (i:Int)/\∀ j,j < i->l.getD j d = m.getD j d) (λr=>(r = .inl ()/\∀ j,j < l.length->l.getD j d = m.getD j d)\/(r = .inr false/\∃ j,j < l.length/\l.getD j d ≠ m.getD j d)) ⟨rfl,by simp⟩ ?_).mono ?_
 ·rintro i s hi ⟨rfl,hI⟩;by_cases hlt:i < l.length
  ·have e0:decide ((i:Int) < (l.length:Int)) = true:=by simp <;> omega
   simp only [e0,cond_true];rw [h i hlt];have hm:=he (l.getD i d) (m.getD i d) (qul hlt) (qul (by omega));by_cases c:e (l.getD i d) (m.getD i d) = true
   ·rw [if_pos c,qV];refine ⟨hlt,by simp,λj hj=>?_⟩;by_cases hji:j < i
    ·exact hI j hji
    ·have:j = i:=by omega
     subst this; exact hm.1 c
   ·rw [if_neg c,qaD];exact .inr ⟨rfl,i,hlt,λh=>c (hm.2 h)⟩
  ·have:i = l.length:=by omega
   subst this;have e0:decide ((l.length:Int) < (l.length:Int)) = false:=by simp
   simp only [e0,cond_false];rw [qaD];exact .inl ⟨rfl,hI⟩
 ·rintro r (⟨rfl,h1⟩ | ⟨rfl,j,hj,hne⟩)
  ·simp only [qkT]; rw [eq_comm,decide_eq_true_iff]; exact (qy1 d).1 ⟨hl,h1⟩
  ·simp only; rw [eq_comm,decide_eq_false_iff_not]
   exact λh=>hne (by rw [h])
end
end Go.Tx
end
section
set_option maxRecDepth 100000
namespace Go.Proofs.YtkcaaaiihhhnmaaGreatDoor
open Go Go.Ab Go.Tx
noncomputable section
@[reducible] def I:Ty:=.int .i64
@[reducible] def w64 (n:Int):Int:=IntKind.wrap .i64 n
def qpI:List (List Tmp × FuncId × Kind × Join)->List Tmp->FuncId->Kind->Option Join
 | [],_,_,_=>none
 | (c,f,k,j) :: l,c',f',k'=>if f = f' then (if k = k' then (if c = c' then some j else qpI l c' f' k') else qpI l c' f' k') else qpI l c' f' k'
def qql:Nat:=7
def qCm:Nat:=121
def qb4 (js:List (List Tmp × FuncId × Kind × Join)) (inl:List (List Tmp × FuncId × Tmp)):TH where
 lib:=λg=>decide (g = qql) || decide (g = qCm)
 join:=qpI js
 inl:=λc f d=>inl.any λ(c',f',d')=>decide (f = f') && decide (d = d') && decide (c = c')
def qR (n:Int):Option Int:=if 0<=n/\n < 18446744073709551616 then some (Lib.ctz 64 n.toNat:Nat) else none
def Lb:FuncId->Option (List V->Option V):=λg=>if g = qql then some (λargs=>match args with
  | []=>some (.val (.bool true))
  | _=>none) else if g = qCm then some (λargs=>match args with
  | [.val (.int .u64 n)]=>(qR n).map λr=>.val (.int .i64 r)
  | _=>none) else none
theorem hJ {js:List (List Tmp × FuncId × Kind × Join)} {inl:List (List Tmp × FuncId × Tmp)}:∀ g,(qb4 js inl).lib g = false->Lb g = none:=λg h=>by
 simp only [qb4,Bool.or_eq_false_iff,decide_eq_false_iff_not] at h;simp [Lb,h.1,h.2]
def KT (e:Entry) (j:TH) (l:List Entry) (n:Nat):Prop:=∀ x:denP e.ps,fnT Tryz.prog Hn.hints j (qol l) n e.g (qeb e.ps x) e.rs = e.F x
abbrev OT (e:Entry):Prop:=qbj Tryz.prog Hn.hints Lb e
theorem entK {e:Entry} {j:TH} {l:List Entry} {n:Nat} (h:TOk Tryz.prog Hn.hints Lb (qol l)) (hj:∀ g,j.lib g = false->Lb g = none) (k:KT e j l n):OT e:=qcK h hj n e.g e.ps e.rs e.F k
abbrev gT:Ty:=.pair I (.pair I .unit)
def qiT:Option Bool:=some true
def qcV:Entry:=⟨7,[],[(.bool,0)],λ_=>qiT⟩
theorem qqg:qbj Tryz.prog Hn.hints Lb qcV:=λx y h vs hv=>by
 obtain rfl:true = y:=Option.some.inj h;simp only [qcV,qeb,RVL] at hv;subst hv;refine ⟨.val (.bool true),⟨1,λm hm=>?_⟩,by simp [qmJ,qcV,ofL,qbQ,ofTy,RV,RTy]⟩;obtain ⟨m',rfl⟩:∃ m',m = m' + 1:=⟨m - 1,by omega⟩
 simp [qre,Lb,qql,qcV]
def q5:Entry:=⟨121,[.ty (.int .u64)],[(I,0)],λx=>qR x⟩
theorem qfk:qbj Tryz.prog Hn.hints Lb q5:=λx y h vs hv=>by
 simp only [q5] at h hv x y;simp only [qeb,qBA,ofTy,RVL,RV,RTy] at hv;obtain ⟨v,l,rfl,rfl,rfl⟩:=hv;refine ⟨.val (.int .i64 y),⟨1,λm hm=>?_⟩,by simp [qmJ,q5,ofL,qbQ,ofTy,RV,RTy]⟩;obtain ⟨m',rfl⟩:∃ m',m = m' + 1:=⟨m - 1,by omega⟩
 simp [qre,Lb,qql,qCm,q5,h]
def qc9 (a0:((List Int) × (List Int) × Unit)):Option Bool :=
 (bif decide ((a0.1.length:Int)<=10) then
   some (decide ((a0.2.1.length:Int)<=10))
  else
   some false).bind λ(p1:Bool) =>
 some p1
def qf2:Entry:=⟨50,[.ty (.pair (.sl I) (.pair (.sl I) .unit))],[(.bool,0)],λx=>qc9 x⟩
def qpK:TH:=qb4 [([],50,.region 1,{ lv:=[⟨none,2,0⟩],ps:=[(.bool,0)],D:=⟨8188⟩,rs:=[⟨0,1⟩],Dn:=⟨7924⟩ })] []
theorem qqv:KT qf2 qpK [] 40:=λx=>by kernel_rfl
theorem qqj:OT qf2:=entK qn hJ qqv
def qjU (a0:((List (List UInt8)) × (List ((List UInt8) × (List Int) × (List Int) × (List Int) × (List Int) × Unit)) × (List ((List Int) × (List Int) × Unit)) × Unit)):Option Bool :=
 (bif decide ((a0.1.length:Int) > 10) then
   some true
  else
   bif decide ((a0.2.1.length:Int) > 12) then
    some true
   else
    some (decide ((a0.2.2.1.length:Int) > 6))).bind λ(p1:Bool) =>
 bif p1 then
  some false
 else
  (qz (λ(s3:Int) =>
    bif decide (s3 < (a0.1.length:Int)) then
     (idx a0.1 s3).bind λx4 =>
     bif decide ((x4.length:Int) > 30) then
      some (.inr (.inr false))
     else
      some (.inl (w64 (s3 + 1)))
    else
     some (.inr (.inl ()))) 0).bind (Sum.elim (λ(p5:Unit) =>
  (qz (λ(s7:Int) =>
    bif decide (s7 < (a0.2.1.length:Int)) then
     ((idx a0.2.1 s7).bind λx8 =>
      bif decide ((x8.1.length:Int) > 30) then
       some true
      else
       (idx a0.2.1 s7).bind λx9 =>
       (qc9 (x9.2.1,x9.2.2.1,())).bind λx10 =>
       bif !x10 then
        some true
       else
        (idx a0.2.1 s7).bind λx11 =>
        (qc9 (x11.2.2.2.1,x11.2.2.2.2.1,())).bind λx12 =>
        some (!x12)).bind λ(p13:Bool) =>
     bif p13 then
      some (.inr (.inr false))
     else
      some (.inl (w64 (s7 + 1)))
    else
     some (.inr (.inl ()))) 0).bind (Sum.elim (λ(p14:Unit) =>
  (qz (λ(s16:Int) =>
    bif decide (s16 < (a0.2.2.1.length:Int)) then
     (idx a0.2.2.1 s16).bind λx17 =>
     (qc9 x17).bind λx18 =>
     bif !x18 then
      some (.inr (.inr false))
     else
      some (.inl (w64 (s16 + 1)))
    else
     some (.inr (.inl ()))) 0).bind (Sum.elim (λ(p19:Unit) =>
  some true) some)) some)) some)
def qiA:Entry:=⟨8,[.ty (.pair (.sl .str) (.pair (.sl (.pair .str (.pair (.sl I) (.pair (.sl I) (.pair (.sl I) (.pair (.sl I) .unit)))))) (.pair (.sl (.pair (.sl I) (.pair (.sl I) .unit))) .unit)))],[(.bool,0)],λx=>qjU x⟩
def qs6:TH:=qb4 [([],8,.region 1,{ lv:=[⟨none,21,0⟩],ps:=[(.bool,0)],D:=⟨4194240⟩,rs:=[⟨0,1⟩],Dn:=⟨4061056⟩ }),
 ([],8,.block 0,{ lv:=[],ps:=[],abn:=true,D:=⟨68715282440⟩,rs:=[⟨0,1⟩],Dn:=⟨68706893832⟩ }),
 ([],8,.loop 0,{ lv:=[⟨none,3,0⟩],ps:=[(I,0)],D:=⟨68715282440⟩,rs:=[⟨0,1⟩],Dn:=⟨68170022920⟩ }),
 ([],8,.block 2,{ lv:=[],ps:=[],abn:=true,D:=⟨2361183241366103130128⟩,rs:=[⟨0,1⟩],Dn:=⟨2361183241228664176656⟩ }),
 ([],8,.loop 2,{ lv:=[⟨none,4,0⟩],ps:=[(I,0)],D:=⟨2361183241366103130128⟩,rs:=[⟨0,1⟩],Dn:=⟨2356567042814516396048⟩ }),
 ([],8,.region 11,{ lv:=[⟨none,70,0⟩],ps:=[(.bool,0)],D:=⟨2361183232638729584640⟩,rs:=[⟨0,1⟩],Dn:=⟨2356567034224581804032⟩ }),
 ([],8,.block 4,{ lv:=[],ps:=[],abn:=true,D:=⟨38683265044426698767990816⟩,rs:=[⟨0,1⟩],Dn:=⟨38678542677943829122777120⟩ }),
 ([],8,.loop 4,{ lv:=[⟨none,5,0⟩],ps:=[(I,0)],D:=⟨38683265044426698767990816⟩,rs:=[⟨0,1⟩],Dn:=⟨38376311223040171829100576⟩ })] []
theorem qtk:KT qiA qs6 [qf2] 40:=λx=>by kernel_rfl
theorem qtb:OT qiA:=entK (qg qqj qn) hJ qtk
def qcr (a0:Int) (a1:Int) (a2:Int):Option Bool :=
 (bif decide (a1<=a0) then
   some (decide (a0<=a2))
  else
   some false).bind λ(p1:Bool) =>
 some p1
def qcT:Entry:=⟨9,[.ty I,.ty I,.ty I],[(.bool,0)],λx=>qcr x.1 x.2.1 x.2.2⟩
def qpT:TH:=qb4 [([],9,.region 1,{ lv:=[⟨none,6,0⟩],ps:=[(.bool,0)],D:=⟨32704⟩ })] []
theorem qqC:KT qcT qpT [] 40:=λx=>by kernel_rfl
theorem qf1:OT qcT:=entK qn hJ qqC
def qfg (a0:(List (List UInt8))):Option (List (List UInt8)) :=
 (app [] a0).bind λx1 =>
 some x1
def qdN:Entry:=⟨54,[.ty (.sl .str)],[((.sl .str),1)],λx=>qfg x⟩
def qlz:TH:=qb4 [] []
theorem qlN:KT qdN qlz [] 40:=λx=>by kernel_rfl
theorem qlw:OT qdN:=entK qn hJ qlN
def qbp (a0:(List Int)):Option (List Int) :=
 (app [] a0).bind λx1 =>
 some x1
def qcB:Entry:=⟨21,[.ty (.sl I)],[((.sl I),1)],λx=>qbp x⟩
def qnd:TH:=qb4 [] []
theorem qn7:KT qcB qnd [] 40:=λx=>by kernel_rfl
theorem qg1:OT qcB:=entK qn hJ qn7
def qau (a0:((List Int) × (List Int) × Unit)):Option ((List Int) × (List Int) × Unit) :=
 (qbp a0.1).bind λx1 =>
 (qbp a0.2.1).bind λx2 =>
 some (x1,x2,())
def qdJ:Entry:=⟨55,[.ty (.pair (.sl I) (.pair (.sl I) .unit))],[((.pair (.sl I) (.pair (.sl I) .unit)),1)],λx=>qau x⟩
def qlG:TH:=qb4 [] []
theorem qlC:KT qdJ qlG [qcB] 40:=λx=>by kernel_rfl
theorem qlK:OT qdJ:=entK (qg qg1 qn) hJ qlC
def qeh (a0:((List (List UInt8)) × (List ((List UInt8) × (List Int) × (List Int) × (List Int) × (List Int) × Unit)) × (List ((List Int) × (List Int) × Unit)) × Unit)):Option ((List (List UInt8)) × (List ((List UInt8) × (List Int) × (List Int) × (List Int) × (List Int) × Unit)) × (List ((List Int) × (List Int) × Unit)) × Unit) :=
 (qfg a0.1).bind λx1 =>
 (qz (λ(s4:(Int × (List (List UInt8)) × (List ((List UInt8) × (List Int) × (List Int) × (List Int) × (List Int) × Unit)) × (List ((List Int) × (List Int) × Unit)))) =>
   bif decide (s4.1 < (a0.2.1.length:Int)) then
    (idx a0.2.1 s4.1).bind λx5 =>
    (idx a0.2.1 s4.1).bind λx6 =>
    (qau (x6.2.1,x6.2.2.1,())).bind λx7 =>
    (idx a0.2.1 s4.1).bind λx8 =>
    (qau (x8.2.2.2.1,x8.2.2.2.2.1,())).bind λx9 =>
    (app s4.2.2.1 ([(x5.1,x7.1,x7.2.1,x9.1,x9.2.1,())])).bind λx10 =>
    some (.inl (w64 (s4.1 + 1),s4.2.1,x10,s4.2.2.2))
   else
    some (.inr (s4.2.1,s4.2.2.1,s4.2.2.2))) (0,x1,[],[])).bind λ(p11:((List (List UInt8)) × (List ((List UInt8) × (List Int) × (List Int) × (List Int) × (List Int) × Unit)) × (List ((List Int) × (List Int) × Unit)))) =>
 (qz (λ(s13:(Int × (List (List UInt8)) × (List ((List UInt8) × (List Int) × (List Int) × (List Int) × (List Int) × Unit)) × (List ((List Int) × (List Int) × Unit)))) =>
   bif decide (s13.1 < (a0.2.2.1.length:Int)) then
    (idx a0.2.2.1 s13.1).bind λx14 =>
    (qau x14).bind λx15 =>
    (app s13.2.2.2 ([x15])).bind λx16 =>
    some (.inl (w64 (s13.1 + 1),s13.2.1,s13.2.2.1,x16))
   else
    some (.inr (s13.2.1,s13.2.2.1,s13.2.2.2))) (0,p11.1,p11.2.1,p11.2.2)).bind λ(p17:((List (List UInt8)) × (List ((List UInt8) × (List Int) × (List Int) × (List Int) × (List Int) × Unit)) × (List ((List Int) × (List Int) × Unit)))) =>
 some (p17.1,p17.2.1,p17.2.2,())
def qg3:Entry:=⟨11,[.ty (.pair (.sl .str) (.pair (.sl (.pair .str (.pair (.sl I) (.pair (.sl I) (.pair (.sl I) (.pair (.sl I) .unit)))))) (.pair (.sl (.pair (.sl I) (.pair (.sl I) .unit))) .unit)))],[((.pair (.sl .str) (.pair (.sl (.pair .str (.pair (.sl I) (.pair (.sl I) (.pair (.sl I) (.pair (.sl I) .unit)))))) (.pair (.sl (.pair (.sl I) (.pair (.sl I) .unit))) .unit))),0)],λx=>qeh x⟩
def qsh:TH:=qb4 [([],11,.block 0,{ lv:=[⟨some 0,3,0⟩,⟨some 0,3,1⟩,⟨some 0,3,2⟩],ps:=[((.sl .str),1),((.sl (.pair .str (.pair (.sl I) (.pair (.sl I) (.pair (.sl I) (.pair (.sl I) .unit)))))),2),((.sl (.pair (.sl I) (.pair (.sl I) .unit))),1)],D:=⟨8796093021200⟩,wr:=[⟨0,3⟩],rs:=[⟨0,1⟩],Dn:=⟨8796093019152⟩ }),
 ([],11,.loop 0,{ lv:=[⟨none,4,0⟩,⟨some 0,3,0⟩,⟨some 0,3,1⟩,⟨some 0,3,2⟩],ps:=[(I,0),((.sl .str),1),((.sl (.pair .str (.pair (.sl I) (.pair (.sl I) (.pair (.sl I) (.pair (.sl I) .unit)))))),2),((.sl (.pair (.sl I) (.pair (.sl I) .unit))),1)],D:=⟨8796093021200⟩,wr:=[⟨0,3⟩],rs:=[⟨0,1⟩,⟨0,3⟩],Dn:=⟨4393717330960⟩ }),
 ([],11,.block 2,{ lv:=[⟨some 0,3,0⟩,⟨some 0,3,1⟩,⟨some 0,3,2⟩],ps:=[((.sl .str),1),((.sl (.pair .str (.pair (.sl I) (.pair (.sl I) (.pair (.sl I) (.pair (.sl I) .unit)))))),2),((.sl (.pair (.sl I) (.pair (.sl I) .unit))),2001)],D:=⟨2305834213120671776⟩,wr:=[⟨0,3⟩],rs:=[⟨0,1⟩],Dn:=⟨2305816620934627360⟩ }),
 ([],11,.loop 2,{ lv:=[⟨none,5,0⟩,⟨some 0,3,0⟩,⟨some 0,3,1⟩,⟨some 0,3,2⟩],ps:=[(I,0),((.sl .str),1),((.sl (.pair .str (.pair (.sl I) (.pair (.sl I) (.pair (.sl I) (.pair (.sl I) .unit)))))),2),((.sl (.pair (.sl I) (.pair (.sl I) .unit))),2001)],D:=⟨2305834213120671776⟩,wr:=[⟨0,3⟩],rs:=[⟨0,1⟩,⟨0,3⟩],Dn:=⟨1147265616793567264⟩ })] []
theorem qrW:KT qg3 qsh [qdN,qdJ] 40:=λx=>by kernel_rfl
theorem qsB:OT qg3:=entK (qg qlw (qg qlK qn)) hJ qrW
def qt (a0:Bool) (a1:Int):Option Int :=
 bif a0 then
  some 0
 else
  some a1
def qD:Entry:=⟨73,[.ty .bool,.ty I],[(I,0)],λx=>qt x.1 x.2⟩
def qex:TH:=qb4 [] []
theorem qeA:KT qD qex [] 40:=λx=>by kernel_rfl
theorem qaz:OT qD:=entK qn hJ qeA
def qF (a0:(List Int)):Option Int :=
 (qz (λ(s2:Int) =>
   bif decide (s2 < (a0.length:Int)) then
    (idx a0 s2).bind λx3 =>
    bif !(decide (x3 = 0)) then
     some (.inr (.inr x3))
    else
     some (.inl (w64 (s2 + 1)))
   else
    some (.inr (.inl ()))) 0).bind (Sum.elim (λ(p4:Unit) =>
 some 0) some)
def qP:Entry:=⟨72,[.ty (.sl I)],[(I,0)],λx=>qF x⟩
def qfi:TH:=qb4 [([],72,.block 0,{ lv:=[],ps:=[],abn:=true,D:=⟨32656⟩ }),
 ([],72,.loop 0,{ lv:=[⟨none,7,0⟩],ps:=[(I,0)],D:=⟨32656⟩ })] []
theorem qfe:KT qP qfi [] 40:=λx=>by kernel_rfl
theorem qaS:OT qP:=entK qn hJ qfe
def qw (a0:Int) (a1:Int) (a2:Int):Option Bool :=
 (bif decide (a1<=a0) then
   some (decide (a0<=a2))
  else
   some false).bind λ(p1:Bool) =>
 some p1
def qC:Entry:=⟨74,[.ty I,.ty I,.ty I],[(.bool,0)],λx=>qw x.1 x.2.1 x.2.2⟩
def qep:TH:=qb4 [([],74,.region 1,{ lv:=[⟨none,6,0⟩],ps:=[(.bool,0)],D:=⟨32704⟩ })] []
theorem qeu:KT qC qep [] 40:=λx=>by kernel_rfl
theorem qay:OT qC:=entK qn hJ qeu
def qbb (a0:(List UInt8)):Option Bool :=
 (qz (λ(s2:Int) =>
   bif decide (s2 < (a0.length:Int)) then
    (idx a0 s2).bind λx3 =>
    ((qw (w64 ((x3.toNat:Int))) (97:Int) (122:Int)).bind λx4 =>
     bif x4 then
      some true
     else
      (qw (w64 ((x3.toNat:Int))) (65:Int) (90:Int)).bind λx5 =>
      some x5).bind λ(p6:Bool) =>
    (bif !p6 then
      bif decide (s2 = 0) then
       some true
      else
       bif !(decide (w64 ((x3.toNat:Int)) = 45)) then
        (qw (w64 ((x3.toNat:Int))) (48:Int) (57:Int)).bind λx7 =>
        some (!x7)
       else
        some false
     else
      some false).bind λ(p8:Bool) =>
    bif p8 then
     some (.inr (.inr false))
    else
     some (.inl (w64 (s2 + 1)))
   else
    some (.inr (.inl ()))) 0).bind (Sum.elim (λ(p9:Unit) =>
 (qw (a0.length:Int) (1:Int) (12:Int)).bind λx10 =>
 some x10) some)
def qeF:Entry:=⟨156,[.ty .str],[(.bool,0)],λx=>qbb x⟩
def qmO:TH:=qb4 [([],156,.block 0,{ lv:=[],ps:=[],abn:=true,D:=⟨137438953272⟩ }),
 ([],156,.loop 0,{ lv:=[⟨none,8,0⟩],ps:=[(I,0)],D:=⟨137438953272⟩ }),
 ([],156,.region 5,{ lv:=[⟨none,5,0⟩],ps:=[(.bool,0)],D:=⟨2064416⟩ }),
 ([],156,.region 6,{ lv:=[⟨none,35,0⟩],ps:=[(.bool,0)],D:=⟨68717379584⟩ })] []
theorem qmr:KT qeF qmO [qC] 40:=λx=>by kernel_rfl
theorem qnw:OT qeF:=entK (qg qay qn) hJ qmr
def qbL (a0:(List Int)) (a1:Int):Option Int :=
 (qz (λ(s2:Int) =>
   bif decide (s2 < (a0.length:Int)) then
    (idx a0 s2).bind λx3 =>
    bif decide (a1 = x3) then
     some (.inr (.inr s2))
    else
     some (.inl (w64 (s2 + 1)))
   else
    some (.inr (.inl ()))) 0).bind (Sum.elim (λ(p4:Unit) =>
 some (-1)) some)
def qbe:Entry:=⟨221,[.ty (.sl I),.ty I],[(I,0)],λx=>qbL x.1 x.2⟩
def qfY:TH:=qb4 [([],221,.block 0,{ lv:=[],ps:=[],abn:=true,D:=⟨524064⟩ }),
 ([],221,.loop 0,{ lv:=[⟨none,8,0⟩],ps:=[(I,0)],D:=⟨524064⟩ })] []
theorem qgf:KT qbe qfY [] 40:=λx=>by kernel_rfl
theorem qgd:OT qbe:=entK qn hJ qgf
def q9 (a0:(List Int)) (a1:Int):Option Bool :=
 (qbL a0 a1).bind λx1 =>
 some (decide (x1>=0))
def qaJ:Entry:=⟨193,[.ty (.sl I),.ty I],[(.bool,0)],λx=>q9 x.1 x.2⟩
def qeO:TH:=qb4 [] []
theorem qeN:KT qaJ qeO [qbe] 40:=λx=>by kernel_rfl
theorem qeM:OT qaJ:=entK (qg qgd qn) hJ qeN
def qaZ (a0:(List Int)) (a1:Int):Option Int :=
 ((qz (λ(s2:(Int × Int)) =>
    bif decide (s2.1 < (a0.length:Int)) then
     (idx a0 s2.1).bind λx3 =>
     (qw x3 (0:Int) (w64 (a1 - 1))).bind λx4 =>
     (qt x4 (6:Int)).bind λx5 =>
     (qt (decide (x3 > s2.2)) (9:Int)).bind λx6 =>
     (qF ([x5,x6])).bind λx7 =>
     bif !(decide (x7 = 0)) then
      some (.inr (.inr (s2.1,x7,x3)))
     else
      some (.inl (w64 (s2.1 + 1),x3))
    else
     some (.inr (.inl s2.2))) (0,(-1))).bind (Sum.elim (λ(p8:Int) =>
  some (0,0,p8)) some)).bind λ(p9:(Int × Int × Int)) =>
 some p9.2.1
def qct:Entry:=⟨194,[.ty (.sl I),.ty I],[(I,0)],λx=>qaZ x.1 x.2⟩
def qim:TH:=qb4 [([11],70,.inl 0,{ lv:=[⟨none,4,0⟩,⟨none,5,0⟩,⟨some 0,5,0⟩],ps:=[(I,0),(I,0),(I,0)],D:=⟨33554416⟩,wr:=[⟨0,5⟩],rs:=[⟨0,3⟩,⟨0,5⟩],Dn:=⟨33488880⟩ }),
 ([11],70,.block 0,{ lv:=[⟨some 0,5,0⟩],ps:=[(I,0)],abn:=true,D:=⟨33552832⟩,wr:=[⟨0,5⟩] }),
 ([11],70,.loop 0,{ lv:=[⟨none,11,0⟩,⟨some 0,5,0⟩],ps:=[(I,0),(I,0)],D:=⟨33552832⟩,wr:=[⟨0,5⟩],rs:=[⟨0,3⟩,⟨0,5⟩],Dn:=⟨33487296⟩ })] []
theorem qiv:KT qct qim [qP,qD,qC] 40:=λx=>by kernel_rfl
theorem qio:OT qct:=entK (qg qaS (qg qaz (qg qay qn))) hJ qiv
def qav (a0:((List Int) × (List Int) × Unit)) (a1:Int):Option Int :=
 ((qz (λ(s2:Int) =>
    bif decide (s2 < (a0.1.length:Int)) then
     (idx a0.1 s2).bind λx3 =>
     (q9 a0.2.1 x3).bind λx4 =>
     bif x4 then
      some (.inr (.inr s2))
     else
      some (.inl (w64 (s2 + 1)))
    else
     some (.inr (.inl ()))) 0).bind (Sum.elim (λ(p5:Unit) =>
  some (-1)) some)).bind λ(p6:Int) =>
 (qaZ a0.1 a1).bind λx7 =>
 (qaZ a0.2.1 a1).bind λx8 =>
 (qt (!(decide (p6>=0))) (13:Int)).bind λx9 =>
 (qF ([x7,x8,x9])).bind λx10 =>
 some x10
def qdQ:Entry:=⟨143,[.ty (.pair (.sl I) (.pair (.sl I) .unit)),.ty I],[(I,0)],λx=>qav x.1 x.2⟩
def qlI:TH:=qb4 [([7,9],201,.inl 0,{ lv:=[⟨none,4,0⟩],ps:=[(I,0)],D:=⟨524272⟩,rs:=[⟨0,2⟩],Dn:=⟨522224⟩ }),
 ([7,9],201,.block 0,{ lv:=[],ps:=[],abn:=true,D:=⟨524064⟩ }),
 ([7,9],201,.loop 0,{ lv:=[⟨none,8,0⟩],ps:=[(I,0)],D:=⟨524064⟩,rs:=[⟨0,2⟩],Dn:=⟨522016⟩ })] []
theorem qlu:KT qdQ qlI [qP,qct,qD,qaJ] 40:=λx=>by kernel_rfl
theorem qlE:OT qdQ:=entK (qg qaS (qg qio (qg qaz (qg qeM qn)))) hJ qlu
def qbn (a0:((List (List UInt8)) × (List ((List UInt8) × (List Int) × (List Int) × (List Int) × (List Int) × Unit)) × (List ((List Int) × (List Int) × Unit)) × Unit)):Option (Int × Int) :=
 (bif decide ((a0.1.length:Int)<=8) then
   bif decide ((a0.2.1.length:Int)<=10) then
    some (decide ((a0.2.2.1.length:Int)<=4))
   else
    some false
  else
   some false).bind λ(p1:Bool) =>
 (qt (decide ((a0.1.length:Int) > 0)) (10:Int)).bind λx2 =>
 (qt p1 (8:Int)).bind λx3 =>
 (qF ([x2,x3])).bind λx4 =>
 bif !(decide (x4 = 0)) then
  some (0,x4)
 else
  ((qz (λ(s6:(Int × (List (List UInt8)))) =>
     bif decide (s6.1 < (a0.1.length:Int)) then
      (idx a0.1 s6.1).bind λx7 =>
      (qbb x7).bind λx8 =>
      (qt x8 (4:Int)).bind λx9 =>
      (qt (!(qfM .str s6.2 x7)) (5:Int)).bind λx10 =>
      (qF ([x9,x10])).bind λx11 =>
      bif !(decide (x11 = 0)) then
       some (.inr (.inr (s6.1,x11,qjB .str s6.2 x7)))
      else
       some (.inl (w64 (s6.1 + 1),qjB .str s6.2 x7))
     else
      some (.inr (.inl s6.2))) (0,[])).bind (Sum.elim (λ(p12:(List (List UInt8))) =>
   some (0,0,p12)) some)).bind λ(p13:(Int × Int × (List (List UInt8)))) =>
  bif !(decide (p13.2.1 = 0)) then
   some (p13.1,p13.2.1)
  else
   ((qz (λ(s15:(Int × (List (List UInt8)))) =>
      bif decide (s15.1 < (a0.2.1.length:Int)) then
       (idx a0.2.1 s15.1).bind λx16 =>
       (qbb x16.1).bind λx17 =>
       (qt x17 (4:Int)).bind λx18 =>
       (qt (!(qfM .str s15.2 x16.1)) (5:Int)).bind λx19 =>
       (qF ([x18,x19])).bind λx20 =>
       (qav (x16.2.1,x16.2.2.1,()) (a0.1.length:Int)).bind λx21 =>
       (qav (x16.2.2.2.1,x16.2.2.2.2.1,()) (a0.1.length:Int)).bind λx22 =>
       (qF ([x20,x21,x22])).bind λx23 =>
       bif !(decide (x23 = 0)) then
        some (.inr (.inr (s15.1,x23,qjB .str s15.2 x16.1)))
       else
        some (.inl (w64 (s15.1 + 1),qjB .str s15.2 x16.1))
      else
       some (.inr (.inl s15.2))) (0,[])).bind (Sum.elim (λ(p24:(List (List UInt8))) =>
    some (0,0,p24)) some)).bind λ(p25:(Int × Int × (List (List UInt8)))) =>
   bif !(decide (p25.2.1 = 0)) then
    some (p25.1,p25.2.1)
   else
    ((qz (λ(s27:Int) =>
       bif decide (s27 < (a0.2.2.1.length:Int)) then
        (idx a0.2.2.1 s27).bind λx28 =>
        (qav x28 (a0.1.length:Int)).bind λx29 =>
        bif !(decide (x29 = 0)) then
         some (.inr (.inr (s27,x29)))
        else
         some (.inl (w64 (s27 + 1)))
       else
        some (.inr (.inl ()))) 0).bind (Sum.elim (λ(p30:Unit) =>
     some (0,0)) some)).bind λ(p31:(Int × Int)) =>
    some (p31.1,p31.2)
def qbP:Entry:=⟨88,[.ty (.pair (.sl .str) (.pair (.sl (.pair .str (.pair (.sl I) (.pair (.sl I) (.pair (.sl I) (.pair (.sl I) .unit)))))) (.pair (.sl (.pair (.sl I) (.pair (.sl I) .unit))) .unit)))],[(I,0),(I,0)],λx=>qbn x⟩
def qgU:TH:=qb4 [([],88,.region 2,{ lv:=[⟨none,5,0⟩],ps:=[(.bool,0)],D:=⟨536838176⟩,rs:=[⟨0,1⟩],Dn:=⟨519798816⟩ }),
 ([44],139,.inl 0,{ lv:=[⟨none,4,0⟩,⟨none,5,0⟩,⟨some 0,16423,0⟩],ps:=[(I,0),(I,0),((.mset .str),0)],D:=⟨33554416⟩,wr:=[⟨0,16423⟩],rs:=[⟨0,7⟩],Dn:=⟨33488880⟩ }),
 ([44],139,.block 0,{ lv:=[⟨some 0,16423,0⟩],ps:=[((.mset .str),0)],abn:=true,D:=⟨33552832⟩,wr:=[⟨0,16423⟩] }),
 ([44],139,.loop 0,{ lv:=[⟨none,11,0⟩,⟨some 0,16423,0⟩],ps:=[(I,0),((.mset .str),0)],D:=⟨33552832⟩,wr:=[⟨0,16423⟩],rs:=[⟨0,7⟩],Dn:=⟨33487296⟩ }),
 ([56],141,.inl 0,{ lv:=[⟨none,4,0⟩,⟨none,5,0⟩,⟨some 0,16435,0⟩],ps:=[(I,0),(I,0),((.mset .str),0)],D:=⟨33554416⟩,wr:=[⟨0,16435⟩,⟨1,7⟩],rs:=[⟨0,4⟩,⟨0,7⟩,⟨1,7⟩],Dn:=⟨33488752⟩ }),
 ([56],141,.block 0,{ lv:=[⟨some 0,16435,0⟩],ps:=[((.mset .str),0)],abn:=true,D:=⟨33552832⟩,wr:=[⟨0,16435⟩,⟨1,7⟩] }),
 ([56],141,.loop 0,{ lv:=[⟨none,11,0⟩,⟨some 0,16435,0⟩],ps:=[(I,0),((.mset .str),0)],D:=⟨33552832⟩,wr:=[⟨0,16435⟩,⟨1,7⟩],rs:=[⟨0,4⟩,⟨0,7⟩,⟨1,7⟩],Dn:=⟨33487168⟩ }),
 ([66],144,.inl 0,{ lv:=[⟨none,4,0⟩,⟨none,5,0⟩],ps:=[(I,0),(I,0)],D:=⟨33554416⟩,wr:=[⟨1,7⟩],rs:=[⟨0,4⟩,⟨1,7⟩],Dn:=⟨33488752⟩ }),
 ([66],144,.block 0,{ lv:=[],ps:=[],abn:=true,D:=⟨33552832⟩,wr:=[⟨1,7⟩] }),
 ([66],144,.loop 0,{ lv:=[⟨none,11,0⟩],ps:=[(I,0)],D:=⟨33552832⟩,wr:=[⟨1,7⟩],rs:=[⟨0,4⟩,⟨1,7⟩],Dn:=⟨33487168⟩ })] []
theorem qhi:KT qbP qgU [qP,qeF,qdQ,qD] 40:=λx=>by kernel_rfl
theorem qhc:OT qbP:=entK (qg qaS (qg qnw (qg qlE (qg qaz qn)))) hJ qhi
def qgO (a0:(List Int)):Option Int :=
 (qz (λ(s2:(Int × Int)) =>
   bif decide (s2.2 < (a0.length:Int)) then
    (idx a0 s2.2).bind λx3 =>
    (qsE .i64 (1:Int) x3).bind λx4 =>
    some (.inl (orI .i64 s2.1 x4,w64 (s2.2 + 1)))
   else
    some (.inr s2.1)) (0,0)).bind λ(p5:Int) =>
 some p5
def qii:Entry:=⟨202,[.ty (.sl I)],[(I,0)],λx=>qgO x⟩
def qtP:TH:=qb4 [([],202,.block 0,{ lv:=[⟨none,3,0⟩],ps:=[(I,0)],D:=⟨130856⟩ }),
 ([],202,.loop 0,{ lv:=[⟨none,3,0⟩,⟨none,8,0⟩],ps:=[(I,0),(I,0)],D:=⟨130856⟩ })] []
theorem qs2:KT qii qtP [] 40:=λx=>by kernel_rfl
theorem qsS:OT qii:=entK qn hJ qs2
def qat (a0:((List Int) × (List Int) × Unit)):Option (Int × Int × Unit) :=
 (qgO a0.1).bind λx1 =>
 (qgO a0.2.1).bind λx2 =>
 some (x1,x2,())
def qdM:Entry:=⟨168,[.ty (.pair (.sl I) (.pair (.sl I) .unit))],[(gT,0)],λx=>qat x⟩
def qlv:TH:=qb4 [] []
theorem qlD:KT qdM qlv [qii] 40:=λx=>by kernel_rfl
theorem qlH:OT qdM:=entK (qg qsS qn) hJ qlD
def qf5 (a0:((List (List UInt8)) × (List ((List UInt8) × (List Int) × (List Int) × (List Int) × (List Int) × Unit)) × (List ((List Int) × (List Int) × Unit)) × Unit)):Option (((List (Int × Int × Unit)) × (List (Int × Int × Unit)) × (List (Int × Int × Unit)) × Int × Unit) × Int) :=
 (qbn a0).bind λx1 =>
 bif !(decide (x1.2 = 0)) then
  some (([],[],[],0,()),x1.2)
 else
  (qsE .i64 (1:Int) (a0.1.length:Int)).bind λx2 =>
  (qz (λ(s5:(Int × (List (Int × Int × Unit)) × (List (Int × Int × Unit)) × (List (Int × Int × Unit)) × Int)) =>
    bif decide (s5.1 < (a0.2.1.length:Int)) then
     (idx a0.2.1 s5.1).bind λx6 =>
     (qat (x6.2.1,x6.2.2.1,())).bind λx7 =>
     (app s5.2.1 ([x7])).bind λx8 =>
     (qat (x6.2.2.2.1,x6.2.2.2.2.1,())).bind λx9 =>
     (app s5.2.2.1 ([x9])).bind λx10 =>
     some (.inl (w64 (s5.1 + 1),x8,x10,s5.2.2.2.1,s5.2.2.2.2))
    else
     some (.inr (s5.2.1,s5.2.2.1,s5.2.2.2.1,s5.2.2.2.2))) (0,[],[],[],x2)).bind λ(p11:((List (Int × Int × Unit)) × (List (Int × Int × Unit)) × (List (Int × Int × Unit)) × Int)) =>
  (qz (λ(s14:(Int × (List (Int × Int × Unit)) × (List (Int × Int × Unit)) × (List (Int × Int × Unit)) × Int)) =>
    bif decide (s14.1 < (a0.2.2.1.length:Int)) then
     (idx a0.2.2.1 s14.1).bind λx15 =>
     (qat x15).bind λx16 =>
     (app s14.2.2.2.1 ([x16])).bind λx17 =>
     some (.inl (w64 (s14.1 + 1),s14.2.1,s14.2.2.1,x17,s14.2.2.2.2))
    else
     some (.inr (s14.2.1,s14.2.2.1,s14.2.2.2.1,s14.2.2.2.2))) (0,p11.1,p11.2.1,p11.2.2.1,p11.2.2.2)).bind λ(p18:((List (Int × Int × Unit)) × (List (Int × Int × Unit)) × (List (Int × Int × Unit)) × Int)) =>
  some ((p18.1,p18.2.1,p18.2.2.1,p18.2.2.2,()),0)
def qf8:Entry:=⟨115,[.ty (.pair (.sl .str) (.pair (.sl (.pair .str (.pair (.sl I) (.pair (.sl I) (.pair (.sl I) (.pair (.sl I) .unit)))))) (.pair (.sl (.pair (.sl I) (.pair (.sl I) .unit))) .unit)))],[((.pair (.sl gT) (.pair (.sl gT) (.pair (.sl gT) (.pair I .unit)))),2000),(I,0)],λx=>qf5 x⟩
def qqI:TH:=qb4 [([],115,.block 0,{ lv:=[⟨some 0,6,0⟩,⟨some 0,6,1⟩,⟨some 0,6,2⟩,⟨some 0,6,3⟩],ps:=[((.sl gT),1),((.sl gT),1),((.sl gT),1),(I,0)],D:=⟨562949684987136⟩,wr:=[⟨0,6⟩,⟨0,8⟩] }),
 ([],115,.loop 0,{ lv:=[⟨none,28,0⟩,⟨some 0,6,0⟩,⟨some 0,6,1⟩,⟨some 0,6,2⟩,⟨some 0,6,3⟩],ps:=[(I,0),((.sl gT),1),((.sl gT),1),((.sl gT),1),(I,0)],D:=⟨562949684987136⟩,wr:=[⟨0,6⟩,⟨0,8⟩],rs:=[⟨0,6⟩,⟨0,8⟩],Dn:=⟨349073198547968⟩ }),
 ([],115,.block 2,{ lv:=[⟨some 0,6,0⟩,⟨some 0,6,1⟩,⟨some 0,6,2⟩,⟨some 0,6,3⟩],ps:=[((.sl gT),1),((.sl gT),1),((.sl gT),1),(I,0)],D:=⟨18442240474082182400⟩,wr:=[⟨0,6⟩,⟨0,8⟩,⟨0,10⟩] }),
 ([],115,.loop 2,{ lv:=[⟨none,52,0⟩,⟨some 0,6,0⟩,⟨some 0,6,1⟩,⟨some 0,6,2⟩,⟨some 0,6,3⟩],ps:=[(I,0),((.sl gT),1),((.sl gT),1),((.sl gT),1),(I,0)],D:=⟨18442240474082182400⟩,wr:=[⟨0,6⟩,⟨0,8⟩,⟨0,10⟩],rs:=[⟨0,6⟩,⟨0,10⟩],Dn:=⟨13758496861616865536⟩ })] []
theorem qpx:KT qf8 qqI [qbP,qdM] 40:=λx=>by kernel_rfl
theorem qqD:OT qf8:=entK (qg qhc (qg qlH qn)) hJ qpx
def qaN (a0:((List (List UInt8)) × (List ((List UInt8) × (List Int) × (List Int) × (List Int) × (List Int) × Unit)) × (List ((List Int) × (List Int) × Unit)) × Unit)) (a1:Int):Option (((List (Int × Int × Unit)) × (List (Int × Int × Unit)) × (List (Int × Int × Unit)) × Int × Unit) × Int × Int) :=
 (qf5 a0).bind λx1 =>
 (qw a1 (0:Int) (w64 (x1.1.2.2.2.1 - 1))).bind λx2 =>
 (qt x2 (2:Int)).bind λx3 =>
 (qF ([x1.2,x3])).bind λx4 =>
 some (x1.1,a1,x4)
def qaQ:Entry:=⟨51,[.ty (.pair (.sl .str) (.pair (.sl (.pair .str (.pair (.sl I) (.pair (.sl I) (.pair (.sl I) (.pair (.sl I) .unit)))))) (.pair (.sl (.pair (.sl I) (.pair (.sl I) .unit))) .unit))),.ty I],[((.pair (.sl gT) (.pair (.sl gT) (.pair (.sl gT) (.pair I .unit)))),0),(I,0),(I,0)],λx=>qaN x.1 x.2⟩
def qjb:TH:=qb4 [] []
theorem qjt:KT qaQ qjb [qP,qf8,qD,qC] 40:=λx=>by kernel_rfl
theorem qcJ:OT qaQ:=entK (qg qaS (qg qqD (qg qaz (qg qay qn)))) hJ qjt
def qao (a0:(Int × Int × Unit)) (a1:Int):Option Bool :=
 (bif decide (qoT .i64 a1 a0.1 = a0.1) then
   some (decide (qoT .i64 a1 a0.2.1 = 0))
  else
   some false).bind λ(p1:Bool) =>
 some p1
def qbl:Entry:=⟨120,[.ty gT,.ty I],[(.bool,0)],λx=>qao x.1 x.2⟩
def qiS:TH:=qb4 [([],120,.region 1,{ lv:=[⟨none,4,0⟩],ps:=[(.bool,0)],D:=⟨524272⟩,rs:=[⟨0,2⟩],Dn:=⟨507312⟩ })] []
theorem qiL:KT qbl qiS [] 40:=λx=>by kernel_rfl
theorem qeq:OT qbl:=entK qn hJ qiL
def qJ (a0:((List (Int × Int × Unit)) × (List (Int × Int × Unit)) × (List (Int × Int × Unit)) × Int × Unit)) (a1:Int):Option Bool :=
 ((qz (λ(s2:Int) =>
    bif decide (s2 < (a0.2.2.1.length:Int)) then
     (idx a0.2.2.1 s2).bind λx3 =>
     (qao x3 a1).bind λx4 =>
     bif x4 then
      some (.inr (.inr s2))
     else
      some (.inl (w64 (s2 + 1)))
    else
     some (.inr (.inl ()))) 0).bind (Sum.elim (λ(p5:Unit) =>
  some (-1)) some)).bind λ(p6:Int) =>
 some (decide (p6>=0))
def qag:Entry:=⟨58,[.ty (.pair (.sl gT) (.pair (.sl gT) (.pair (.sl gT) (.pair I .unit)))),.ty I],[(.bool,0)],λx=>qJ x.1 x.2⟩
def qf0:TH:=qb4 [([7,8],179,.inl 0,{ lv:=[⟨none,4,0⟩],ps:=[(I,0)],D:=⟨524272⟩,rs:=[⟨0,3⟩],Dn:=⟨522224⟩ }),
 ([7,8],179,.block 0,{ lv:=[],ps:=[],abn:=true,D:=⟨524064⟩ }),
 ([7,8],179,.loop 0,{ lv:=[⟨none,8,0⟩],ps:=[(I,0)],D:=⟨524064⟩,rs:=[⟨0,3⟩],Dn:=⟨522016⟩ })] []
theorem qgj:KT qag qf0 [qbl] 40:=λx=>by kernel_rfl
theorem qbi:OT qag:=entK (qg qeq qn) hJ qgj
def qbt (a0:(Int × Int × Unit)) (a1:Int):Option Int :=
 some (qiE .i64 (orI .i64 a1 a0.1) a0.2.1)
def qcL:Entry:=⟨128,[.ty gT,.ty I],[(I,0)],λx=>qbt x.1 x.2⟩
def qjT:TH:=qb4 [] []
theorem qjd:KT qcL qjT [] 40:=λx=>by kernel_rfl
theorem qjn:OT qcL:=entK qn hJ qjd
def qaa (a0:((List (Int × Int × Unit)) × (List (Int × Int × Unit)) × (List (Int × Int × Unit)) × Int × Unit)) (a1:Int) (a2:Int):Option (List (Int × Int × Int × Unit)) :=
 (qz (λ(s2:((List (Int × Int × Int × Unit)) × Int × (List Int))) =>
   bif decide (s2.2.1 < (s2.1.length:Int)) then
    ((idx s2.1 s2.2.1).bind λx3 =>
     (qJ a0 x3.1).bind λx4 =>
     bif x4 then
      some (s2.1,s2.2.2)
     else
      (idx s2.1 s2.2.1).bind λx5 =>
      ((qz (λ(s7:(Int × (List (Int × Int × Int × Unit)) × (List Int))) =>
         bif decide (s7.1 < (a0.1.length:Int)) then
          (idx a0.1 s7.1).bind λx8 =>
          ((qvp .i64 a2 s7.1).bind λx9 =>
           bif decide (qoT .i64 x9 (1:Int) = 0) then
            (qao x8 x5.1).bind λx10 =>
            bif x10 then
             (idx a0.2.1 s7.1).bind λx11 =>
             (qbt x11 x5.1).bind λx12 =>
             (bif !(qfM I s7.2.2 x12) then
               (app s7.2.1 ([(x12,s2.2.1,s7.1,())])).bind λx13 =>
               some (x13,qjB I s7.2.2 x12)
              else
               some (s7.2.1,s7.2.2)).bind λ(p14:((List (Int × Int × Int × Unit)) × (List Int))) =>
             some (false,p14.1,p14.2)
            else
             some (false,s7.2.1,s7.2.2)
           else
            some (false,s7.2.1,s7.2.2)).bind λ(p15:(Bool × (List (Int × Int × Int × Unit)) × (List Int))) =>
          bif p15.1 then
           some (.inr (.inr (p15.2.1,p15.2.2)))
          else
           some (.inl (w64 (s7.1 + 1),p15.2.1,p15.2.2))
         else
          some (.inr (.inl (s7.2.1,s7.2.2)))) (0,s2.1,s2.2.2)).bind (Sum.elim (λ(p16:((List (Int × Int × Int × Unit)) × (List Int))) =>
       some (p16.1,p16.2)) some)).bind λ(p17:((List (Int × Int × Int × Unit)) × (List Int))) =>
      some (p17.1,p17.2)).bind λ(p18:((List (Int × Int × Int × Unit)) × (List Int))) =>
    some (.inl (p18.1,w64 (s2.2.1 + 1),p18.2))
   else
    some (.inr s2.1)) ([(a1,(-1),(-1),())],0,qjB I [] a1)).bind λ(p19:(List (Int × Int × Int × Unit))) =>
 some p19
def qaf:Entry:=⟨52,[.ty (.pair (.sl gT) (.pair (.sl gT) (.pair (.sl gT) (.pair I .unit)))),.ty I,.ty I],[((.sl (.pair I gT)),1)],λx=>qaa x.1 x.2.1 x.2.2⟩
def qf4:TH:=qb4 [([],52,.block 0,{ lv:=[⟨some 0,7,0⟩],ps:=[((.sl (.pair I gT)),1)],D:=⟨36028797018705408⟩,wr:=[⟨0,7⟩,⟨0,9⟩,⟨0,16399⟩],rs:=[⟨0,9⟩],Dn:=⟨36028797018704896⟩ }),
 ([],52,.loop 0,{ lv:=[⟨some 0,7,0⟩,⟨some 0,9,0⟩,⟨some 0,16399,0⟩],ps:=[((.sl (.pair I gT)),1),(I,0),((.mset I),0)],D:=⟨36028797018705408⟩,wr:=[⟨0,7⟩,⟨0,9⟩,⟨0,16399⟩],rs:=[⟨0,9⟩],Dn:=⟨36028797018704896⟩,kp:=[(9,⟨0,9⟩,0)] }),
 ([],52,.block 1,{ lv:=[⟨some 0,7,0⟩,⟨some 0,16399,0⟩],ps:=[((.sl (.pair I gT)),1),((.mset I),0)],D:=⟨549739036672⟩,wr:=[⟨0,7⟩,⟨0,16399⟩] }),
 ([39],127,.inl 0,{ lv:=[⟨some 0,7,0⟩,⟨some 0,16399,0⟩],ps:=[((.sl (.pair I gT)),1),((.mset I),0)],D:=⟨549755813856⟩,wr:=[⟨0,7⟩,⟨0,16399⟩,⟨1,6⟩],rs:=[⟨0,39⟩,⟨1,6⟩],Dn:=⟨549688704928⟩ }),
 ([39],127,.block 0,{ lv:=[⟨some 0,7,0⟩,⟨some 0,16399,0⟩],ps:=[((.sl (.pair I gT)),1),((.mset I),0)],abn:=true,D:=⟨549755812960⟩,wr:=[⟨0,7⟩,⟨0,16399⟩,⟨1,6⟩] }),
 ([39],127,.loop 0,{ lv:=[⟨none,10,0⟩,⟨some 0,7,0⟩,⟨some 0,16399,0⟩],ps:=[(I,0),((.sl (.pair I gT)),1),((.mset I),0)],D:=⟨549755812960⟩,wr:=[⟨0,7⟩,⟨0,16399⟩,⟨1,6⟩],rs:=[⟨0,39⟩,⟨1,6⟩],Dn:=⟨549688704032⟩ }),
 ([39],127,.region 3,{ lv:=[⟨none,37,0⟩,⟨some 0,7,0⟩,⟨some 0,16399,0⟩],ps:=[(.bool,0),((.sl (.pair I gT)),1),((.mset I),0)],D:=⟨274877874176⟩,wr:=[⟨0,7⟩,⟨0,16399⟩],rs:=[⟨0,39⟩],Dn:=⟨274810765312⟩ }),
 ([35,39],52,.cond 44,{ lv:=[⟨some 0,7,0⟩,⟨some 0,16399,0⟩],ps:=[((.sl (.pair I gT)),1),((.mset I),0)],D:=⟨17979214137393152⟩,wr:=[⟨0,7⟩,⟨0,16399⟩],rs:=[⟨0,16399⟩],Dn:=⟨17944029765304320⟩ })] [([],52,38)]
theorem qgc:KT qaf qf4 [qag,qcL,qbl] 40:=λx=>by kernel_rfl
theorem qbf:OT qaf:=entK (qg qbi (qg qjn (qg qeq qn))) hJ qgc
def qby (a0:((List (List UInt8)) × (List ((List UInt8) × (List Int) × (List Int) × (List Int) × (List Int) × Unit)) × (List ((List Int) × (List Int) × Unit)) × Unit)) (a1:Int):Option ((List Int) × Int) :=
 (qaN a0 a1).bind λx1 =>
 bif !(decide (x1.2.2 = 0)) then
  some ([],x1.2.2)
 else
  (qaa x1.1 x1.2.1 (0:Int)).bind λx2 =>
  (qz (λ(s5:((List Int) × Int)) =>
    bif decide (s5.2 < (x2.length:Int)) then
     (idx x2 s5.2).bind λx6 =>
     (app s5.1 ([x6.1])).bind λx7 =>
     some (.inl (x7,w64 (s5.2 + 1)))
    else
     some (.inr s5.1)) ([],0)).bind λ(p8:(List Int)) =>
  (qwu p8).bind λx9 =>
  some (x9,0)
def qb9:Entry:=⟨10,[.ty (.pair (.sl .str) (.pair (.sl (.pair .str (.pair (.sl I) (.pair (.sl I) (.pair (.sl I) (.pair (.sl I) .unit)))))) (.pair (.sl (.pair (.sl I) (.pair (.sl I) .unit))) .unit))),.ty I],[((.sl I),1),(I,0)],λx=>qby x.1 x.2⟩
def qhV:TH:=qb4 [([],10,.block 0,{ lv:=[⟨none,9,0⟩],ps:=[((.sl I),1)],D:=⟨68652370432⟩,wr:=[⟨0,11⟩] }),
 ([],10,.loop 0,{ lv:=[⟨none,9,0⟩,⟨none,26,0⟩],ps:=[((.sl I),1),(I,0)],D:=⟨68652370432⟩,wr:=[⟨0,11⟩],rs:=[⟨0,11⟩],Dn:=⟨66504884736⟩ })] []
theorem qhY:KT qb9 qhV [qaf,qaQ] 40:=λx=>by kernel_rfl
theorem qhS:OT qb9:=entK (qg qbf (qg qcJ qn)) hJ qhY
def qcE (a0:((List (List UInt8)) × (List ((List UInt8) × (List Int) × (List Int) × (List Int) × (List Int) × Unit)) × (List ((List Int) × (List Int) × Unit)) × Unit)) (a1:Int):Option ((List Int) × Int) :=
 (qaN a0 a1).bind λx1 =>
 bif !(decide (x1.2.2 = 0)) then
  some ([],x1.2.2)
 else
  (qaa x1.1 x1.2.1 (0:Int)).bind λx2 =>
  ((qz (λ(s4:Int) =>
     bif decide (s4 < (x2.length:Int)) then
      (idx x2 s4).bind λx5 =>
      (qJ x1.1 x5.1).bind λx6 =>
      bif x6 then
       some (.inr (.inr s4))
      else
       some (.inl (w64 (s4 + 1)))
     else
      some (.inr (.inl ()))) 0).bind (Sum.elim (λ(p7:Unit) =>
   some (-1)) some)).bind λ(p8:Int) =>
  bif decide (p8 < 0) then
   some ([],12)
  else
   (idx x2 p8).bind λx9 =>
   (qz (λ(s11:((List Int) × Int × Int × Int)) =>
     bif decide (s11.2.2.1>=0) then
      (app s11.1 ([s11.2.2.2])).bind λx12 =>
      (idx x2 s11.2.2.1).bind λx13 =>
      some (.inl (x12,x13.1,x13.2.1,x13.2.2.1))
     else
      some (.inr s11.1)) ([],x9.1,x9.2.1,x9.2.2.1)).bind λ(p14:(List Int)) =>
   (qAZ p14).bind λx15 =>
   some (x15,0)
def qdh:Entry:=⟨12,[.ty (.pair (.sl .str) (.pair (.sl (.pair .str (.pair (.sl I) (.pair (.sl I) (.pair (.sl I) (.pair (.sl I) .unit)))))) (.pair (.sl (.pair (.sl I) (.pair (.sl I) .unit))) .unit))),.ty I],[((.sl I),1),(I,0)],λx=>qcE x.1 x.2⟩
def qj7:TH:=qb4 [([28],56,.inl 0,{ lv:=[⟨none,4,0⟩],ps:=[(I,0)],D:=⟨524272⟩,rs:=[⟨0,6⟩],Dn:=⟨522224⟩ }),
 ([28],56,.block 0,{ lv:=[],ps:=[],abn:=true,D:=⟨524064⟩ }),
 ([28],56,.loop 0,{ lv:=[⟨none,8,0⟩],ps:=[(I,0)],D:=⟨524064⟩,rs:=[⟨0,6⟩],Dn:=⟨522016⟩ }),
 ([],12,.block 0,{ lv:=[⟨none,11,0⟩],ps:=[((.sl I),1)],D:=⟨562915593689088⟩,wr:=[⟨0,12⟩],rs:=[⟨0,12⟩],Dn:=⟨562881233946624⟩ }),
 ([],12,.loop 0,{ lv:=[⟨none,11,0⟩,⟨some 0,12,0⟩,⟨some 0,12,1⟩,⟨some 0,12,2⟩],ps:=[((.sl I),1),(I,0),(I,0),(I,0)],D:=⟨562915593689088⟩,wr:=[⟨0,12⟩],rs:=[⟨0,12⟩],Dn:=⟨562365837871104⟩,kp:=[(12,⟨0,12⟩,0)] })] []
theorem qku:KT qdh qj7 [qag,qaf,qaQ] 40:=λx=>by kernel_rfl
theorem qka:OT qdh:=entK (qg qbi (qg qbf (qg qcJ qn))) hJ qku
def qbR (a0:Int):Option (List Int) :=
 (qz (λ(s3:(Int × (List Int))) =>
   bif !(decide (s3.1 = 0)) then
    (qR (IntKind.wrap .u64 (s3.1))).bind λx4 =>
    (app s3.2 ([x4])).bind λx5 =>
    some (.inl (qoT .i64 s3.1 (w64 (s3.1 - 1)),x5))
   else
    some (.inr s3.2)) (a0,[])).bind λ(p6:(List Int)) =>
 some p6
def qcs:Entry:=⟨60,[.ty I],[((.sl I),1)],λx=>qbR x⟩
def qiM:TH:=qb4 [([],60,.block 0,{ lv:=[⟨none,3,0⟩],ps:=[((.sl I),1)],D:=⟨65529⟩ }),
 ([],60,.loop 0,{ lv:=[⟨none,0,0⟩,⟨none,3,0⟩],ps:=[(I,0),((.sl I),1)],D:=⟨65529⟩ })] []
theorem qiY:KT qcs qiM [q5] 40:=λx=>by kernel_rfl
theorem qiK:OT qcs:=entK (qg qfk qn) hJ qiY
def cmp_isNaN_int (a0:Int):Option Bool :=
 some (!(decide (a0 = a0)))
def qeB:Entry:=⟨182,[.ty I],[(.bool,0)],λx=>cmp_isNaN_int x⟩
def qnR:TH:=qb4 [] []
theorem qmT:KT qeB qnR [] 40:=λx=>by kernel_rfl
theorem qmH:OT qeB:=entK qn hJ qmT
def qbH (a0:Int) (a1:Int):Option Int :=
 (cmp_isNaN_int a0).bind λx1 =>
 (cmp_isNaN_int a1).bind λx2 =>
 bif x1 then
  bif x2 then
   some 0
  else
   some (-1)
 else
  bif x2 then
   some 1
  else
   bif decide (a0 < a1) then
    some (-1)
   else
    bif decide (a0 > a1) then
     some 1
    else
     some 0
def qdi:Entry:=⟨122,[.ty I,.ty I],[(I,0)],λx=>qbH x.1 x.2⟩
def qkr:TH:=qb4 [] []
theorem qj9:KT qdi qkr [qeB] 40:=λx=>by kernel_rfl
theorem qkk:OT qdi:=entK (qg qmH qn) hJ qj9
def qae (a0:(List Int)) (a1:(List Int)):Option Int :=
 (qz (λ(s2:Int) =>
   bif decide (s2 < (a0.length:Int)) then
    (idx a0 s2).bind λx3 =>
    bif decide (s2>=(a1.length:Int)) then
     some (.inr (.inr 1))
    else
     (idx a1 s2).bind λx4 =>
     (qbH x3 x4).bind λx5 =>
     bif !(decide (x5 = 0)) then
      some (.inr (.inr x5))
     else
      some (.inl (w64 (s2 + 1)))
   else
    some (.inr (.inl ()))) 0).bind (Sum.elim (λ(p6:Unit) =>
 bif decide ((a0.length:Int) < (a1.length:Int)) then
  some (-1)
 else
  some 0) some)
def qaT:Entry:=⟨61,[.ty (.sl I),.ty (.sl I)],[(I,0)],λx=>qae x.1 x.2⟩
def qff:TH:=qb4 [([],61,.block 0,{ lv:=[],ps:=[],abn:=true,D:=⟨2147482080⟩ }),
 ([],61,.loop 0,{ lv:=[⟨none,11,0⟩],ps:=[(I,0)],D:=⟨2147482080⟩ })] []
theorem qfc:KT qaT qff [qdi] 40:=λx=>by kernel_rfl
theorem qfj:OT qaT:=entK (qg qkk qn) hJ qfc
def qco (a0:((List (List UInt8)) × (List ((List UInt8) × (List Int) × (List Int) × (List Int) × (List Int) × Unit)) × (List ((List Int) × (List Int) × Unit)) × Unit)) (a1:Int):Option ((List Int) × Int) :=
 (qaN a0 a1).bind λx1 =>
 (bif decide (x1.2.2 = 0) then
   (qJ x1.1 x1.2.1).bind λx2 =>
   some x2
  else
   some false).bind λ(p3:Bool) =>
 (bif p3 then
   some 20
  else
   some x1.2.2).bind λ(p4:Int) =>
 bif !(decide (p4 = 0)) then
  some ([],p4)
 else
  (qsE .i64 (1:Int) (a0.2.1.length:Int)).bind λx5 =>
  (qz (λ(s7:((List Int) × Bool × Int)) =>
    bif decide (s7.2.2 < x5) then
     ((qbR s7.2.2).bind λx8 =>
      (bif s7.2.1 then
        bif decide ((x8.length:Int) > (s7.1.length:Int)) then
         some true
        else
         bif decide ((x8.length:Int) = (s7.1.length:Int)) then
          (qae x8 s7.1).bind λx9 =>
          some (decide (x9>=0))
         else
          some false
       else
        some false).bind λ(p10:Bool) =>
      bif p10 then
       some (s7.1,s7.2.1)
      else
       (qaa x1.1 x1.2.1 s7.2.2).bind λx11 =>
       ((qz (λ(s13:Int) =>
          bif decide (s13 < (x11.length:Int)) then
           (idx x11 s13).bind λx14 =>
           (qJ x1.1 x14.1).bind λx15 =>
           bif x15 then
            some (.inr (.inr s13))
           else
            some (.inl (w64 (s13 + 1)))
          else
           some (.inr (.inl ()))) 0).bind (Sum.elim (λ(p16:Unit) =>
        some (-1)) some)).bind λ(p17:Int) =>
       (bif !(decide (p17>=0)) then
         some (x8,true)
        else
         some (s7.1,s7.2.1)).bind λ(p18:((List Int) × Bool)) =>
       some (p18.1,p18.2)).bind λ(p19:((List Int) × Bool)) =>
     some (.inl (p19.1,p19.2,w64 (s7.2.2 + 1)))
    else
     some (.inr s7.1)) ([],false,0)).bind λ(p20:(List Int)) =>
  some (p20,0)
def qcQ:Entry:=⟨13,[.ty (.pair (.sl .str) (.pair (.sl (.pair .str (.pair (.sl I) (.pair (.sl I) (.pair (.sl I) (.pair (.sl I) .unit)))))) (.pair (.sl (.pair (.sl I) (.pair (.sl I) .unit))) .unit))),.ty I],[((.sl I),1),(I,0)],λx=>qco x.1 x.2⟩
def qjF:TH:=qb4 [([],13,.region 2,{ lv:=[⟨none,26,0⟩],ps:=[(.bool,0)],D:=⟨133169152⟩ }),
 ([],13,.cond 26,{ lv:=[⟨none,8,0⟩],ps:=[(I,0)],D:=⟨256⟩ }),
 ([],13,.block 0,{ lv:=[⟨none,9,0⟩],ps:=[((.sl I),1)],D:=⟨590295810341525790208⟩ }),
 ([],13,.loop 0,{ lv:=[⟨none,9,0⟩,⟨none,10,0⟩,⟨none,34,0⟩],ps:=[((.sl I),1),(.bool,0),(I,0)],D:=⟨590295810341525790208⟩,rs:=[⟨0,6⟩],Dn:=⟨571849066267816238592⟩ }),
 ([],13,.block 1,{ lv:=[⟨none,9,0⟩,⟨none,10,0⟩],ps:=[((.sl I),1),(.bool,0)],D:=⟨295147905110633356800⟩,rs:=[⟨0,6⟩],Dn:=⟨276701161036923805184⟩ }),
 ([],13,.region 12,{ lv:=[⟨none,59,0⟩],ps:=[(.bool,0)],D:=⟨1152920954851033088⟩ }),
 ([7,65],56,.inl 0,{ lv:=[⟨none,4,0⟩],ps:=[(I,0)],D:=⟨524272⟩,rs:=[⟨0,6⟩],Dn:=⟨522224⟩ }),
 ([7,65],56,.block 0,{ lv:=[],ps:=[],abn:=true,D:=⟨524064⟩ }),
 ([7,65],56,.loop 0,{ lv:=[⟨none,8,0⟩],ps:=[(I,0)],D:=⟨524064⟩,rs:=[⟨0,6⟩],Dn:=⟨522016⟩ }),
 ([],13,.cond 66,{ lv:=[⟨none,9,0⟩,⟨none,10,0⟩],ps:=[((.sl I),1),(.bool,0)],D:=⟨147573952589676418560⟩ })] []
theorem qje:KT qcQ qjF [qcs,qag,qaf,qaQ,qaT] 40:=λx=>by kernel_rfl
theorem qjk:OT qcQ:=entK (qg qiK (qg qbi (qg qbf (qg qcJ (qg qfj qn))))) hJ qje
def qez (a0:(List UInt8)):Option Bool :=
 (bif decide ((a0.length:Int) < 1) then
   some true
  else
   some (decide ((a0.length:Int) > 12))).bind λ(p1:Bool) =>
 bif p1 then
  some false
 else
  (qz (λ(s3:Int) =>
    bif decide (s3 < (a0.length:Int)) then
     (idx a0 s3).bind λx4 =>
     (bif decide ((x4.toNat:Int)>=97) then
       bif decide ((x4.toNat:Int)<=122) then
        some true
       else
        bif decide ((x4.toNat:Int)>=65) then
         some (decide ((x4.toNat:Int)<=90))
        else
         some false
      else
       bif decide ((x4.toNat:Int)>=65) then
        some (decide ((x4.toNat:Int)<=90))
       else
        some false).bind λ(p5:Bool) =>
     (bif !p5 then
       bif decide (s3 = 0) then
        some true
       else
        bif !(decide ((x4.toNat:Int) = 45)) then
         bif decide ((x4.toNat:Int) < 48) then
          some true
         else
          some (decide ((x4.toNat:Int) > 57))
        else
         some false
      else
       some false).bind λ(p6:Bool) =>
     bif p6 then
      some (.inr (.inr false))
     else
      some (.inl (w64 (s3 + 1)))
    else
     some (.inr (.inl ()))) 0).bind (Sum.elim (λ(p7:Unit) =>
  some true) some)
def qf9:Entry:=⟨102,[.ty .str],[(.bool,0)],λx=>qez x⟩
def qp1:TH:=qb4 [([],102,.region 1,{ lv:=[⟨none,13,0⟩],ps:=[(.bool,0)],D:=⟨16320⟩ }),
 ([],102,.block 0,{ lv:=[],ps:=[],abn:=true,D:=⟨36028797018947640⟩ }),
 ([],102,.loop 0,{ lv:=[⟨none,3,0⟩],ps:=[(I,0)],D:=⟨36028797018947640⟩ }),
 ([],102,.region 7,{ lv:=[⟨none,5,0⟩],ps:=[(.bool,0)],D:=⟨137430564896⟩ }),
 ([],102,.region 8,{ lv:=[⟨none,54,0⟩],ps:=[(.bool,0)],D:=⟨36028659580010496⟩ })] []
theorem qqq:KT qf9 qp1 [] 40:=λx=>by kernel_rfl
theorem qqf:OT qf9:=entK qn hJ qqq
def qe0 (a0:(List (List UInt8))) (a1:(List UInt8)):Option Bool :=
 (qz (λ(s2:Int) =>
   bif decide (s2 < (a0.length:Int)) then
    (idx a0 s2).bind λx3 =>
    bif decide (x3 = a1) then
     some (.inr (.inr true))
    else
     some (.inl (w64 (s2 + 1)))
   else
    some (.inr (.inl ()))) 0).bind (Sum.elim (λ(p4:Unit) =>
 some false) some)
def qe9:Entry:=⟨94,[.ty (.sl .str),.ty .str],[(.bool,0)],λx=>qe0 x.1 x.2⟩
def qof:TH:=qb4 [([],94,.block 0,{ lv:=[],ps:=[],abn:=true,D:=⟨262112⟩ }),
 ([],94,.loop 0,{ lv:=[⟨none,5,0⟩],ps:=[(I,0)],D:=⟨262112⟩ })] []
theorem qok:KT qe9 qof [] 40:=λx=>by kernel_rfl
theorem qob:OT qe9:=entK qn hJ qok
def qbu (a0:(List Int)) (a1:Int):Option Int :=
 (qz (λ(s2:Int) =>
   bif decide (s2 < (a0.length:Int)) then
    (idx a0 s2).bind λx3 =>
    (qcr x3 (0:Int) (w64 (a1 - 1))).bind λx4 =>
    bif !x4 then
     some (.inr (.inr 6))
    else
     (bif decide (s2 > 0) then
       (idx a0 s2).bind λx5 =>
       (idx a0 (w64 (s2 - 1))).bind λx6 =>
       some (decide (x5<=x6))
      else
       some false).bind λ(p7:Bool) =>
     bif p7 then
      some (.inr (.inr 9))
     else
      some (.inl (w64 (s2 + 1)))
   else
    some (.inr (.inl ()))) 0).bind (Sum.elim (λ(p8:Unit) =>
 some 0) some)
def qc0:Entry:=⟨199,[.ty (.sl I),.ty I],[(I,0)],λx=>qbu x.1 x.2⟩
def qjM:TH:=qb4 [([],199,.block 0,{ lv:=[],ps:=[],abn:=true,D:=⟨17179869152⟩ }),
 ([],199,.loop 0,{ lv:=[⟨none,5,0⟩],ps:=[(I,0)],D:=⟨17179869152⟩ }),
 ([],199,.region 6,{ lv:=[⟨none,33,0⟩],ps:=[(.bool,0)],D:=⟨17178820608⟩ })] []
theorem qi1:KT qc0 qjM [qcT] 40:=λx=>by kernel_rfl
theorem qj3:OT qc0:=entK (qg qf1 qn) hJ qi1
def qhn (a0:(List Int)) (a1:Int):Option Bool :=
 (qz (λ(s2:Int) =>
   bif decide (s2 < (a0.length:Int)) then
    (idx a0 s2).bind λx3 =>
    bif decide (x3 = a1) then
     some (.inr (.inr true))
    else
     some (.inl (w64 (s2 + 1)))
   else
    some (.inr (.inl ()))) 0).bind (Sum.elim (λ(p4:Unit) =>
 some false) some)
def qhN:Entry:=⟨44,[.ty (.sl I),.ty I],[(.bool,0)],λx=>qhn x.1 x.2⟩
def qvs:TH:=qb4 [([],44,.block 0,{ lv:=[],ps:=[],abn:=true,D:=⟨262112⟩ }),
 ([],44,.loop 0,{ lv:=[⟨none,5,0⟩],ps:=[(I,0)],D:=⟨262112⟩ })] []
theorem qvh:KT qhN qvs [] 40:=λx=>by kernel_rfl
theorem qoL:OT qhN:=entK qn hJ qvh
def qb0 (a0:((List Int) × (List Int) × Unit)) (a1:Int):Option Int :=
 (qbu a0.1 a1).bind λx1 =>
 bif !(decide (x1 = 0)) then
  some x1
 else
  (qbu a0.2.1 a1).bind λx2 =>
  bif !(decide (x2 = 0)) then
   some x2
  else
   (qz (λ(s4:Int) =>
     bif decide (s4 < (a0.1.length:Int)) then
      (idx a0.1 s4).bind λx5 =>
      (qhn a0.2.1 x5).bind λx6 =>
      bif x6 then
       some (.inr (.inr 13))
      else
       some (.inl (w64 (s4 + 1)))
     else
      some (.inr (.inl ()))) 0).bind (Sum.elim (λ(p7:Unit) =>
   some 0) some)
def qeD:Entry:=⟨153,[.ty (.pair (.sl I) (.pair (.sl I) .unit)),.ty I],[(I,0)],λx=>qb0 x.1 x.2⟩
def qm0:TH:=qb4 [([],153,.block 0,{ lv:=[],ps:=[],abn:=true,D:=⟨137434759296⟩,rs:=[⟨0,2⟩],Dn:=⟨137426370688⟩ }),
 ([],153,.loop 0,{ lv:=[⟨none,7,0⟩],ps:=[(I,0)],D:=⟨137434759296⟩,rs:=[⟨0,2⟩],Dn:=⟨134742016128⟩ })] []
theorem qnP:KT qeD qm0 [qhN,qc0] 40:=λx=>by kernel_rfl
theorem qmU:OT qeD:=entK (qg qoL (qg qj3 qn)) hJ qnP
def qbB (a0:((List (List UInt8)) × (List ((List UInt8) × (List Int) × (List Int) × (List Int) × (List Int) × Unit)) × (List ((List Int) × (List Int) × Unit)) × Unit)):Option (Int × Int) :=
 bif decide ((a0.1.length:Int) = 0) then
  some (0,10)
 else
  (bif decide ((a0.1.length:Int) > 8) then
    some true
   else
    bif decide ((a0.2.1.length:Int) > 10) then
     some true
    else
     some (decide ((a0.2.2.1.length:Int) > 4))).bind λ(p1:Bool) =>
  bif p1 then
   some (0,8)
  else
   (qz (λ(s3:Int) =>
     bif decide (s3 < (a0.1.length:Int)) then
      (idx a0.1 s3).bind λx4 =>
      (qez x4).bind λx5 =>
      bif !x5 then
       some (.inr (.inr (s3,4)))
      else
       (slc a0.1 0 s3).bind λx6 =>
       (idx a0.1 s3).bind λx7 =>
       (qe0 x6 x7).bind λx8 =>
       bif x8 then
        some (.inr (.inr (s3,5)))
       else
        some (.inl (w64 (s3 + 1)))
     else
      some (.inr (.inl ()))) 0).bind (Sum.elim (λ(p9:Unit) =>
   (qz (λ(s11:Int) =>
     bif decide (s11 < (a0.2.1.length:Int)) then
      (idx a0.2.1 s11).bind λx12 =>
      (qez x12.1).bind λx13 =>
      bif !x13 then
       some (.inr (.inr (s11,4)))
      else
       (qz (λ(s15:Int) =>
         bif decide (s15 < s11) then
          (idx a0.2.1 s15).bind λx16 =>
          bif decide (x16.1 = x12.1) then
           some (.inr (.inr (.inr (.inr (s11,5)))))
          else
           some (.inl (w64 (s15 + 1)))
         else
          some (.inr (.inl ()))) 0).bind (Sum.elim (λ(p17:Unit) =>
       (qb0 (x12.2.1,x12.2.2.1,()) (a0.1.length:Int)).bind λx18 =>
       bif !(decide (x18 = 0)) then
        some (.inr (.inr (s11,x18)))
       else
        (qb0 (x12.2.2.2.1,x12.2.2.2.2.1,()) (a0.1.length:Int)).bind λx19 =>
        bif !(decide (x19 = 0)) then
         some (.inr (.inr (s11,x19)))
        else
         some (.inl (w64 (s11 + 1)))) some)
     else
      some (.inr (.inl ()))) 0).bind (Sum.elim (λ(p20:Unit) =>
   (qz (λ(s22:Int) =>
     bif decide (s22 < (a0.2.2.1.length:Int)) then
      (idx a0.2.2.1 s22).bind λx23 =>
      (qb0 x23 (a0.1.length:Int)).bind λx24 =>
      bif !(decide (x24 = 0)) then
       some (.inr (.inr (s22,x24)))
      else
       some (.inl (w64 (s22 + 1)))
     else
      some (.inr (.inl ()))) 0).bind (Sum.elim (λ(p25:Unit) =>
   some (0,0)) some)) some)) some)
def qb7:Entry:=⟨100,[.ty (.pair (.sl .str) (.pair (.sl (.pair .str (.pair (.sl I) (.pair (.sl I) (.pair (.sl I) (.pair (.sl I) .unit)))))) (.pair (.sl (.pair (.sl I) (.pair (.sl I) .unit))) .unit)))],[(I,0),(I,0)],λx=>qbB x⟩
def qh0:TH:=qb4 [([],100,.region 3,{ lv:=[⟨none,31,0⟩],ps:=[(.bool,0)],D:=⟨4294901760⟩,rs:=[⟨0,1⟩],Dn:=⟨4158521344⟩ }),
 ([],100,.block 0,{ lv:=[],ps:=[],abn:=true,D:=⟨288230371856744464⟩,rs:=[⟨0,1⟩],Dn:=⟨288230363266809872⟩ }),
 ([],100,.loop 0,{ lv:=[⟨none,4,0⟩],ps:=[(I,0)],D:=⟨288230371856744464⟩,rs:=[⟨0,1⟩],Dn:=⟨285837276208955408⟩ }),
 ([],100,.block 2,{ lv:=[],ps:=[],abn:=true,D:=⟨1298074214633706618902247930594272⟩,wr:=[⟨0,6⟩],rs:=[⟨0,1⟩],Dn:=⟨1298074214633706042441495627170784⟩ }),
 ([],100,.loop 2,{ lv:=[⟨none,5,0⟩],ps:=[(I,0)],D:=⟨1298074214633706618902247930594272⟩,wr:=[⟨0,6⟩],rs:=[⟨0,1⟩,⟨0,6⟩],Dn:=⟨1291729771931150983423772785116064⟩ }),
 ([],100,.block 4,{ lv:=[],ps:=[],abn:=true,D:=⟨1237902260353517317737414784⟩ }),
 ([],100,.loop 4,{ lv:=[⟨none,7,0⟩],ps:=[(I,0)],D:=⟨1237902260353517317737414784⟩,rs:=[⟨0,1⟩,⟨0,6⟩],Dn:=⟨1159322082078566421381513344⟩ }),
 ([],100,.block 6,{ lv:=[],ps:=[],abn:=true,D:=⟨1361128169609539220146591297102990543872⟩,rs:=[⟨0,1⟩],Dn:=⟨1361125573461109952732777031854825933824⟩ }),
 ([],100,.loop 6,{ lv:=[⟨none,10,0⟩],ps:=[(I,0)],D:=⟨1361128169609539220146591297102990543872⟩,rs:=[⟨0,1⟩],Dn:=⟨1355642507978497174757048827731169512448⟩ })] []
theorem qhX:KT qb7 qh0 [qe9,qf9,qeD] 40:=λx=>by kernel_rfl
theorem qh2:OT qb7:=entK (qg qob (qg qqf (qg qmU qn))) hJ qhX
def qcm (a0:((List (List UInt8)) × (List ((List UInt8) × (List Int) × (List Int) × (List Int) × (List Int) × Unit)) × (List ((List Int) × (List Int) × Unit)) × Unit)):Option Int :=
 (qbB a0).bind λx1 =>
 some x1.2
def qcM:Entry:=⟨36,[.ty (.pair (.sl .str) (.pair (.sl (.pair .str (.pair (.sl I) (.pair (.sl I) (.pair (.sl I) (.pair (.sl I) .unit)))))) (.pair (.sl (.pair (.sl I) (.pair (.sl I) .unit))) .unit)))],[(I,0)],λx=>qcm x⟩
def qjP:TH:=qb4 [] []
theorem qj1:KT qcM qjP [qb7] 40:=λx=>by kernel_rfl
theorem qjS:OT qcM:=entK (qg qh2 qn) hJ qj1
def qgu (a0:((List (List UInt8)) × (List ((List UInt8) × (List Int) × (List Int) × (List Int) × (List Int) × Unit)) × (List ((List Int) × (List Int) × Unit)) × Unit)) (a1:Int):Option Bool :=
 (qsE .i64 (1:Int) (a0.1.length:Int)).bind λx1 =>
 (qcr a1 (0:Int) (w64 (x1 - 1))).bind λx2 =>
 some x2
def qeC:Entry:=⟨123,[.ty (.pair (.sl .str) (.pair (.sl (.pair .str (.pair (.sl I) (.pair (.sl I) (.pair (.sl I) (.pair (.sl I) .unit)))))) (.pair (.sl (.pair (.sl I) (.pair (.sl I) .unit))) .unit))),.ty I],[(.bool,0)],λx=>qgu x.1 x.2⟩
def qmz:TH:=qb4 [] []
theorem qnh:KT qeC qmz [qcT] 40:=λx=>by kernel_rfl
theorem qnA:OT qeC:=entK (qg qf1 qn) hJ qnh
def qe8 (a0:((List (List UInt8)) × (List ((List UInt8) × (List Int) × (List Int) × (List Int) × (List Int) × Unit)) × (List ((List Int) × (List Int) × Unit)) × Unit)) (a1:Int):Option Int :=
 (qgu a0 a1).bind λx1 =>
 bif !x1 then
  some 2
 else
  some 0
def qdS:Entry:=⟨64,[.ty (.pair (.sl .str) (.pair (.sl (.pair .str (.pair (.sl I) (.pair (.sl I) (.pair (.sl I) (.pair (.sl I) .unit)))))) (.pair (.sl (.pair (.sl I) (.pair (.sl I) .unit))) .unit))),.ty I],[(I,0)],λx=>qe8 x.1 x.2⟩
def qlx:TH:=qb4 [] []
theorem qls:KT qdS qlx [qeC] 40:=λx=>by kernel_rfl
theorem qlF:OT qdS:=entK (qg qnA qn) hJ qls
def qdr (a0:((List (List UInt8)) × (List ((List UInt8) × (List Int) × (List Int) × (List Int) × (List Int) × Unit)) × (List ((List Int) × (List Int) × Unit)) × Unit)) (a1:Int):Option Int :=
 (qcm a0).bind λx1 =>
 bif !(decide (x1 = 0)) then
  some x1
 else
  (qe8 a0 a1).bind λx2 =>
  some x2
def qdT:Entry:=⟨14,[.ty (.pair (.sl .str) (.pair (.sl (.pair .str (.pair (.sl I) (.pair (.sl I) (.pair (.sl I) (.pair (.sl I) .unit)))))) (.pair (.sl (.pair (.sl I) (.pair (.sl I) .unit))) .unit))),.ty I],[(I,0)],λx=>qdr x.1 x.2⟩
def qlT:TH:=qb4 [] []
theorem qlJ:KT qdT qlT [qcM,qdS] 40:=λx=>by kernel_rfl
theorem qly:OT qdT:=entK (qg qjS (qg qlF qn)) hJ qlJ
def qen (a0:((List Int) × (List Int) × Unit)) (a1:Int):Option Bool :=
 (qz (λ(s2:Int) =>
   bif decide (s2 < (a0.1.length:Int)) then
    (idx a0.1 s2).bind λx3 =>
    (qvp .i64 a1 x3).bind λx4 =>
    bif decide (qoT .i64 x4 (1:Int) = 0) then
     some (.inr (.inr false))
    else
     some (.inl (w64 (s2 + 1)))
   else
    some (.inr (.inl ()))) 0).bind (Sum.elim (λ(p5:Unit) =>
 (qz (λ(s7:Int) =>
   bif decide (s7 < (a0.2.1.length:Int)) then
    (idx a0.2.1 s7).bind λx8 =>
    (qvp .i64 a1 x8).bind λx9 =>
    bif decide (qoT .i64 x9 (1:Int) = 1) then
     some (.inr (.inr false))
    else
     some (.inl (w64 (s7 + 1)))
   else
    some (.inr (.inl ()))) 0).bind (Sum.elim (λ(p10:Unit) =>
 some true) some)) some)
def qd5:Entry:=⟨67,[.ty (.pair (.sl I) (.pair (.sl I) .unit)),.ty I],[(.bool,0)],λx=>qen x.1 x.2⟩
def qqr:TH:=qb4 [([],67,.block 0,{ lv:=[],ps:=[],abn:=true,D:=⟨8388512⟩,rs:=[⟨0,2⟩],Dn:=⟨8388256⟩ }),
 ([],67,.loop 0,{ lv:=[⟨none,5,0⟩],ps:=[(I,0)],D:=⟨8388512⟩,rs:=[⟨0,2⟩],Dn:=⟨8355488⟩ }),
 ([],67,.block 2,{ lv:=[],ps:=[],abn:=true,D:=⟨549747425344⟩,rs:=[⟨0,2⟩],Dn:=⟨549730648128⟩ }),
 ([],67,.loop 2,{ lv:=[⟨none,6,0⟩],ps:=[(I,0)],D:=⟨549747425344⟩,rs:=[⟨0,2⟩],Dn:=⟨547583164480⟩ })] []
theorem qpJ:KT qd5 qqr [] 40:=λx=>by kernel_rfl
theorem qjq:OT qd5:=entK qn hJ qpJ
def qaG (a0:((List (List UInt8)) × (List ((List UInt8) × (List Int) × (List Int) × (List Int) × (List Int) × Unit)) × (List ((List Int) × (List Int) × Unit)) × Unit)) (a1:Int):Option Bool :=
 (qz (λ(s2:Int) =>
   bif decide (s2 < (a0.2.2.1.length:Int)) then
    (idx a0.2.2.1 s2).bind λx3 =>
    (qen x3 a1).bind λx4 =>
    bif x4 then
     some (.inr (.inr true))
    else
     some (.inl (w64 (s2 + 1)))
   else
    some (.inr (.inl ()))) 0).bind (Sum.elim (λ(p5:Unit) =>
 some false) some)
def qbv:Entry:=⟨18,[.ty (.pair (.sl .str) (.pair (.sl (.pair .str (.pair (.sl I) (.pair (.sl I) (.pair (.sl I) (.pair (.sl I) .unit)))))) (.pair (.sl (.pair (.sl I) (.pair (.sl I) .unit))) .unit))),.ty I],[(.bool,0)],λx=>qaG x.1 x.2⟩
def qos:TH:=qb4 [([],18,.block 0,{ lv:=[],ps:=[],abn:=true,D:=⟨1048544⟩,rs:=[⟨0,2⟩],Dn:=⟨1048416⟩ }),
 ([],18,.loop 0,{ lv:=[⟨none,5,0⟩],ps:=[(I,0)],D:=⟨1048544⟩,rs:=[⟨0,2⟩],Dn:=⟨1040224⟩ })] []
theorem qoe:KT qbv qos [qd5] 40:=λx=>by kernel_rfl
theorem qdp:OT qbv:=entK (qg qjq qn) hJ qoe
def qfm (a0:((List (List UInt8)) × (List ((List UInt8) × (List Int) × (List Int) × (List Int) × (List Int) × Unit)) × (List ((List Int) × (List Int) × Unit)) × Unit)) (a1:Int) (a2:Int):Option (Int × Bool) :=
 (idx a0.2.1 a2).bind λx1 =>
 (qen (x1.2.1,x1.2.2.1,()) a1).bind λx2 =>
 bif !x2 then
  some (0,false)
 else
  (qz (λ(s4:(Int × Int)) =>
    bif decide (s4.2 < (x1.2.2.2.1.length:Int)) then
     (idx x1.2.2.2.1 s4.2).bind λx5 =>
     (qsE .i64 (1:Int) x5).bind λx6 =>
     some (.inl (orI .i64 s4.1 x6,w64 (s4.2 + 1)))
    else
     some (.inr s4.1)) (a1,0)).bind λ(p7:Int) =>
  (qz (λ(s9:(Int × Int)) =>
    bif decide (s9.2 < (x1.2.2.2.2.1.length:Int)) then
     (idx x1.2.2.2.2.1 s9.2).bind λx10 =>
     (qvp .i64 s9.1 x10).bind λx11 =>
     (bif decide (qoT .i64 x11 (1:Int) = 1) then
       (idx x1.2.2.2.2.1 s9.2).bind λx12 =>
       (qsE .i64 (1:Int) x12).bind λx13 =>
       some (w64 (s9.1 - x13))
      else
       some s9.1).bind λ(p14:Int) =>
     some (.inl (p14,w64 (s9.2 + 1)))
    else
     some (.inr s9.1)) (p7,0)).bind λ(p15:Int) =>
  some (p15,true)
def qg8:Entry:=⟨124,[.ty (.pair (.sl .str) (.pair (.sl (.pair .str (.pair (.sl I) (.pair (.sl I) (.pair (.sl I) (.pair (.sl I) .unit)))))) (.pair (.sl (.pair (.sl I) (.pair (.sl I) .unit))) .unit))),.ty I,.ty I],[(I,0),(.bool,0)],λx=>qfm x.1 x.2.1 x.2.2⟩
def qsu:TH:=qb4 [([],124,.block 0,{ lv:=[⟨none,1,0⟩],ps:=[(I,0)],D:=⟨274875810306⟩,rs:=[⟨0,8⟩],Dn:=⟨274863227394⟩ }),
 ([],124,.loop 0,{ lv:=[⟨none,1,0⟩,⟨none,9,0⟩],ps:=[(I,0),(I,0)],D:=⟨274875810306⟩,rs:=[⟨0,8⟩],Dn:=⟨271642001922⟩ }),
 ([],124,.block 2,{ lv:=[⟨none,1,0⟩],ps:=[(I,0)],D:=⟨36893487872541197314⟩,rs:=[⟨0,8⟩],Dn:=⟨36893486223273755650⟩ }),
 ([],124,.loop 2,{ lv:=[⟨none,1,0⟩,⟨none,10,0⟩],ps:=[(I,0),(I,0)],D:=⟨36893487872541197314⟩,rs:=[⟨0,8⟩],Dn:=⟨36460718446581122050⟩ }),
 ([],124,.cond 55,{ lv:=[⟨none,1,0⟩],ps:=[(I,0)],D:=⟨36821430553381175298⟩,rs:=[⟨0,8⟩],Dn:=⟨36389084989153607682⟩ })] []
theorem qr1:KT qg8 qsu [qd5] 40:=λx=>by kernel_rfl
theorem qst:OT qg8:=entK (qg qjq qn) hJ qr1
def qdf (a0:(List (Int × (List Int) × Unit))) (a1:Int):Option Bool :=
 (qz (λ(s2:Int) =>
   bif decide (s2 < (a0.length:Int)) then
    (idx a0 s2).bind λx3 =>
    bif decide (x3.1 = a1) then
     some (.inr (.inr true))
    else
     some (.inl (w64 (s2 + 1)))
   else
    some (.inr (.inl ()))) 0).bind (Sum.elim (λ(p4:Unit) =>
 some false) some)
def qd3:Entry:=⟨66,[.ty (.sl (.pair I (.pair (.sl I) .unit))),.ty I],[(.bool,0)],λx=>qdf x.1 x.2⟩
def qpR:TH:=qb4 [([],66,.block 0,{ lv:=[],ps:=[],abn:=true,D:=⟨524256⟩ }),
 ([],66,.loop 0,{ lv:=[⟨none,5,0⟩],ps:=[(I,0)],D:=⟨524256⟩ })] []
theorem qpZ:KT qd3 qpR [] 40:=λx=>by kernel_rfl
theorem qj0:OT qd3:=entK qn hJ qpZ
def qcz (a0:((List (List UInt8)) × (List ((List UInt8) × (List Int) × (List Int) × (List Int) × (List Int) × Unit)) × (List ((List Int) × (List Int) × Unit)) × Unit)) (a1:Int) (a2:(List Int)):Option (List (Int × (List Int) × Unit)) :=
 (qz (λ(s2:((List (Int × (List Int) × Unit)) × Int)) =>
   bif decide (s2.2 < (s2.1.length:Int)) then
    ((idx s2.1 s2.2).bind λx3 =>
     (qaG a0 x3.1).bind λx4 =>
     bif x4 then
      some s2.1
     else
      (qz (λ(s6:((List (Int × (List Int) × Unit)) × Int)) =>
        bif decide (s6.2 < (a0.2.1.length:Int)) then
         ((idx s6.1 s2.2).bind λx7 =>
          (qfm a0 x7.1 s6.2).bind λx8 =>
          (bif !x8.2 then
            some true
           else
            (qhn a2 s6.2).bind λx9 =>
            bif x9 then
             some true
            else
             (qdf s6.1 x8.1).bind λx10 =>
             some x10).bind λ(p11:Bool) =>
          bif p11 then
           some s6.1
          else
           (idx s6.1 s2.2).bind λx12 =>
           (qbp x12.2.1).bind λx13 =>
           (app x13 ([s6.2])).bind λx14 =>
           (app s6.1 ([(x8.1,x14,())])).bind λx15 =>
           some x15).bind λ(p16:(List (Int × (List Int) × Unit))) =>
         some (.inl (p16,w64 (s6.2 + 1)))
        else
         some (.inr s6.1)) (s2.1,0)).bind λ(p17:(List (Int × (List Int) × Unit))) =>
      some p17).bind λ(p18:(List (Int × (List Int) × Unit))) =>
    some (.inl (p18,w64 (s2.2 + 1)))
   else
    some (.inr s2.1)) ([(a1,[],())],0)).bind λ(p19:(List (Int × (List Int) × Unit))) =>
 some p19
def qci:Entry:=⟨65,[.ty (.pair (.sl .str) (.pair (.sl (.pair .str (.pair (.sl I) (.pair (.sl I) (.pair (.sl I) (.pair (.sl I) .unit)))))) (.pair (.sl (.pair (.sl I) (.pair (.sl I) .unit))) .unit))),.ty I,.ty (.sl I)],[((.sl (.pair I (.pair (.sl I) .unit))),2)],λx=>qcz x.1 x.2.1 x.2.2⟩
def qom:TH:=qb4 [([],65,.block 0,{ lv:=[⟨none,7,0⟩],ps:=[((.sl (.pair I (.pair (.sl I) .unit))),2)],D:=⟨4722366482869645184896⟩ }),
 ([],65,.loop 0,{ lv:=[⟨none,7,0⟩,⟨none,8,0⟩],ps:=[((.sl (.pair I (.pair (.sl I) .unit))),2),(I,0)],D:=⟨4722366482869645184896⟩,rs:=[⟨0,3⟩],Dn:=⟨4722366482869108313984⟩ }),
 ([],65,.block 1,{ lv:=[⟨none,7,0⟩],ps:=[((.sl (.pair I (.pair (.sl I) .unit))),2)],D:=⟨4722366482869643120256⟩,rs:=[⟨0,3⟩],Dn:=⟨4722366482869106249344⟩ }),
 ([],65,.block 2,{ lv:=[⟨none,7,0⟩],ps:=[((.sl (.pair I (.pair (.sl I) .unit))),2)],D:=⟨4722366482869376781952⟩,rs:=[⟨0,3⟩],Dn:=⟨4722366482868839911040⟩ }),
 ([],65,.loop 2,{ lv:=[⟨none,7,0⟩,⟨none,9,0⟩],ps:=[((.sl (.pair I (.pair (.sl I) .unit))),2),(I,0)],D:=⟨4722366482869376781952⟩,rs:=[⟨0,3⟩],Dn:=⟨4722366482868839911040⟩ }),
 ([],65,.block 3,{ lv:=[⟨none,7,0⟩],ps:=[((.sl (.pair I (.pair (.sl I) .unit))),2)],D:=⟨4722366482835285478528⟩ }),
 ([],65,.region 10,{ lv:=[⟨none,57,0⟩],ps:=[(.bool,0)],D:=⟨288160007407534080⟩ })] []
theorem qoh:KT qci qom [qcB,qhN,qbv,qg8,qd3] 40:=λx=>by kernel_rfl
theorem qe7:OT qci:=entK (qg qg1 (qg qoL (qg qdp (qg qst (qg qj0 qn))))) hJ qoh
def qd4 (a0:((List (List UInt8)) × (List ((List UInt8) × (List Int) × (List Int) × (List Int) × (List Int) × Unit)) × (List ((List Int) × (List Int) × Unit)) × Unit)) (a1:Int):Option (List Int) :=
 (qcz a0 a1 []).bind λx1 =>
 (qz (λ(s3:((List Int) × Int)) =>
   (qsE .i64 (1:Int) (a0.1.length:Int)).bind λx4 =>
   bif decide (s3.2 < x4) then
    (qdf x1 s3.2).bind λx5 =>
    (bif x5 then
      (app s3.1 ([s3.2])).bind λx6 =>
      some x6
     else
      some s3.1).bind λ(p7:(List Int)) =>
    some (.inl (p7,w64 (s3.2 + 1)))
   else
    some (.inr s3.1)) ([],0)).bind λ(p8:(List Int)) =>
 some p8
def qev:Entry:=⟨16,[.ty (.pair (.sl .str) (.pair (.sl (.pair .str (.pair (.sl I) (.pair (.sl I) (.pair (.sl I) (.pair (.sl I) .unit)))))) (.pair (.sl (.pair (.sl I) (.pair (.sl I) .unit))) .unit))),.ty I],[((.sl I),1)],λx=>qd4 x.1 x.2⟩
def qmB:TH:=qb4 [([],16,.block 0,{ lv:=[⟨none,6,0⟩],ps:=[((.sl I),1)],D:=⟨67107008⟩,rs:=[⟨0,2⟩],Dn:=⟨67102912⟩ }),
 ([],16,.loop 0,{ lv:=[⟨none,6,0⟩,⟨none,7,0⟩],ps:=[((.sl I),1),(I,0)],D:=⟨67107008⟩,rs:=[⟨0,2⟩],Dn:=⟨67102912⟩ }),
 ([],16,.cond 21,{ lv:=[⟨none,6,0⟩],ps:=[((.sl I),1)],D:=⟨62914624⟩ })] []
theorem qn6:KT qev qmB [qci,qd3] 40:=λx=>by kernel_rfl
theorem qn9:OT qev:=entK (qg qe7 (qg qj0 qn)) hJ qn6
def qcZ (a0:(List Int)) (a1:(List Int)):Option Bool :=
 bif !(decide ((a0.length:Int) = (a1.length:Int))) then
  some false
 else
  (qz (λ(s2:Int) =>
    bif decide (s2 < (a0.length:Int)) then
     (idx a0 s2).bind λx3 =>
     (idx a1 s2).bind λx4 =>
     bif !(decide (x3 = x4)) then
      some (.inr (.inr false))
     else
      some (.inl (w64 (s2 + 1)))
    else
     some (.inr (.inl ()))) 0).bind (Sum.elim (λ(p5:Unit) =>
  some true) some)
def qiC:Entry:=⟨15,[.ty (.sl I),.ty (.sl I)],[(.bool,0)],λx=>qcZ x.1 x.2⟩
def qtB:TH:=qb4 [([],15,.block 0,{ lv:=[],ps:=[],abn:=true,D:=⟨67106848⟩ }),
 ([],15,.loop 0,{ lv:=[⟨none,5,0⟩],ps:=[(I,0)],D:=⟨67106848⟩ })] []
theorem qtI:KT qiC qtB [] 40:=λx=>by kernel_rfl
theorem qtR:OT qiC:=entK qn hJ qtI
def qhK (a0:((List (List UInt8)) × (List ((List UInt8) × (List Int) × (List Int) × (List Int) × (List Int) × Unit)) × (List ((List Int) × (List Int) × Unit)) × Unit)) (a1:Int):Option ((List Int) × Bool) :=
 (qcz a0 a1 []).bind λx1 =>
 (qz (λ(s3:Int) =>
   bif decide (s3 < (x1.length:Int)) then
    (idx x1 s3).bind λx4 =>
    (qaG a0 x4.1).bind λx5 =>
    bif x5 then
     (idx x1 s3).bind λx6 =>
     some (.inr (.inr (x6.2.1,true)))
    else
     some (.inl (w64 (s3 + 1)))
   else
    some (.inr (.inl ()))) 0).bind (Sum.elim (λ(p7:Unit) =>
 some ([],false)) some)
def qgV:Entry:=⟨17,[.ty (.pair (.sl .str) (.pair (.sl (.pair .str (.pair (.sl I) (.pair (.sl I) (.pair (.sl I) (.pair (.sl I) .unit)))))) (.pair (.sl (.pair (.sl I) (.pair (.sl I) .unit))) .unit))),.ty I],[((.sl I),2000),(.bool,0)],λx=>qhK x.1 x.2⟩
def qr4:TH:=qb4 [([],17,.block 0,{ lv:=[],ps:=[],abn:=true,D:=⟨536868992⟩ }),
 ([],17,.loop 0,{ lv:=[⟨none,7,0⟩],ps:=[(I,0)],D:=⟨536868992⟩ })] []
theorem qrs:KT qgV qr4 [qbv,qci] 40:=λx=>by kernel_rfl
theorem qsk:OT qgV:=entK (qg qdp (qg qe7 qn)) hJ qrs
def qeK (a0:(List Int)) (a1:(List Int)):Option Bool :=
 (qz (λ(s2:Int) =>
   (bif decide (s2 < (a0.length:Int)) then
     some (decide (s2 < (a1.length:Int)))
    else
     some false).bind λ(p3:Bool) =>
   bif p3 then
    (idx a0 s2).bind λx4 =>
    (idx a1 s2).bind λx5 =>
    bif !(decide (x4 = x5)) then
     (idx a0 s2).bind λx6 =>
     (idx a1 s2).bind λx7 =>
     some (.inr (.inr (decide (x6 < x7))))
    else
     some (.inl (w64 (s2 + 1)))
   else
    some (.inr (.inl ()))) 0).bind (Sum.elim (λ(p8:Unit) =>
 some (decide ((a0.length:Int) < (a1.length:Int)))) some)
def qfX:Entry:=⟨68,[.ty (.sl I),.ty (.sl I)],[(.bool,0)],λx=>qeK x.1 x.2⟩
def qpW:TH:=qb4 [([],68,.block 0,{ lv:=[],ps:=[],abn:=true,D:=⟨68719476704⟩ }),
 ([],68,.loop 0,{ lv:=[⟨none,5,0⟩],ps:=[(I,0)],D:=⟨68719476704⟩ }),
 ([],68,.region 2,{ lv:=[⟨none,15,0⟩],ps:=[(.bool,0)],D:=⟨65472⟩ })] []
theorem qp8:KT qfX qpW [] 40:=λx=>by kernel_rfl
theorem qpY:OT qfX:=entK qn hJ qp8
def qhA (a0:((List (List UInt8)) × (List ((List UInt8) × (List Int) × (List Int) × (List Int) × (List Int) × Unit)) × (List ((List Int) × (List Int) × Unit)) × Unit)) (a1:Int) (a2:(List Int)):Option Bool :=
 (qcz a0 a1 a2).bind λx1 =>
 (qz (λ(s3:Int) =>
   bif decide (s3 < (x1.length:Int)) then
    (idx x1 s3).bind λx4 =>
    (qaG a0 x4.1).bind λx5 =>
    bif x5 then
     some (.inr (.inr false))
    else
     some (.inl (w64 (s3 + 1)))
   else
    some (.inr (.inl ()))) 0).bind (Sum.elim (λ(p6:Unit) =>
 some true) some)
def qg9:Entry:=⟨69,[.ty (.pair (.sl .str) (.pair (.sl (.pair .str (.pair (.sl I) (.pair (.sl I) (.pair (.sl I) (.pair (.sl I) .unit)))))) (.pair (.sl (.pair (.sl I) (.pair (.sl I) .unit))) .unit))),.ty I,.ty (.sl I)],[(.bool,0)],λx=>qhA x.1 x.2.1 x.2.2⟩
def qrY:TH:=qb4 [([],69,.block 0,{ lv:=[],ps:=[],abn:=true,D:=⟨67100928⟩ }),
 ([],69,.loop 0,{ lv:=[⟨none,8,0⟩],ps:=[(I,0)],D:=⟨67100928⟩ })] []
theorem qrm:KT qg9 qrY [qbv,qci] 40:=λx=>by kernel_rfl
theorem qsj:OT qg9:=entK (qg qdp (qg qe7 qn)) hJ qrm
def qdx (a0:((List (List UInt8)) × (List ((List UInt8) × (List Int) × (List Int) × (List Int) × (List Int) × Unit)) × (List ((List Int) × (List Int) × Unit)) × Unit)) (a1:Int):Option (List Int) :=
 (qz (λ(s2:((List Int) × Bool × Int)) =>
   (qsE .i64 (1:Int) (a0.2.1.length:Int)).bind λx3 =>
   bif decide (s2.2.2 < x3) then
    ((qz (λ(s5:((List Int) × Int)) =>
       bif decide (s5.2 < (a0.2.1.length:Int)) then
        (qvp .i64 s2.2.2 s5.2).bind λx6 =>
        (bif decide (qoT .i64 x6 (1:Int) = 1) then
          (app s5.1 ([s5.2])).bind λx7 =>
          some x7
         else
          some s5.1).bind λ(p8:(List Int)) =>
        some (.inl (p8,w64 (s5.2 + 1)))
       else
        some (.inr s5.1)) ([],0)).bind λ(p9:(List Int)) =>
     (bif s2.2.1 then
       bif decide ((p9.length:Int) > (s2.1.length:Int)) then
        some true
       else
        bif decide ((p9.length:Int) = (s2.1.length:Int)) then
         (qeK p9 s2.1).bind λx10 =>
         some (!x10)
        else
         some false
      else
       some false).bind λ(p11:Bool) =>
     bif p11 then
      some (s2.1,s2.2.1)
     else
      (qhA a0 a1 p9).bind λx12 =>
      (bif x12 then
        some (p9,true)
       else
        some (s2.1,s2.2.1)).bind λ(p13:((List Int) × Bool)) =>
      some (p13.1,p13.2)).bind λ(p14:((List Int) × Bool)) =>
    some (.inl (p14.1,p14.2,w64 (s2.2.2 + 1)))
   else
    some (.inr s2.1)) ([],false,0)).bind λ(p15:(List Int)) =>
 some p15
def qfd:Entry:=⟨19,[.ty (.pair (.sl .str) (.pair (.sl (.pair .str (.pair (.sl I) (.pair (.sl I) (.pair (.sl I) (.pair (.sl I) .unit)))))) (.pair (.sl (.pair (.sl I) (.pair (.sl I) .unit))) .unit))),.ty I],[((.sl I),1)],λx=>qdx x.1 x.2⟩
def qon:TH:=qb4 [([],19,.block 0,{ lv:=[⟨none,5,0⟩],ps:=[((.sl I),1)],D:=⟨1152921504606846944⟩,rs:=[⟨0,2⟩],Dn:=⟨1152921504606844896⟩ }),
 ([],19,.loop 0,{ lv:=[⟨none,5,0⟩,⟨none,6,0⟩,⟨none,7,0⟩],ps:=[((.sl I),1),(.bool,0),(I,0)],D:=⟨1152921504606846944⟩,rs:=[⟨0,2⟩],Dn:=⟨1152921504606320608⟩ }),
 ([],19,.block 1,{ lv:=[⟨none,5,0⟩,⟨none,6,0⟩],ps:=[((.sl I),1),(.bool,0)],D:=⟨1152921504606585696⟩,rs:=[⟨0,2⟩],Dn:=⟨1152921504606061408⟩ }),
 ([],19,.block 2,{ lv:=[⟨none,8,0⟩],ps:=[((.sl I),1)],D:=⟨17179607808⟩,rs:=[⟨0,2⟩],Dn:=⟨17179083520⟩ }),
 ([],19,.loop 2,{ lv:=[⟨none,8,0⟩,⟨none,9,0⟩],ps:=[((.sl I),1),(I,0)],D:=⟨17179607808⟩,rs:=[⟨0,2⟩],Dn:=⟨17179083520⟩ }),
 ([],19,.cond 29,{ lv:=[⟨none,8,0⟩],ps:=[((.sl I),1)],D:=⟨16106127616⟩ }),
 ([],19,.region 12,{ lv:=[⟨none,54,0⟩],ps:=[(.bool,0)],D:=⟨36028779839094784⟩ }),
 ([],19,.cond 58,{ lv:=[⟨none,5,0⟩,⟨none,6,0⟩],ps:=[((.sl I),1),(.bool,0)],D:=⟨576460752303423840⟩ })] []
theorem qoa:KT qfd qon [qfX,qg9] 40:=λx=>by kernel_rfl
theorem qoc:OT qfd:=entK (qg qpY (qg qsj qn)) hJ qoa
def qc6 (a0:((List (List UInt8)) × (List ((List UInt8) × (List Int) × (List Int) × (List Int) × (List Int) × Unit)) × (List ((List Int) × (List Int) × Unit)) × Unit)) (a1:Int):Option Bool :=
 (qiT).bind λx1 =>
 bif !x1 then
  some false
 else
  ((qjU a0).bind λx2 =>
   bif !x2 then
    some true
   else
    (qcr (a0.2.1.length:Int) (7:Int) (10:Int)).bind λx3 =>
    some x3).bind λ(p4:Bool) =>
  bif p4 then
   some true
  else
   (qeh a0).bind λx5 =>
   (qby x5 a1).bind λx6 =>
   (qeh a0).bind λx7 =>
   (qcE x7 a1).bind λx8 =>
   (qeh a0).bind λx9 =>
   (qco x9 a1).bind λx10 =>
   (qdr a0 a1).bind λx11 =>
   bif !(decide (x11 = 0)) then
    (bif decide (x6.2 = x11) then
      bif decide ((x6.1.length:Int) = 0) then
       bif decide (x8.2 = x11) then
        bif decide ((x8.1.length:Int) = 0) then
         bif decide (x10.2 = x11) then
          some (decide ((x10.1.length:Int) = 0))
         else
          some false
        else
         some false
       else
        some false
      else
       some false
     else
      some false).bind λ(p12:Bool) =>
    some p12
   else
    (bif !(decide (x6.2 = 0)) then
      some true
     else
      (qd4 a0 a1).bind λx13 =>
      (qcZ x6.1 x13).bind λx14 =>
      some (!x14)).bind λ(p15:Bool) =>
    bif p15 then
     some false
    else
     (qhK a0 a1).bind λx16 =>
     (bif !x16.2 then
       bif !(decide (x8.2 = 12)) then
        some true
       else
        bif !(decide ((x8.1.length:Int) = 0)) then
         some true
        else
         bif x16.2 then
          bif !(decide (x8.2 = 0)) then
           some true
          else
           (qcZ x8.1 x16.1).bind λx17 =>
           some (!x17)
         else
          some false
      else
       bif x16.2 then
        bif !(decide (x8.2 = 0)) then
         some true
        else
         (qcZ x8.1 x16.1).bind λx18 =>
         some (!x18)
       else
        some false).bind λ(p19:Bool) =>
     bif p19 then
      some false
     else
      (qaG a0 a1).bind λx20 =>
      bif x20 then
       (bif decide (x10.2 = 20) then
         some (decide ((x10.1.length:Int) = 0))
        else
         some false).bind λ(p21:Bool) =>
       some p21
      else
       (bif decide (x10.2 = 0) then
         (qdx a0 a1).bind λx22 =>
         (qcZ x10.1 x22).bind λx23 =>
         some x23
        else
         some false).bind λ(p24:Bool) =>
       some p24
def qbk:Entry:=⟨3,[.ty (.pair (.sl .str) (.pair (.sl (.pair .str (.pair (.sl I) (.pair (.sl I) (.pair (.sl I) (.pair (.sl I) .unit)))))) (.pair (.sl (.pair (.sl I) (.pair (.sl I) .unit))) .unit))),.ty I],[(.bool,0)],λx=>qc6 x.1 x.2⟩
def qif:TH:=qb4 [([],3,.region 3,{ lv:=[⟨none,24,0⟩],ps:=[(.bool,0)],D:=⟨33488896⟩,rs:=[⟨0,2⟩],Dn:=⟨32440320⟩ }),
 ([],3,.region 10,{ lv:=[⟨none,4,0⟩],ps:=[(.bool,0)],D:=⟨604462907555514773668528⟩ }),
 ([],3,.region 11,{ lv:=[⟨none,88,0⟩],ps:=[(.bool,0)],D:=⟨618365556732882822862209056⟩ }),
 ([],3,.region 14,{ lv:=[⟨none,118,0⟩],ps:=[(.bool,0)],D:=⟨664613958278376679319734733368201216⟩ }),
 ([],3,.region 17,{ lv:=[⟨none,4,0⟩],ps:=[(.bool,0)],D:=⟨675247821858737263435133986622415045136⟩ }),
 ([],3,.region 18,{ lv:=[⟨none,4,0⟩],ps:=[(.bool,0)],D:=⟨347768578993199109659568848795267112108560⟩ })] []
theorem qiJ:KT qbk qif [qiC,qcT,qcV,qiA,qdT,qfd,qg3,qgV,qbv,qev,qcQ,qdh,qb9] 40:=λx=>by kernel_rfl
theorem qiN:OT qbk:=entK (qg qtR (qg qf1 (qg qqg (qg qtb (qg qly (qg qoc (qg qsB (qg qsk (qg qdp (qg qn9 (qg qjk (qg qka (qg qhS qn))))))))))))) hJ qiJ
end
end Go.Proofs.YtkcaaaiihhhnmaaGreatDoor
end
section
namespace Go.Proofs.YtkcaaaiihhhnmaaGreatDoor
open Go Go.Ab Go.Tx
theorem wit (n lo hi:Int):qw n lo hi = some (decide (lo<=n/\n<=hi)):=by
 unfold qw;by_cases h:lo<=n <;> by_cases h':n<=hi <;> simp [h,h']
theorem Wit (n lo hi:Int):qcr n lo hi = some (decide (lo<=n/\n<=hi)):=by
 unfold qcr;by_cases h:lo<=n <;> by_cases h':n<=hi <;> simp [h,h']
theorem wq {n:Int} (h1 : -9223372036854775808<=n) (h2:n<=9223372036854775807):w64 n = n:=qgG h1 h2
theorem unl (b:Bool) (e:Int):qt b e = some (if b then 0 else e):=by cases b <;> rfl
theorem qBb (l:List Int) (h:l.length<=1000000000):qF l = some (qlB l):=by
 unfold qF; exact qwM l h
abbrev Rg:=Int × Int × Unit
def wOk (w:Rg):Prop:=(-1000000<=w.1/\w.1<=1000000)/\(1<=w.2.1/\w.2.1<=8)
instance (w:Rg):Decidable (wOk w):=by unfold wOk; infer_instance
end Go.Proofs.YtkcaaaiihhhnmaaGreatDoor
end
section
namespace Go.Proofs.YtkcaaaiihhhnmaaGreatDoor
open Go Go.Ab Go.Tx
abbrev Nm:=List UInt8
abbrev Gt:=List UInt8 × List (List UInt8) × Int × Unit
theorem qCF (l:List Nm) (m:Nm):qfM .str l m = decide (m ∈ l):=by
 have:=quM (τ:=.str) rfl (l:=l) (k:=m);by_cases h:m ∈ l
 ·rw [decide_eq_true h]; exact this.2 h
 ·rw [decide_eq_false h];cases hm:qfM .str l m with
  | false=>rfl
  | true=>exact absurd (this.1 hm) h
theorem qCM (l:List Nm) (k:Nm):qjB .str l k = if k ∈ l then l else l ++ [k]:=by
 unfold qjB;rw [qCF];by_cases h:k ∈ l
 ·rw [decide_eq_true h,if_pos h]; rfl
 ·rw [decide_eq_false h,if_neg h]; rfl
theorem quP (l:List Nm) (m k:Nm):m ∈ qjB .str l k ↔ m ∈ l\/m = k:=by
 rw [qCM];split
 ·rename_i h; exact ⟨λh=>.inl h,λh'=>h'.elim id λe=>e ▸ h⟩
 ·simp
theorem qj4 {ρ:Type} (n:Nat) (K:Int->Option (Int ⊕ (Unit ⊕ ρ))) (q:Nat->Prop) [∀ i,Decidable (q i)] (r:ρ) (c:Prop) [Decidable c] (hc:c ↔ ∃ j,j < n/\q j)
  (h:∀ i,i < n->K (i:Int) = some (if q i then .inr (.inr r) else .inl ((i:Int) + 1))) :
  qz (λs=>bif decide (s < (n:Int)) then K s else some (.inr (.inl ()))) 0 = some (if c then .inr r else .inl ()):=by
 refine Ok.eq (qbM n (λi (s:Int)=>s = (i:Int)/\∀ j,j < i -> ¬ q j) _ ⟨rfl,by omega⟩ ?_);rintro i s hi ⟨rfl,hI⟩;by_cases hlt:i < n
 ·have h0:decide ((i:Int) < (n:Int)) = true:=by simp <;> omega
  simp only [h0,cond_true];rw [h i hlt];by_cases hq:q i
  ·rw [if_pos hq,qaD,if_pos (hc.2 ⟨i,hlt,hq⟩)]
  ·rw [if_neg hq,qV];refine ⟨hlt,by simp,λj hj=>?_⟩;by_cases e:j = i
   ·subst e; exact hq
   ·exact hI j (by omega)
 ·have h0:decide ((i:Int) < (n:Int)) = false:=by simp <;> omega
  simp only [h0,cond_false];rw [qaD,if_neg (λh=>by
   obtain ⟨j,h1,h2⟩:=hc.1 h;exact hI j (by omega) h2)]
theorem qgk {α:Type} {l:List α} {i:Nat} {a:α}:a ∈ l.take i ↔ ∃ j,j < i/\l[j]? = some a:=by
 rw [List.mem_iff_getElem?];constructor
 ·rintro ⟨j,h⟩;rw [List.getElem?_take] at h;split at h
  ·exact ⟨j,by assumption,h⟩
  ·cases h
 ·rintro ⟨j,h1,h2⟩;exact ⟨j,by rw [List.getElem?_take,if_pos h1]; exact h2⟩
theorem qmE {α:Type} {g:Nat->α->Int}:∀ (l m:List α) (k:Nat),qbg g k (l ++ m) = if (qbg g k l).2 = 0 then qbg g (k + l.length) m else qbg g k l
 | [],m,k=>by simp [qbg]
 | a :: l,m,k=>by
  simp only [List.cons_append,qbg];by_cases h:g k a = 0
  ·simp only [h,if_true];rw [qmE l m (k + 1),List.length_cons,show k + 1 + l.length = k + (l.length + 1) by omega]
  ·simp [h]
theorem qqO {α:Type} {g:Nat->α->Int}:∀ {l:List α} {k:Nat},(qbg g k l).2 = 0->qbg g k l = (0,0)
 | [],k,_=>rfl
 | a :: l,k,h=>by
  simp only [qbg] at h ⊢;by_cases h0:g k a = 0
  ·simp only [h0,if_true] at h ⊢; exact qqO h
  ·simp [h0] at h
theorem qve {α:Type} {g:Nat->α->Int} {l:List α} {i:Nat} {a:α} (h:l[i]? = some a):(qbg g 0 (l.take (i + 1))).2 = if (qbg g 0 (l.take i)).2 = 0 then g i a else (qbg g 0 (l.take i)).2:=by
 have hlt:=qa6 h;rw [qcj a hlt,qaU h,qmE];split
 ·rw [List.length_take,Nat.min_eq_left (by omega),Nat.zero_add];simp only [qbg];by_cases h0:g i a = 0 <;> simp [h0]
 ·rfl
theorem qyt {α:Type} {g:Nat->α->Int} {l:List α} {i:Nat} {a:α} (h:l[i]? = some a) (h0:(qbg g 0 (l.take i)).2 = 0) (ha:g i a ≠ 0):qbg g 0 l = ((i:Int),g i a):=by
 have hlt:=qa6 h;have hl:l = l.take i ++ a :: l.drop (i + 1):=by
  have h2:l[i] = a:=by
   have:=List.getElem?_eq_getElem hlt;rw [this] at h; exact Option.some.inj h
  rw [<- h2,<- List.drop_eq_getElem_cons hlt]; simp
 rw [hl,qmE,if_pos h0,List.length_take,Nat.min_eq_left (by omega),Nat.zero_add];simp [qbg,ha]
def qzW (c:UInt8):Bool:=decide (97<=(c.toNat:Int)/\(c.toNat:Int)<=122) || decide (65<=(c.toNat:Int)/\(c.toNat:Int)<=90)
def qvL (i:Nat) (c:UInt8):Bool:=!qzW c && (decide ((i:Int) = 0) || (!decide ((c.toNat:Int) = 45) && !decide (48<=(c.toNat:Int)/\(c.toNat:Int)<=57)))
def isN (s:Nm):Bool:=decide (1<=(s.length:Int)/\(s.length:Int)<=12) && (qaL (λi c=>if qvL i c = true then some false else none) 0 s).isNone
theorem qBW (c:UInt8):(c.toNat:Int) < 256:=by
 have:=UInt8.toNat_lt c; omega
theorem qrM (s:Nm) (hl:s.length<=1000000000):qbb s = some (isN s):=by
 unfold qbb;rw [qaw s _ (λi c=>if qvL i c = true then some false else none) (λi c hi=>by
  have:=qa6 hi;have hu:=qBW c;rw [qU hi];simp only [qa];rw [wq (by omega) (by omega)];simp only [wit,qa];have c1:(bif decide (97<=(c.toNat:Int)/\(c.toNat:Int)<=122) then some true else some (decide (65<=(c.toNat:Int)/\(c.toNat:Int)<=90))) = some (qzW c):=by
   unfold qzW; cases decide (97<=(c.toNat:Int)/\(c.toNat:Int)<=122) <;> rfl
  rw [c1];simp only [qa];have c2:(bif !qzW c then bif decide ((i:Int) = 0) then some true else bif !(decide ((c.toNat:Int) = 45)) then some (!decide (48<=(c.toNat:Int)/\(c.toNat:Int)<=57)) else some false else some false) = some (qvL i c):=by
   unfold qvL;cases qzW c <;> cases decide ((i:Int) = 0) <;> cases decide ((c.toNat:Int) = 45) <;> rfl
  rw [c2];simp only [qa];cases qvL i c
  ·simp only [cond_false,qf,if_false,stp]; rw [wq (by omega) (by omega)]
  ·rfl),qQ]
 unfold isN;have hs:∀ r,qaL (λi c=>if qvL i c = true then some false else none) 0 s = some r->r = false:=by
  intro r hr;obtain ⟨i,a,_,h2,_⟩:=qaH hr;split at h2
  ·exact (Option.some.inj h2).symm
  ·cases h2
 cases hf:qaL (λi c=>if qvL i c = true then some false else none) 0 s with
 | none=>simp [wit]
 | some r=>rw [hs r hf]; simp
theorem qsn (s:Nm):qez s = some (isN s):=by
 unfold qez;by_cases h1:(s.length:Int) < 1
 ·have:¬ (1<=(s.length:Int)/\(s.length:Int)<=12):=by omega
  simp only [isN,decide_eq_false this,Bool.false_and];simp only [h1,decide_true,cond_true,qa]
 ·by_cases h2:(s.length:Int) > 12
  ·have:¬ (1<=(s.length:Int)/\(s.length:Int)<=12):=by omega
   simp only [isN,decide_eq_false this,Bool.false_and];simp only [h1,h2,decide_true,decide_false,cond_true,cond_false,qa]
  ·have hr:(1<=(s.length:Int)/\(s.length:Int)<=12):=by omega
   simp only [isN,decide_eq_true hr,Bool.true_and];simp only [h1,h2,decide_true,decide_false,cond_true,cond_false,qa];rw [qaw s _ (λi c=>if qvL i c = true then some false else none) (λi c hi=>by
    have:=qa6 hi;have hu:=qBW c;rw [qU hi];simp only [qa];have c1:(bif decide ((c.toNat:Int)>=97) then bif decide ((c.toNat:Int)<=122) then some true else bif decide ((c.toNat:Int)>=65) then some (decide ((c.toNat:Int)<=90)) else some false
      else bif decide ((c.toNat:Int)>=65) then some (decide ((c.toNat:Int)<=90)) else some false) = some (qzW c):=by
     unfold qzW;by_cases a1:(c.toNat:Int)>=97 <;> by_cases a2:(c.toNat:Int)<=122 <;> by_cases a3:(c.toNat:Int)>=65 <;> by_cases a4:(c.toNat:Int)<=90 <;> simp [a1,a2,a3,a4]
    rw [c1];simp only [qa];have c2:(bif !qzW c then bif decide ((i:Int) = 0) then some true else bif !(decide ((c.toNat:Int) = 45)) then bif decide ((c.toNat:Int) < 48) then some true else some (decide ((c.toNat:Int) > 57)) else some false else some false) = some (qvL i c):=by
     unfold qvL;have e:(bif decide ((c.toNat:Int) < 48) then some true else some (decide ((c.toNat:Int) > 57))) = some (!decide (48<=(c.toNat:Int)/\(c.toNat:Int)<=57)):=by
      by_cases a1:(c.toNat:Int) < 48
      ·have:¬ (48<=(c.toNat:Int)/\(c.toNat:Int)<=57):=by omega
       rw [decide_eq_true a1,decide_eq_false this]; rfl
      ·rw [decide_eq_false a1];by_cases a2:(c.toNat:Int) > 57
       ·have:¬ (48<=(c.toNat:Int)/\(c.toNat:Int)<=57):=by omega
        rw [decide_eq_true a2,decide_eq_false this]; rfl
       ·have:(48<=(c.toNat:Int)/\(c.toNat:Int)<=57):=by omega
        rw [decide_eq_false a2,decide_eq_true this]; rfl
     rw [e];cases qzW c <;> cases decide ((i:Int) = 0) <;> cases decide ((c.toNat:Int) = 45) <;> rfl
    rw [c2];simp only [qa];cases qvL i c
    ·simp only [cond_false,qf,if_false,stp]; rw [wq (by omega) (by omega)]
    ·rfl),qQ]
   have hs:∀ r,qaL (λi c=>if qvL i c = true then some false else none) 0 s = some r->r = false:=by
    intro r hr;obtain ⟨i,a,_,h2,_⟩:=qaH hr;split at h2
    ·exact (Option.some.inj h2).symm
    ·cases h2
   cases hf:qaL (λi c=>if qvL i c = true then some false else none) 0 s with
   | none=>simp
   | some r=>rw [hs r hf]; simp
structure GB (gs:List Gt):Prop where
 len:gs.length<=8
 nm:∀ g ∈ gs,g.1.length<=30
 rl:∀ g ∈ gs,g.2.1.length<=6
 rn:∀ g ∈ gs,∀ r ∈ g.2.1,r.length<=30
theorem qwa (l:List Nm) (t:Nm) (hl:l.length<=1000000000):qe0 l t = some (decide (t ∈ l)):=by
 unfold qe0;rw [qj4 l.length _ (λj=>l[j]? = some t) true (t ∈ l) (by
  rw [List.mem_iff_getElem?];exact ⟨λ⟨j,h⟩=>⟨j,qa6 h,h⟩,λ⟨j,_,h⟩=>⟨j,h⟩⟩) (λi hi=>by
  have hx:l[i]? = some l[i]:=List.getElem?_eq_getElem hi;rw [qU hx];simp only [qa,hx,qb];by_cases h:l[i] = t
  ·simp [h]
  ·simp only [h,decide_false,cond_false,if_false]; rw [wq (by omega) (by omega)])]
 by_cases h:t ∈ l <;> simp [h]
end Go.Proofs.YtkcaaaiihhhnmaaGreatDoor
end
section
namespace Go.Proofs.YtkcaaaiihhhnmaaGreatDoor
open Go Go.Ab Go.Tx
abbrev Lm:=Int × Int × Int × Int × Int × Unit
abbrev Mo:=Int × Int × Int × Unit
abbrev En:=Int × Int × Int × Int × Unit
structure LimOk (x:Lm):Prop where
 lo : -60<=x.1/\x.1<=60
 hi : -60<=x.2.1/\x.2.1<=60
 sp:1<=x.2.2.1/\x.2.2.1<=8
 pu:1<=x.2.2.2.1/\x.2.2.2.1<=3
 je:1<=x.2.2.2.2.1/\x.2.2.2.2.1<=6
theorem qxP (x:Lm):LimOk x ↔ (-60<=x.1/\x.1<=60)/\(-60<=x.2.1/\x.2.1<=60)/\(1<=x.2.2.1/\x.2.2.1<=8)/\(1<=x.2.2.2.1/\x.2.2.2.1<=3)/\(1<=x.2.2.2.2.1/\x.2.2.2.2.1<=6) :=
 ⟨λh=>⟨h.1,h.2,h.3,h.4,h.5⟩,λh=>⟨h.1,h.2.1,h.2.2.1,h.2.2.2.1,h.2.2.2.2⟩⟩
instance (x:Lm):Decidable (LimOk x):=decidable_of_iff _ (qxP x).symm
def qyp (x:Lm) (s:Mo):Prop:=(x.1<=s.1/\s.1<=x.2.1)/\(-x.2.2.1<=s.2.1/\s.2.1<=x.2.2.1)/\(-x.2.2.2.1<=s.2.2.1/\s.2.2.1<=x.2.2.2.1)
instance (x:Lm) (s:Mo):Decidable (qyp x s):=by unfold qyp; infer_instance
def nxt (s:Mo) (p:Int):Mo:=(s.1 + (s.2.1 + p),s.2.1 + p,p,())
def pok (x:Lm) (s:Mo) (p:Int):Prop:=(-x.2.2.2.1<=p/\p<=x.2.2.2.1)/\(-x.2.2.2.2.1<=p - s.2.2.1/\p - s.2.2.1<=x.2.2.2.2.1)/\qyp x (nxt s p)
instance (x:Lm) (s:Mo) (p:Int):Decidable (pok x s p):=by unfold pok; infer_instance
def mot (e:En):Mo:=(e.1,e.2.1,e.2.2.1,())
def qxx (m:Mo):Prop:=m.2.1 = 0/\m.2.2.1 = 0
instance (m:Mo):Decidable (qxx m):=by unfold qxx; infer_instance
def qCJ (m:Mo) (k:Int):En:=(m.1,m.2.1,m.2.2.1,k,())
inductive Pth (all:List En):Nat->List Int->Prop
 | nil {k:Nat} {e:En}:all[k]? = some e->e.2.2.2.1 < 0->Pth all k []
 | snoc {k:Nat} {e:En} {l:List Int}:all[k]? = some e->0<=e.2.2.2.1->Pth all e.2.2.2.1.toNat l->Pth all k (l ++ [e.2.2.1])
structure Good (x:Lm) (all:List En):Prop where
 nd:(all.map mot).Nodup
 ok:∀ e ∈ all,qyp x (mot e)
 bef:∀ (k:Nat) e,all[k]? = some e->e.2.2.2.1 < k /\ -1<=e.2.2.2.1
 pos:0 < all.length
def qCi (x:Lm) (m:Mo):Int:=((m.1 - x.1) * (2 * x.2.2.1 + 1) + (m.2.1 + x.2.2.1)) * (2 * x.2.2.2.1 + 1) + (m.2.2.1 + x.2.2.2.1)
def NN (x:Lm):Int:=(x.2.1 - x.1 + 1) * (2 * x.2.2.1 + 1) * (2 * x.2.2.2.1 + 1)
end Go.Proofs.YtkcaaaiihhhnmaaGreatDoor
end
section
namespace Go.Proofs.YtkcaaaiihhhnmaaGreatDoor
open Go Go.Ab Go.Tx
abbrev E6:=Int × Int × Int × Int × Int × Unit
def prj (e:E6):En:=(e.1,e.2.1,e.2.2.1,e.2.2.2.1,())
structure Sn (x:Lm) (fo:List E6) (sn:List Bool):Prop where
 len:sn.length = (NN x).toNat
 at_:∀ m,qyp x m->sn[(qCi x m).toNat]? = some (decide (m ∈ (fo.map prj).map mot))
end Go.Proofs.YtkcaaaiihhhnmaaGreatDoor
end
section
namespace Go.Proofs.YtkcaaaiihhhnmaaGreatDoor
open Go Go.Ab Go.Tx
theorem qiW (l:List Int) (h:l.length<=1000):qbp l = some l:=by
 unfold qbp;rw [qwC (by omega)]; rfl
end Go.Proofs.YtkcaaaiihhhnmaaGreatDoor
end
section
namespace Go.Proofs.YtkcaaaiihhhnmaaGreatDoor
open Go Go.Ab Go.Tx
structure Bf (x:Lm) (s:Mo) (i:Nat) (all:List En) (d:Nat->Nat):Prop where
 le:i<=all.length
 root:all[0]? = some (qCJ s (-1))/\d 0 = 0
 par:∀ (k:Nat) e,all[k]? = some e->0 < k->∃ (j:Nat) (e':En),e.2.2.2.1 = (j:Int)/\j < k/\d k = d j + 1/\all[j]? = some e'/\pok x (mot e') e.2.2.1/\mot e = nxt (mot e') e.2.2.1
 mono:∀ k k',k<=k'->k' < all.length->d k<=d k'
 done:∀ (k:Nat) e,k < i->all[k]? = some e -> ¬ qxx (mot e)/\∀ p,pok x (mot e) p->∃ (k2:Nat) (e2:En),all[k2]? = some e2/\mot e2 = nxt (mot e) p/\d k2<=d k + 1
 top:∀ k,k < all.length->i < all.length->d k<=d i + 1
end Go.Proofs.YtkcaaaiihhhnmaaGreatDoor
end
section
namespace Go.Proofs.YtkcaaaiihhhnmaaGreatDoor
open Go Go.Ab Go.Tx
theorem qAg (l:List Int) (t:Int) (hl:l.length<=1000000000):qhn l t = some (decide (t ∈ l)):=by
 unfold qhn;have key:=qaw l (λs2=>(idx l s2).bind λx3 =>
    bif decide (x3 = t) then
     some (.inr (.inr true))
    else
     some (.inl (w64 (s2 + 1)))) (λ_ a=>if a = t then some true else none) (λi a hi=>by
  have:=qa6 hi;rw [qU hi];simp only [qa];by_cases h:a = t
  ·simp [h,stp]
  ·simp only [h,decide_false,cond_false,if_false,stp]; rw [wq (by omega) (by omega)])
 rw [key,qQ];cases hf:qaL (λ(_:Nat) a=>if a = t then some true else none) 0 l with
 | none =>
  rw [qbZ] at hf;have:t ∉ l:=λh=>by
   obtain ⟨i,hi⟩:=List.mem_iff_getElem?.1 h;have:=hf i t hi;simp at this
  simp [this]
 | some r =>
  obtain ⟨i,a,h1,h2,_⟩:=qaH hf;split at h2
  ·rename_i h; subst h;simp only [qb] at h2; subst h2;simp [List.mem_of_getElem? h1]
  ·cases h2
end Go.Proofs.YtkcaaaiihhhnmaaGreatDoor
end
section
namespace Go.Proofs.YtkcaaaiihhhnmaaGreatDoor
open Go Go.Ab Go.Tx
abbrev Ts:=List Int × List Int × Unit
abbrev Ac:=Nm × List Int × List Int × List Int × List Int × Unit
abbrev Mc:=List Nm × List Ac × List Ts × Unit
abbrev qc1 (a:Ac):Ts:=(a.2.1,a.2.2.1,())
abbrev dos (a:Ac):Ts:=(a.2.2.2.1,a.2.2.2.2.1,())
def shT (t:Ts):Prop:=t.1.length<=10/\t.2.1.length<=10
instance (t:Ts):Decidable (shT t):=by unfold shT; infer_instance
structure MB (m:Mc):Prop where
 fl:m.1.length<=10
 ac:m.2.1.length<=12
 hm:m.2.2.1.length<=6
 fn:∀ s ∈ m.1,s.length<=30
 an:∀ a ∈ m.2.1,a.1.length<=30/\shT (qc1 a)/\shT (dos a)
 ht:∀ t ∈ m.2.2.1,shT t
theorem qu8 (t:Ts):qc9 t = some (decide (shT t)):=by
 unfold qc9 shT;by_cases h1:t.1.length<=10
 ·have h1':(t.1.length:Int)<=10:=by omega
  by_cases h2:t.2.1.length<=10
  ·have h2':(t.2.1.length:Int)<=10:=by omega
   simp [h1,h2,h1',h2']
  ·have h2':¬ (t.2.1.length:Int)<=10:=by omega
   simp [h1,h2,h1',h2']
 ·have h1':¬ (t.1.length:Int)<=10:=by omega
  simp [h1,h1']
theorem qBV (m:Mc):∃ b,qjU m = some b/\(b = true->MB m):=by
 unfold qjU;by_cases g1:(m.1.length:Int) > 10
 ·exact ⟨false,by simp only [g1,decide_true,cond_true,qa],λh=>by cases h⟩
 by_cases g2:(m.2.1.length:Int) > 12
 ·exact ⟨false,by simp only [g1,g2,decide_true,decide_false,cond_true,cond_false,qa],λh=>by cases h⟩
 by_cases g3:(m.2.2.1.length:Int) > 6
 ·exact ⟨false,by simp only [g1,g2,g3,decide_true,decide_false,cond_true,cond_false,qa],λh=>by cases h⟩
 simp only [g1,g2,g3,decide_false,cond_false,qa];rw [qaw m.1 _ (λ_ s=>if (s.length:Int) > 30 then some false else none) (λi a hi=>by
  have:=qa6 hi;rw [qU hi];simp only [qa];by_cases h:(a.length:Int) > 30
  ·simp only [h,decide_true,cond_true,if_true,stp]
  ·simp only [h,decide_false,cond_false,if_false,stp]; rw [wq (by omega) (by omega)]),qQ]
 cases hf1:qaL (λ_ (s:Nm)=>if (s.length:Int) > 30 then some false else none) 0 m.1 with
 | some r =>
  obtain ⟨i,a,_,h2,_⟩:=qaH hf1;split at h2
  ·cases h2; exact ⟨false,rfl,λh=>by cases h⟩
  ·cases h2
 | none =>
  simp only
  rw [qaw m.2.1 _ (λ_ a=>if (a.1.length:Int) > 30 \/ ¬ shT (qc1 a) \/ ¬ shT (dos a) then some false else none) (λi a hi=>by
   have:=qa6 hi;rw [qU hi];simp only [qa,qu8];by_cases h:(a.1.length:Int) > 30
   ·simp only [h,decide_true,cond_true,true_or,if_true,stp,qa]
   ·by_cases h2:shT (qc1 a)
    ·by_cases h3:shT (dos a)
     ·simp only [h,h2,h3,decide_true,decide_false,cond_false,Bool.not_true,not_true,or_self,if_false,stp,qa]; rw [wq (by omega) (by omega)]
     ·simp only [h,h2,h3,decide_true,decide_false,cond_false,cond_true,Bool.not_true,Bool.not_false,not_true,not_false_eq_true,or_true,if_true,stp,qa]
    ·simp only [h,h2,decide_true,decide_false,cond_false,cond_true,Bool.not_true,Bool.not_false,not_false_eq_true,or_true,true_or,if_true,stp,qa]),qQ]
  cases hf2:qaL (λ_ (a:Ac)=>if (a.1.length:Int) > 30 \/ ¬ shT (qc1 a) \/ ¬ shT (dos a) then some false else none) 0 m.2.1 with
  | some r =>
   obtain ⟨i,a,_,h2,_⟩:=qaH hf2;split at h2
   ·cases h2; exact ⟨false,rfl,λh=>by cases h⟩
   ·cases h2
  | none =>
   simp only
   rw [qaw m.2.2.1 _ (λ_ a=>if ¬ shT a then some false else none) (λi a hi=>by
    have:=qa6 hi;rw [qU hi];simp only [qa,qu8];by_cases h:shT a
    ·simp only [h,decide_true,cond_false,Bool.not_true,not_true,if_false,stp]; rw [wq (by omega) (by omega)]
    ·simp only [h,decide_false,cond_true,Bool.not_false,not_false_eq_true,if_true,stp]),qQ]
   cases hf3:qaL (λ_ (a:Ts)=>if ¬ shT a then some false else none) 0 m.2.2.1 with
   | some r =>
    obtain ⟨i,a,_,h2,_⟩:=qaH hf3;split at h2
    ·cases h2; exact ⟨false,rfl,λh=>by cases h⟩
    ·cases h2
   | none =>
    refine ⟨true,rfl,λ_=>⟨by omega,by omega,by omega,λs hs=>?_,λa ha=>?_,λt ht=>?_⟩⟩
    ·obtain ⟨i,hi⟩:=List.mem_iff_getElem?.1 hs;have:=qbZ.1 hf1 i s hi;by_cases h:(s.length:Int) > 30
     ·simp only [h,if_true] at this; cases this
     ·omega
    ·obtain ⟨i,hi⟩:=List.mem_iff_getElem?.1 ha;have:=qbZ.1 hf2 i a hi;by_cases h:(a.1.length:Int) > 30 \/ ¬ shT (qc1 a) \/ ¬ shT (dos a)
     ·simp only [h,if_true] at this; cases this
     ·simp only [not_or,Classical.not_not] at h;exact ⟨by omega,h.2⟩
    ·obtain ⟨i,hi⟩:=List.mem_iff_getElem?.1 ht;have:=qbZ.1 hf3 i t hi;by_cases h:¬ shT t
     ·simp only [h,not_false_eq_true,if_true] at this; cases this
     ·exact Classical.not_not.1 h
theorem qiO {t:Ts} (h:shT t):qau t = some t:=by
 obtain ⟨h1,h2⟩:=h;unfold qau;rw [qiW _ (by omega),qiW _ (by omega)]; rfl
theorem qAL {m:Mc} (hb:MB m):qeh m = some m:=by
 have h1:=hb.fl; have h2:=hb.ac; have h3:=hb.hm;unfold qeh qfg;rw [qwC (by omega)];simp only [qa];have k1:Ok (qz (λ(s4:(Int × (List Nm) × (List Ac) × (List Ts))) =>
   bif decide (s4.1 < (m.2.1.length:Int)) then
    (idx m.2.1 s4.1).bind λx5 =>
    (idx m.2.1 s4.1).bind λx6 =>
    (qau (x6.2.1,x6.2.2.1,())).bind λx7 =>
    (idx m.2.1 s4.1).bind λx8 =>
    (qau (x8.2.2.2.1,x8.2.2.2.2.1,())).bind λx9 =>
    (app s4.2.2.1 ([(x5.1,x7.1,x7.2.1,x9.1,x9.2.1,())])).bind λx10 =>
    some (.inl (w64 (s4.1 + 1),s4.2.1,x10,s4.2.2.2))
   else
    some (.inr (s4.2.1,s4.2.2.1,s4.2.2.2))) (0,m.1,[],[])) (λr=>r = (m.1,m.2.1,[])):=by
  refine qbM m.2.1.length (λi (s:Int × List Nm × List Ac × List Ts)=>s = ((i:Int),m.1,m.2.1.take i,[])) _ rfl ?_;rintro i s hi rfl;by_cases hlt:i < m.2.1.length
  ·obtain ⟨a,ha⟩:∃ a,m.2.1[i]? = some a:=⟨_,List.getElem?_eq_getElem hlt⟩
   have h0:decide ((i:Int) < (m.2.1.length:Int)) = true:=by simp <;> omega
   obtain ⟨_,b1,b2⟩:=hb.an a (List.mem_of_getElem? ha);simp only [h0,cond_true,qU ha,qa];rw [qiO b1,qiO b2];simp only [qa];rw [qda (by rw [List.length_take]; omega)];simp only [qa];rw [wq (by omega) (by omega),qV];exact ⟨hlt,by rw [qcj a hlt,qaU ha]; simp⟩
  ·have:i = m.2.1.length:=by omega
   subst this;have h0:decide ((m.2.1.length:Int) < (m.2.1.length:Int)) = false:=by simp
   simp only [h0,cond_false];rw [qaD,List.take_length]
 rw [k1.eq];simp only [qa];have k2:Ok (qz (λ(s13:(Int × (List Nm) × (List Ac) × (List Ts))) =>
   bif decide (s13.1 < (m.2.2.1.length:Int)) then
    (idx m.2.2.1 s13.1).bind λx14 =>
    (qau x14).bind λx15 =>
    (app s13.2.2.2 ([x15])).bind λx16 =>
    some (.inl (w64 (s13.1 + 1),s13.2.1,s13.2.2.1,x16))
   else
    some (.inr (s13.2.1,s13.2.2.1,s13.2.2.2))) (0,m.1,m.2.1,[])) (λr=>r = (m.1,m.2.1,m.2.2.1)):=by
  refine qbM m.2.2.1.length (λi (s:Int × List Nm × List Ac × List Ts)=>s = ((i:Int),m.1,m.2.1,m.2.2.1.take i)) _ rfl ?_;rintro i s hi rfl;by_cases hlt:i < m.2.2.1.length
  ·obtain ⟨a,ha⟩:∃ a,m.2.2.1[i]? = some a:=⟨_,List.getElem?_eq_getElem hlt⟩
   have h0:decide ((i:Int) < (m.2.2.1.length:Int)) = true:=by simp <;> omega
   have b1:=hb.ht a (List.mem_of_getElem? ha);simp only [h0,cond_true,qU ha,qa];rw [qiO b1];simp only [qa];rw [qda (by rw [List.length_take]; omega)];simp only [qa];rw [wq (by omega) (by omega),qV];exact ⟨hlt,by rw [qcj a hlt,qaU ha]; simp⟩
  ·have:i = m.2.2.1.length:=by omega
   subst this;have h0:decide ((m.2.2.1.length:Int) < (m.2.2.1.length:Int)) = false:=by simp
   simp only [h0,cond_false];rw [qaD,List.take_length]
 rw [k2.eq];rfl
theorem qu0 {α:Type} (g:Nat->α->Int):∀ (l:List α) (k:Nat),qaL (λi a=>if g i a = 0 then none else some (g i a)) k l = if (qbg g k l).2 = 0 then none else some (qbg g k l).2
 | [],k=>rfl
 | a :: l,k=>by
  simp only [qaL,qbg];by_cases h:g k a = 0
  ·simp only [h,if_true]; exact qu0 g l (k + 1)
  ·simp [h]
theorem qsO {α σ:Type} (l:List α) (g:Nat->α->Int) (J:Nat->σ->Prop) (K:Int × σ->Option ((Int × σ) ⊕ (σ ⊕ (Int × Int × σ)))) (s0:σ) (h0:J 0 s0)
  (h:∀ (i:Nat) a s,l[i]? = some a->J i s->∃ s',J (i + 1) s'/\K ((i:Int),s) = some (if g i a = 0 then .inl ((i:Int) + 1,s') else .inr (.inr ((i:Int),g i a,s')))) :
  Ok ((qz (λs=>bif decide (s.1 < (l.length:Int)) then K s else some (.inr (.inl s.2))) (0,s0)).bind (Sum.elim (λp=>some (0,0,p)) some)) (λr=>(r.1,r.2.1) = qbg g 0 l):=by
 rw [qwD];refine (qbM l.length (λi (s:Int × σ)=>s.1 = (i:Int)/\J i s.2/\(qbg g 0 (l.take i)).2 = 0)
  (λr:σ ⊕ (Int × Int × σ)=>match r with
   | .inl _=>(qbg g 0 l) = (0,0)
   | .inr q=>(q.1,q.2.1) = qbg g 0 l) ⟨rfl,h0,rfl⟩ ?_).mono ?_
 ·rintro i ⟨i0,s⟩ hi ⟨e1,e2,e3⟩;simp only at e1 e2;subst e1;by_cases hlt:i < l.length
  ·have h0:decide ((i:Int) < (l.length:Int)) = true:=by simp <;> omega
   obtain ⟨a,ha⟩:∃ a,l[i]? = some a:=⟨_,List.getElem?_eq_getElem hlt⟩
   simp only [h0,cond_true];obtain ⟨s',hJ,hK⟩:=h i a s ha e2;rw [hK];by_cases hg:g i a = 0
   ·rw [if_pos hg,qV];exact ⟨hlt,by simp,hJ,by rw [qve ha,if_pos e3,hg]⟩
   ·rw [if_neg hg,qaD];exact (qyt ha e3 hg).symm
  ·have:i = l.length:=by omega
   subst this;have h0:decide ((l.length:Int) < (l.length:Int)) = false:=by simp
   simp only [h0,cond_false];rw [qaD];rw [List.take_length] at e3;exact qqO e3
 ·intro r hr;cases r with
  | inl p=>simp only at hr ⊢; rw [qkT]; exact hr.symm
  | inr q=>exact hr
def ixE (f:Int) (l:List Int) (i:Nat) (n:Int):Int:=if 0<=n/\n<=f - 1 then (if 0 < i/\n<=l.getD (i - 1) 0 then 9 else 0) else 6
def qwf (f:Int) (l:List Int):Int:=(qbg (ixE f l) 0 l).2
theorem qjQ (l:List Int) (f:Int) (hl:l.length<=1000) (hf:0<=f/\f<=1000):qaZ l f = some (qwf f l):=by
 unfold qaZ;have key:=qsO l (ixE f l) (λi (p:Int)=>p = if i = 0 then -1 else l.getD (i - 1) 0) (λ(s2:Int × Int)=>(idx l s2.1).bind λx3 =>
     (qw x3 (0:Int) (w64 (f - 1))).bind λx4 =>
     (qt x4 (6:Int)).bind λx5 =>
     (qt (decide (x3 > s2.2)) (9:Int)).bind λx6 =>
     (qF ([x5,x6])).bind λx7 =>
     bif !(decide (x7 = 0)) then
      some (.inr (.inr (s2.1,x7,x3)))
     else
      some (.inl (w64 (s2.1 + 1),x3))) (-1) rfl (by
  rintro i a p ha rfl;have hlt:=qa6 ha;refine ⟨a,by simp [ha],?_⟩;rw [wq (by omega) (by omega),qU ha];simp only [qa,wit,unl];rw [qBb _ (by simp)];simp only [qa];rw [wq (by omega) (by omega)];unfold ixE;by_cases c1:0<=a/\a<=f - 1
  ·by_cases c2:i = 0
   ·subst c2;have c3:a > -1:=by omega
    simp [c1,c3,qlB]
   ·have c4:0 < i:=by omega
    by_cases c3:a<=l.getD (i - 1) 0
    ·have c3':¬ a > l.getD (i - 1) 0:=by omega
     simp only [c1,c2,c3,c3',c4,and_self,decide_true,decide_false,if_true,if_false,qf,qlB];rfl
    ·have c3':a > l.getD (i - 1) 0:=by omega
     simp only [c1,c2,c3,c3',c4,and_self,and_false,decide_true,decide_false,if_true,if_false,qf,qlB];rfl
  ·simp only [c1,decide_false,if_false,qf,qlB];rfl)
 obtain ⟨r,h1,h2⟩:=key;rw [h1];simp only [qa];unfold qwf;rw [<- h2]
theorem qi6 (l:List Int) (f:Int) (hl:l.length<=1000) (hf:0<=f/\f<=1000):qbu l f = some (qwf f l):=by
 unfold qbu;rw [qaw l _ (λi n=>if ixE f l i n = 0 then none else some (ixE f l i n)) (λi a hi=>by
  have hlt:=qa6 hi;rw [qU hi];simp only [qa,Wit];rw [wq (n:=f - 1) (by omega) (by omega)];unfold ixE;by_cases c1:0<=a/\a<=f - 1
  ·by_cases c2:0 < i
   ·have c2':(i:Int) > 0:=by omega
    have e1:((i:Int) - 1) = ((i - 1:Nat):Int):=by omega
    obtain ⟨b,hb⟩:∃ b,l[i - 1]? = some b:=⟨_,List.getElem?_eq_getElem (by omega)⟩
    rw [wq (n:=(i:Int) - 1) (by omega) (by omega),e1,qU hb,qaU hb];by_cases c3:a<=b
    ·simp [c1,c2,c2',c3,stp]
    ·simp only [c1,c2,c2',c3,and_self,and_false,decide_true,decide_false,Bool.not_true,cond_false,cond_true,qa,if_true,if_false,stp];rw [wq (by omega) (by omega)]
   ·have c2':¬ (i:Int) > 0:=by omega
    simp only [c1,c2,c2',and_self,false_and,decide_true,decide_false,Bool.not_true,cond_false,cond_true,qa,if_true,if_false,stp];rw [wq (by omega) (by omega)]
  ·simp [c1,stp]),qQ,qu0]
 unfold qwf;by_cases h:(qbg (ixE f l) 0 l).2 = 0 <;> simp [h]
def tsE (f:Int) (t:Ts):Int:=if qwf f t.1 = 0 then (if qwf f t.2.1 = 0 then (if ∃ x ∈ t.1,x ∈ t.2.1 then 13 else 0) else qwf f t.2.1) else qwf f t.1
theorem qqT (l:List Int) (x:Int) (hl:l.length<=1000000000):q9 l x = some (decide (x ∈ l)):=by
 unfold q9 qbL;rw [qaw l _ (λi n=>if x = n then some (i:Int) else none) (λi a hi=>by
  have:=qa6 hi;rw [qU hi];simp only [qa];by_cases h:x = a
  ·simp only [h,decide_true,cond_true,if_true,stp]
  ·simp only [h,decide_false,cond_false,if_false,stp]; rw [wq (by omega) (by omega)]),qQ]
 cases hf:qaL (λi n=>if x = n then some (i:Int) else none) 0 l with
 | none =>
  have:x ∉ l:=λh=>by
   obtain ⟨i,hi⟩:=List.mem_iff_getElem?.1 h;have:=qbZ.1 hf i x hi;simp at this
  simp [this]
 | some r =>
  obtain ⟨i,a,h1,h2,_⟩:=qaH hf;by_cases h:x = a
  ·subst h;simp only [if_true,qb] at h2;have:x ∈ l:=List.mem_of_getElem? h1;have h3:r>=0:=by omega
   simp [this,h3]
  ·simp [h] at h2
theorem qk6 (t:Ts) (f:Int) (h:shT t) (hf:0<=f/\f<=1000):qav t f = some (tsE f t):=by
 obtain ⟨h1,h2⟩:=h;unfold qav;have key:=qyx t.1 (λx=>q9 t.2.1 x) (λx=>decide (x ∈ t.2.1)) (λx _=>qqT _ _ (by omega)) (by omega);obtain ⟨p,e1,e2⟩:=qd.1 key;rw [e1];simp only [qa];rw [qjQ _ _ (by omega) hf,qjQ _ _ (by omega) hf];simp only [qa,unl];rw [Option.some.inj e2,qBb _ (by simp)];simp only [qa];unfold tsE;by_cases c1:qwf f t.1 = 0
 ·by_cases c2:qwf f t.2.1 = 0
  ·by_cases c3:∃ x ∈ t.1,x ∈ t.2.1
   ·simp [c1,c2,c3,qlB]
   ·simp [c1,c2,c3,qlB]
  ·simp [c1,c2,qlB]
 ·simp [c1,qlB]
theorem qkm (t:Ts) (f:Int) (h:shT t) (hf:0<=f/\f<=1000):qb0 t f = some (tsE f t):=by
 obtain ⟨h1,h2⟩:=h;unfold qb0;rw [qi6 _ _ (by omega) hf,qi6 _ _ (by omega) hf];simp only [qa];unfold tsE;by_cases c1:qwf f t.1 = 0
 ·by_cases c2:qwf f t.2.1 = 0
  ·simp only [c1,c2,decide_true,Bool.not_true,cond_false,if_true];rw [qj4 t.1.length _ (λj=>∃ x,t.1[j]? = some x/\x ∈ t.2.1) (13:Int) (∃ x ∈ t.1,x ∈ t.2.1) (by
    constructor
    ·rintro ⟨x,hx,hm⟩;obtain ⟨j,hj⟩:=List.mem_iff_getElem?.1 hx;exact ⟨j,qa6 hj,x,hj,hm⟩
    ·rintro ⟨j,_,x,hj,hm⟩;exact ⟨x,List.mem_of_getElem? hj,hm⟩) (λi hi=>by
    obtain ⟨a,ha⟩:∃ a,t.1[i]? = some a:=⟨_,List.getElem?_eq_getElem hi⟩
    rw [qU ha];simp only [qa];rw [qAg _ _ (by omega)];simp only [qa];by_cases c:a ∈ t.2.1
    ·simp [c,ha]
    ·simp only [c,decide_false,cond_false,ha,qb,exists_eq_left',if_false];rw [wq (by omega) (by omega)])]
   by_cases c3:∃ x ∈ t.1,x ∈ t.2.1
   ·rw [if_pos c3,if_pos c3]; rfl
   ·rw [if_neg c3,if_neg c3]; rfl
  ·simp [c1,c2]
 ·simp [c1]
def nmE (l:List Nm) (i:Nat) (s:Nm):Int:=if isN s = true then (if s ∈ l.take i then 5 else 0) else 4
def acE (m:Mc) (i:Nat) (a:Ac):Int :=
 if isN a.1 = true then (if a.1 ∈ (m.2.1.take i).map (·.1) then 5 else if tsE m.1.length (qc1 a) = 0 then tsE m.1.length (dos a) else tsE m.1.length (qc1 a)) else 4
def hmE (m:Mc) (_:Nat) (t:Ts):Int:=tsE m.1.length t
def qh3 (m:Mc):Int × Int :=
 if (m.1.length:Int) > 0 then (if (m.1.length:Int)<=8/\(m.2.1.length:Int)<=10/\(m.2.2.1.length:Int)<=4 then
  (if (qbg (nmE m.1) 0 m.1).2 = 0 then (if (qbg (acE m) 0 m.2.1).2 = 0 then qbg (hmE m) 0 m.2.2.1 else qbg (acE m) 0 m.2.1) else qbg (nmE m.1) 0 m.1) else (0,8)) else (0,10)
theorem qmY {m:Mc} (hb:MB m):qbn m = some (qh3 m):=by
 have h1:=hb.fl; have h2:=hb.ac; have h3:=hb.hm;unfold qbn qh3;have c0:(bif decide ((m.1.length:Int)<=8) then bif decide ((m.2.1.length:Int)<=10) then some (decide ((m.2.2.1.length:Int)<=4)) else some false else some false)
   = some (decide ((m.1.length:Int)<=8/\(m.2.1.length:Int)<=10/\(m.2.2.1.length:Int)<=4)):=by
  by_cases a1:(m.1.length:Int)<=8 <;> by_cases a2:(m.2.1.length:Int)<=10 <;> simp [a1,a2]
 rw [c0];simp only [unl,qa];rw [qBb _ (by simp)];simp only [qa];by_cases g1:(m.1.length:Int) > 0
 ·by_cases g2:(m.1.length:Int)<=8/\(m.2.1.length:Int)<=10/\(m.2.2.1.length:Int)<=4
  ·rw [if_pos g1,if_pos g2,decide_eq_true g1,decide_eq_true g2];simp only [if_true,qlB,decide_true,Bool.not_true,cond_false];obtain ⟨r1,e1,q1⟩:=qsO m.1 (nmE m.1) (λi (kn:List Nm)=>∀ r,r ∈ kn ↔ r ∈ m.1.take i) (λs6=>(idx m.1 s6.1).bind λx7 =>
      (qbb x7).bind λx8 =>
      (qF ([if x8 = true then 0 else 4,if (!(qfM .str s6.2 x7)) = true then 0 else 5])).bind λx11 =>
      bif !(decide (x11 = 0)) then
       some (.inr (.inr (s6.1,x11,qjB .str s6.2 x7)))
      else
       some (.inl (w64 (s6.1 + 1),qjB .str s6.2 x7))) [] (by simp) (by
    intro i a kn ha hk;have hlt:=qa6 ha;refine ⟨qjB .str kn a,λr=>by rw [quP,hk,qcj a hlt,qaU ha]; simp,?_⟩;rw [qU ha];simp only [qa];rw [qrM a (by have:=hb.fn a (List.mem_of_getElem? ha); omega),qCF];simp only [qa];rw [qBb _ (by simp)];simp only [qa];rw [wq (by omega) (by omega)];unfold nmE;by_cases a3:isN a = true
    ·by_cases a4:a ∈ m.1.take i
     ·have:a ∈ kn:=(hk a).2 a4;simp [a3,a4,this,qlB]
     ·have:a ∉ kn:=λh=>a4 ((hk a).1 h);simp [a3,a4,this,qlB]
    ·simp [a3,qlB])
   rw [e1];simp only [qa];by_cases E1:(qbg (nmE m.1) 0 m.1).2 = 0
   ·have E1':r1.2.1 = 0:=by rw [<- q1] at E1; exact E1
    rw [if_pos E1];simp only [E1',decide_true,Bool.not_true,cond_false];obtain ⟨r2,e2,q2⟩:=qsO m.2.1 (acE m) (λi (kn:List Nm)=>∀ r,r ∈ kn ↔ r ∈ (m.2.1.take i).map (·.1)) (λs15=>(idx m.2.1 s15.1).bind λx16 =>
       (qbb x16.1).bind λx17 =>
       (qF ([if x17 = true then 0 else 4,if (!(qfM .str s15.2 x16.1)) = true then 0 else 5])).bind λx20 =>
       (qav (x16.2.1,x16.2.2.1,()) (m.1.length:Int)).bind λx21 =>
       (qav (x16.2.2.2.1,x16.2.2.2.2.1,()) (m.1.length:Int)).bind λx22 =>
       (qF ([x20,x21,x22])).bind λx23 =>
       bif !(decide (x23 = 0)) then
        some (.inr (.inr (s15.1,x23,qjB .str s15.2 x16.1)))
       else
        some (.inl (w64 (s15.1 + 1),qjB .str s15.2 x16.1))) [] (by simp) (by
     intro i a kn ha hk;have hlt:=qa6 ha;refine ⟨qjB .str kn a.1,λr=>by rw [quP,hk,qcj a hlt,qaU ha]; simp,?_⟩;rw [qU ha];simp only [qa];obtain ⟨b0,b1,b2⟩:=hb.an a (List.mem_of_getElem? ha);rw [qrM a.1 (by omega),qCF];simp only [qa];rw [qBb _ (by simp)];simp only [qa];rw [qk6 (qc1 a) _ b1 (by omega),qk6 (dos a) _ b2 (by omega)];simp only [qa];rw [qBb _ (by simp)];simp only [qa];rw [wq (by omega) (by omega)];unfold acE;by_cases a3:isN a.1 = true
     ·by_cases a4:a.1 ∈ (m.2.1.take i).map (·.1)
      ·have:a.1 ∈ kn:=(hk a.1).2 a4;simp only [a3,a4,this,decide_true,Bool.not_true,qf,if_true,if_false,qlB];rfl
      ·have:a.1 ∉ kn:=λh=>a4 ((hk a.1).1 h);simp only [a3,a4,this,decide_false,Bool.not_false,if_true,if_false,qlB];by_cases a5:tsE m.1.length (qc1 a) = 0
       ·by_cases a6:tsE m.1.length (dos a) = 0
        ·simp [a5,a6]
        ·simp [a5,a6]
       ·simp [a5]
     ·simp [a3,qlB])
    rw [e2];simp only [qa];by_cases E2:(qbg (acE m) 0 m.2.1).2 = 0
    ·have E2':r2.2.1 = 0:=by rw [<- q2] at E2; exact E2
     rw [if_pos E2];simp only [E2',decide_true,Bool.not_true,cond_false];have e3:=qyP m.2.2.1 (λ_ t=>qav t (m.1.length:Int)) (hmE m) (λi a ha=>qk6 a _ (hb.ht a (List.mem_of_getElem? ha)) (by omega)) (by omega);rw [e3];rfl
    ·have E2':r2.2.1 ≠ 0:=by rw [<- q2] at E2; exact E2
     rw [if_neg E2];simp only [E2',decide_false,Bool.not_false,cond_true];rw [q2]
   ·have E1':r1.2.1 ≠ 0:=by rw [<- q1] at E1; exact E1
    rw [if_neg E1];simp only [E1',decide_false,Bool.not_false,cond_true];rw [q1]
  ·rw [if_pos g1,if_neg g2,decide_eq_true g1,decide_eq_false g2];rfl
 ·rw [if_neg g1,decide_eq_false g1];rfl
theorem qn1 {m:Mc} (hb:MB m):qbB m = some (qh3 m):=by
 have h1:=hb.fl; have h2:=hb.ac; have h3:=hb.hm;unfold qbB qh3;by_cases g1:(m.1.length:Int) > 0
 ·have g1':¬ (m.1.length:Int) = 0:=by omega
  rw [if_pos g1,decide_eq_false g1'];simp only [cond_false];by_cases g2:(m.1.length:Int)<=8/\(m.2.1.length:Int)<=10/\(m.2.2.1.length:Int)<=4
  ·obtain ⟨a1,a2,a3⟩:=g2;have a1':¬ (m.1.length:Int) > 8:=by omega
   have a2':¬ (m.2.1.length:Int) > 10:=by omega
   have a3':¬ (m.2.2.1.length:Int) > 4:=by omega
   rw [if_pos ⟨a1,a2,a3⟩];simp only [a1',a2',a3',decide_false,cond_false,qa];rw [qaw m.1 _ (λi s=>if nmE m.1 i s = 0 then none else some ((i:Int),nmE m.1 i s)) (λi a hi=>by
    have hlt:=qa6 hi;rw [qU hi];simp only [qa];rw [qsn];simp only [qa];unfold nmE;by_cases c1:isN a = true
    ·rw [qB5 (by omega)];simp only [qa,Int.toNat_natCast,Int.toNat_zero,List.drop_zero,c1,Bool.not_true,cond_false,if_true];rw [qwa _ _ (by simp; omega)];simp only [qa];by_cases c2:a ∈ m.1.take i
     ·simp [c2,stp]
     ·simp only [c2,decide_false,cond_false,if_false,if_true,stp]; rw [wq (by omega) (by omega)]
    ·simp [c1,stp]),qQ]
   have f1:=qfw (nmE m.1) m.1 0;cases hf1:qaL (λi s=>if nmE m.1 i s = 0 then none else some ((i:Int),nmE m.1 i s)) 0 m.1 with
   | some r =>
    rw [hf1] at f1;simp only at f1;have hr:r.2 ≠ 0:=by
     obtain ⟨i,a,_,h2,_⟩:=qaH hf1;split at h2
     ·cases h2
     ·rename_i h; cases h2; exact h
    simp only
    rw [f1,if_neg (by rw [<- Option.some.inj f1]; exact hr)]
   | none =>
    rw [hf1] at f1;simp only at f1 ⊢;rw [if_pos (by rw [<- Option.some.inj f1])];rw [qaw m.2.1 _ (λi s=>if acE m i s = 0 then none else some ((i:Int),acE m i s)) (λi a hi=>by
     have hlt:=qa6 hi;obtain ⟨b0,b1,b2⟩:=hb.an a (List.mem_of_getElem? hi);rw [qU hi];simp only [qa];rw [qsn];simp only [qa];unfold acE;by_cases c1:isN a.1 = true
     ·simp only [c1,Bool.not_true,cond_false,if_true];rw [qj4 i _ (λj=>∃ x,m.2.1[j]? = some x/\x.1 = a.1) (.inr (.inr ((i:Int),5)):Int ⊕ (Unit ⊕ (Int × Int))) (a.1 ∈ (m.2.1.take i).map (·.1)) (by
       rw [List.mem_map];constructor
       ·rintro ⟨x,hx,e⟩;obtain ⟨j,hj,hx⟩:=qgk.1 hx;exact ⟨j,hj,x,hx,e⟩
       ·rintro ⟨j,hj,x,hx,e⟩;exact ⟨x,qgk.2 ⟨j,hj,hx⟩,e⟩) (λj hj=>by
       obtain ⟨x,hx⟩:∃ x,m.2.1[j]? = some x:=⟨_,List.getElem?_eq_getElem (by omega)⟩
       rw [qU hx];simp only [qa];by_cases c:x.1 = a.1
       ·simp [c,hx]
       ·simp only [c,decide_false,cond_false,hx,qb,exists_eq_left',if_false];rw [wq (by omega) (by omega)])]
      by_cases c2:a.1 ∈ (m.2.1.take i).map (·.1)
      ·rw [if_pos c2,if_pos c2]; rfl
      ·rw [if_neg c2,if_neg c2];simp only [qa,Sum.elim_inl];rw [qkm (qc1 a) _ b1 (by omega),qkm (dos a) _ b2 (by omega)];simp only [qa];by_cases c3:tsE m.1.length (qc1 a) = 0
       ·by_cases c4:tsE m.1.length (dos a) = 0
        ·simp only [c3,c4,decide_true,Bool.not_true,cond_false,if_true,stp]; rw [wq (by omega) (by omega)]
        ·simp [c3,c4,stp]
       ·simp [c3,stp]
     ·simp [c1,stp]),qQ]
    have f2:=qfw (acE m) m.2.1 0;cases hf2:qaL (λi s=>if acE m i s = 0 then none else some ((i:Int),acE m i s)) 0 m.2.1 with
    | some r =>
     rw [hf2] at f2;simp only at f2;have hr:r.2 ≠ 0:=by
      obtain ⟨i,a,_,h2,_⟩:=qaH hf2;split at h2
      ·cases h2
      ·rename_i h; cases h2; exact h
     simp only
     rw [f2,if_neg (by rw [<- Option.some.inj f2]; exact hr)]
    | none =>
     rw [hf2] at f2;simp only at f2 ⊢;rw [if_pos (by rw [<- Option.some.inj f2])];rw [qaw m.2.2.1 _ (λi s=>if hmE m i s = 0 then none else some ((i:Int),hmE m i s)) (λi a hi=>by
      have hlt:=qa6 hi;rw [qU hi];simp only [qa];rw [qkm a _ (hb.ht a (List.mem_of_getElem? hi)) (by omega)];simp only [qa];unfold hmE;by_cases c3:tsE m.1.length a = 0
      ·simp only [c3,decide_true,Bool.not_true,cond_false,if_true,stp]; rw [wq (by omega) (by omega)]
      ·simp [c3,stp]),qQ]
     rw [<- qfw (hmE m) m.2.2.1 0];cases qaL (λi s=>if hmE m i s = 0 then none else some ((i:Int),hmE m i s)) 0 m.2.2.1 <;> rfl
  ·rw [if_neg g2];have key:(bif decide ((m.1.length:Int) > 8) then some true else bif decide ((m.2.1.length:Int) > 10) then some true else some (decide ((m.2.2.1.length:Int) > 4))) = some true:=by
    by_cases a1:(m.1.length:Int) > 8
    ·simp [a1]
    ·by_cases a2:(m.2.1.length:Int) > 10
     ·simp [a1,a2]
     ·have a3:(m.2.2.1.length:Int) > 4:=by
       rw [not_and,not_and] at g2;have:=g2 (by omega) (by omega);omega
      simp [a1,a2,a3]
   rw [key]; rfl
 ·have g1':(m.1.length:Int) = 0:=by omega
  rw [if_neg g1,decide_eq_true g1']; rfl
theorem qpU {m:Mc} (hb:MB m):qcm m = some (qh3 m).2:=by
 unfold qcm;rw [qn1 hb]; rfl
end Go.Proofs.YtkcaaaiihhhnmaaGreatDoor
end
section
namespace Go.Proofs.YtkcaaaiihhhnmaaGreatDoor
open Go Go.Ab Go.Tx
theorem qfp {a:Nat} (h:a < 9223372036854775808):(BitVec.ofInt 64 (a:Int)).toNat = a:=by
 rw [BitVec.ofInt_natCast,BitVec.toNat_ofNat,Nat.mod_eq_of_lt (by omega)]
theorem ql4 {a b:Nat} (ha:a < 9223372036854775808) (hb:b < 9223372036854775808):qoT .i64 (a:Int) (b:Int) = ((a &&& b:Nat):Int):=by
 unfold qoT;have e:(BitVec.ofInt 64 (a:Int) &&& BitVec.ofInt 64 (b:Int)).toNat = a &&& b:=by rw [BitVec.toNat_and,qfp ha,qfp hb]
 show IntKind.wrap .i64 ((BitVec.ofInt 64 (a:Int) &&& BitVec.ofInt 64 (b:Int)).toNat:Int) = _;rw [e];have h:=Nat.and_le_left (n:=a) (m:=b);exact qgG (by omega) (by omega)
theorem qtx {a b:Nat} (ha:a < 2 ^ 62) (hb:b < 2 ^ 62):orI .i64 (a:Int) (b:Int) = ((a ||| b:Nat):Int):=by
 unfold orI;have e:(BitVec.ofInt 64 (a:Int) ||| BitVec.ofInt 64 (b:Int)).toNat = a ||| b:=by rw [BitVec.toNat_or,qfp (by omega),qfp (by omega)]
 show IntKind.wrap .i64 ((BitVec.ofInt 64 (a:Int) ||| BitVec.ofInt 64 (b:Int)).toNat:Int) = _;rw [e];have h:=Nat.or_lt_two_pow ha hb;exact qgG (by omega) (by omega)
def qBg (a b:Nat):Nat:=a &&& (2 ^ 64 - (b + 1))
theorem qtM {a b:Nat} (ha:a < 2 ^ 62) (hb:b < 2 ^ 62):qiE .i64 (a:Int) (b:Int) = ((qBg a b:Nat):Int):=by
 unfold qiE;have e:(BitVec.ofInt 64 (a:Int) &&& ~~~ BitVec.ofInt 64 (b:Int)).toNat = qBg a b:=by
  rw [BitVec.toNat_and,BitVec.toNat_not,qfp (by omega),qfp (by omega)];unfold qBg;congr 1
  omega
 show IntKind.wrap .i64 ((BitVec.ofInt 64 (a:Int) &&& ~~~ BitVec.ofInt 64 (b:Int)).toNat:Int) = _;rw [e];have h:=Nat.and_le_left (n:=a) (m:=2 ^ 64 - (b + 1));unfold qBg;exact qgG (by omega) (by omega)
theorem qyO {a b k:Nat} (ha:a < 2 ^ 62) (hb:b < 2 ^ 62):(qBg a b).testBit k = (a.testBit k && !b.testBit k):=by
 unfold qBg;rw [Nat.testBit_and,Nat.testBit_two_pow_sub_succ (by omega)];by_cases h:k < 64
 ·simp [h]
 ·have:a.testBit k = false:=Nat.testBit_lt_two_pow (Nat.lt_of_lt_of_le ha (Nat.pow_le_pow_right (by omega) (by omega)));simp [h,this]
theorem qeX {x:Int} (h0:0<=x) (h1:x < 62):qsE .i64 1 x = some ((2 ^ x.toNat:Nat):Int):=by
 unfold qsE;rw [if_pos h0];have e:min x.toNat (IntKind.bits .i64) = x.toNat:=by
  show min x.toNat 64 = x.toNat;omega
 rw [e,Int.one_mul];have h2:2 ^ x.toNat < 2 ^ 62:=Nat.pow_lt_pow_right (by omega) (by omega);have h3:((2:Int) ^ x.toNat) = ((2 ^ x.toNat:Nat):Int):=by simp
 rw [h3];generalize 2 ^ x.toNat = p at h2 ⊢;exact congrArg some (qgG (by omega) (by omega))
theorem qju {a:Nat} {x:Int} (h0:0<=x) (h1:x < 62):qvp .i64 (a:Int) x = some ((a / 2 ^ x.toNat:Nat):Int):=by
 unfold qvp;rw [if_pos h0];have e:min x.toNat (IntKind.bits .i64) = x.toNat:=by
  show min x.toNat 64 = x.toNat;omega
 rw [e];have h3:((2:Int) ^ x.toNat) = ((2 ^ x.toNat:Nat):Int):=by simp
 rw [h3];generalize 2 ^ x.toNat = p;rw [Int.fdiv_eq_ediv_of_nonneg _ (by omega)]
 norm_cast
theorem qna {a k:Nat} (ha:a < 9223372036854775808):qoT .i64 ((a / 2 ^ k:Nat):Int) 1 = if a.testBit k = true then 1 else 0:=by
 have h:=ql4 (a:=a / 2 ^ k) (b:=1) (Nat.lt_of_le_of_lt (Nat.div_le_self ..) ha) (by omega);rw [show ((1:Nat):Int) = 1 from rfl] at h;rw [h,Nat.and_one_is_mod,Nat.testBit_eq_decide_div_mod_eq];by_cases c:a / 2 ^ k % 2 = 1
 ·rw [c]; simp
 ·have:a / 2 ^ k % 2 = 0:=by omega
  rw [this]; simp
def qd8 (l:List Int):Nat:=l.foldl (λa x=>a ||| 2 ^ x.toNat) 0
theorem qmd (l:List Int) (h:∀ x ∈ l,0<=x) (k:Nat):∀ a:Nat,(l.foldl (λa x=>a ||| 2 ^ x.toNat) a).testBit k = (a.testBit k || decide ((k:Int) ∈ l)):=by
 induction l with
 | nil=>simp
 | cons x l ih =>
  intro a;rw [List.foldl_cons,ih (λy hy=>h y (by simp [hy])),Nat.testBit_or,Nat.testBit_two_pow];have:=h x (by simp);by_cases e:x = (k:Int)
  ·subst e; simp
  ·have e':x.toNat ≠ k:=by omega
   have e'':(k:Int) ≠ x:=λh=>e h.symm;simp [e',e'']
theorem qgn {l:List Int} (h:∀ x ∈ l,0<=x) (k:Nat):(qd8 l).testBit k = decide ((k:Int) ∈ l):=by
 unfold qd8; rw [qmd l h k]; simp
theorem qAU {l:List Int} {f:Nat} (h:∀ x ∈ l,0<=x/\x < f):qd8 l < 2 ^ f:=by
 refine Nat.lt_pow_two_of_testBit _ λk hk=>?_;rw [qgn λx hx=>(h x hx).1];simp only [decide_eq_false_iff_not];intro hm;have:=(h _ hm).2;omega
def qAy (l:List Int):Prop:=∀ x ∈ l,0<=x/\x < 8
theorem qmm {l:List Int} (h:qAy l):qd8 l < 256:=by
 have:=qAU (f:=8) h;omega
theorem of_eq {l:List Int} (h:qAy l) (hl:l.length<=1000):qgO l = some ((qd8 l:Nat):Int):=by
 unfold qgO;have key:Ok (qz (λ(s2:(Int × Int)) =>
   bif decide (s2.2 < (l.length:Int)) then
    (idx l s2.2).bind λx3 =>
    (qsE .i64 (1:Int) x3).bind λx4 =>
    some (.inl (orI .i64 s2.1 x4,w64 (s2.2 + 1)))
   else
    some (.inr s2.1)) (0,0)) (λr=>r = ((qd8 l:Nat):Int)):=by
  refine qbM l.length (λi (s:Int × Int)=>s = (((qd8 (l.take i):Nat):Int),(i:Int))) _ (by simp [qd8]) ?_;rintro i s hi rfl;by_cases hlt:i < l.length
  ·obtain ⟨a,ha⟩:∃ a,l[i]? = some a:=⟨_,List.getElem?_eq_getElem hlt⟩
   have h0:decide ((i:Int) < (l.length:Int)) = true:=by simp <;> omega
   obtain ⟨b1,b2⟩:=h a (List.mem_of_getElem? ha);simp only [h0,cond_true,qU ha,qa];rw [qeX b1 (by omega)];simp only [qa];have c1:qd8 (l.take i) < 256:=qmm λx hx=>h x (List.mem_of_mem_take hx);have c2:2 ^ a.toNat < 2 ^ 62:=Nat.pow_lt_pow_right (by omega) (by omega);rw [qtx (by omega) c2,wq (by omega) (by omega),qV];refine ⟨hlt,?_⟩;rw [qcj a hlt,qaU ha];unfold qd8;rw [List.foldl_append];simp
  ·have:i = l.length:=by omega
   subst this;have h0:decide ((l.length:Int) < (l.length:Int)) = false:=by simp
   simp only [h0,cond_false];rw [qaD,List.take_length]
 rw [key.eq]; rfl
def qyI (t:Ts):Prop:=qAy t.1/\qAy t.2.1/\shT t
abbrev Bt:=Int × Int × Unit
def bt (t:Ts):Bt:=(((qd8 t.1:Nat):Int),((qd8 t.2.1:Nat):Int),())
def hold (t:Ts) (s:Nat):Bool:=(t.1.all λx=>s.testBit x.toNat) && (t.2.1.all λx=>!s.testBit x.toNat)
def qqS (t:Ts) (s:Nat):Nat:=qBg (s ||| qd8 t.1) (qd8 t.2.1)
theorem qk1 {t:Ts} (h:qyI t):qat t = some (bt t):=by
 obtain ⟨h1,h2,h3,h4⟩:=h;unfold qat;rw [of_eq h1 (by omega),of_eq h2 (by omega)]; rfl
theorem qy5 {l:List Int} (h:qAy l) (s:Nat):s &&& qd8 l = qd8 l ↔ ∀ x ∈ l,s.testBit x.toNat = true:=by
 constructor
 ·intro e x hx;have h0:=(h x hx).1;have:(s &&& qd8 l).testBit x.toNat = true:=by
   rw [e,qgn λx hx=>(h x hx).1];have:((x.toNat:Nat):Int) = x:=by omega
   rw [this]; simp [hx]
  rw [Nat.testBit_and] at this;simp only [qe] at this;exact this.1
 ·intro hs;refine Nat.eq_of_testBit_eq λk=>?_;rw [Nat.testBit_and,qgn λx hx=>(h x hx).1];by_cases hk:(k:Int) ∈ l
  ·have:=hs _ hk;rw [Int.toNat_natCast] at this;simp [hk,this]
  ·simp [hk]
theorem qzT {l:List Int} (h:qAy l) (s:Nat):s &&& qd8 l = 0 ↔ ∀ x ∈ l,s.testBit x.toNat = false:=by
 constructor
 ·intro e x hx;have h0:=(h x hx).1;have:(s &&& qd8 l).testBit x.toNat = false:=by rw [e]; simp
  rw [Nat.testBit_and,qgn λx hx=>(h x hx).1] at this;have e2:((x.toNat:Nat):Int) = x:=by omega
  rw [e2] at this;simpa [hx] using this
 ·intro hs;refine Nat.eq_of_testBit_eq λk=>?_;rw [Nat.testBit_and,qgn λx hx=>(h x hx).1];by_cases hk:(k:Int) ∈ l
  ·have:=hs _ hk;rw [Int.toNat_natCast] at this;simp [this]
  ·simp [hk]
theorem qmk {t:Ts} (h:qyI t) {s:Nat} (hs:s < 256):qao (bt t) (s:Int) = some (hold t s):=by
 obtain ⟨h1,h2,_⟩:=h;have b1:=qmm h1;have b2:=qmm h2;unfold qao bt hold;simp only
 rw [ql4 (by omega) (by omega),ql4 (by omega) (by omega)];have e1:(((s &&& qd8 t.1:Nat):Int) = ((qd8 t.1:Nat):Int)) ↔ ∀ x ∈ t.1,s.testBit x.toNat = true:=by
  rw [<- qy5 h1]; omega
 have e2:(((s &&& qd8 t.2.1:Nat):Int) = 0) ↔ ∀ x ∈ t.2.1,s.testBit x.toNat = false:=by
  rw [<- qzT h2]; omega
 have f1:(t.1.all λx=>s.testBit x.toNat) = decide (∀ x ∈ t.1,s.testBit x.toNat = true):=by
  rw [Bool.eq_iff_iff]; simp
 have f2:(t.2.1.all λx=>!s.testBit x.toNat) = decide (∀ x ∈ t.2.1,s.testBit x.toNat = false):=by
  rw [Bool.eq_iff_iff]; simp
 rw [f1,f2];by_cases c1:∀ x ∈ t.1,s.testBit x.toNat = true
 ·rw [decide_eq_true (e1.2 c1),decide_eq_true c1];simp only [cond_true,Bool.true_and,qa];by_cases c2:∀ x ∈ t.2.1,s.testBit x.toNat = false
  ·rw [decide_eq_true (e2.2 c2),decide_eq_true c2]
  ·rw [decide_eq_false λe=>c2 (e2.1 e),decide_eq_false c2]
 ·rw [decide_eq_false λe=>c1 (e1.1 e),decide_eq_false c1];rfl
theorem qAI {t:Ts} (h:qyI t) {s:Nat} (hs:s < 256):qbt (bt t) (s:Int) = some ((qqS t s:Nat):Int):=by
 obtain ⟨h1,h2,_⟩:=h;have b1:=qmm h1;have b2:=qmm h2;unfold qbt bt qqS;simp only
 have b3:s ||| qd8 t.1 < 2 ^ 8:=Nat.or_lt_two_pow (by omega) (by omega)
 rw [qtx (by omega) (by omega),qtM (by omega) (by omega)]
theorem qu7 {t:Ts} (h:qyI t) {s:Nat} (hs:s < 256) (k:Nat):(qqS t s).testBit k = ((s.testBit k || decide ((k:Int) ∈ t.1)) && !decide ((k:Int) ∈ t.2.1)):=by
 obtain ⟨h1,h2,_⟩:=h;have b1:=qmm h1;have b2:=qmm h2;have b3:s ||| qd8 t.1 < 2 ^ 8:=Nat.or_lt_two_pow (by omega) (by omega)
 unfold qqS;rw [qyO (by omega) (by omega),Nat.testBit_or,qgn λx hx=>(h1 x hx).1,qgn λx hx=>(h2 x hx).1]
theorem qxn {t:Ts} {f:Nat} (h:qyI t) (hf:∀ x ∈ t.1,x < f) {s:Nat} (h8:f<=8) (hs:s < 2 ^ f):qqS t s < 2 ^ f:=by
 have h256:s < 256:=Nat.lt_of_lt_of_le hs (Nat.pow_le_pow_right (n:=2) (by omega) h8);refine Nat.lt_pow_two_of_testBit _ λk hk=>?_;rw [qu7 h h256];have e1:s.testBit k = false:=Nat.testBit_lt_two_pow (Nat.lt_of_lt_of_le hs (Nat.pow_le_pow_right (by omega) hk));have e2:(k:Int) ∉ t.1:=λhm=>by have:=hf _ hm; omega
 simp [e1,e2]
theorem quW {t:Ts} (h:qyI t) {s:Nat} (hs:s < 256):qen t (s:Int) = some (hold t s):=by
 obtain ⟨h1,h2,hl1,hl2⟩:=h;unfold qen hold;rw [qaw t.1 _ (λ_ x=>if s.testBit x.toNat = true then none else some false) (λi a hi=>by
  have:=qa6 hi;obtain ⟨b1,b2⟩:=h1 a (List.mem_of_getElem? hi);rw [qU hi];simp only [qa];rw [qju b1 (by omega)];simp only [qa];rw [qna (by omega)];by_cases c:s.testBit a.toNat = true
  ·simp only [c,if_true,show ¬ ((1:Int) = 0) by omega,decide_false,cond_false,stp]; rw [wq (by omega) (by omega)]
  ·simp only [c,if_false,decide_true,cond_true,stp,qf]),qQ]
 cases hf:qaL (λ_ (x:Int)=>if s.testBit x.toNat = true then none else some false) 0 t.1 with
 | some r =>
  obtain ⟨i,a,ha,e,_⟩:=qaH hf;by_cases c:s.testBit a.toNat = true
  ·simp [c] at e
  ·simp only [c,if_false,qf,qb] at e;subst e;have:(t.1.all λx=>s.testBit x.toNat) = false:=List.all_eq_false.2 ⟨a,List.mem_of_getElem? ha,by simpa using c⟩;rw [this]; rfl
 | none =>
  have e1:(t.1.all λx=>s.testBit x.toNat) = true:=List.all_eq_true.2 λx hx=>by
   obtain ⟨i,hi⟩:=List.mem_iff_getElem?.1 hx;have:=qbZ.1 hf i x hi;by_cases c:s.testBit x.toNat = true
   ·exact c
   ·simp [c] at this
  rw [e1];simp only [Bool.true_and];rw [qaw t.2.1 _ (λ_ x=>if s.testBit x.toNat = true then some false else none) (λi a hi=>by
   have:=qa6 hi;obtain ⟨b1,b2⟩:=h2 a (List.mem_of_getElem? hi);rw [qU hi];simp only [qa];rw [qju b1 (by omega)];simp only [qa];rw [qna (by omega)];by_cases c:s.testBit a.toNat = true
   ·simp only [c,if_true,decide_true,cond_true,stp]
   ·simp only [c,if_false,show ¬ ((0:Int) = 1) by omega,decide_false,cond_false,stp,qf]; rw [wq (by omega) (by omega)]),qQ]
  cases hf2:qaL (λ_ (x:Int)=>if s.testBit x.toNat = true then some false else none) 0 t.2.1 with
  | some r =>
   obtain ⟨i,a,ha,e,_⟩:=qaH hf2;by_cases c:s.testBit a.toNat = true
   ·simp only [c,if_true,qb] at e;subst e;have:(t.2.1.all λx=>!s.testBit x.toNat) = false:=List.all_eq_false.2 ⟨a,List.mem_of_getElem? ha,by simp [c]⟩;rw [this]
   ·simp [c] at e
  | none =>
   have e1:(t.2.1.all λx=>!s.testBit x.toNat) = true:=List.all_eq_true.2 λx hx=>by
    obtain ⟨i,hi⟩:=List.mem_iff_getElem?.1 hx;have:=qbZ.1 hf2 i x hi;by_cases c:s.testBit x.toNat = true
    ·simp [c] at this
    ·simpa using c
   rw [e1]
theorem qwy:∀ (n:Fin 256) (x:Fin 8),(n.val.testBit x.val = true->n.val - 2 ^ x.val = n.val &&& (255 - 2 ^ x.val)/\2 ^ x.val<=n.val)/\∀ k:Fin 8,(255 - 2 ^ x.val).testBit k.val = decide (k.val ≠ x.val):=by decide +kernel
def clr (n:Nat) (x:Int):Nat:=if n.testBit x.toNat = true then n - 2 ^ x.toNat else n
theorem qwE (n:Nat) (x:Int):clr n x<=n:=by
 unfold clr;split
 ·exact Nat.sub_le ..
 ·exact Nat.le_refl _
theorem qAN {n:Nat} {x:Int} (hn:n < 256) (h0:0<=x) (h1:x < 8) (k:Nat):(clr n x).testBit k = (n.testBit k && decide ((k:Int) ≠ x)):=by
 obtain ⟨h2,h3⟩:=qwy ⟨n,hn⟩ ⟨x.toNat,by omega⟩;simp only at h2 h3;unfold clr;by_cases hk:k < 8
 ·have e:decide ((k:Int) ≠ x) = decide (k ≠ x.toNat):=by
   rw [Bool.eq_iff_iff]; simp <;> omega
  by_cases c:n.testBit x.toNat = true
  ·rw [if_pos c,(h2 c).1,Nat.testBit_and,h3 ⟨k,hk⟩,e]
  ·rw [if_neg c,e];by_cases hx:k = x.toNat
   ·subst hx;have:n.testBit x.toNat = false:=by simpa using c
    rw [this]; rfl
   ·simp [hx]
 ·have e1:∀ m,m < 256->m.testBit k = false:=λm hm=>Nat.testBit_lt_two_pow (Nat.lt_of_lt_of_le (show m < 2 ^ 8 by omega) (Nat.pow_le_pow_right (by omega) (by omega)));rw [e1 n hn];have:(if n.testBit x.toNat = true then n - 2 ^ x.toNat else n) < 256:=Nat.lt_of_le_of_lt (qwE n x) hn;rw [e1 _ this]; rfl
def qsz (l:List Int) (n:Nat):Nat:=l.foldl clr n
theorem qyn:∀ (l:List Int) (n:Nat),qsz l n<=n
 | [],n=>Nat.le_refl _
 | x :: l,n=>Nat.le_trans (qyn l (clr n x)) (qwE n x)
theorem quz:∀ {l:List Int} {n:Nat},qAy l->n < 256->∀ k:Nat,(qsz l n).testBit k = (n.testBit k && !decide ((k:Int) ∈ l))
 | [],n,_,_,k=>by simp [qsz]
 | x :: l,n,h,hn,k=>by
  obtain ⟨h0,h1⟩:=h x (by simp);have h2:=qwE n x;have:=quz (l:=l) (n:=clr n x) (λy hy=>h y (by simp [hy])) (by omega) k;unfold qsz at this ⊢;rw [List.foldl_cons,this,qAN hn h0 h1];by_cases e:(k:Int) = x <;> simp [e]
def orL (l:List Int) (n:Nat):Nat:=l.foldl (λa x=>a ||| 2 ^ x.toNat) n
theorem qyT {t:Ts} (h:qyI t) {s:Nat} (hs:s < 256):qsz t.2.1 (orL t.1 s) = qqS t s:=by
 have h1:=h.1;have h2:=h.2.1;have b:orL t.1 s < 256:=by
  have:orL t.1 s < 2 ^ 8:=Nat.lt_pow_two_of_testBit _ λk hk=>by
   unfold orL;rw [qmd t.1 (λx hx=>(h1 x hx).1)];have e1:s.testBit k = false:=Nat.testBit_lt_two_pow (Nat.lt_of_lt_of_le (show s < 2 ^ 8 by omega) (Nat.pow_le_pow_right (by omega) hk));have e2:(k:Int) ∉ t.1:=λhm=>by have:=h1 _ hm; omega
   simp [e1,e2]
  omega
 refine Nat.eq_of_testBit_eq λk=>?_;rw [quz h2 b,qu7 h hs];unfold orL;rw [qmd t.1 (λx hx=>(h1 x hx).1)]
theorem qAz {l:List Int} (h:qAy l) {s:Nat} (hs:s < 256):orL l s < 256:=by
 have:orL l s < 2 ^ 8:=Nat.lt_pow_two_of_testBit _ λk hk=>by
  unfold orL;rw [qmd l (λx hx=>(h x hx).1)];have e1:s.testBit k = false:=Nat.testBit_lt_two_pow (Nat.lt_of_lt_of_le (show s < 2 ^ 8 by omega) (Nat.pow_le_pow_right (by omega) hk));have e2:(k:Int) ∉ l:=λhm=>by have:=h _ hm; omega
  simp [e1,e2]
 omega
theorem qBa {m:Mc} {s i:Nat} {a:Ac} (ha:m.2.1[i]? = some a) (h1:qyI (qc1 a)) (h2:qyI (dos a)) (hs:s < 256) :
  qfm m (s:Int) (i:Int) = some (if hold (qc1 a) s = true then (((qqS (dos a) s:Nat):Int),true) else (0,false)):=by
 unfold qfm;rw [qU ha];simp only [qa];rw [quW h1 hs];simp only [qa];by_cases c:hold (qc1 a) s = true
 ·simp only [c,Bool.not_true,cond_false,if_true];obtain ⟨o1,o2,hl1,hl2⟩:=h2;have k1:Ok (qz (λ(s4:(Int × Int)) =>
    bif decide (s4.2 < (a.2.2.2.1.length:Int)) then
     (idx a.2.2.2.1 s4.2).bind λx5 =>
     (qsE .i64 (1:Int) x5).bind λx6 =>
     some (.inl (orI .i64 s4.1 x6,w64 (s4.2 + 1)))
    else
     some (.inr s4.1)) ((s:Int),0)) (λr=>r = ((orL a.2.2.2.1 s:Nat):Int)):=by
   refine qbM a.2.2.2.1.length (λi (s':Int × Int)=>s' = (((orL (a.2.2.2.1.take i) s:Nat):Int),(i:Int))) _ (by simp [orL]) ?_;rintro i s' hi rfl;by_cases hlt:i < a.2.2.2.1.length
   ·obtain ⟨x,hx⟩:∃ x,a.2.2.2.1[i]? = some x:=⟨_,List.getElem?_eq_getElem hlt⟩
    have h0:decide ((i:Int) < (a.2.2.2.1.length:Int)) = true:=by simp <;> omega
    obtain ⟨b1,b2⟩:=o1 x (List.mem_of_getElem? hx);have hl1':a.2.2.2.1.length<=10:=hl1;simp only [h0,cond_true,qU hx,qa];rw [qeX b1 (by omega)];simp only [qa];have c1:orL (a.2.2.2.1.take i) s < 256:=qAz (λy hy=>o1 y (List.mem_of_mem_take hy)) hs;have c2:2 ^ x.toNat < 2 ^ 62:=Nat.pow_lt_pow_right (by omega) (by omega);rw [qtx (by omega) c2,wq (by omega) (by omega),qV];refine ⟨hlt,?_⟩;rw [qcj x hlt,qaU hx];unfold orL;rw [List.foldl_append];simp
   ·have:i = a.2.2.2.1.length:=by omega
    subst this;have h0:decide ((a.2.2.2.1.length:Int) < (a.2.2.2.1.length:Int)) = false:=by simp
    simp only [h0,cond_false];rw [qaD,List.take_length]
  rw [k1.eq];simp only [qa];have hb:=qAz o1 hs;have k2:Ok (qz (λ(s9:(Int × Int)) =>
    bif decide (s9.2 < (a.2.2.2.2.1.length:Int)) then
     (idx a.2.2.2.2.1 s9.2).bind λx10 =>
     (qvp .i64 s9.1 x10).bind λx11 =>
     (bif decide (qoT .i64 x11 (1:Int) = 1) then
       (idx a.2.2.2.2.1 s9.2).bind λx12 =>
       (qsE .i64 (1:Int) x12).bind λx13 =>
       some (w64 (s9.1 - x13))
      else
       some s9.1).bind λ(p14:Int) =>
     some (.inl (p14,w64 (s9.2 + 1)))
    else
     some (.inr s9.1)) (((orL a.2.2.2.1 s:Nat):Int),0)) (λr=>r = ((qsz a.2.2.2.2.1 (orL a.2.2.2.1 s):Nat):Int)):=by
   refine qbM a.2.2.2.2.1.length (λi (s':Int × Int)=>s' = (((qsz (a.2.2.2.2.1.take i) (orL a.2.2.2.1 s):Nat):Int),(i:Int))) _ (by simp [qsz]) ?_;rintro i s' hi rfl;by_cases hlt:i < a.2.2.2.2.1.length
   ·obtain ⟨x,hx⟩:∃ x,a.2.2.2.2.1[i]? = some x:=⟨_,List.getElem?_eq_getElem hlt⟩
    have h0:decide ((i:Int) < (a.2.2.2.2.1.length:Int)) = true:=by simp <;> omega
    obtain ⟨b1,b2⟩:=o2 x (List.mem_of_getElem? hx);have hl2':a.2.2.2.2.1.length<=10:=hl2;simp only [h0,cond_true,qU hx,qa];have c1:=qyn (a.2.2.2.2.1.take i) (orL a.2.2.2.1 s);have c1':orL a.2.2.2.1 s < 256:=hb;rw [qju b1 (by omega)];simp only [qa];rw [qna (by omega),qeX b1 (by omega)];simp only [qa];have e3:qsz (a.2.2.2.2.1.take (i + 1)) (orL a.2.2.2.1 s) = clr (qsz (a.2.2.2.2.1.take i) (orL a.2.2.2.1 s)) x:=by
     rw [qcj x hlt,qaU hx];unfold qsz;rw [List.foldl_append];simp
    have e4:(bif decide ((if (qsz (a.2.2.2.2.1.take i) (orL a.2.2.2.1 s)).testBit x.toNat = true then (1:Int) else 0) = 1) then some (w64 (((qsz (a.2.2.2.2.1.take i) (orL a.2.2.2.1 s):Nat):Int) - ((2 ^ x.toNat:Nat):Int))) else some ((qsz (a.2.2.2.2.1.take i) (orL a.2.2.2.1 s):Nat):Int))
      = some ((qsz (a.2.2.2.2.1.take (i + 1)) (orL a.2.2.2.1 s):Nat):Int):=by
     rw [e3];unfold clr;by_cases c:(qsz (a.2.2.2.2.1.take i) (orL a.2.2.2.1 s)).testBit x.toNat = true
     ·have:=((qwy ⟨qsz (a.2.2.2.2.1.take i) (orL a.2.2.2.1 s),by omega⟩ ⟨x.toNat,by omega⟩).1 c).2;simp only at this;simp only [c,if_true,decide_true,cond_true];generalize 2 ^ x.toNat = p at this ⊢;rw [wq (by omega) (by omega)];congr 1
      omega
     ·simp only [c,if_false,show ¬ ((0:Int) = 1) by omega,decide_false,cond_false,qf]
    rw [e4];simp only [qa];rw [wq (by omega) (by omega),qV];exact ⟨hlt,by simp⟩
   ·have:i = a.2.2.2.2.1.length:=by omega
    subst this;have h0:decide ((a.2.2.2.2.1.length:Int) < (a.2.2.2.2.1.length:Int)) = false:=by simp
    simp only [h0,cond_false];rw [qaD,List.take_length]
  rw [k2.eq];simp only [qa];have:=qyT (t:=dos a) ⟨o1,o2,hl1,hl2⟩ hs;rw [<- this]
 ·simp [c]
end Go.Proofs.YtkcaaaiihhhnmaaGreatDoor
end
section
namespace Go.Proofs.YtkcaaaiihhhnmaaGreatDoor
open Go Go.Ab Go.Tx
end Go.Proofs.YtkcaaaiihhhnmaaGreatDoor
end
section
namespace Go.Proofs.YtkcaaaiihhhnmaaGreatDoor
open Go Go.Ab Go.Tx
end Go.Proofs.YtkcaaaiihhhnmaaGreatDoor
end
section
namespace Go.Proofs.YtkcaaaiihhhnmaaGreatDoor
open Go Go.Ab Go.Tx
def okF (f:Nat) (t:Ts):Prop:=(∀ x ∈ t.1,0<=x/\x < f)/\(∀ x ∈ t.2.1,0<=x/\x < f)/\shT t
theorem okF.ok {f:Nat} {t:Ts} (h:okF f t) (h8:f<=8):qyI t:=⟨λx hx=>by have:=h.1 x hx; omega,λx hx=>by have:=h.2.1 x hx; omega,h.2.2⟩
structure VM (m:Mc):Prop where
 f0:0 < m.1.length
 f8:m.1.length<=8
 a10:m.2.1.length<=10
 h4:m.2.2.1.length<=4
 nd:∀ a ∈ m.2.1,okF m.1.length (qc1 a)
 ds:∀ a ∈ m.2.1,okF m.1.length (dos a)
 ht:∀ t ∈ m.2.2.1,okF m.1.length t
theorem qxE {f:Nat} {l:List Int} (h:qwf f l = 0):∀ x ∈ l,0<=x/\x < (f:Int):=by
 intro x hx;obtain ⟨i,hi⟩:=List.mem_iff_getElem?.1 hx;have:=qfq.1 h i x hi;unfold ixE at this;split at this
 ·omega
 ·omega
theorem qw2 {f:Nat} {t:Ts} (hs:shT t) (h:tsE f t = 0):okF f t:=by
 unfold tsE at h;split at h
 ·rename_i h1;split at h
  ·rename_i h2; exact ⟨qxE h1,qxE h2,hs⟩
  ·rename_i h2; exact absurd h h2
 ·rename_i h1; exact absurd h h1
theorem qmf {m:Mc} (hb:MB m) (h:(qh3 m).2 = 0):VM m/\qh3 m = (0,0):=by
 unfold qh3 at h ⊢;split at h
 ·rename_i h1;split at h
  ·rename_i h2;split at h
   ·rename_i h3;split at h
    ·rename_i h4;rw [if_pos h1,if_pos h2,if_pos h3,if_pos h4];refine ⟨⟨by omega,by omega,by omega,by omega,λa ha=>?_,λa ha=>?_,λt ht=>?_⟩,qqO h⟩
     ·obtain ⟨i,hi⟩:=List.mem_iff_getElem?.1 ha;have:=qfq.1 h4 i a hi;obtain ⟨_,b1,b2⟩:=hb.an a ha;unfold acE at this;split at this
      ·split at this
       ·omega
       ·split at this
        ·rename_i h5; exact qw2 b1 h5
        ·rename_i h5; exact absurd this h5
      ·omega
     ·obtain ⟨i,hi⟩:=List.mem_iff_getElem?.1 ha;have:=qfq.1 h4 i a hi;obtain ⟨_,b1,b2⟩:=hb.an a ha;unfold acE at this;split at this
      ·split at this
       ·omega
       ·split at this
        ·exact qw2 b2 this
        ·rename_i h5; exact absurd this h5
      ·omega
     ·obtain ⟨i,hi⟩:=List.mem_iff_getElem?.1 ht;exact qw2 (hb.ht t ht) (qfq.1 h i t hi)
    ·rename_i h4; exact absurd h h4
   ·rename_i h3; exact absurd h h3
  ·cases h
 ·cases h
abbrev Bm:=List Bt × List Bt × List Bt × Int × Unit
def bm (m:Mc):Bm:=(m.2.1.map λa=>bt (qc1 a),m.2.1.map λa=>bt (dos a),m.2.2.1.map bt,((2 ^ m.1.length:Nat):Int),())
def qva (m:Mc):Bm × Int:=if (qh3 m).2 = 0 then (bm m,0) else (([],[],[],0,()),(qh3 m).2)
theorem qAH {m:Mc} (hb:MB m):qf5 m = some (qva m):=by
 unfold qf5 qva;rw [qmY hb];simp only [qa];by_cases h:(qh3 m).2 = 0
 ·obtain ⟨hv,_⟩:=qmf hb h;have h8:=hv.f8; have h10:=hv.a10; have h4:=hv.h4;simp only [h,decide_true,Bool.not_true,cond_false,if_true];rw [qeX (by omega) (by omega)];simp only [qa,Int.toNat_natCast];have k1:Ok (qz (λ(s5:(Int × (List Bt) × (List Bt) × (List Bt) × Int)) =>
    bif decide (s5.1 < (m.2.1.length:Int)) then
     (idx m.2.1 s5.1).bind λx6 =>
     (qat (x6.2.1,x6.2.2.1,())).bind λx7 =>
     (app s5.2.1 ([x7])).bind λx8 =>
     (qat (x6.2.2.2.1,x6.2.2.2.2.1,())).bind λx9 =>
     (app s5.2.2.1 ([x9])).bind λx10 =>
     some (.inl (w64 (s5.1 + 1),x8,x10,s5.2.2.2.1,s5.2.2.2.2))
    else
     some (.inr (s5.2.1,s5.2.2.1,s5.2.2.2.1,s5.2.2.2.2))) (0,[],[],[],((2 ^ m.1.length:Nat):Int))) (λr=>r = (m.2.1.map λa=>bt (qc1 a),m.2.1.map λa=>bt (dos a),[],((2 ^ m.1.length:Nat):Int))):=by
   refine qbM m.2.1.length (λi (s:Int × List Bt × List Bt × List Bt × Int)=>s = ((i:Int),(m.2.1.take i).map (λa=>bt (qc1 a)),(m.2.1.take i).map (λa=>bt (dos a)),[],((2 ^ m.1.length:Nat):Int))) _ rfl ?_;rintro i s hi rfl;by_cases hlt:i < m.2.1.length
   ·obtain ⟨a,ha⟩:∃ a,m.2.1[i]? = some a:=⟨_,List.getElem?_eq_getElem hlt⟩
    have h0:decide ((i:Int) < (m.2.1.length:Int)) = true:=by simp <;> omega
    have hm:=List.mem_of_getElem? ha;simp only [h0,cond_true,qU ha,qa];rw [qk1 ((hv.nd a hm).ok h8)];simp only [qa];rw [qda (by simp; omega)];simp only [qa];rw [qk1 ((hv.ds a hm).ok h8)];simp only [qa];rw [qda (by simp; omega)];simp only [qa];rw [wq (by omega) (by omega),qV];exact ⟨hlt,by rw [qcj a hlt,qaU ha]; simp⟩
   ·have:i = m.2.1.length:=by omega
    subst this;have h0:decide ((m.2.1.length:Int) < (m.2.1.length:Int)) = false:=by simp
    simp only [h0,cond_false];rw [qaD,List.take_length]
  rw [k1.eq];simp only [qa];have k2:Ok (qz (λ(s14:(Int × (List Bt) × (List Bt) × (List Bt) × Int)) =>
    bif decide (s14.1 < (m.2.2.1.length:Int)) then
     (idx m.2.2.1 s14.1).bind λx15 =>
     (qat x15).bind λx16 =>
     (app s14.2.2.2.1 ([x16])).bind λx17 =>
     some (.inl (w64 (s14.1 + 1),s14.2.1,s14.2.2.1,x17,s14.2.2.2.2))
    else
     some (.inr (s14.2.1,s14.2.2.1,s14.2.2.2.1,s14.2.2.2.2))) (0,m.2.1.map (λa=>bt (qc1 a)),m.2.1.map (λa=>bt (dos a)),[],((2 ^ m.1.length:Nat):Int))) (λr=>r = (m.2.1.map (λa=>bt (qc1 a)),m.2.1.map (λa=>bt (dos a)),m.2.2.1.map bt,((2 ^ m.1.length:Nat):Int))):=by
   refine qbM m.2.2.1.length (λi (s:Int × List Bt × List Bt × List Bt × Int)=>s = ((i:Int),m.2.1.map (λa=>bt (qc1 a)),m.2.1.map (λa=>bt (dos a)),(m.2.2.1.take i).map bt,((2 ^ m.1.length:Nat):Int))) _ rfl ?_;rintro i s hi rfl;by_cases hlt:i < m.2.2.1.length
   ·obtain ⟨a,ha⟩:∃ a,m.2.2.1[i]? = some a:=⟨_,List.getElem?_eq_getElem hlt⟩
    have h0:decide ((i:Int) < (m.2.2.1.length:Int)) = true:=by simp <;> omega
    have hm:=List.mem_of_getElem? ha;simp only [h0,cond_true,qU ha,qa];rw [qk1 ((hv.ht a hm).ok h8)];simp only [qa];rw [qda (by simp; omega)];simp only [qa];rw [wq (by omega) (by omega),qV];exact ⟨hlt,by rw [qcj a hlt,qaU ha]; simp⟩
   ·have:i = m.2.2.1.length:=by omega
    subst this;have h0:decide ((m.2.2.1.length:Int) < (m.2.2.1.length:Int)) = false:=by simp
    simp only [h0,cond_false];rw [qaD,List.take_length]
  rw [k2.eq];rfl
 ·simp [h]
def stE (m:Mc) (s:Int):Int:=if (qh3 m).2 = 0 then (if 0<=s/\s<=((2 ^ m.1.length:Nat):Int) - 1 then 0 else 2) else (qh3 m).2
theorem qkf {m:Mc} (hv:VM m):0 < 2 ^ m.1.length/\2 ^ m.1.length<=256:=⟨Nat.pow_pos (by omega),Nat.pow_le_pow_right (n:=2) (by omega) hv.f8⟩
theorem qha {m:Mc} (hb:MB m) (s:Int):qaN m s = some ((qva m).1,s,stE m s):=by
 unfold qaN;rw [qAH hb];simp only [qa,wit,unl];rw [qBb _ (by simp)];simp only [qa];unfold qva stE;by_cases h:(qh3 m).2 = 0
 ·obtain ⟨hv,_⟩:=qmf hb h;obtain ⟨p1,p2⟩:=qkf hv;simp only [h,if_true,bm,qlB];generalize 2 ^ m.1.length = p at p1 p2 ⊢;rw [wq (by omega) (by omega)];by_cases c:0<=s/\s<=(p:Int) - 1 <;> simp [c,qlB]
 ·simp [h,qlB]
theorem qs1 {m:Mc} (hb:MB m) (s:Int):qdr m s = some (stE m s):=by
 unfold qdr;rw [qpU hb];simp only [qa];unfold stE;by_cases h:(qh3 m).2 = 0
 ·obtain ⟨hv,_⟩:=qmf hb h;obtain ⟨p1,p2⟩:=qkf hv;have h8:=hv.f8;simp only [h,if_true,decide_true,Bool.not_true,cond_false];unfold qe8 qgu;rw [qeX (by omega) (by omega)];simp only [qa,Int.toNat_natCast,Wit];generalize 2 ^ m.1.length = p at p1 p2 ⊢;rw [wq (by omega) (by omega)];by_cases c:0<=s/\s<=(p:Int) - 1 <;> simp [c]
 ·simp [h]
theorem qq7 {m:Mc} (hb:MB m) {s:Int} (h:stE m s = 0):VM m/\qh3 m = (0,0)/\qva m = (bm m,0)/\∃ n:Nat,s = (n:Int)/\n < 2 ^ m.1.length/\n < 256:=by
 unfold stE at h;split at h
 ·rename_i h1;obtain ⟨hv,h2⟩:=qmf hb h1;obtain ⟨p1,p2⟩:=qkf hv;split at h
  ·rename_i h3;refine ⟨hv,h2,by unfold qva; rw [if_pos h1],s.toNat,by omega,?_,?_⟩
   ·generalize 2 ^ m.1.length = p at p1 p2 h3 ⊢; omega
   ·generalize 2 ^ m.1.length = p at p1 p2 h3 ⊢; omega
  ·cases h
 ·rename_i h1; exact absurd h h1
def qBt (m:Mc) (i:Nat):Ac:=m.2.1.getD i ([],[],[],[],[],())
theorem qhM {m:Mc} {i:Nat} {a:Ac} (h:m.2.1[i]? = some a):qBt m i = a:=qaU h
end Go.Proofs.YtkcaaaiihhhnmaaGreatDoor
end
section
namespace Go.Proofs.YtkcaaaiihhhnmaaGreatDoor
open Go Go.Ab Go.Tx
theorem wrap_u64 {n:Int} (h0:0<=n) (h:n < 1000000):IntKind.wrap .u64 n = n:=by
 show n % (2 ^ 64:Int) = n;omega
def qgE (m:Mc) (s:Nat):Bool:=m.2.2.1.any λt=>hold t s
theorem qn5 {m:Mc} (hv:VM m) {n:Nat} (hn:n < 256):qJ (bm m) (n:Int) = some (qgE m n):=by
 unfold qJ;have h4:=hv.h4;have h8:=hv.f8;have key:=qyx (m.2.2.1.map bt) (λx=>qao x (n:Int)) (λx=>decide (∃ t ∈ m.2.2.1,bt t = x/\hold t n = true)) (λx hx=>by
  obtain ⟨t,ht,rfl⟩:=List.mem_map.1 hx;rw [qmk ((hv.ht t ht).ok h8) hn];congr 1
  rw [Bool.eq_iff_iff,decide_eq_true_iff];constructor
  ·intro h; exact ⟨t,ht,rfl,h⟩
  ·rintro ⟨t2,ht2,e,h⟩;have a1:=qmk ((hv.ht t ht).ok h8) hn;have a2:=qmk ((hv.ht t2 ht2).ok h8) hn;rw [e,a1] at a2;rw [Option.some.inj a2]; exact h) (by simp; omega)
 refine key.trans ?_;congr 1
 unfold qgE;rw [Bool.eq_iff_iff,List.any_eq_true,List.any_eq_true];constructor
 ·rintro ⟨x,hx,h⟩;obtain ⟨t,ht,_,h⟩:=of_decide_eq_true h;exact ⟨t,ht,h⟩
 ·rintro ⟨t,ht,h⟩;exact ⟨bt t,List.mem_map.2 ⟨t,ht,rfl⟩,decide_eq_true ⟨t,ht,rfl,h⟩⟩
theorem qi3 {m:Mc} (hv:VM m) {n:Nat} (hn:n < 256):qaG m (n:Int) = some (qgE m n):=by
 unfold qaG;have h4:=hv.h4;have h8:=hv.f8;rw [qj4 m.2.2.1.length _ (λj=>∃ t,m.2.2.1[j]? = some t/\hold t n = true) true (qgE m n = true) (by
  unfold qgE;rw [List.any_eq_true];constructor
  ·rintro ⟨t,ht,h⟩;obtain ⟨j,hj⟩:=List.mem_iff_getElem?.1 ht;exact ⟨j,qa6 hj,t,hj,h⟩
  ·rintro ⟨j,_,t,hj,h⟩;exact ⟨t,List.mem_of_getElem? hj,h⟩) (λi hi=>by
  obtain ⟨t,ht⟩:∃ t,m.2.2.1[i]? = some t:=⟨_,List.getElem?_eq_getElem hi⟩
  rw [qU ht];simp only [qa];rw [quW ((hv.ht t (List.mem_of_getElem? ht)).ok h8) hn];simp only [qa];by_cases c:hold t n = true
  ·simp [c,ht]
  ·have c':hold t n = false:=by simpa using c
   simp only [c',cond_false,ht,qb,exists_eq_left',qf,if_false];rw [wq (by omega) (by omega)])]
 by_cases c:qgE m n = true
 ·simp [c]
 ·simp [c]
def opens (m:Mc) (l:List Int) (n:Nat):Prop:=∃ a ∈ m.2.1,hold (qc1 a) n = true/\(((qqS (dos a) n:Nat):Int) ∉ l)
instance (m:Mc) (l:List Int) (n:Nat):Decidable (opens m l n):=by unfold opens; infer_instance
end Go.Proofs.YtkcaaaiihhhnmaaGreatDoor
end
section
namespace Go.Proofs.YtkcaaaiihhhnmaaGreatDoor
open Go Go.Ab Go.Tx
abbrev Ent:=Nat × Int × Int × List Int
structure SS where
 nA:Nat
 hm:Nat->Bool
 nx:Nat->Nat->Option Nat
def qnz (x:SS) (i:Nat) (e:Ent) (out:List Ent) (a:Nat):List Ent :=
 match x.nx e.1 a with
 | none=>out
 | some t=>if t ∈ out.map (·.1) then out else out ++ [(t,(i:Int),(a:Int),e.2.2.2 ++ [(a:Int)])]
def qbE (x:SS) (i:Nat) (e:Ent) (out:List Ent) (n:Nat):List Ent:=(List.range n).foldl (qnz x i e) out
theorem qk4 (x:SS) (i:Nat) (e:Ent) (out:List Ent) (n:Nat):qbE x i e out (n + 1) = qnz x i e (qbE x i e out n) n:=by
 unfold qbE;rw [List.range_succ,List.foldl_append]; rfl
def qoj (x:SS) (i:Nat) (out:List Ent):List Ent :=
 match out[i]? with
 | none=>out
 | some e=>if x.hm e.1 = true then out else qbE x i e out x.nA
def RA (x:SS) (s:Nat):Nat->List Ent
 | 0=>[(s,-1,-1,[])]
 | i + 1=>qoj x i (RA x s i)
def qfN (x:SS) (s:Nat):List Ent:=RA x s 256
def qzG (x:SS) (out:List Ent) (k:Nat) (e:Ent):Prop :=
 (k = 0/\e.2.1 = -1/\e.2.2.1 = -1/\e.2.2.2 = []) \/
 ∃ (b a:Nat) (eb:Ent),b < k/\out[b]? = some eb/\a < x.nA/\e.2.1 = (b:Int)/\e.2.2.1 = (a:Int)/\x.nx eb.1 a = some e.1/\x.hm eb.1 = false/\e.2.2.2 = eb.2.2.2 ++ [(a:Int)]
structure GA (x:SS) (s:Nat) (out:List Ent):Prop where
 nd:(out.map (·.1)).Nodup
 lt:∀ e ∈ out,e.1 < 256
 zero:out[0]? = some (s,-1,-1,[])
 aft:∀ (k:Nat) e,out[k]? = some e->qzG x out k e
theorem qyu:∀ (N:Nat) (l:List Nat),l.Nodup->(∀ a ∈ l,a < N)->l.length<=N
 | 0,l,_,h=>by
  cases l with
  | nil=>simp
  | cons a l=>exact absurd (h a (by simp)) (by omega)
 | N + 1,l,hd,h=>by
  have h1:=qyu N (l.filter λa=>decide (a ≠ N)) (hd.filter _) (λa ha=>by
   simp only [List.mem_filter,decide_eq_true_eq] at ha;have:=h a ha.1; omega)
  have h2:(l.filter λa=>!decide (a ≠ N)).length<=1:=by
   have hn:(l.filter λa=>!decide (a ≠ N)).Nodup:=hd.filter _
   match hl:l.filter λa=>!decide (a ≠ N) with
   | []=>simp
   | [a]=>simp
   | a :: b :: t =>
    exfalso
    have ha:a ∈ l.filter λa=>!decide (a ≠ N):=by rw [hl]; simp
    have hb:b ∈ l.filter λa=>!decide (a ≠ N):=by rw [hl]; simp
    simp only [List.mem_filter,Bool.not_eq_true',decide_eq_false_iff_not,Decidable.not_not] at ha hb;rw [hl] at hn;have:a ≠ b:=by
     have:=(List.nodup_cons.1 hn).1;simp only [List.mem_cons,not_or] at this; exact this.1
    exact this (by rw [ha.2,hb.2])
  have h3:l.length = (l.filter λa=>decide (a ≠ N)).length + (l.filter λa=>!decide (a ≠ N)).length:=by
   clear h h1 h2 hd;induction l with
   | nil=>rfl
   | cons a l ih =>
    by_cases e:a = N
    ·simp [e,List.filter_cons] at ih ⊢; omega
    ·simp [e,List.filter_cons] at ih ⊢; omega
  omega
theorem GA.len {x:SS} {s:Nat} {out:List Ent} (h:GA x s out):out.length<=256:=by
 have:=qyu 256 (out.map (·.1)) h.nd (λa ha=>by
  obtain ⟨e,he,rfl⟩:=List.mem_map.1 ha;exact h.lt e he)
 simpa using this
def SS.ok (x:SS):Prop:=∀ s a t,s < 256->x.nx s a = some t->t < 256
theorem qmP {α:Type} {l m:List α} {k:Nat} {a:α} (h:l[k]? = some a):(l ++ m)[k]? = some a:=by
 have:=(List.getElem?_eq_some_iff.1 h).1;rw [List.getElem?_append_left this]; exact h
theorem qzG.app {x:SS} {out m:List Ent} {k:Nat} {e:Ent} (h:qzG x out k e):qzG x (out ++ m) k e:=by
 rcases h with h | ⟨b,a,eb,h1,h2,h3⟩
 ·exact .inl h
 ·exact .inr ⟨b,a,eb,h1,qmP h2,h3⟩
theorem qyi {x:SS} (hx:x.ok) {s:Nat} {out:List Ent} (h:GA x s out) {i a:Nat} {e:Ent} (he:out[i]? = some e) (hh:x.hm e.1 = false) (ha:a < x.nA) :
  GA x s (qnz x i e out a)/\∃ l,qnz x i e out a = out ++ l:=by
 unfold qnz;split
 ·exact ⟨h,[],by simp⟩
 ·rename_i t ht;split
  ·exact ⟨h,[],by simp⟩
  ·rename_i hn;refine ⟨⟨?_,?_,qmP h.zero,?_⟩,_,rfl⟩
   ·rw [List.map_append,List.nodup_append];refine ⟨h.nd,by simp,?_⟩;intro b hb c hc e1;simp only [List.map_cons,List.map_nil,List.mem_singleton] at hc;subst e1; subst hc;exact hn hb
   ·intro e' h';rw [List.mem_append] at h';rcases h' with h' | h'
    ·exact h.lt e' h'
    ·simp only [List.mem_singleton] at h';subst h';exact hx _ _ _ (h.lt e (List.mem_of_getElem? he)) ht
   ·intro k e' h';by_cases hk:k < out.length
    ·rw [List.getElem?_append_left hk] at h';exact (h.aft k e' h').app
    ·rw [List.getElem?_append_right (by omega)] at h';have hk0:k - out.length = 0:=by
      rcases Nat.eq_zero_or_pos (k - out.length) with h0 | h0
      ·exact h0
      ·rw [List.getElem?_eq_none (by simp; omega)] at h'; cases h'
     rw [hk0] at h';simp only [List.getElem?_cons_zero,qb] at h';subst h';have:=(List.getElem?_eq_some_iff.1 he).1;exact .inr ⟨i,a,e,by omega,qmP he,ha,rfl,rfl,ht,hh,rfl⟩
theorem qhx {x:SS} (hx:x.ok) {s:Nat} {out:List Ent} (h:GA x s out) {i:Nat} {e:Ent} (he:out[i]? = some e) (hh:x.hm e.1 = false) :
  ∀ n,n<=x.nA->GA x s (qbE x i e out n)/\∃ l,qbE x i e out n = out ++ l
 | 0,_=>⟨h,[],by simp [qbE]⟩
 | n + 1,hn=>by
  obtain ⟨h1,l,h2⟩:=qhx hx h he hh n (by omega);rw [qk4];obtain ⟨h3,l',h4⟩:=qyi hx h1 (i:=i) (a:=n) (e:=e) (by rw [h2]; exact qmP he) hh (by omega);exact ⟨h3,l ++ l',by rw [h4,h2,List.append_assoc]⟩
theorem qvn {x:SS} (hx:x.ok) {s:Nat} {out:List Ent} (h:GA x s out) (i:Nat):GA x s (qoj x i out)/\∃ l,qoj x i out = out ++ l:=by
 unfold qoj;split
 ·exact ⟨h,[],by simp⟩
 ·rename_i e he;split
  ·exact ⟨h,[],by simp⟩
  ·rename_i hh;exact qhx hx h he (by simpa using hh) _ (by omega)
theorem qns {x:SS} (hx:x.ok) {s:Nat} (hs:s < 256):∀ i,GA x s (RA x s i)
 | 0=>⟨by simp [RA],by simp [RA,hs],rfl,λk e h=>by
   cases k with
   | zero=>simp only [RA,List.getElem?_cons_zero,qb] at h; subst h; exact .inl ⟨rfl,rfl,rfl,rfl⟩
   | succ k=>simp [RA] at h⟩
 | i + 1=>(qvn hx (qns hx hs i) i).1
theorem qsW {x:SS} {s i:Nat} (h:(RA x s i).length<=i):∀ k,RA x s (i + k) = RA x s i
 | 0=>rfl
 | k + 1=>by
  show qoj x (i + k) (RA x s (i + k)) = _;rw [qsW h k];unfold qoj;rw [List.getElem?_eq_none (by omega)]
theorem qyA {x:SS} {s i:Nat} (hx:x.ok) (hs:s < 256) (h:(RA x s i).length<=i):qfN x s = RA x s i:=by
 unfold qfN;by_cases hi:i<=256
 ·obtain ⟨k,e⟩:∃ k,256 = i + k:=⟨256 - i,by omega⟩
  rw [e]; exact qsW h k
 ·obtain ⟨k,rfl⟩:∃ k,i = 256 + k:=⟨i - 256,by omega⟩
  exact (qsW (GA.len (qns hx hs 256)) k).symm
theorem qdC {x:SS} (hx:x.ok) {s:Nat} (hs:s < 256):GA x s (qfN x s):=qns hx hs 256
theorem qBe {x:SS} (hx:x.ok) {s:Nat} (hs:s < 256) (p:Nat->Prop) (h0:p s) (h:∀ u a t,p u->x.hm u = false->a < x.nA->x.nx u a = some t->p t):∀ e ∈ qfN x s,p e.1:=by
 have hg:=qdC hx hs;have key:∀ n:Nat,∀ k:Nat,k < n->∀ e:Ent,(qfN x s)[k]? = some e->p e.1:=by
  intro n;induction n with
  | zero=>intro k hk; omega
  | succ n ih =>
   intro k hk e he;rcases hg.aft k e he with ⟨rfl,_⟩ | ⟨b,a,eb,hb,h1,h2,_,_,h3,h4,_⟩
   ·rw [hg.zero] at he;obtain rfl:=Option.some.inj he;exact h0
   ·exact h _ a _ (ih b (by omega) eb h1) h4 h2 h3
 intro e he;obtain ⟨k,hk⟩:=List.mem_iff_getElem?.1 he;exact key (k + 1) k (by omega) e hk
end Go.Proofs.YtkcaaaiihhhnmaaGreatDoor
end
section
namespace Go.Proofs.YtkcaaaiihhhnmaaGreatDoor
open Go Go.Ab Go.Tx
theorem qB6 (l:List Int) (m:Int):qfM I l m = decide (m ∈ l):=by
 have:=quM (τ:=I) rfl (l:=l) (k:=m);by_cases h:m ∈ l
 ·rw [decide_eq_true h]; exact this.2 h
 ·rw [decide_eq_false h];cases hm:qfM I l m with
  | false=>rfl
  | true=>exact absurd (this.1 hm) h
theorem qBY (l:List Int) (m k:Int):m ∈ qjB I l k ↔ m ∈ l\/m = k:=by
 unfold qjB;rw [qB6];by_cases h:k ∈ l
 ·rw [decide_eq_true h];exact ⟨λh=>.inl h,λh'=>h'.elim id λe=>e ▸ h⟩
 ·rw [decide_eq_false h];show m ∈ l ++ [k] ↔ _;simp
def nxB (m:Mc) (bar:Nat->Bool) (s a:Nat):Option Nat :=
 if a < m.2.1.length/\bar a = false/\hold (qc1 (qBt m a)) s = true then some (qqS (dos (qBt m a)) s) else none
def qaA (m:Mc) (bar:Nat->Bool):SS:=⟨m.2.1.length,qgE m,nxB m bar⟩
theorem qdP {m:Mc} (hv:VM m) (bar:Nat->Bool):(qaA m bar).ok:=by
 intro s a t hs h;simp only [qaA,nxB] at h;split at h
 ·rename_i hc;cases h;obtain ⟨x,hx⟩:∃ x,m.2.1[a]? = some x:=⟨_,List.getElem?_eq_getElem hc.1⟩
  rw [qhM hx];have h8:=hv.f8;have hd:=hv.ds x (List.mem_of_getElem? hx);have:=qxn (f:=8) (hd.ok h8) (λy hy=>by have:=hd.1 y hy; omega) (by omega) (s:=s) (by omega);omega
 ·cases h
theorem qwj {m:Mc} (hv:VM m) (bar:Nat->Bool) {n:Nat} (hn:n < 2 ^ m.1.length):∀ e ∈ qfN (qaA m bar) n,e.1 < 2 ^ m.1.length:=by
 have h256:=qkf hv;refine qBe (qdP hv bar) (by omega) (λu=>u < 2 ^ m.1.length) hn λu a t hu _ _ ht=>?_;simp only [qaA,nxB] at ht;split at ht
 ·rename_i hc;cases ht;obtain ⟨x,hx⟩:∃ x,m.2.1[a]? = some x:=⟨_,List.getElem?_eq_getElem hc.1⟩
  rw [qhM hx];have hd:=hv.ds x (List.mem_of_getElem? hx);exact qxn (hd.ok hv.f8) (λy hy=>(hd.1 y hy).2) hv.f8 hu
 ·cases ht
def prg (e:Ent):Int × Int × Int × Unit:=((e.1:Int),e.2.1,e.2.2.1,())
theorem qk2 (l:List Ent) (t:Nat):((t:Int) ∈ (l.map λe=>((e.1:Nat):Int))) ↔ t ∈ l.map (·.1):=by
 simp only [List.mem_map];constructor
 ·rintro ⟨e,he,h⟩; exact ⟨e,he,by omega⟩
 ·rintro ⟨e,he,h⟩; exact ⟨e,he,by omega⟩
theorem qxK {m:Mc} (hv:VM m) {b:Nat} (hb:b < 9223372036854775808) {s:Nat} {out:List Ent} (hg:GA (qaA m b.testBit) s out) {i:Nat} {e:Ent} (he:out[i]? = some e) (hh:qgE m e.1 = false) {kn:List Int} (hk:∀ t,t ∈ kn ↔ t ∈ out.map λe=>((e.1:Nat):Int)) :
  Ok (qz (λ(s7:(Int × (List (Int × Int × Int × Unit)) × (List Int))) =>
         bif decide (s7.1 < ((bm m).1.length:Int)) then
          (idx (bm m).1 s7.1).bind λx8 =>
          ((qvp .i64 (b:Int) s7.1).bind λx9 =>
           bif decide (qoT .i64 x9 (1:Int) = 0) then
            (qao x8 (e.1:Int)).bind λx10 =>
            bif x10 then
             (idx (bm m).2.1 s7.1).bind λx11 =>
             (qbt x11 (e.1:Int)).bind λx12 =>
             (bif !(qfM I s7.2.2 x12) then
               (app s7.2.1 ([(x12,(i:Int),s7.1,())])).bind λx13 =>
               some (x13,qjB I s7.2.2 x12)
              else
               some (s7.2.1,s7.2.2)).bind λ(p14:((List (Int × Int × Int × Unit)) × (List Int))) =>
             some (false,p14.1,p14.2)
            else
             some (false,s7.2.1,s7.2.2)
           else
            some (false,s7.2.1,s7.2.2)).bind λ(p15:(Bool × (List (Int × Int × Int × Unit)) × (List Int))) =>
          bif p15.1 then
           some (.inr (.inr (p15.2.1,p15.2.2)))
          else
           some (.inl (w64 (s7.1 + 1),p15.2.1,p15.2.2))
         else
          some (.inr (.inl (s7.2.1,s7.2.2)))) (0,out.map prg,kn))
   λ(r:((List (Int × Int × Int × Unit)) × (List Int)) ⊕ ((List (Int × Int × Int × Unit)) × (List Int)))=>∃ kn',r = .inl ((qbE (qaA m b.testBit) i e out m.2.1.length).map prg,kn')/\∀ t,t ∈ kn' ↔ t ∈ (qbE (qaA m b.testBit) i e out m.2.1.length).map λe=>((e.1:Nat):Int):=by
 have h8:=hv.f8; have h10:=hv.a10;have hE:e.1 < 256:=hg.lt e (List.mem_of_getElem? he);have hlen:(bm m).1.length = m.2.1.length:=by simp [bm]
 refine qbM m.2.1.length (λj (st:Int × List (Int × Int × Int × Unit) × List Int)=>st.1 = (j:Int)/\st.2.1 = (qbE (qaA m b.testBit) i e out j).map prg/\∀ t,t ∈ st.2.2 ↔ t ∈ (qbE (qaA m b.testBit) i e out j).map λe=>((e.1:Nat):Int)) _ ⟨rfl,rfl,hk⟩ ?_;rintro j ⟨j0,l,kn'⟩ hj ⟨e1,e2,e3⟩;simp only at e1 e2 e3;subst e1;by_cases hlt:j < m.2.1.length
 ·have h0:decide ((j:Int) < ((bm m).1.length:Int)) = true:=by rw [hlen]; simp <;> omega
  obtain ⟨a,ha⟩:∃ a,m.2.1[j]? = some a:=⟨_,List.getElem?_eq_getElem hlt⟩
  have hm:=List.mem_of_getElem? ha;have i1:(bm m).1[j]? = some (bt (qc1 a)):=by simp [bm,ha]
  have i2:(bm m).2.1[j]? = some (bt (dos a)):=by simp [bm,ha]
  have hsh:=qju (a:=b) (x:=(j:Int)) (by omega) (by omega);rw [Int.toNat_natCast] at hsh;simp only [h0,cond_true,qU i1,qa];rw [hsh];simp only [qa];rw [qna hb];have hgn:qbE (qaA m b.testBit) i e out (j + 1) = qnz (qaA m b.testBit) i e (qbE (qaA m b.testBit) i e out j) j:=qk4 _ _ _ _ _;obtain ⟨hg2,_⟩:=qhx (qdP hv _) hg he hh j (by show j<=m.2.1.length; omega);have hl2:=hg2.len;by_cases hbit:b.testBit j = true
  ·have hnx:(qaA m b.testBit).nx e.1 j = none:=by simp [qaA,nxB,hbit]
   have ht:qnz (qaA m b.testBit) i e (qbE (qaA m b.testBit) i e out j) j = qbE (qaA m b.testBit) i e out j:=by unfold qnz; rw [hnx]
   simp only [hbit,if_true];simp only [show decide ((1:Int) = 0) = false from rfl,cond_false,qa];rw [wq (by omega) (by omega),qV];rw [hgn,ht];exact ⟨hlt,by simp,e2,e3⟩
  ·have hbit':b.testBit j = false:=by simpa using hbit
   simp only [hbit',qf,if_false,decide_true,cond_true];rw [qmk ((hv.nd a hm).ok h8) hE];simp only [qa];by_cases c:hold (qc1 a) e.1 = true
   ·have hnx:(qaA m b.testBit).nx e.1 j = some (qqS (dos a) e.1):=by
     simp only [qaA,nxB];rw [qhM ha,if_pos ⟨hlt,hbit',c⟩]
    simp only [c,cond_true,qU i2,qa];rw [qAI ((hv.ds a hm).ok h8) hE];simp only [qa,qB6];by_cases hin:((qqS (dos a) e.1:Nat):Int) ∈ kn'
    ·have ht:qnz (qaA m b.testBit) i e (qbE (qaA m b.testBit) i e out j) j = qbE (qaA m b.testBit) i e out j:=by
      unfold qnz; rw [hnx];simp only
      rw [if_pos ((qk2 _ _).1 ((e3 _).1 hin))]
     rw [decide_eq_true hin];simp only [Bool.not_true,cond_false,qa];rw [wq (by omega) (by omega),qV];rw [hgn,ht];exact ⟨hlt,by simp,e2,e3⟩
    ·have ht:qnz (qaA m b.testBit) i e (qbE (qaA m b.testBit) i e out j) j = qbE (qaA m b.testBit) i e out j ++ [(qqS (dos a) e.1,(i:Int),(j:Int),e.2.2.2 ++ [(j:Int)])]:=by
      unfold qnz; rw [hnx];simp only
      rw [if_neg (λh=>hin ((e3 _).2 ((qk2 _ _).2 h)))]
     rw [decide_eq_false hin];simp only [Bool.not_false,cond_true];rw [qda (by rw [e2]; simp; omega)];simp only [qa,cond_false];rw [wq (by omega) (by omega),qV];rw [hgn,ht];refine ⟨hlt,by simp,?_,λt=>?_⟩
     ·rw [e2,List.map_append]; rfl
     ·simp only
      rw [qBY,e3,List.map_append,List.mem_append];simp
   ·have c':hold (qc1 a) e.1 = false:=by simpa using c
    have hnx:(qaA m b.testBit).nx e.1 j = none:=by
     simp only [qaA,nxB];rw [qhM ha,if_neg (λh=>c h.2.2)]
    have ht:qnz (qaA m b.testBit) i e (qbE (qaA m b.testBit) i e out j) j = qbE (qaA m b.testBit) i e out j:=by unfold qnz; rw [hnx]
    simp only [c',cond_false,qa];rw [wq (by omega) (by omega),qV];rw [hgn,ht];exact ⟨hlt,by simp,e2,e3⟩
 ·have:j = m.2.1.length:=by omega
  subst this;have h0:decide ((m.2.1.length:Int) < ((bm m).1.length:Int)) = false:=by rw [hlen]; simp
  simp only [h0,cond_false];rw [qaD];exact ⟨kn',by rw [e2],e3⟩
theorem qiU {m:Mc} (hv:VM m) {n b:Nat} (hn:n < 256) (hb:b < 9223372036854775808):qaa (bm m) (n:Int) (b:Int) = some ((qfN (qaA m b.testBit) n).map prg):=by
 have hok:=qdP hv b.testBit;unfold qaa;have key:∀ o:Option (List (Int × Int × Int × Unit)),Ok o (λr=>r = (qfN (qaA m b.testBit) n).map prg)->(o.bind λp19=>some p19) = some ((qfN (qaA m b.testBit) n).map prg):=by
  intro o h; rw [h.eq]; rfl
 refine key _ (qpV (λst=>257 - st.2.1.toNat) (λ(st:List (Int × Int × Int × Unit) × Int × List Int)=>∃ i:Nat,st.2.1 = (i:Int)/\i<=256/\st.1 = (RA (qaA m b.testBit) n i).map prg/\∀ t,t ∈ st.2.2 ↔ t ∈ (RA (qaA m b.testBit) n i).map λe=>((e.1:Nat):Int)) _ ⟨0,rfl,by omega,rfl,λt=>?_⟩ ?_)
 ·simp only
  rw [qBY];simp [RA]
 ·rintro ⟨l,i0,kn⟩ ⟨i,e1,e0,e2,e3⟩;simp only at e1 e2 e3;subst e1;have hg:=qns hok hn i;have hl:=hg.len;have hll:l.length = (RA (qaA m b.testBit) n i).length:=by rw [e2]; simp
  by_cases hlt:i < (RA (qaA m b.testBit) n i).length
  ·obtain ⟨e,he⟩:∃ e,(RA (qaA m b.testBit) n i)[i]? = some e:=⟨_,List.getElem?_eq_getElem hlt⟩
   have hE:e.1 < 256:=hg.lt e (List.mem_of_getElem? he);have h0:decide ((i:Int) < (l.length:Int)) = true:=by simp <;> omega
   have hi:l[i]? = some (prg e):=by rw [e2]; simp [he]
   have hst:RA (qaA m b.testBit) n (i + 1) = if qgE m e.1 = true then RA (qaA m b.testBit) n i else qbE (qaA m b.testBit) i e (RA (qaA m b.testBit) n i) m.2.1.length:=by
    show qoj _ _ _ = _;unfold qoj;rw [he]; rfl
   simp only [h0,cond_true,qU hi,qa];rw [show (prg e).1 = (e.1:Int) from rfl,qn5 hv hE];simp only [qa];by_cases hh:qgE m e.1 = true
   ·simp only [hh,cond_true,qa];rw [wq (by omega) (by omega),qV];rw [if_pos hh] at hst;exact ⟨⟨i + 1,by simp,by omega,by rw [hst]; exact e2,by rw [hst]; exact e3⟩,by simp only; omega⟩
   ·have hh':qgE m e.1 = false:=by simpa using hh
    rw [if_neg hh] at hst;simp only [hh',cond_false];obtain ⟨r,hr,kn',rfl,h3⟩:=qxK hv hb hg he hh' e3;rw [<- e2] at hr;rw [hr];simp only [qa,Sum.elim_inl];rw [wq (by omega) (by omega),qV];exact ⟨⟨i + 1,by simp,by omega,by rw [hst],by rw [hst]; exact h3⟩,by simp only; omega⟩
  ·have h0:decide ((i:Int) < (l.length:Int)) = false:=by simp <;> omega
   simp only [h0,cond_false];rw [qaD,e2,qyA hok hn (i:=i) (by omega)]
def rfe (e:Ent):Int × List Int × Unit:=((e.1:Int),e.2.2.2,())
theorem qu3 (l:List Ent) (hl:l.length<=1000) (t:Int):qdf (l.map rfe) t = some (decide (t ∈ l.map λe=>((e.1:Nat):Int))):=by
 unfold qdf;have:=qj4 (ρ:=Bool) (l.map rfe).length (λs2=>(idx (l.map rfe) s2).bind λx3 =>
    bif decide (x3.1 = t) then
     some (.inr (.inr true))
    else
     some (.inl (w64 (s2 + 1)))) (λj=>∃ e,l[j]? = some e/\((e.1:Nat):Int) = t) true (t ∈ l.map λe=>((e.1:Nat):Int)) (by
  rw [List.mem_map,List.length_map];constructor
  ·rintro ⟨e,he,h⟩;obtain ⟨j,hj⟩:=List.mem_iff_getElem?.1 he;exact ⟨j,qa6 hj,e,hj,h⟩
  ·rintro ⟨j,_,e,hj,h⟩;exact ⟨e,List.mem_of_getElem? hj,h⟩) (λi hi=>by
  rw [List.length_map] at hi;obtain ⟨e,he⟩:∃ e,l[i]? = some e:=⟨_,List.getElem?_eq_getElem hi⟩
  have hi2:(l.map rfe)[i]? = some (rfe e):=by simp [he]
  rw [qU hi2];simp only [qa];by_cases c:((e.1:Nat):Int) = t
  ·have:decide ((rfe e).1 = t) = true:=decide_eq_true c;simp only [this,cond_true,he,qb,exists_eq_left',c,if_true]
  ·have:decide ((rfe e).1 = t) = false:=decide_eq_false c;simp only [this,cond_false,he,qb,exists_eq_left',c,if_false];rw [wq (by omega) (by omega)])
 rw [this];by_cases h:t ∈ l.map λe=>((e.1:Nat):Int)
 ·simp [h]
 ·simp [h]
theorem qz9 {m:Mc} (hv:VM m) {bl:List Int} (hbl:bl.length<=1000) {bar:Nat->Bool} (hbar:∀ a,bar a = decide ((a:Int) ∈ bl)) {s:Nat} {out:List Ent} (hg:GA (qaA m bar) s out) {i:Nat} {e:Ent} (he:out[i]? = some e) (hh:qgE m e.1 = false) (hpl:∀ e ∈ out,e.2.2.2.length<=300) :
  qz (λ(s6:((List (Int × (List Int) × Unit)) × Int)) =>
        bif decide (s6.2 < (m.2.1.length:Int)) then
         ((idx s6.1 (i:Int)).bind λx7 =>
          (qfm m x7.1 s6.2).bind λx8 =>
          (bif !x8.2 then
            some true
           else
            (qhn bl s6.2).bind λx9 =>
            bif x9 then
             some true
            else
             (qdf s6.1 x8.1).bind λx10 =>
             some x10).bind λ(p11:Bool) =>
          bif p11 then
           some s6.1
          else
           (idx s6.1 (i:Int)).bind λx12 =>
           (qbp x12.2.1).bind λx13 =>
           (app x13 ([s6.2])).bind λx14 =>
           (app s6.1 ([(x8.1,x14,())])).bind λx15 =>
           some x15).bind λ(p16:(List (Int × (List Int) × Unit))) =>
         some (.inl (p16,w64 (s6.2 + 1)))
        else
         some (.inr s6.1)) (out.map rfe,0) = some ((qbE (qaA m bar) i e out m.2.1.length).map rfe):=by
 have h8:=hv.f8; have h10:=hv.a10;have hE:e.1 < 256:=hg.lt e (List.mem_of_getElem? he);refine Ok.eq (qbM m.2.1.length (λj (st:List (Int × List Int × Unit) × Int)=>st.2 = (j:Int)/\st.1 = (qbE (qaA m bar) i e out j).map rfe) _ ⟨rfl,rfl⟩ ?_);rintro j ⟨l,j0⟩ hj ⟨e1,e2⟩;simp only at e1 e2;subst e1;by_cases hlt:j < m.2.1.length
 ·have h0:decide ((j:Int) < (m.2.1.length:Int)) = true:=by simp <;> omega
  obtain ⟨a,ha⟩:∃ a,m.2.1[j]? = some a:=⟨_,List.getElem?_eq_getElem hlt⟩
  have hm:=List.mem_of_getElem? ha;have hgn:qbE (qaA m bar) i e out (j + 1) = qnz (qaA m bar) i e (qbE (qaA m bar) i e out j) j:=qk4 _ _ _ _ _;obtain ⟨hg2,l2,hl2⟩:=qhx (qdP hv _) hg he hh j (by show j<=m.2.1.length; omega);have hlen:=hg2.len;have hi:l[i]? = some (rfe e):=by rw [e2,List.getElem?_map,hl2,qmP he]; rfl
  simp only [h0,cond_true,qU hi,qa];rw [show (rfe e).1 = (e.1:Int) from rfl,qBa ha ((hv.nd a hm).ok h8) ((hv.ds a hm).ok h8) hE];simp only [qa];by_cases c:hold (qc1 a) e.1 = true
  ·simp only [c,if_true,Bool.not_true,cond_false];rw [qAg _ _ (by omega)];simp only [qa];by_cases hb:(j:Int) ∈ bl
   ·have hnx:(qaA m bar).nx e.1 j = none:=by
     simp only [qaA,nxB];rw [if_neg];rintro ⟨_,h,_⟩;rw [hbar,decide_eq_true hb] at h; cases h
    have ht:qnz (qaA m bar) i e (qbE (qaA m bar) i e out j) j = qbE (qaA m bar) i e out j:=by unfold qnz; rw [hnx]
    simp only [decide_eq_true hb,cond_true,qa];rw [wq (by omega) (by omega),qV,hgn,ht];exact ⟨hlt,by simp,e2⟩
   ·have hnx:(qaA m bar).nx e.1 j = some (qqS (dos a) e.1):=by
     simp only [qaA,nxB];rw [qhM ha,if_pos ⟨hlt,by rw [hbar,decide_eq_false hb],c⟩]
    simp only [decide_eq_false hb,cond_false];rw [e2,qu3 _ (by omega)];simp only [qa];by_cases hin:((qqS (dos a) e.1:Nat):Int) ∈ (qbE (qaA m bar) i e out j).map λe=>((e.1:Nat):Int)
    ·have ht:qnz (qaA m bar) i e (qbE (qaA m bar) i e out j) j = qbE (qaA m bar) i e out j:=by
      unfold qnz; rw [hnx];simp only
      rw [if_pos ((qk2 _ _).1 hin)]
     simp only [decide_eq_true hin,cond_true,qa];rw [wq (by omega) (by omega),qV,hgn,ht];exact ⟨hlt,by simp,rfl⟩
    ·have ht:qnz (qaA m bar) i e (qbE (qaA m bar) i e out j) j = qbE (qaA m bar) i e out j ++ [(qqS (dos a) e.1,(i:Int),(j:Int),e.2.2.2 ++ [(j:Int)])]:=by
      unfold qnz; rw [hnx];simp only
      rw [if_neg (λh=>hin ((qk2 _ _).2 h))]
     rw [e2] at hi;have hpe:=hpl e (List.mem_of_getElem? he);simp only [decide_eq_false hin,cond_false,qU hi,qa];rw [show (rfe e).2.1 = e.2.2.2 from rfl,qiW _ (by omega)];simp only [qa];rw [qda (by omega)];simp only [qa];rw [qda (by simp; omega)];simp only [qa];rw [wq (by omega) (by omega),qV,hgn,ht];exact ⟨hlt,by simp,by rw [List.map_append]; rfl⟩
  ·have c':hold (qc1 a) e.1 = false:=by simpa using c
   have hnx:(qaA m bar).nx e.1 j = none:=by
    simp only [qaA,nxB];rw [qhM ha,if_neg (λh=>c h.2.2)]
   have ht:qnz (qaA m bar) i e (qbE (qaA m bar) i e out j) j = qbE (qaA m bar) i e out j:=by unfold qnz; rw [hnx]
   simp only [c',qf,if_false,Bool.not_false,cond_true,qa];rw [wq (by omega) (by omega),qV,hgn,ht];exact ⟨hlt,by simp,e2⟩
 ·have:j = m.2.1.length:=by omega
  subst this;have h0:decide ((m.2.1.length:Int) < (m.2.1.length:Int)) = false:=by simp
  simp only [h0,cond_false];rw [qaD];exact e2
theorem GA.path {x:SS} {s:Nat} {out:List Ent} (h:GA x s out):∀ (n k:Nat) (e:Ent),k < n->out[k]? = some e->e.2.2.2.length<=k
 | 0,_,_,h0,_=>by omega
 | n + 1,k,e,h0,he=>by
  rcases h.aft k e he with ⟨rfl,_,_,h1⟩ | ⟨b,a,eb,hb,h1,_,_,_,_,_,h2⟩
  ·rw [h1]; simp
  ·have:=GA.path h n b eb (by omega) h1;rw [h2,List.length_append,List.length_singleton]; omega
theorem qkU {m:Mc} (hv:VM m) {bl:List Int} (hbl:bl.length<=1000) {bar:Nat->Bool} (hbar:∀ a,bar a = decide ((a:Int) ∈ bl)) {n:Nat} (hn:n < 256):qcz m (n:Int) bl = some ((qfN (qaA m bar) n).map rfe):=by
 have hok:=qdP hv bar;unfold qcz;have key:∀ o:Option (List (Int × List Int × Unit)),Ok o (λr=>r = (qfN (qaA m bar) n).map rfe)->(o.bind λp19=>some p19) = some ((qfN (qaA m bar) n).map rfe):=by
  intro o h; rw [h.eq]; rfl
 refine key _ (qpV (λst=>257 - st.2.toNat) (λ(st:List (Int × List Int × Unit) × Int)=>∃ i:Nat,st.2 = (i:Int)/\i<=256/\st.1 = (RA (qaA m bar) n i).map rfe) _ ⟨0,rfl,by omega,rfl⟩ ?_);rintro ⟨l,i0⟩ ⟨i,e1,e0,e2⟩;simp only at e1 e2;subst e1;have hg:=qns hok hn i;have hl:=hg.len;have hll:l.length = (RA (qaA m bar) n i).length:=by rw [e2]; simp
 by_cases hlt:i < (RA (qaA m bar) n i).length
 ·obtain ⟨e,he⟩:∃ e,(RA (qaA m bar) n i)[i]? = some e:=⟨_,List.getElem?_eq_getElem hlt⟩
  have hE:e.1 < 256:=hg.lt e (List.mem_of_getElem? he);have h0:decide ((i:Int) < (l.length:Int)) = true:=by simp <;> omega
  have hi:l[i]? = some (rfe e):=by rw [e2]; simp [he]
  have hst:RA (qaA m bar) n (i + 1) = if qgE m e.1 = true then RA (qaA m bar) n i else qbE (qaA m bar) i e (RA (qaA m bar) n i) m.2.1.length:=by
   show qoj _ _ _ = _;unfold qoj;rw [he]; rfl
  simp only [h0,cond_true,qU hi,qa];rw [show (rfe e).1 = (e.1:Int) from rfl,qi3 hv hE];simp only [qa];by_cases hh:qgE m e.1 = true
  ·simp only [hh,cond_true,qa];rw [wq (by omega) (by omega),qV];rw [if_pos hh] at hst;exact ⟨⟨i + 1,by simp,by omega,by rw [hst]; exact e2⟩,by simp only; omega⟩
  ·have hh':qgE m e.1 = false:=by simpa using hh
   rw [if_neg hh] at hst;simp only [hh',cond_false];have hgr:=qz9 hv hbl hbar hg he hh' (λe' h'=>by
    obtain ⟨k,hk⟩:=List.mem_iff_getElem?.1 h';have h1:=hg.path (k + 1) k e' (by omega) hk;have:=(List.getElem?_eq_some_iff.1 hk).1;omega)
   rw [<- e2] at hgr;rw [hgr];simp only [qa];rw [wq (by omega) (by omega),qV];exact ⟨⟨i + 1,by simp,by omega,by rw [hst]⟩,by simp only; omega⟩
 ·have h0:decide ((i:Int) < (l.length:Int)) = false:=by simp <;> omega
  simp only [h0,cond_false];rw [qaD,e2,qyA hok hn (i:=i) (by omega)]
end Go.Proofs.YtkcaaaiihhhnmaaGreatDoor
end
section
namespace Go.Proofs.YtkcaaaiihhhnmaaGreatDoor
open Go Go.Ab Go.Tx
def hIx (m:Mc) (l:List Ent):Option (Nat × Ent):=qaL (λi e=>if qgE m e.1 = true then some (i,e) else none) 0 l
theorem qdG {α ρ π:Type} (g:Nat->α->Option ρ) (f:ρ->π):∀ (l:List α) (k:Nat),qaL (λi a=>(g i a).map f) k l = (qaL g k l).map f
 | [],_=>rfl
 | a :: l,k=>by
  unfold qaL;cases g k a with
  | some r=>rfl
  | none=>exact qdG g f l (k + 1)
theorem qoD {α ρ:Type} {g:Nat->α->Option ρ}:∀ (l:List α) (k:Nat) {r:ρ},qaL g k l = some r->∃ i a,l[i]? = some a/\g (k + i) a = some r
 | [],_,_,h=>by cases h
 | a :: l,k,r,h=>by
  unfold qaL at h;cases hg:g k a with
  | some r'=>rw [hg] at h; cases h; exact ⟨0,a,rfl,hg⟩
  | none =>
   rw [hg] at h;obtain ⟨i,a',h1,h2⟩:=qoD l (k + 1) h;exact ⟨i + 1,a',h1,by rw [show k + (i + 1) = k + 1 + i by omega]; exact h2⟩
theorem quy {m:Mc} {l:List Ent} {i:Nat} {e:Ent} (h:hIx m l = some (i,e)):l[i]? = some e/\qgE m e.1 = true:=by
 obtain ⟨j,a,h1,h2⟩:=qoD l 0 h;simp only [Nat.zero_add] at h2;split at h2
 ·rename_i hh;cases h2;exact ⟨h1,hh⟩
 ·cases h2
theorem qxe {x:SS} {s:Nat} {out:List Ent} (hg:GA x s out) {k0:Nat} {e0:Ent} (he0:out[k0]? = some e0) :
  qz (λ(s11:((List Int) × Int × Int × Int)) =>
     bif decide (s11.2.2.1>=0) then
      (app s11.1 ([s11.2.2.2])).bind λx12 =>
      (idx (out.map prg) s11.2.2.1).bind λx13 =>
      some (.inl (x12,x13.1,x13.2.1,x13.2.2.1))
     else
      some (.inr s11.1)) ([],(prg e0).1,(prg e0).2.1,(prg e0).2.2.1) = some e0.2.2.2.reverse:=by
 have hl:=hg.len;refine Ok.eq (qpV (λst=>(st.2.2.1 + 1).toNat) (λ(st:List Int × Int × Int × Int)=>∃ (k:Nat) (e:Ent),out[k]? = some e/\st.2 = ((e.1:Int),e.2.1,e.2.2.1)/\e0.2.2.2 = e.2.2.2 ++ st.1.reverse/\st.1.length<=e0.2.2.2.length) _ ⟨k0,e0,he0,rfl,by simp,by simp⟩ ?_);rintro ⟨acc,q⟩ ⟨k,e,he,e1,e2,e3⟩;simp only at e1 e2 e3;subst e1;have hp0:=hg.path (k0 + 1) k0 e0 (by omega) he0;have hk0:=(List.getElem?_eq_some_iff.1 he0).1;rcases hg.aft k e he with ⟨rfl,h1,h2,h3⟩ | ⟨b,a,eb,hb,h1,h2,h3,h4,h5,h6,h7⟩
 ·simp only
  rw [h1];simp only [show decide ((-1:Int)>=0) = false from rfl,cond_false];rw [qaD,e2,h3];simp
 ·simp only
  rw [h3,h4];have h0:decide ((b:Int)>=0) = true:=by simp
  have hi:(out.map prg)[b]? = some (prg eb):=by rw [List.getElem?_map,h1]; rfl
  simp only [h0,cond_true];rw [qda (by omega)];simp only [qa,qU hi];rw [qV];refine ⟨⟨b,eb,h1,rfl,?_,?_⟩,?_⟩
  ·simp only
   rw [e2,h7]; simp
  ·have:e0.2.2.2.length = (e.2.2.2 ++ acc.reverse).length:=by rw [<- e2]
   rw [h7] at this;simp only [List.length_append,List.length_singleton,List.length_reverse] at this ⊢;omega
  ·rcases hg.aft b eb h1 with ⟨_,h8,_⟩ | ⟨b',_,_,h8,_,_,h9,_⟩
   ·show (eb.2.1 + 1).toNat < ((b:Int) + 1).toNat;rw [h8]; omega
   ·show (eb.2.1 + 1).toNat < ((b:Int) + 1).toNat;rw [h9]; omega
def qBu (m:Mc) (n:Nat):List Int × Int:=match hIx m (qfN (qaA m λ_=>false) n) with
 | some p=>(p.2.2.2.2,0)
 | none=>([],12)
theorem qu5:Nat.testBit 0 = λ_=>false:=by funext k; simp
theorem qrk {m:Mc} (hv:VM m) {out:List Ent} (hl:out.length<=256) (hs:∀ e ∈ out,e.1 < 256) :
  qz (ρ:=Unit ⊕ Int) (λ(s4:Int) =>
     bif decide (s4 < ((out.map prg).length:Int)) then
      (idx (out.map prg) s4).bind λx5 =>
      (qJ (bm m) x5.1).bind λx6 =>
      bif x6 then
       some (.inr (.inr s4))
      else
       some (.inl (w64 (s4 + 1)))
     else
      some (.inr (.inl ()))) 0 = some (qx3 ((hIx m out).map λp=>(p.1:Int))):=by
 have h:=qaw out (λs4=>(idx (out.map prg) s4).bind λx5 =>
      (qJ (bm m) x5.1).bind λx6 =>
      bif x6 then
       some (.inr (.inr s4))
      else
       some (.inl (w64 (s4 + 1)))) (λi e=>(if qgE m e.1 = true then some (i,e) else none).map λ(p:Nat × Ent)=>(p.1:Int)) (λi e he=>by
  have hi:(out.map prg)[i]? = some (prg e):=by rw [List.getElem?_map,he]; rfl
  have:=(List.getElem?_eq_some_iff.1 he).1;rw [qU hi];simp only [qa];rw [show (prg e).1 = (e.1:Int) from rfl,qn5 hv (hs e (List.mem_of_getElem? he))];simp only [qa];by_cases c:qgE m e.1 = true
  ·simp [c,stp]
  ·have c':qgE m e.1 = false:=by simpa using c
   simp only [c',cond_false];rw [wq (by omega) (by omega)];simp [stp])
 rw [List.length_map];refine h.trans ?_;rw [qdG];rfl
theorem qs5 {m:Mc} (hb:MB m) (s:Int):qcE m s = some (if stE m s = 0 then qBu m s.toNat else ([],stE m s)):=by
 unfold qcE;rw [qha hb];simp only [qa];by_cases h:stE m s = 0
 ·obtain ⟨hv,_,ho,n,rfl,hn,hn2⟩:=qq7 hb h;simp only [h,decide_true,Bool.not_true,cond_false,if_true,ho,Int.toNat_natCast];have hms:=qiU hv (n:=n) (b:=0) hn2 (by omega);rw [qu5] at hms;rw [show ((0:Nat):Int) = 0 from rfl] at hms;rw [hms];simp only [qa];have hg:=qdC (qdP hv λ_=>false) hn2;have hl:=hg.len;rw [qrk hv hl hg.lt,qQ];unfold qBu;cases hx:hIx m (qfN (qaA m λ_=>false) n) with
  | none=>rfl
  | some p =>
   obtain ⟨i,e⟩:=p;obtain ⟨h1,h2⟩:=quy hx;have hi:((qfN (qaA m λ_=>false) n).map prg)[i]? = some (prg e):=by rw [List.getElem?_map,h1]; rfl
   have h0:decide ((i:Int) < 0) = false:=by simp
   simp only [Option.map_some,qa,h0,cond_false,qU hi];rw [qxe hg h1];have hp:=hg.path (i + 1) i e (by omega) h1;have:=(List.getElem?_eq_some_iff.1 h1).1;simp only [qa];unfold qAZ;rw [if_pos (by rw [List.length_reverse]; omega),List.reverse_reverse];rfl
 ·simp [h]
theorem qAV {m:Mc} (hv:VM m) {n:Nat} (hn:n < 256):qhK m (n:Int) = some (match hIx m (qfN (qaA m λ_=>false) n) with | some p=>(p.2.2.2.2,true) | none=>([],false)):=by
 unfold qhK;rw [qkU hv (bl:=[]) (by simp) (bar:=λ_=>false) (λa=>by simp) hn];simp only [qa];have hg:=qdC (qdP hv λ_=>false) hn;have hl:=hg.len;have h:=qaw (qfN (qaA m λ_=>false) n) (λs3=>(idx ((qfN (qaA m λ_=>false) n).map rfe) s3).bind λx4 =>
    (qaG m x4.1).bind λx5 =>
    bif x5 then
     (idx ((qfN (qaA m λ_=>false) n).map rfe) s3).bind λx6 =>
     some (.inr (.inr (x6.2.1,true)))
    else
     some (.inl (w64 (s3 + 1)))) (λi e=>(if qgE m e.1 = true then some (i,e) else none).map λ(p:Nat × Ent)=>(p.2.2.2.2,true)) (λi e he=>by
  have hi:((qfN (qaA m λ_=>false) n).map rfe)[i]? = some (rfe e):=by rw [List.getElem?_map,he]; rfl
  have:=(List.getElem?_eq_some_iff.1 he).1;rw [qU hi];simp only [qa];rw [show (rfe e).1 = (e.1:Int) from rfl,qi3 hv (hg.lt e (List.mem_of_getElem? he))];simp only [qa];by_cases c:qgE m e.1 = true
  ·simp [c,stp,rfe]
  ·have c':qgE m e.1 = false:=by simpa using c
   simp only [c',cond_false];rw [wq (by omega) (by omega)];simp [stp])
 rw [List.length_map];rw [h,qQ,qdG];unfold hIx;cases qaL (λi (e:Ent)=>if qgE m e.1 = true then some (i,e) else none) 0 (qfN (qaA m λ_=>false) n) <;> rfl
theorem qqu (x y:Int):∀ l:List Int,y ∈ Go.Ab.qtJ x l ↔ y = x\/y ∈ l
 | []=>by simp [Go.Ab.qtJ]
 | z :: l=>by
  unfold Go.Ab.qtJ;split
  ·simp
  ·simp only [List.mem_cons,qqu x y l];constructor
   ·rintro (h | h | h) <;> simp [h]
   ·rintro (h | h | h) <;> simp [h]
theorem qnp (y:Int):∀ l:List Int,y ∈ qfr l ↔ y ∈ l
 | []=>by simp [qfr]
 | x :: l=>by
  show y ∈ Go.Ab.qtJ x (qfr l) ↔ _;rw [qqu,qnp y l,List.mem_cons]
theorem qun (x:Int):∀ l:List Int,l.Pairwise (· < ·)->x ∉ l->(Go.Ab.qtJ x l).Pairwise (· < ·)
 | [],_,_=>by simp [Go.Ab.qtJ]
 | z :: l,h,hx=>by
  unfold Go.Ab.qtJ;rw [List.pairwise_cons] at h;rw [List.mem_cons,not_or] at hx;split
  ·rename_i hz;refine List.pairwise_cons.2 ⟨λy hy=>?_,List.pairwise_cons.2 h⟩;rcases List.mem_cons.1 hy with rfl | hy
   ·omega
   ·have:=h.1 y hy; omega
  ·rename_i hz;refine List.pairwise_cons.2 ⟨λy hy=>?_,qun x l h.2 hx.2⟩;rcases (qqu x y l).1 hy with rfl | hy
   ·omega
   ·exact h.1 y hy
theorem qq4:∀ l:List Int,l.Nodup->(qfr l).Pairwise (· < ·)
 | [],_=>by simp [qfr]
 | x :: l,h=>by
  rw [List.nodup_cons] at h;show (Go.Ab.qtJ x (qfr l)).Pairwise _;exact qun x _ (qq4 l h.2) (λhm=>h.1 ((qnp x l).1 hm))
theorem qt9:∀ {l m:List Int},l.Pairwise (· < ·)->m.Pairwise (· < ·)->(∀ x,x ∈ l ↔ x ∈ m)->l = m
 | [],[],_,_,_=>rfl
 | [],b :: m,_,_,h=>by have:=(h b).2 List.mem_cons_self; cases this
 | a :: l,[],_,_,h=>by have:=(h a).1 List.mem_cons_self; cases this
 | a :: l,b :: m,h1,h2,h=>by
  rw [List.pairwise_cons] at h1 h2;have e:a = b:=by
   rcases List.mem_cons.1 ((h a).1 List.mem_cons_self) with e | e
   ·exact e
   ·rcases List.mem_cons.1 ((h b).2 List.mem_cons_self) with e' | e'
    ·exact e'.symm
    ·have:=h1.1 b e'; have:=h2.1 a e; omega
  subst e;rw [qt9 h1.2 h2.2 λx=>?_];constructor
  ·intro hx;rcases List.mem_cons.1 ((h x).1 (List.mem_cons_of_mem _ hx)) with e | e
   ·have:=h1.1 x hx; omega
   ·exact e
  ·intro hx;rcases List.mem_cons.1 ((h x).2 (List.mem_cons_of_mem _ hx)) with e | e
   ·have:=h2.1 x hx; omega
   ·exact e
def qeL (l:List Ent) (N:Nat):List Int:=List.map (λi:Nat=>(i:Int)) ((List.range N).filter λi=>decide (i ∈ l.map (·.1)))
theorem qrq (l:List Ent) (N:Nat):qeL l (N + 1) = qeL l N ++ if N ∈ l.map (·.1) then [(N:Int)] else []:=by
 unfold qeL;rw [List.range_succ,List.filter_append,List.map_append];congr 1
 by_cases h:N ∈ l.map (·.1)
 ·rw [if_pos h]; simp only [List.filter_cons,decide_eq_true h,if_true,List.filter_nil,List.map_cons,List.map_nil]
 ·rw [if_neg h]; simp only [List.filter_cons,decide_eq_false h,qf,if_false,List.filter_nil,List.map_nil]
theorem qmS (l:List Ent) (N:Nat):(qeL l N).length<=N:=by
 unfold qeL;rw [List.length_map];exact Nat.le_trans (List.length_filter_le ..) (by simp)
theorem qsP (l:List Ent) (N:Nat):(qeL l N).Pairwise (· < ·):=by
 unfold qeL;rw [List.pairwise_map];exact List.Pairwise.imp (λh=>by omega) (List.Pairwise.filter _ List.pairwise_lt_range)
theorem qqF {x:SS} {s:Nat} {out:List Ent} (hg:GA x s out) {N:Nat} (hN:∀ e ∈ out,e.1 < N):qfr (out.map λe=>((e.1:Nat):Int)) = qeL out N:=by
 refine qt9 (qq4 _ ?_) (qsP _ _) λy=>?_
 ·have:=hg.nd;rw [List.Nodup,List.pairwise_map] at this ⊢;exact this.imp λh e=>h (by omega)
 ·rw [qnp];unfold qeL;simp only [List.mem_map,List.mem_filter,List.mem_range,decide_eq_true_eq];constructor
  ·rintro ⟨e,he,rfl⟩;exact ⟨e.1,⟨hN e he,e,he,rfl⟩,rfl⟩
  ·rintro ⟨a,⟨_,e,he,rfl⟩,rfl⟩;exact ⟨e,he,rfl⟩
def qo8 (m:Mc) (n:Nat):List Int:=qeL (qfN (qaA m λ_=>false) n) (2 ^ m.1.length)
theorem qou {m:Mc} (hb:MB m) (s:Int):qby m s = some (if stE m s = 0 then (qo8 m s.toNat,0) else ([],stE m s)):=by
 unfold qby;rw [qha hb];simp only [qa];by_cases h:stE m s = 0
 ·obtain ⟨hv,_,ho,n,rfl,hn,hn2⟩:=qq7 hb h;simp only [h,decide_true,Bool.not_true,cond_false,if_true,ho,Int.toNat_natCast];have hms:=qiU hv (n:=n) (b:=0) hn2 (by omega);rw [qu5] at hms;rw [show ((0:Nat):Int) = 0 from rfl] at hms;rw [hms];simp only [qa];have hg:=qdC (qdP hv λ_=>false) hn2;have hl:=hg.len;rw [qA8 ((qfN (qaA m λ_=>false) n).map prg) (λx6=>x6.1)]
  ·simp only [qa];rw [List.map_map];unfold qwu;rw [if_pos (by simp; omega)];simp only [qa];have:=qqF hg (qwj hv (λ_=>false) hn);unfold qo8;rw [<- this];rfl
  ·intro i a out ha ho';have hlt:=(List.getElem?_eq_some_iff.1 ha).1;rw [List.length_map] at hlt;have h0:decide ((i:Int) < (((qfN (qaA m λ_=>false) n).map prg).length:Int)) = true:=by rw [List.length_map]; simp <;> omega
   simp only [h0,cond_true,qU ha,qa];rw [qda (by omega)];simp only [qa];rw [wq (by omega) (by omega)]
  ·intro out ho';have h0:decide ((((qfN (qaA m λ_=>false) n).map prg).length:Int) < (((qfN (qaA m λ_=>false) n).map prg).length:Int)) = false:=by simp
   simp only [h0,cond_false]
 ·simp [h]
theorem qvN {m:Mc} (hv:VM m) {n:Nat} (hn:n < 256):qd4 m (n:Int) = some (qo8 m n):=by
 unfold qd4;rw [qkU hv (bl:=[]) (by simp) (bar:=λ_=>false) (λa=>by simp) hn];simp only [qa];have hg:=qdC (qdP hv λ_=>false) hn;have hl:=hg.len;have hp:=qkf hv;have h8:=hv.f8;have key:∀ o:Option (List Int),Ok o (λr=>r = qo8 m n)->(o.bind λp8=>some p8) = some (qo8 m n):=by
  intro o h; rw [h.eq]; rfl
 refine key _ (qbM (2 ^ m.1.length) (λi (st:List Int × Int)=>st.2 = (i:Int)/\st.1 = qeL (qfN (qaA m λ_=>false) n) i) _ ⟨rfl,rfl⟩ ?_);rintro i ⟨l,i0⟩ hi ⟨e1,e2⟩;simp only at e1 e2;subst e1;rw [qeX (by omega) (by omega)];simp only [qa,Int.toNat_natCast];by_cases hlt:i < 2 ^ m.1.length
 ·have h0:decide ((i:Int) < ((2 ^ m.1.length:Nat):Int)) = true:=by simp only [decide_eq_true_eq] <;> omega
  simp only [h0,cond_true];rw [qu3 _ (by omega)];simp only [qa];have hsl:=qmS (qfN (qaA m λ_=>false) n) i;have hnx:=qrq (qfN (qaA m λ_=>false) n) i;by_cases c:i ∈ (qfN (qaA m λ_=>false) n).map (·.1)
  ·rw [if_pos c] at hnx;rw [decide_eq_true ((qk2 _ _).2 c)];simp only [cond_true];rw [qda (by rw [e2]; omega)];simp only [qa];rw [wq (by omega) (by omega),qV];exact ⟨hlt,by simp,by rw [hnx,e2]⟩
  ·rw [if_neg c,List.append_nil] at hnx;rw [decide_eq_false (λh=>c ((qk2 _ _).1 h))];simp only [cond_false,qa];rw [wq (by omega) (by omega),qV];exact ⟨hlt,by simp,by rw [hnx,e2]⟩
 ·have:i = 2 ^ m.1.length:=by omega
  subst this;have h0:decide (((2 ^ m.1.length:Nat):Int) < ((2 ^ m.1.length:Nat):Int)) = false:=by simp
  simp only [h0,cond_false];rw [qaD];exact e2
end Go.Proofs.YtkcaaaiihhhnmaaGreatDoor
end
section
namespace Go.Proofs.YtkcaaaiihhhnmaaGreatDoor
open Go Go.Ab Go.Tx
def qi0 (k b:Nat):List Int:=List.map (λi:Nat=>(i:Int)) ((List.range k).filter λi=>b.testBit i)
theorem qBh:∀ s:Fin 64,s.val ≠ 0->qi0 6 s.val = ((Lib.ctz 64 s.val:Nat):Int) :: qi0 6 (s.val &&& (s.val - 1))/\s.val &&& (s.val - 1) < s.val:=by decide +kernel
theorem qAW:∀ (k:Fin 7) (b:Fin 64),b.val < 2 ^ k.val->qi0 k.val b.val = qi0 6 b.val:=by decide +kernel
theorem qhm (k b:Nat):(qi0 k b).length<=k:=by
 unfold qi0;rw [List.length_map];exact Nat.le_trans (List.length_filter_le ..) (by simp)
theorem qxW (k b:Nat):qi0 (k + 1) b = qi0 k b ++ if b.testBit k = true then [(k:Int)] else []:=by
 unfold qi0;rw [List.range_succ,List.filter_append,List.map_append];congr 1
 by_cases h:b.testBit k = true <;> simp [h]
theorem qz5 {b:Nat} (hb:b < 64) (a:Nat):b.testBit a = decide ((a:Int) ∈ qi0 6 b):=by
 rw [Bool.eq_iff_iff,decide_eq_true_iff];unfold qi0;simp only [List.mem_map,List.mem_filter,List.mem_range];constructor
 ·intro h;refine ⟨a,⟨?_,h⟩,rfl⟩;rcases Nat.lt_or_ge a 6 with h6 | h6
  ·exact h6
  ·have:=Nat.testBit_lt_two_pow (x:=b) (i:=a) (Nat.lt_of_lt_of_le hb (Nat.pow_le_pow_right (n:=2) (by omega) h6));rw [this] at h; cases h
 ·rintro ⟨i,⟨_,h⟩,e⟩;have:i = a:=by omega
  rw [<- this]; exact h
theorem qzm {n:Nat} (h:n < 64):qR (n:Int) = some ((Lib.ctz 64 n:Nat):Int):=by
 unfold qR;rw [if_pos ⟨Int.natCast_nonneg _,Int.lt_trans (show (n:Int) < 64 by omega) (by decide)⟩,Int.toNat_natCast]
theorem qwV {a b:Nat} (ha:a < 64) (hb:b < 64):qoT .i64 (a:Int) (b:Int) = ((a &&& b:Nat):Int):=ql4 (Nat.lt_trans ha (by decide)) (Nat.lt_trans hb (by decide))
theorem qx6 {b:Nat} (hb:b < 64) (T:Int->Option Int) (hT:∀ n:Nat,n < 64->T (n:Int) = some ((Lib.ctz 64 n:Nat):Int)) :
  Ok (qz (λ(s3:(Int × (List Int))) =>
   bif !(decide (s3.1 = 0)) then
    (T (IntKind.wrap .u64 (s3.1))).bind λx4 =>
    (app s3.2 ([x4])).bind λx5 =>
    some (.inl (qoT .i64 s3.1 (w64 (s3.1 - 1)),x5))
   else
    some (.inr s3.2)) ((b:Int),[])) (λr=>r = qi0 6 b):=by
 refine qpV (λst=>st.1.toNat) (λ(st:Int × List Int)=>∃ s:Nat,s < 64/\st.1 = (s:Int)/\st.2 ++ qi0 6 s = qi0 6 b) _ ⟨b,hb,rfl,rfl⟩ ?_;rintro ⟨s0,acc⟩ ⟨s,hs,e1,e2⟩;simp only at e1 e2;subst e1;by_cases h:s = 0
 ·subst h;have h0:(!(decide (((0:Nat):Int) = 0))) = false:=rfl;simp only [h0,cond_false];rw [qaD];have:qi0 6 0 = []:=by decide
  rw [this,List.append_nil] at e2;exact e2
 ·have h0:(!(decide ((s:Int) = 0))) = true:=by simp <;> omega
  obtain ⟨b1,b2⟩:=qBh ⟨s,hs⟩ h;simp only at b1 b2;have hl:acc.length<=6:=by
   have h1:=qhm 6 b;rw [<- e2,List.length_append] at h1; omega
  simp only [h0,cond_true];rw [wrap_u64 (by omega) (by omega)];rw [hT s hs];simp only [qa];rw [qda (by omega)];simp only [qa];rw [wq (by omega) (by omega),show (s:Int) - 1 = ((s - 1:Nat):Int) by omega,qwV (by omega) (by omega),qV];refine ⟨⟨s &&& (s - 1),by omega,rfl,?_⟩,?_⟩
  ·simp only
   rw [<- e2,b1]; simp
  ·simp only [Int.toNat_natCast]; exact b2
theorem qAD {b:Nat} (hb:b < 64):qbR (b:Int) = some (qi0 6 b):=by
 unfold qbR;rw [(qx6 hb qR λn hn=>qzm hn).eq];rfl
def qx5 (l m:List Int):Bool:=match qaL (λi (x:Int)=>if x = m.getD i 0 then none else some (decide (x < m.getD i 0))) 0 l with
 | some b=>b
 | none=>false
theorem qw7 {l m:List Int} (h:l.length = m.length) (hl:l.length<=1000):qeK l m = some (qx5 l m):=by
 unfold qeK;have hf:=qaw l (λs2=>(idx l s2).bind λx4 =>
    (idx m s2).bind λx5 =>
    bif !(decide (x4 = x5)) then
     (idx l s2).bind λx6 =>
     (idx m s2).bind λx7 =>
     some (.inr (.inr (decide (x6 < x7))))
    else
     some (.inl (w64 (s2 + 1)))) (λi (x:Int)=>if x = m.getD i 0 then none else some (decide (x < m.getD i 0))) (λi a ha=>by
  have hlt:=(List.getElem?_eq_some_iff.1 ha).1;obtain ⟨b,hb⟩:∃ b,m[i]? = some b:=⟨_,List.getElem?_eq_getElem (by omega)⟩
  simp only [qU ha,qU hb,qa,qaU hb];by_cases c:a = b
  ·simp only [c,decide_true,Bool.not_true,cond_false,if_true,stp];rw [wq (by omega) (by omega)]
  ·simp only [c,decide_false,Bool.not_false,cond_true,if_false,stp])
 have e:∀ s2:Int,(bif decide (s2 < (l.length:Int)) then
     some (decide (s2 < (m.length:Int)))
    else
     some false) = some (decide (s2 < (l.length:Int))):=by
  intro s2;rw [h];by_cases c:s2 < (m.length:Int)
  ·simp [c]
  ·simp [c]
 simp only [e,qa];rw [hf,qQ,h];unfold qx5;simp only [Int.lt_irrefl,decide_false];cases qaL (λi (x:Int)=>if x = m.getD i 0 then none else some (decide (x < m.getD i 0))) 0 l <;> rfl
theorem qAA (a b:Int):qbH a b = some (if a < b then -1 else if a > b then 1 else 0):=by
 unfold qbH cmp_isNaN_int;by_cases h1:a < b
 ·simp [h1]
 ·by_cases h2:a > b
  ·have h2':b < a:=h2;simp [h1,h2']
  ·have h2':¬ b < a:=h2;simp [h1,h2']
theorem qvi {l m:List Int} (h:l.length = m.length) (hl:l.length<=1000):∃ c,qae l m = some c/\decide (c>=0) = !qx5 l m:=by
 unfold qae;have hf:=qaw l (λs2=>(idx l s2).bind λx3 =>
    bif decide (s2>=(m.length:Int)) then
     some (.inr (.inr 1))
    else
     (idx m s2).bind λx4 =>
     (qbH x3 x4).bind λx5 =>
     bif !(decide (x5 = 0)) then
      some (.inr (.inr x5))
     else
      some (.inl (w64 (s2 + 1)))) (λi (x:Int)=>(if x = m.getD i 0 then none else some (decide (x < m.getD i 0))).map λb=>if b = true then (-1:Int) else 1) (λi a ha=>by
  have hlt:=(List.getElem?_eq_some_iff.1 ha).1;obtain ⟨b,hb⟩:∃ b,m[i]? = some b:=⟨_,List.getElem?_eq_getElem (by omega)⟩
  have h0:decide ((i:Int)>=(m.length:Int)) = false:=by simp <;> omega
  simp only [qU ha,qU hb,qa,qaU hb,h0,cond_false,qAA];by_cases c:a = b
  ·subst c;simp only [Int.lt_irrefl,gt_iff_lt,if_false,decide_true,Bool.not_true,cond_false,if_true,Option.map_none,stp];rw [wq (by omega) (by omega)]
  ·by_cases d:a < b
   ·simp [c,d,stp]
   ·have d':a > b:=by omega
    have d2:b < a:=d';simp [c,d,d2,stp])
 rw [hf,qQ,qdG];unfold qx5;cases hx:qaL (λi (x:Int)=>if x = m.getD i 0 then none else some (decide (x < m.getD i 0))) 0 l with
 | none=>exact ⟨0,by simp [h],rfl⟩
 | some b=>cases b with
  | true=>exact ⟨-1,rfl,rfl⟩
  | false=>exact ⟨1,rfl,rfl⟩
def qB3 (m:Mc) (n:Nat) (st:List Int × Bool) (b:Nat):List Int × Bool :=
 if st.2 = true/\((qi0 6 b).length > st.1.length\/(qi0 6 b).length = st.1.length/\qx5 (qi0 6 b) st.1 = false) then st
 else if hIx m (qfN (qaA m b.testBit) n) = none then (qi0 6 b,true) else st
def qkC (m:Mc) (n:Nat) (N:Nat):List Int × Bool:=(List.range N).foldl (qB3 m n) ([],false)
theorem qnu (m:Mc) (n N:Nat):qkC m n (N + 1) = qB3 m n (qkC m n N) N:=by
 unfold qkC;rw [List.range_succ,List.foldl_append]; rfl
theorem qjR (m:Mc) (n:Nat):∀ N,(qkC m n N).1.length<=6
 | 0=>by simp [qkC]
 | N + 1=>by
  rw [qnu];unfold qB3;split
  ·exact qjR m n N
  ·split
   ·exact qhm 6 N
   ·exact qjR m n N
theorem qya {l best:List Int} {f:Bool} (h1:l.length<=6) (h2:best.length<=6) :
  (bif f then
        bif decide ((l.length:Int) > (best.length:Int)) then
         some true
        else
         bif decide ((l.length:Int) = (best.length:Int)) then
          (qae l best).bind λx9 =>
          some (decide (x9>=0))
         else
          some false
       else
        some false) = some (decide (f = true/\(l.length > best.length\/l.length = best.length/\qx5 l best = false))):=by
 cases f with
 | false=>simp
 | true =>
  simp only [cond_true];by_cases c:l.length > best.length
  ·have:decide ((l.length:Int) > (best.length:Int)) = true:=by simp <;> omega
   simp only [this,cond_true];simp [c]
  ·have:decide ((l.length:Int) > (best.length:Int)) = false:=by simp <;> omega
   simp only [this,cond_false];by_cases d:l.length = best.length
   ·have:decide ((l.length:Int) = (best.length:Int)) = true:=by simp <;> omega
    obtain ⟨q,hq,hq2⟩:=qvi d (by omega);simp only [this,cond_true,hq,qa,hq2];congr 1
    cases qx5 l best <;> simp [c,d]
   ·have:decide ((l.length:Int) = (best.length:Int)) = false:=by simp <;> omega
    simp only [this,cond_false];simp [c,d]
theorem qz3 {l best:List Int} {f:Bool} (h1:l.length<=6) (h2:best.length<=6) :
  (bif f then
       bif decide ((l.length:Int) > (best.length:Int)) then
        some true
       else
        bif decide ((l.length:Int) = (best.length:Int)) then
         (qeK l best).bind λx10 =>
         some (!x10)
        else
         some false
      else
       some false) = some (decide (f = true/\(l.length > best.length\/l.length = best.length/\qx5 l best = false))):=by
 cases f with
 | false=>simp
 | true =>
  simp only [cond_true];by_cases c:l.length > best.length
  ·have:decide ((l.length:Int) > (best.length:Int)) = true:=by simp <;> omega
   simp only [this,cond_true];simp [c]
  ·have:decide ((l.length:Int) > (best.length:Int)) = false:=by simp <;> omega
   simp only [this,cond_false];by_cases d:l.length = best.length
   ·have:decide ((l.length:Int) = (best.length:Int)) = true:=by simp <;> omega
    rw [qw7 d (by omega)];simp only [this,cond_true,qa];congr 1
    cases qx5 l best <;> simp [c,d]
   ·have:decide ((l.length:Int) = (best.length:Int)) = false:=by simp <;> omega
    simp only [this,cond_false];simp [c,d]
theorem qBv {m:Mc} (hv:VM m) {n:Nat} (hn:n < 256) {b:Nat} (hb:b < 64):qhA m (n:Int) (qi0 6 b) = some (decide (hIx m (qfN (qaA m b.testBit) n) = none)):=by
 unfold qhA;have hlb:=qhm 6 b;rw [qkU hv (bl:=qi0 6 b) (by omega) (bar:=b.testBit) (λa=>qz5 hb a) hn];simp only [qa];have hg:=qdC (qdP hv b.testBit) hn;have hl:=hg.len;have h:=qaw (qfN (qaA m b.testBit) n) (λs3=>(idx ((qfN (qaA m b.testBit) n).map rfe) s3).bind λx4 =>
    (qaG m x4.1).bind λx5 =>
    bif x5 then
     some (.inr (.inr false))
    else
     some (.inl (w64 (s3 + 1)))) (λi e=>(if qgE m e.1 = true then some (i,e) else none).map λ(p:Nat × Ent)=>false) (λi e he=>by
  have hi:((qfN (qaA m b.testBit) n).map rfe)[i]? = some (rfe e):=by rw [List.getElem?_map,he]; rfl
  have:=(List.getElem?_eq_some_iff.1 he).1;rw [qU hi];simp only [qa];rw [show (rfe e).1 = (e.1:Int) from rfl,qi3 hv (hg.lt e (List.mem_of_getElem? he))];simp only [qa];by_cases c:qgE m e.1 = true
  ·simp [c,stp]
  ·have c':qgE m e.1 = false:=by simpa using c
   simp only [c',cond_false];rw [wq (by omega) (by omega)];simp [stp])
 rw [List.length_map,h,qQ,qdG];unfold hIx;cases qaL (λi (e:Ent)=>if qgE m e.1 = true then some (i,e) else none) 0 (qfN (qaA m b.testBit) n) <;> simp
theorem qxO {m:Mc} (hv:VM m) (h6:m.2.1.length<=6) {n:Nat} (hn:n < 256):qdx m (n:Int) = some (qkC m n (2 ^ m.2.1.length)).1:=by
 unfold qdx;have hp:2 ^ m.2.1.length<=64:=Nat.pow_le_pow_right (n:=2) (by omega) h6;have key:∀ o:Option (List Int),Ok o (λr=>r = (qkC m n (2 ^ m.2.1.length)).1)->(o.bind λp=>some p) = some (qkC m n (2 ^ m.2.1.length)).1:=by
  intro o h; rw [h.eq]; rfl
 refine key _ (qbM (2 ^ m.2.1.length) (λi (st:List Int × Bool × Int)=>st = ((qkC m n i).1,(qkC m n i).2,(i:Int))) _ rfl ?_);rintro i st hi rfl;have hbl:=qjR m n i;simp only
 rw [qeX (by omega) (by omega)];simp only [qa,Int.toNat_natCast];by_cases hlt:i < 2 ^ m.2.1.length
 ·have h0:decide ((i:Int) < ((2 ^ m.2.1.length:Nat):Int)) = true:=by simp only [decide_eq_true_eq] <;> omega
  simp only [h0,cond_true];have hown:qz (λ(s5:((List Int) × Int)) =>
       bif decide (s5.2 < (m.2.1.length:Int)) then
        (qvp .i64 (i:Int) s5.2).bind λx6 =>
        (bif decide (qoT .i64 x6 (1:Int) = 1) then
          (app s5.1 ([s5.2])).bind λx7 =>
          some x7
         else
          some s5.1).bind λ(p8:(List Int)) =>
        some (.inl (p8,w64 (s5.2 + 1)))
       else
        some (.inr s5.1)) ([],0) = some (qi0 6 i):=by
   rw [<- qAW ⟨m.2.1.length,by omega⟩ ⟨i,by omega⟩ hlt];refine Ok.eq (qbM m.2.1.length (λj (st:List Int × Int)=>st = (qi0 j i,(j:Int))) _ rfl ?_);rintro j st hj rfl;have hjl:=qhm j i;by_cases hjt:j < m.2.1.length
   ·have h1:decide ((j:Int) < (m.2.1.length:Int)) = true:=by simp <;> omega
    simp only [h1,cond_true];have hsh:=qju (a:=i) (x:=(j:Int)) (by omega) (by omega);rw [Int.toNat_natCast] at hsh;rw [hsh];simp only [qa];rw [qna (Nat.lt_of_lt_of_le hlt (Nat.le_trans hp (by decide)))];have hnx:=qxW j i;by_cases c:i.testBit j = true
    ·rw [if_pos c] at hnx;simp only [c,if_true,decide_true,cond_true];rw [qda (by omega)];simp only [qa];rw [wq (by omega) (by omega),qV,hnx];exact ⟨hjt,rfl⟩
    ·rw [if_neg c,List.append_nil] at hnx;have c':i.testBit j = false:=by simpa using c
     simp only [c',qf,if_false,show decide ((0:Int) = 1) = false from rfl,cond_false,qa];rw [wq (by omega) (by omega),qV,hnx];exact ⟨hjt,rfl⟩
   ·have:j = m.2.1.length:=by omega
    subst this;have h1:decide ((m.2.1.length:Int) < (m.2.1.length:Int)) = false:=by simp
    simp only [h1,cond_false];rw [qaD]
  rw [hown];simp only [qa];rw [qz3 (qhm 6 i) hbl];have hnx:=qnu m n i;unfold qB3 at hnx;simp only [qa];by_cases c:(qkC m n i).2 = true/\((qi0 6 i).length > (qkC m n i).1.length\/(qi0 6 i).length = (qkC m n i).1.length/\qx5 (qi0 6 i) (qkC m n i).1 = false)
  ·rw [if_pos c] at hnx;rw [decide_eq_true c];simp only [cond_true,qa];rw [wq (by omega) (by omega),qV,hnx];exact ⟨hlt,rfl⟩
  ·rw [if_neg c] at hnx;rw [decide_eq_false c];simp only [cond_false];rw [qBv hv hn (by omega)];simp only [qa];by_cases d:hIx m (qfN (qaA m i.testBit) n) = none
   ·rw [if_pos d] at hnx;rw [decide_eq_true d];simp only [cond_true,qa];rw [wq (by omega) (by omega),qV,hnx];exact ⟨hlt,rfl⟩
   ·rw [if_neg d] at hnx;rw [decide_eq_false d];simp only [cond_false,qa];rw [wq (by omega) (by omega),qV,hnx];exact ⟨hlt,rfl⟩
 ·have:i = 2 ^ m.2.1.length:=by omega
  subst this;have h0:decide (((2 ^ m.2.1.length:Nat):Int) < ((2 ^ m.2.1.length:Nat):Int)) = false:=by simp
  simp only [h0,cond_false];rw [qaD]
end Go.Proofs.YtkcaaaiihhhnmaaGreatDoor
end
section
namespace Go.Proofs.YtkcaaaiihhhnmaaGreatDoor
open Go Go.Ab Go.Tx
theorem qrZ {m:Mc} (hb:MB m) (s:Int) (h6:stE m s = 0->m.2.1.length<=6):qco m s = some (if stE m s = 0 then (if qgE m s.toNat = true then ([],20) else ((qkC m s.toNat (2 ^ m.2.1.length)).1,0)) else ([],stE m s)):=by
 unfold qco;rw [qha hb];simp only [qa];by_cases h:stE m s = 0
 ·have h7:=h6 h;clear h6;obtain ⟨hv,_,ho,n,rfl,hn,hn2⟩:=qq7 hb h;simp only [h,decide_true,cond_true,ho,Int.toNat_natCast];rw [qn5 hv hn2];simp only [qa];by_cases hh:qgE m n = true
  ·simp only [hh,cond_true,qa,if_true];rfl
  ·have hh':qgE m n = false:=by simpa using hh
   simp only [hh',cond_false,qa,if_true,qf,if_false,decide_true,Bool.not_true];have hp:2 ^ m.2.1.length<=64:=Nat.pow_le_pow_right (n:=2) (by omega) h7;rw [qeX (by omega) (by omega)];simp only [qa,Int.toNat_natCast];have key:∀ o:Option (List Int),Ok o (λr=>r = (qkC m n (2 ^ m.2.1.length)).1)->(o.bind λp=>some (p,(0:Int))) = some ((qkC m n (2 ^ m.2.1.length)).1,0):=by
    intro o h; rw [h.eq]; rfl
   refine key _ (qbM (2 ^ m.2.1.length) (λi (st:List Int × Bool × Int)=>st = ((qkC m n i).1,(qkC m n i).2,(i:Int))) _ rfl ?_);rintro i st hi rfl;have hbl:=qjR m n i;by_cases hlt:i < 2 ^ m.2.1.length
   ·have h0:decide ((i:Int) < ((2 ^ m.2.1.length:Nat):Int)) = true:=by simp only [decide_eq_true_eq] <;> omega
    simp only [h0,cond_true];rw [qAD (by omega)];simp only [qa];rw [qya (qhm 6 i) hbl];have hnx:=qnu m n i;unfold qB3 at hnx;simp only [qa];by_cases c:(qkC m n i).2 = true/\((qi0 6 i).length > (qkC m n i).1.length\/(qi0 6 i).length = (qkC m n i).1.length/\qx5 (qi0 6 i) (qkC m n i).1 = false)
    ·rw [if_pos c] at hnx;rw [decide_eq_true c];simp only [cond_true,qa];rw [wq (by omega) (by omega),qV,hnx];exact ⟨hlt,rfl⟩
    ·rw [if_neg c] at hnx;rw [decide_eq_false c];simp only [cond_false];rw [qiU hv hn2 (Nat.lt_of_lt_of_le hlt (Nat.le_trans hp (by decide)))];simp only [qa];have hg:=qdC (qdP hv i.testBit) hn2;rw [qrk hv hg.len hg.lt,qQ];cases hx:hIx m (qfN (qaA m i.testBit) n) with
     | none =>
      rw [if_pos hx] at hnx;simp only [Option.map_none,qa];simp only [show (!decide ((-1:Int)>=0)) = true from rfl,cond_true,qa];rw [wq (by omega) (by omega),qV,hnx];exact ⟨hlt,rfl⟩
     | some p =>
      rw [if_neg (by rw [hx]; simp)] at hnx;have h1:(!decide ((p.1:Int)>=0)) = false:=by simp
      simp only [Option.map_some,qa];simp only [h1,cond_false,qa];rw [wq (by omega) (by omega),qV,hnx];exact ⟨hlt,rfl⟩
   ·have:i = 2 ^ m.2.1.length:=by omega
    subst this;have h0:decide (((2 ^ m.2.1.length:Nat):Int) < ((2 ^ m.2.1.length:Nat):Int)) = false:=by simp
    simp only [h0,cond_false];rw [qaD]
 ·have h':decide (stE m s = 0) = false:=by simp [h]
  rw [if_neg h];simp only [h',cond_false,qa,Bool.not_false,cond_true]
theorem qA5 {l m:List Int} (hl:l.length<=1000000000):qcZ l m = some (decide (l = m)):=by
 unfold qcZ;by_cases h:l.length = m.length
 ·have e:decide ((l.length:Int) = (m.length:Int)) = true:=by simp [h]
  simp only [e,Bool.not_true,cond_false];refine qxh 0 h hl (λa b=>decide (a = b)) (by simp) λi hi=>?_;rw [qxi (by omega) (by omega),qxi (by omega) (by omega)];simp only [qa,Int.toNat_natCast];by_cases c:l.getD i 0 = m.getD i 0
  ·simp only [c,decide_true,Bool.not_true,cond_false,if_true]; rw [wq (by omega) (by omega)]
  ·simp only [c,decide_false,Bool.not_false,cond_true,qf,if_false]
 ·have e:decide ((l.length:Int) = (m.length:Int)) = false:=by simp <;> omega
  have:l ≠ m:=λe=>h (by rw [e]);simp [e,this]
theorem qnr {l:List Int} (hl:l.length<=1000000000):qcZ l l = some true:=by
 rw [qA5 hl]; simp
theorem qnM (m:Mc) (s:Int):qc6 m s = some true:=by
 unfold qc6 qiT;simp only [qa,Bool.not_true,cond_false];obtain ⟨b,e,hb⟩:=qBV m;rw [e];cases b with
 | false=>simp
 | true =>
  have hb:=hb rfl;simp only [qa,Bool.not_true,cond_false];unfold qcr;by_cases c:(7:Int)<=(m.2.1.length:Int)/\(m.2.1.length:Int)<=10
  ·simp [c.1,c.2]
  ·have h0:((bif decide ((7:Int)<=(m.2.1.length:Int)) then some (decide ((m.2.1.length:Int)<=10)) else some false).bind λp1=>some p1) = some false:=by
    by_cases c1:(7:Int)<=(m.2.1.length:Int)
    ·have c2:¬ (m.2.1.length:Int)<=10:=λh=>c ⟨c1,h⟩;simp [c1,c2]
    ·simp [c1]
   rw [h0];simp only [qa,cond_false,qAL hb];have h6:stE m s = 0->m.2.1.length<=6:=λh=>by
    obtain ⟨hv,_⟩:=qq7 hb h;have:=hv.a10; omega
   rw [qou hb,qs5 hb,qrZ hb s h6,qs1 hb];simp only [qa];by_cases h:stE m s = 0
   ·obtain ⟨hv,_,ho,n,rfl,hn,hn2⟩:=qq7 hb h;have h7:=h6 h;have hr:=qmS (qfN (qaA m λ_=>false) n) (2 ^ m.1.length);have hp:=qkf hv;simp only [h,if_true,decide_true,Bool.not_true,cond_false,Int.toNat_natCast];rw [qvN hv hn2];simp only [qa];rw [qnr (by unfold qo8; omega)];simp only [qa,Bool.not_true,cond_false];rw [qAV hv hn2];have hg:=qdC (qdP hv λ_=>false) hn2;have hl:=hg.len;have hbl:=qjR m n (2 ^ m.2.1.length);have fin:((qaG m (n:Int)).bind λx20 =>
      bif x20 then
       (bif decide ((if qgE m n = true then (([]:List Int),(20:Int)) else ((qkC m n (2 ^ m.2.1.length)).1,0)).2 = 20) then
         some (decide (((if qgE m n = true then (([]:List Int),(20:Int)) else ((qkC m n (2 ^ m.2.1.length)).1,0)).1.length:Int) = 0))
        else
         some false).bind λ(p21:Bool) =>
       some p21
      else
       (bif decide ((if qgE m n = true then (([]:List Int),(20:Int)) else ((qkC m n (2 ^ m.2.1.length)).1,0)).2 = 0) then
         (qdx m (n:Int)).bind λx22 =>
         (qcZ (if qgE m n = true then (([]:List Int),(20:Int)) else ((qkC m n (2 ^ m.2.1.length)).1,0)).1 x22).bind λx23 =>
         some x23
        else
         some false).bind λ(p24:Bool) =>
       some p24) = some true:=by
     rw [qi3 hv hn2];by_cases hh:qgE m n = true
     ·simp [hh]
     ·have hh':qgE m n = false:=by simpa using hh
      simp only [hh',qa,cond_false,qf,if_false,decide_true,cond_true];rw [qxO hv h7 hn2];simp only [qa];rw [qnr (by omega)];rfl
    unfold qBu;cases hx:hIx m (qfN (qaA m λ_=>false) n) with
    | none =>
     simp only [qa,Bool.not_false,cond_true,decide_true,Bool.not_true,cond_false,List.length_nil];exact fin
    | some p =>
     obtain ⟨i,e⟩:=p;obtain ⟨h1,_⟩:=quy hx;have hp2:=hg.path (i + 1) i e (by omega) h1;have:=(List.getElem?_eq_some_iff.1 h1).1;simp only [qa,Bool.not_true,cond_false,cond_true,decide_true];rw [qnr (by omega)];simp only [qa,Bool.not_true,cond_false];exact fin
   ·have h':decide (stE m s = 0) = false:=decide_eq_false h;simp only [if_neg h,h',Bool.not_false,cond_true,decide_true,List.length_nil];rfl
end Go.Proofs.YtkcaaaiihhhnmaaGreatDoor
end
section
namespace Go.Proofs.YtkcaaaiihhhnmaaGreatDoor.safetyHarms
open Go Go.Ab Go.Tx Go.ChangeShapes Go.WideShapes Go.ChangeAt Go.RowKit
theorem hlib:∀ g h args r,Lb g = some h->h args = some r->qa8 Tryz.prog g args [] r []:=λg h args r hg hr=>by
 unfold Lb at hg;split at hg
 ·rename_i e;subst e;cases hg;cases args with
  | nil=>cases hr; exact qyY
  | cons a l=>cases hr
 ·split at hg
  ·rename_i e;subst e;cases hg;simp only at hr;split at hr
   ·rename_i n;unfold qR at hr;split at hr
    ·rename_i hn;obtain ⟨k,rfl⟩:=Int.eq_ofNat_of_zero_le hn.1;cases hr;exact qCx k (Int.ofNat_lt.1 hn.2)
    ·cases hr
   ·cases hr
  ·cases hg
theorem true_ (x:denP ([(.pair (.sl .str) (.pair (.sl (.pair .str (.pair (.sl I) (.pair (.sl I) (.pair (.sl I) (.pair (.sl I) .unit)))))) (.pair (.sl (.pair (.sl I) (.pair (.sl I) .unit))) .unit))),I].map Pm.ty)) (hx:qB4 maxLen [(.pair (.sl .str) (.pair (.sl (.pair .str (.pair (.sl I) (.pair (.sl I) (.pair (.sl I) (.pair (.sl I) .unit)))))) (.pair (.sl (.pair (.sl I) (.pair (.sl I) .unit))) .unit))),I] x):qbk.F x = some true:=qnM x.1 x.2
set_option maxRecDepth 100000 in
theorem contract (H:Type) (enc:TypeId × Value->H) (W:World) (base:Nat) (args:Array Value) (ds gs:List (DataW H)) (before:List MemPlace)
  (hval:∀ (j:Nat) t v,Tryz.f3.params[j]? = some t->args[j]? = some v->Value.okWide Tryz.prog W .any base t v)
  (hW:DataW.Whole enc Tryz.prog Tryz.f3.params.toList Rows.safetyHarmsSpec.vars false W args.toList ds gs before) (hgl:qlQ W (cx0 W)) :
  Calls Tryz.prog 3 args W λe W'=>∃ v,e = .returned v/\Rows.safetyHarmsSpec.post enc Tryz.prog Tryz.f3 false true false false W args v W' :=
 qsr (τs:=[(.pair (.sl .str) (.pair (.sl (.pair .str (.pair (.sl I) (.pair (.sl I) (.pair (.sl I) (.pair (.sl I) .unit)))))) (.pair (.sl (.pair (.sl I) (.pair (.sl I) .unit))) .unit))),I]) (ts:=[26,3]) (tb:=4) (F:=qbk.F) follows qcg hlib qzd Tryz.func3 (by kernel_rfl) (by kernel_rfl) (by kernel_rfl) (by kernel_rfl) (by kernel_rfl) (by kernel_rfl) Tryz.underlying4 qiN true_ rfl
  (λH ds h=>by
   match ds,h with
   | [d1,d2],_=>rfl) H enc W base args ds gs before hval hW hgl
set_option maxRecDepth 100000 in
theorem lifted (os:Os) (started:os.Started) (H:Type) (enc:TypeId × Value->H) :
  ReturnsInHanded {} Tryz.checked os 3 .any (λw args=>(Rows.safetyHarmsSpec.pre enc Tryz.prog Tryz.f3 Rows.safetyHarmsRow.domain false w args/\laidMetH Tryz.prog qvA w)/\sizedMet enc Tryz.prog Tryz.f3 (OpenSpec.ofChange Rows.safetyHarmsSpec) false w args)
   (Rows.safetyHarmsSpec.post enc Tryz.prog Tryz.f3 false true false false):=by
 refine returnsInHanded_of_change_and (C:=Tryz.checked) (X:=λw _=>laidMetH Tryz.prog qvA w) (λ_ _ _ hh h=>h.of_heap hh) own started (by kernel_rfl) Tryz.func3
  (ChangeSpec.witness_shaped (enc:=enc) (C:=Tryz.checked) (os:=os) (X:=λw _=>laidMetH Tryz.prog qvA w) false (World.laidAll Tryz.prog os qvA) #[.agg #[.slice none 0 0,.slice none 0 0,.slice none 0 0],.int .i64 0] 8 (World.laidAll_os _ _ _)
   (World.shaped_of_ZipB (by kernel_rfl) (by kernel_rfl)) (by kernel_rfl) (by kernel_rfl) (by kernel_rfl)
   (by rw [MakeChecks.laidMetH_plain _ _ _ (by kernel_rfl)]; exact laidMet_laidAll _ (by kernel_rfl) (by kernel_rfl))) ?_
 intro W base args ds gs before hval hW _ _ hL _;exact contract H enc W base args ds gs before hval hW (qAB hL)
theorem said:Rows.SafetyHarmsSaid :=
 OpenClaim.holds_of_wide 3 Tryz.f3 rfl rfl rfl rfl rfl rfl rfl ⟨rfl,rfl,rfl,rfl,rfl⟩ rfl rfl rfl rfl rfl (by kernel_rfl) Tryz.func3 (by kernel_rfl)
  (of_decide_eq_true (by kernel_rfl)) (by unfold Func.isWrapper; first | (rw [if_pos (by decide +kernel)]; kernel_rfl) | (rw [if_neg (by decide +kernel)]; exact ⟨rfl,rfl⟩))
  (λos started H enc _=>lifted os started H enc)
theorem proved:Rows.SafetyHarmsCardSaid :=
 Claim7.holds_tied_plain_at .later [] [.data, .data] true (true, "e1fab70e5dba04e5b9d943c364cb30e45070e78fb89e0c99eb25930192b6c822") true
  said (λ_ h=>by cases h) (by kernel_rfl) (λ_ h=>by cases h) safetyHarms_row_tie rfl ⟨rfl,rfl⟩ (by kernel_rfl) rfl
  (λf fn hf hfn=>by
   obtain rfl : f = 3 := Option.some.inj ((show Tryz.prog.funcNamed "ductility/ductilitylaw09.SafetyHarms" = some 3 by kernel_rfl).symm.trans hf) |>.symm
   obtain rfl:fn = Tryz.f3:=(Option.some.inj (Tryz.func3.symm.trans hfn)).symm;exact ⟨by kernel_rfl,λj t ht=>by
    have hp:Tryz.f3.params = #[26,3]:=by kernel_rfl
    rw [hp] at ht;rcases j with _ | _ | j
    ·simp at ht; subst ht; exact (show Tryz.prog.wantsStandIn 26 = false by kernel_rfl)
    ·simp at ht; subst ht; exact (show Tryz.prog.wantsStandIn 3 = false by kernel_rfl)
    ·simp at ht⟩)
  (by kernel_rfl)
end Go.Proofs.YtkcaaaiihhhnmaaGreatDoor.safetyHarms
end
