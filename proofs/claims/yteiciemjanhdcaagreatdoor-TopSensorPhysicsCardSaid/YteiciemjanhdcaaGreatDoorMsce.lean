/-
  ONE LAW OF A CHAPTER: its program side is run by an interpreter that is proved sound; what it computes is shown to be what the law says. No conditions. Part 5 of 8.
-/
import Derived.Test.YteiciemjanhdcaaGreatDoorMscd
import Derived.Deep.Slices
import Derived.Carry
import Derived.ChangeBears2
import Derived.ChangeSame
import Derived.JoinedCond
import Derived.OpenShut
import Derived.ProofKit
set_option linter.unusedSimpArgs false
set_option linter.unusedVariables false
set_option linter.unnecessarySimpa false
section
namespace Go.Tx
open Go Go.Ab
variable {P:Program} {H:Hints} {f:FuncId}
theorem keyS_of {t:TypeId} {τ:Ty} (h:scalT P t τ = true):keyS τ = true:=by
 unfold scalT at h;split at h <;> first | rfl | cases h
theorem keyR_of:∀ (fs:List Field) (i:Nat) (τ:Ty),fitsF P fs i τ = true->keyR τ = true
 | [],i,.unit,_=>rfl
 | fd :: fs,i,.pair a b,h=>by
  simp only [fitsF,Bool.and_eq_true] at h;simp only [keyR,Bool.and_eq_true];exact ⟨keyS_of h.1.2,keyR_of fs (i + 1) b h.2⟩
 | [],i,.int _,h | [],i,.bool,h | [],i,.str,h | [],i,.flt,h | [],i,.cx,h | [],i,.err,h | [],i,.mset _,h | [],i,.sl _,h | [],i,.pair _ _,h=>by simp [fitsF] at h
 | _ :: _,i,.int _,h | _ :: _,i,.bool,h | _ :: _,i,.str,h | _ :: _,i,.flt,h | _ :: _,i,.cx,h | _ :: _,i,.err,h | _ :: _,i,.mset _,h | _ :: _,i,.sl _,h | _ :: _,i,.unit,h=>by simp [fitsF] at h
theorem keyTy_scal {τ:Ty} (h:keyS τ = true):keyTy τ = true:=by cases τ <;> first | rfl | (simp [keyS] at h)
theorem keyVal_scal {τ:Ty} (h:keyS τ = true) (x:τ.den):keyVal τ x = valS τ x:=by cases τ <;> first | rfl | (simp [keyS] at h)
theorem eqK_scal {τ:Ty} (h:keyS τ = true) (x y:τ.den):eqK τ x y = eqS τ x y:=by cases τ <;> first | rfl | (simp [keyS] at h)
theorem rty_valS {τ:Ty} (h:keyS τ = true) {o:Nat} {x:τ.den} {v:V} (hr:RTy τ o x v):v = .val (valS τ x):=by
 cases τ <;> first | (simp only [RTy] at hr; exact hr) | (simp [keyS] at h)
theorem rty_valR:∀ {τ:Ty} (h:keyR τ = true) {o:Nat} {x:τ.den} {l:List V},RTy τ o x (.agg l)->l = (valR τ x).map .val
 | .unit,h,o,x,l,hr=>by simp only [RTy,V.agg.injEq] at hr; subst hr; rfl
 | .pair a b,h,o,x,l,hr=>by
  simp only [keyR,Bool.and_eq_true] at h;simp only [RTy] at hr;obtain ⟨v1,l',e,h1,h2⟩:=hr;cases e;rw [rty_valS h.1 h1,rty_valR h.2 h2]; rfl
 | .int _,h,_,_,_,_ | .bool,h,_,_,_,_ | .str,h,_,_,_,_ | .flt,h,_,_,_,_ | .cx,h,_,_,_,_ | .err,h,_,_,_,_ | .mset _,h,_,_,_,_ | .sl _,h,_,_,_,_=>by simp [keyR] at h
theorem rty_key {τ:Ty} (h:keyTy τ = true) {o:Nat} {x:τ.den} {v:V} (hr:RTy τ o x v):v.toVal = some (keyVal τ x):=by
 by_cases hs:keyS τ = true
 ·rw [rty_valS hs hr,keyVal_scal hs]; rfl
 ·cases τ with
  | pair a b =>
   simp only [keyTy,Bool.and_eq_true] at h;simp only [RTy] at hr;obtain ⟨v1,l',rfl,h1,h2⟩:=hr;rw [rty_valS h.1 h1,rty_valR h.2 h2];simp only [V.toVal,toValL,toValL_vals,Option.map_some,keyVal]
  | _=>simp [keyTy,keyS] at h hs
theorem eqS_eq {τ:Ty} {x y:τ.den} (h:eqS τ x y = true):x = y:=by
 cases τ <;> simp only [eqS] at h <;> first | exact of_decide_eq_true h | exact eq_of_beq h | cases h
theorem eqR_eq:∀ {τ:Ty} {x y:τ.den},keyR τ = true->eqR τ x y = true->x = y
 | .unit,_,_,_,_=>rfl
 | .pair a b,x,y,hk,h=>by
  simp only [keyR,Bool.and_eq_true] at hk;simp only [eqR] at h;cases h1:eqS a x.1 y.1 with
  | false=>rw [h1] at h; cases h
  | true=>rw [h1] at h; exact Prod.ext (eqS_eq h1) (eqR_eq hk.2 h)
 | .int _,_,_,h,_ | .bool,_,_,h,_ | .str,_,_,h,_ | .flt,_,_,h,_ | .cx,_,_,h,_ | .err,_,_,h,_ | .mset _,_,_,h,_ | .sl _,_,_,h,_=>by simp [keyR] at h
theorem eqK_eq {τ:Ty} (hk:keyTy τ = true) {x y:τ.den} (h:eqK τ x y = true):x = y:=by
 by_cases hs:keyS τ = true
 ·rw [eqK_scal hs] at h; exact eqS_eq h
 ·cases τ with
  | pair a b =>
   simp only [keyTy,Bool.and_eq_true] at hk;exact eqR_eq (τ:=.pair a b) (by simp [keyR,hk.1,hk.2]) h
  | _=>simp [keyTy,keyS] at hk hs
def tvR:(τ:Ty)->τ.den->List TV
 | .pair a b,x=>.t a 0 x.1 :: tvR b x.2
 | _,_=>[]
theorem scal_t {a:Ty} (h:keyS a = true) (x:a.den):scal (.t a 0 x) = true/\RV (.t a 0 x) (.val (valS a x)):=by
 cases a <;> first | exact ⟨rfl,by simp [RV,RTy,valS]⟩ | (simp [keyS] at h)
theorem tvR_ok:∀ {τ:Ty} (h:keyR τ = true) (x:τ.den),(tvR τ x).all scal = true/\RVL (tvR τ x) ((valR τ x).map .val)
 | .unit,_,_=>⟨rfl,rvl_nil⟩
 | .pair a b,h,x=>by
  simp only [keyR,Bool.and_eq_true] at h;obtain ⟨h1,h2⟩:=scal_t h.1 x.1;obtain ⟨h3,h4⟩:=tvR_ok h.2 x.2;exact ⟨by simp [tvR,h1,h3],rvl_cons.2 ⟨h2,h4⟩⟩
 | .int _,h,_ | .bool,h,_ | .str,h,_ | .flt,h,_ | .cx,h,_ | .err,h,_ | .mset _,h,_ | .sl _,h,_=>by simp [keyR] at h
theorem scalT_und {t:TypeId} {τ:Ty} (h:scalT P t τ = true):∃ d,P.underlying t = some d/\isAggT P t = false:=by
 unfold scalT at h;unfold isAggT;split at h
 ·rename_i h1; rw [h1]; exact ⟨_,rfl,rfl⟩
 ·rename_i h1; rw [h1]; exact ⟨_,rfl,rfl⟩
 ·rename_i h1; rw [h1]; exact ⟨_,rfl,rfl⟩
 ·cases h
theorem teq_scal {t:TypeId} {τ:Ty} (h:scalT P t τ = true) (d:Nat) (x y:τ.den):teq P (d + 1) t (.t τ 0 x) (.t τ 0 y) = some (eqS τ x y):=by
 unfold scalT at h;split at h
 ·rename_i k k' h1;simp only [decide_eq_true_eq] at h;subst h;simp [teq,h1,eqS]
 ·rename_i h1; simp [teq,h1,eqS]
 ·rename_i h1; simp [teq,h1,eqS]
 ·cases h
theorem cell_scal {t:TypeId} {τ:Ty} (h:scalT P t τ = true) (v:TV) (l:List TV):ofCellsT P t (v :: l) = some v:=by
 obtain ⟨d,h1,h2⟩:=scalT_und h;unfold ofCellsT;rw [h1,h2]; rfl
theorem fold_ok:∀ (fs:List Field) (i:Nat) (τ:Ty) (x y:τ.den) (px py:List TV),fitsF P fs i τ = true->px.length = i->py.length = i ->
  fs.foldr (fun fd acc => if fd.name = "_" then none else
    match ofCellsT P fd.type ((px ++ tvR τ x).drop fd.offset),ofCellsT P fd.type ((py ++ tvR τ y).drop fd.offset),acc with
    | some u,some v,some b=>(teq P 8 fd.type u v).map λa=>bif a then b else false
    | _,_,_=>none) (some true) = some (eqR τ x y)
 | [],i,.unit,_,_,_,_,_,_,_=>rfl
 | fd :: fs,i,.pair a b,x,y,px,py,h,hx,hy=>by
  simp only [fitsF,Bool.and_eq_true,decide_eq_true_eq] at h;obtain ⟨⟨⟨hn,ho⟩,hs⟩,hf⟩:=h;have ih:=fold_ok fs (i + 1) b x.2 y.2 (px ++ [.t a 0 x.1]) (py ++ [.t a 0 y.1]) hf (by simp [hx]) (by simp [hy]);simp only [List.append_assoc,List.singleton_append] at ih;simp only [List.foldr_cons,tvR];rw [ih,if_neg hn,ho];rw [List.drop_left' hx,List.drop_left' hy,cell_scal hs,cell_scal hs];simp only [teq_scal hs,Option.map_some,eqR]
 | [],i,.int _,_,_,_,_,h,_,_ | [],i,.bool,_,_,_,_,h,_,_ | [],i,.str,_,_,_,_,h,_,_ | [],i,.flt,_,_,_,_,h,_,_ | [],i,.cx,_,_,_,_,h,_,_ | [],i,.err,_,_,_,_,h,_,_ | [],i,.mset _,_,_,_,_,h,_,_ | [],i,.sl _,_,_,_,_,h,_,_ | [],i,.pair _ _,_,_,_,_,h,_,_=>by simp [fitsF] at h
 | _ :: _,i,.int _,_,_,_,_,h,_,_ | _ :: _,i,.bool,_,_,_,_,h,_,_ | _ :: _,i,.str,_,_,_,_,h,_,_ | _ :: _,i,.flt,_,_,_,_,h,_,_ | _ :: _,i,.cx,_,_,_,_,h,_,_ | _ :: _,i,.err,_,_,_,_,h,_,_ | _ :: _,i,.mset _,_,_,_,_,h,_,_ | _ :: _,i,.sl _,_,_,_,_,h,_,_ | _ :: _,i,.unit,_,_,_,_,h,_,_=>by simp [fitsF] at h
theorem keyFits_cases {t:TypeId} {τ:Ty} (h:keyFits P t τ = true):(keyS τ = true/\scalT P t τ = true)\/(∃ fields a b,P.underlying t = some (.struct fields)/\τ = .pair a b/\P.stoodInHeld t = false/\fitsF P fields.toList 0 (.pair a b) = true):=by
 unfold keyFits at h;simp only [Bool.or_eq_true] at h;rcases h with h | h
 ·exact .inl ⟨keyS_of h,h⟩
 ·split at h
  ·rename_i fields a b hu;simp only [Bool.and_eq_true,Bool.not_eq_true'] at h;exact .inr ⟨fields,a,b,hu,rfl,h.1,h.2⟩
  ·cases h
theorem keyFits_ty {t:TypeId} {τ:Ty} (h:keyFits P t τ = true):keyTy τ = true:=by
 rcases keyFits_cases h with ⟨h1,_⟩ | ⟨fields,a,b,_,rfl,_,h2⟩
 ·exact keyTy_scal h1
 ·have:=keyR_of _ _ _ h2;simpa [keyTy,keyR] using this
theorem equal_key {t:TypeId} {τ:Ty} (h:keyFits P t τ = true) (x y:τ.den):Ab.valOf P (Op.equal t (keyVal τ x) (keyVal τ y)) = some (eqK τ x y):=by
 unfold Op.equal;rcases keyFits_cases h with ⟨h1,h2⟩ | ⟨fields,a,b,hu,rfl,hst,hf⟩
 ·rw [keyVal_scal h1,keyVal_scal h1,eqK_scal h1];obtain ⟨s1,r1⟩:=scal_t h1 x;obtain ⟨s2,r2⟩:=scal_t h1 y;exact teq_ok 1 t _ _ _ (teq_scal h2 0 x y) Op.maxDepth (by have:=maxDepth_le; omega) _ _ (.inl ⟨s1,r1⟩) (.inl ⟨s2,r2⟩)
 ·have hk:=keyR_of _ _ _ hf;obtain ⟨s1,r1⟩:=tvR_ok hk x;obtain ⟨s2,r2⟩:=tvR_ok hk y;have ht:teq P 9 t (.agg (tvR (.pair a b) x)) (.agg (tvR (.pair a b) y)) = some (eqK (.pair a b) x y):=by
   unfold teq;rw [hu];simp only [hst,Bool.false_eq_true,if_false];exact fold_ok fields.toList 0 (.pair a b) x y [] [] hf rfl rfl
  exact teq_ok 9 t _ _ _ ht Op.maxDepth maxDepth_le _ _ (.inr ⟨_,_,rfl,rfl,s1,r1⟩) (.inr ⟨_,_,rfl,rfl,s2,r2⟩)
theorem check_scal {t:TypeId} {τ:Ty} (h:scalT P t τ = true) (e:Bool) (n:Nat) (x:τ.den):Ab.valOf P (Instr.checkKey e (n + 1) t (valS τ x)) = some ():=by
 unfold Instr.checkKey;unfold scalT at h;split at h
 ·rename_i h1; rw [valOf_bind,valOf_underlying h1]; rfl
 ·rename_i h1; rw [valOf_bind,valOf_underlying h1]; rfl
 ·rename_i h1; rw [valOf_bind,valOf_underlying h1]; rfl
 ·cases h
theorem check_key {t:TypeId} {τ:Ty} (h:keyFits P t τ = true) (e:Bool) (x:τ.den):Ab.valOf P (Instr.checkKey e 10000 t (keyVal τ x)) = some ():=by
 rcases keyFits_cases h with ⟨h1,h2⟩ | ⟨fields,a,b,hu,rfl,hst,hf⟩
 ·rw [keyVal_scal h1]; exact check_scal h2 e 9999 x
 ·have hk:=keyR_of _ _ _ hf;obtain ⟨s1,r1⟩:=tvR_ok hk x;unfold Instr.checkKey;rw [valOf_bind,valOf_underlying hu];simp only [Option.bind_some,keyVal];rw [<- Array.forIn_toList];have key:∀ (fs:List Field) (i:Nat) (τ':Ty) (y:τ'.den) (px:List TV),fitsF P fs i τ' = true->px.length = i->tvR (.pair a b) x = px ++ tvR τ' y ->
    Ab.valOf P (forIn fs PUnit.unit λf _=>(
     if f.name ≠ "_" then do
      let __do_lift <- part f.type (valS a x.1 :: valR b x.2).toArray f.offset
      Instr.checkKey e 9999 f.type __do_lift
      pure (ForInStep.yield PUnit.unit)
     else pure (ForInStep.yield PUnit.unit):Sem (ForInStep PUnit))) = some PUnit.unit:=by
   intro fs;induction fs with
   | nil=>intro i τ' y px _ _ _; rfl
   | cons fd fs ih =>
    intro i τ' y px hf hl heq;cases τ' with
    | pair a' b' =>
     simp only [fitsF,Bool.and_eq_true,decide_eq_true_eq] at hf;obtain ⟨⟨⟨hn,ho⟩,hs⟩,hf'⟩:=hf;have hc:ofCellsT P fd.type ((tvR (.pair a b) x).drop fd.offset) = some (.t a' 0 y.1):=by
      rw [heq,ho,List.drop_left' hl]; exact cell_scal hs _ _
     obtain ⟨w,hw,hrel⟩:=part_ok s1 r1 hc;have hwv:w = valS a' y.1:=by
      rcases hrel with ⟨_,hr⟩ | ⟨l,vs,h9,_⟩
      ·have:=rty_valS (keyS_of hs) (show RTy a' 0 y.1 (.val w) from by simpa only [RV] using hr);simpa using this
      ·cases h9
     have hw':Ab.valOf P (part fd.type (valS a x.1 :: valR b x.2).toArray fd.offset) = some w:=hw;rw [List.forIn_cons,valOf_bind,if_pos hn,valOf_bind,hw',Option.bind_some,valOf_bind,hwv,check_scal hs e 9998];simp only [Option.bind_some,valOf_pure];exact ih (i + 1) b' y.2 (px ++ [.t a' 0 y.1]) hf' (by simp [hl]) (by rw [heq]; simp [tvR])
    | _=>simp [fitsF] at hf
  first
  | exact key fields.toList 0 (.pair a b) x [] hf rfl rfl
  | (rw [valOf_bind,key fields.toList 0 (.pair a b) x [] hf rfl rfl]; rfl)
def kvs (τ:Ty) (l:List τ.den):List (Value × Value):=l.map λx=>(keyVal τ x,.bool true)
def idxK (τ:Ty) (k:τ.den):List τ.den->Nat->Nat
 | [],i=>i
 | x :: l,i=>if eqK τ k x = true then i else idxK τ k l (i + 1)
theorem idxK_at {τ:Ty} {k:τ.den}:∀ {l:List τ.den} {i:Nat},memK τ l k = true->∃ j,idxK τ k l i = i + j/\∃ x,l[j]? = some x/\eqK τ k x = true
 | [],i,h=>by simp [memK] at h
 | x :: l,i,h=>by
  simp only [idxK];by_cases hx:eqK τ k x = true
  ·rw [if_pos hx]; exact ⟨0,by omega,x,rfl,hx⟩
  ·rw [if_neg hx];have hm:memK τ l k = true:=by
    unfold memK at h ⊢;simp only [List.any_cons,Bool.or_eq_true] at h;rcases h with h | h
    ·exact absurd h hx
    ·exact h
   obtain ⟨j,hj,y,hy,he⟩:=idxK_at (i:=i + 1) hm;exact ⟨j + 1,by omega,y,by simpa using hy,he⟩
theorem ask_ok {t:TypeId} {τ:Ty} (h:keyFits P t τ = true) (k:τ.den):∀ (l:List τ.den) (i:Nat),Ab.valOf P (Instr.findAsking t (keyVal τ k) (entsOf (kvs τ l)) i) = some (if memK τ l k then some (idxK τ k l i,.bool true) else none)
 | [],i=>rfl
 | x :: l,i=>by
  show Ab.valOf P (Instr.findAsking t (keyVal τ k) (⟨keyVal τ x,.bool true,0⟩ :: entsOf (kvs τ l)) i) = _;simp only [Instr.findAsking];rw [valOf_bind,equal_key h];simp only [Option.bind_some];cases hx:eqK τ k x with
  | true =>
   have hm:memK τ (x :: l) k = true:=by simp [memK,hx]
   rw [hm];simp only [if_true,idxK,hx];rfl
  | false =>
   have hm:memK τ (x :: l) k = memK τ l k:=by simp [memK,hx]
   rw [hm];simp only [Bool.false_eq_true,if_false,idxK,hx];exact ask_ok h k l (i + 1)
theorem same_scal {t:TypeId} {τ:Ty} {d:TypeDesc} (h:scalT P t τ = true) (hd:P.underlying t = some d) (x y:τ.den):Instr.sameNow d (valS τ x) (valS τ y) = some (eqS τ x y):=by
 unfold scalT at h;split at h
 ·rename_i h1; rw [h1] at hd; cases hd;simp only [valS,Instr.sameNow,if_true,eqS,Option.some.injEq];rw [Bool.eq_iff_iff]; simp
 ·rename_i h1; rw [h1] at hd; cases hd; rfl
 ·rename_i h1; rw [h1] at hd; cases hd;simp only [valS,Instr.sameNow,eqS,Option.some.injEq];rw [Bool.eq_iff_iff];first
  | (show (x.toArray == y.toArray) = true ↔ decide (x = y) = true; simp)
  | (show decide ((⟨x.toArray⟩:ByteArray) = ⟨y.toArray⟩) = true ↔ decide (x = y) = true; simp)
 ·cases h
theorem now_ok {t:TypeId} {τ:Ty} {d:TypeDesc} (h:scalT P t τ = true) (hd:P.underlying t = some d) (k:τ.den):∀ (l:List τ.den) (i:Nat),Instr.findNow d (keyVal τ k) (entsOf (kvs τ l)) i = some (if memK τ l k then some (idxK τ k l i,.bool true) else none)
 | [],i=>rfl
 | x :: l,i=>by
  have hs:=keyS_of h;show Instr.findNow d (keyVal τ k) (⟨keyVal τ x,.bool true,0⟩ :: entsOf (kvs τ l)) i = _;simp only [Instr.findNow];rw [keyVal_scal hs k,keyVal_scal hs x,same_scal h hd,<- eqK_scal hs];cases hx:eqK τ k x with
  | true =>
   have hm:memK τ (x :: l) k = true:=by simp [memK,hx]
   simp only [hm,if_true,idxK,hx]
  | false =>
   have hm:memK τ (x :: l) k = memK τ l k:=by simp [memK,hx]
   simp only [hm,Bool.false_eq_true,if_false,idxK,hx];rw [<- keyVal_scal hs k];exact now_ok h hd k l (i + 1)
theorem find_ok {t:TypeId} {τ:Ty} (h:keyFits P t τ = true) (k:τ.den) (l:List τ.den):Ab.valOf P (Instr.findKey t (keyVal τ k) (entsOf (kvs τ l))) = some (if memK τ l k then some (idxK τ k l 0,.bool true) else none):=by
 unfold Instr.findKey;rcases keyFits_cases h with ⟨h1,h2⟩ | ⟨fields,a,b,hu,rfl,hst,hf⟩
 ·obtain ⟨d,hd,_⟩:=scalT_und h2;rw [valOf_bind,valOf_underlying hd];simp only [Option.bind_some,now_ok h2 hd k l 0];rfl
 ·rw [valOf_bind,valOf_underlying hu];simp only [Option.bind_some];cases l with
  | nil=>rfl
  | cons x l =>
   have:Instr.findNow (.struct fields) (keyVal (.pair a b) k) (entsOf (kvs (.pair a b) (x :: l))) 0 = none:=rfl;rw [this];exact ask_ok h k (x :: l) 0
theorem sameBits_key {τ:Ty} (hk:keyTy τ = true) (x:τ.den):Instr.sameBits 10000 (keyVal τ x) (keyVal τ x) = true:=by
 have hsc:∀ (n:Nat) {a:Ty} (h:keyS a = true) (x:a.den),Instr.sameBits n (valS a x) (valS a x) = true:=λn a h x=>by
  cases a <;> first | (simp [valS,Instr.sameBits]; done) | skip
  case str =>
   have e:∀ s:ByteArray,Instr.sameBits n (.string s) (.string s) = (s == s):=λs=>by cases n <;> rfl
   show Instr.sameBits n (.string ⟨x.toArray⟩) (.string ⟨x.toArray⟩) = true;rw [e];first
   | exact beq_self_eq_true _
   | (show (x.toArray == x.toArray) = true; simp)
   | (show decide ((⟨x.toArray⟩:ByteArray) = ⟨x.toArray⟩) = true; simp)
  all_goals simp [keyS] at h
 by_cases hs:keyS τ = true
 ·rw [keyVal_scal hs]; exact hsc _ hs x
 ·cases τ with
  | pair a b =>
   simp only [keyTy,Bool.and_eq_true] at hk;simp only [keyVal];have hall:∀ {τ:Ty} (h:keyR τ = true) (x:τ.den),((valR τ x).zip (valR τ x)).all (λp=>Instr.sameBits 9999 p.1 p.2) = true:=λ{τ}=>by
    induction τ with
    | unit=>intro _ _; rfl
    | pair a b _ ih =>
     intro h x;simp only [keyR,Bool.and_eq_true] at h;simp only [valR,List.zip_cons_cons,List.all_cons,Bool.and_eq_true];exact ⟨hsc _ h.1 x.1,ih h.2 x.2⟩
    | _=>intro h; simp [keyR] at h
   have:=hall (τ:=.pair a b) (by simp [keyR,hk.1,hk.2]) x;simp only [valR] at this;show ((valS a x.1 :: valR b x.2).toArray.size == (valS a x.1 :: valR b x.2).toArray.size && _) = true;simp only [beq_self_eq_true,Bool.true_and];exact this
  | _=>simp [keyTy,keyS] at hk hs
theorem lookup_ok {t kt vt:TypeId} {τ:Ty} {l:List τ.den} {x:TV} {v:V} {y:τ.den} {ok:Bool} {o:Nat} (hu:P.underlying t = some (.map kt vt)) (hf:keyFits P kt τ = true) (hz:zeroT P H f vt = some (.t .bool o false)) (hy:asTy τ 0 x = some y) (hx:RV x v) :
  ∃ u,vlookup P H f t (kvs τ l) v ok = some u/\RV (if ok then .tuple [.t .bool 0 (memK τ l y),.t .bool 0 (memK τ l y)] else .t .bool 0 (memK τ l y)) u:=by
 have hk:=keyFits_ty hf;have hv:=rty_key hk (asTy_ok _ _ _ _ _ hy hx);obtain ⟨z',hz',hzr,_⟩:=zeroT_ok hz;simp only [RV,RTy] at hzr;subst hzr;unfold vlookup;rw [hu,hv];simp only [check_key hf,find_ok hf,hz'];cases hm:memK τ l y with
 | true =>
  simp only [if_true];refine ⟨_,rfl,?_⟩;cases ok with
  | true=>simp [RV,RVL,RTy,ofVal]
  | false=>simp [RV,RTy,ofVal]
 | false =>
  simp only [Bool.false_eq_true,if_false];refine ⟨_,rfl,?_⟩;cases ok with
  | true=>simp [RV,RVL,RTy]
  | false=>simp [RV,RTy]
theorem update_ok {t kt vt:TypeId} {τ:Ty} {l:List τ.den} {x:TV} {v w:V} {y:τ.den} (hu:P.underlying t = some (.map kt vt)) (hf:keyFits P kt τ = true) (hy:asTy τ 0 x = some y) (hx:RV x v) (hw:w = .val (.bool true)) :
  vupdate P t (kvs τ l) v w = some (kvs τ (insK τ l y)):=by
 have hk:=keyFits_ty hf;have hv:=rty_key hk (asTy_ok _ _ _ _ _ hy hx);subst hw;unfold vupdate;rw [hu,hv];simp only [V.toVal,check_key hf,find_ok hf];unfold insK;cases hm:memK τ l y with
 | true =>
  obtain ⟨j,hj,x',hx',he⟩:=idxK_at (i:=0) hm;have hxy:x' = y:=(eqK_eq hk he).symm;subst hxy;simp only [if_true,cond_true];have hj':idxK τ x' l 0 = j:=by omega
  have hkj:(kvs τ l)[j]? = some (keyVal τ x',.bool true):=by simp [kvs,hx']
  rw [hj',hkj];simp only [sameBits_key hk,if_true,Option.some.injEq];apply List.ext_getElem?;intro i;rw [List.getElem?_set];split
  ·rename_i hij;subst hij;have hlt:=(List.getElem?_eq_some_iff.1 hkj).1;rw [if_pos hlt,hkj]
  ·rfl
 | false =>
  simp only [Bool.false_eq_true,if_false,cond_false];simp [kvs]
mutual
theorem adopt_id (q:Root):∀ v:V,v.ptrs = []->v.adopt q = v
 | .mref r,h=>by simp [V.ptrs] at h
 | .fn g a b,h=>by
  simp only [V.ptrs,List.append_eq_nil_iff] at h;simp only [V.adopt,adoptL_id q a h.1,adoptL_id q b h.2]
 | .agg l,h=>by simp only [V.ptrs] at h; simp only [V.adopt,adoptL_id q l h]
 | .cptr _ l,h=>by simp only [V.ptrs] at h; simp only [V.adopt,adoptL_id q l h]
 | .tuple l,h=>by simp only [V.ptrs] at h; simp only [V.adopt,adoptL_id q l h]
 | .undef,_ | .val _,_ | .ptr ..,_ | .sl ..,_ | .room ..,_ | .yld _,_ | .bsl ..,_ | .iface ..,_ | .mp _,_ | .lp ..,_=>by simp [V.adopt]
theorem adoptL_id (q:Root):∀ l:List V,ptrsL l = []->Ab.adoptL q l = l
 | [],_=>by simp [Ab.adoptL]
 | v :: l,h=>by
  simp only [ptrsL,List.append_eq_nil_iff] at h;simp only [Ab.adoptL,adopt_id q v h.1,adoptL_id q l h.2]
end
theorem rty_onlyMaps:∀ (τ:Ty) (o:Nat) (x:τ.den) (v:V),RTy τ o x v->v.onlyMaps = true
 | .int _,_,_,v,h=>by simp only [RTy] at h; subst h; rfl
 | .bool,_,_,v,h=>by simp only [RTy] at h; subst h; rfl
 | .str,_,_,v,h=>by simp only [RTy] at h; subst h; rfl
 | .flt,_,_,v,h=>by simp only [RTy] at h; obtain ⟨_,rfl,_⟩:=h; rfl
 | .cx,_,_,v,h=>by simp only [RTy] at h; obtain ⟨_,_,rfl,_⟩:=h; rfl
 | .err,_,_,v,h=>by simp only [RTy] at h; rcases h with ⟨_,rfl⟩ | ⟨_,t9,rfl⟩ <;> rfl
 | .mset _,_,_,v,h=>by simp only [RTy] at h; obtain ⟨_,rfl⟩:=h; rfl
 | .sl _,_,_,v,h=>by simp only [RTy] at h; obtain ⟨_,_,_,rfl,_⟩:=h; rfl
 | .unit,_,_,v,h=>by simp only [RTy] at h; subst h; rfl
 | .pair a b,o,x,v,h=>by
  simp only [RTy] at h;obtain ⟨v1,l,rfl,h1,h2⟩:=h;have h3:=rty_onlyMaps a o x.1 v1 h1;have h4:=rty_onlyMaps b o x.2 (.agg l) h2;simp only [V.onlyMaps] at h4 ⊢;simp only [Ab.onlyMapsL,h3,h4] <;> rfl
mutual
theorem rv_adopt (q:Root):∀ (x:TV) (v:V),x.onlyMaps = true->RV x v->RV (x.adopt q) (v.adopt q)/\v.onlyMaps = true
 | .any _,v,ho,_ | .ptr ..,v,ho,_ | .bsl ..,v,ho,_ | .iface ..,v,ho,_ | .yld _,v,ho,_ | .lp ..,v,ho,_=>by simp [TV.onlyMaps] at ho
 | .mref r,v,_,h=>by simp only [RV] at h; subst h; simp [TV.adopt,V.adopt,RV,V.onlyMaps]
 | .t τ o x,v,_,h=>by
  simp only [TV.adopt];have h':=h;simp only [RV] at h;rw [adopt_id q v (rty_ptrs τ o x v h)];exact ⟨h',rty_onlyMaps τ o x v h⟩
 | .clp τ x,v,_,h=>by
  simp only [TV.adopt];have h':=h;simp only [RV] at h;obtain ⟨f,l',rfl,_⟩:=h;exact ⟨by simpa only [V.adopt] using h',rfl⟩
 | .room a s,v,_,h=>by
  simp only [TV.adopt];have h':=h;simp only [RV] at h;obtain ⟨_,n,rfl,_⟩ | ⟨_,rfl | ⟨f,hf0,rfl⟩⟩:=h
  ·exact ⟨by simpa only [V.adopt] using h',rfl⟩
  ·exact ⟨by simpa only [V.adopt] using h',rfl⟩
  ·exact ⟨by simpa only [V.adopt] using h',rfl⟩
 | .empty o,v,_,h=>by
  simp only [TV.adopt];have h':=h;simp only [RV] at h;obtain ⟨f,c,rfl,_⟩:=h;exact ⟨by simpa only [V.adopt] using h',rfl⟩
 | .val u,v,_,h=>by
  simp only [TV.adopt];have h':=h;simp only [RV] at h;subst h;exact ⟨by simpa only [V.adopt] using h',rfl⟩
 | .agg l,v,ho,h=>by
  simp only [TV.onlyMaps] at ho;simp only [RV] at h;obtain ⟨l',rfl,h⟩:=h;obtain ⟨h1,h2⟩:=rvl_adopt q l l' ho h;exact ⟨by simp only [TV.adopt,V.adopt,RV]; exact ⟨_,rfl,h1⟩,by simpa only [V.onlyMaps] using h2⟩
 | .cptr s l,v,ho,h=>by
  simp only [TV.onlyMaps] at ho;simp only [RV] at h;obtain ⟨f,l',rfl,hno,hsh,h⟩:=h;obtain ⟨h1,h2⟩:=rvl_adopt q l l' ho h;exact ⟨by simp only [TV.adopt,V.adopt,RV]; exact ⟨_,_,rfl,hno,hsh,h1⟩,by simpa only [V.onlyMaps] using h2⟩
 | .tuple l,v,ho,h=>by
  simp only [TV.onlyMaps] at ho;simp only [RV] at h;obtain ⟨l',rfl,h⟩:=h;obtain ⟨h1,h2⟩:=rvl_adopt q l l' ho h;exact ⟨by simp only [TV.adopt,V.adopt,RV]; exact ⟨_,rfl,h1⟩,by simpa only [V.onlyMaps] using h2⟩
 | .fn g a b,v,ho,h=>by
  simp only [TV.onlyMaps,Bool.and_eq_true] at ho;simp only [RV] at h;obtain ⟨a',b',rfl,ha,hb⟩:=h;obtain ⟨h1,h2⟩:=rvl_adopt q a a' ho.1 ha;obtain ⟨h3,h4⟩:=rvl_adopt q b b' ho.2 hb;exact ⟨by simp only [TV.adopt,V.adopt,RV]; exact ⟨_,_,rfl,h1,h3⟩,by simp only [V.onlyMaps,h2,h4]; rfl⟩
theorem rvl_adopt (q:Root):∀ (l:List TV) (l':List V),onlyMapsTL l = true->RVL l l'->RVL (adoptTL q l) (Ab.adoptL q l')/\Ab.onlyMapsL l' = true
 | [],l',_,h=>by simp only [RVL] at h; subst h; exact ⟨by simp [adoptTL,Ab.adoptL,RVL],rfl⟩
 | x :: l,l',ho,h=>by
  simp only [onlyMapsTL,Bool.and_eq_true] at ho;simp only [RVL] at h;obtain ⟨v,m,rfl,h1,h2⟩:=h;obtain ⟨h3,h4⟩:=rv_adopt q x v ho.1 h1;obtain ⟨h5,h6⟩:=rvl_adopt q l m ho.2 h2;exact ⟨by simp only [adoptTL,Ab.adoptL]; exact rvl_cons.2 ⟨h3,h5⟩,by simp only [Ab.onlyMapsL,h4,h6]; rfl⟩
end
mutual
theorem RV.onlyMaps_eq:∀ (x:TV) (v:V),x.known = true->RV x v->v.onlyMaps = x.onlyMaps
 | .any _,v,hk,_=>by simp [TV.known] at hk
 | .t τ o x,v,_,h=>by simp only [RV] at h; rw [rty_onlyMaps τ o x v h] <;> rfl
 | .clp τ x,v,_,h=>by simp only [RV] at h; obtain ⟨f,l',rfl,_⟩:=h; rfl
 | .room a s,v,_,h=>by simp only [RV] at h; obtain ⟨_,n,rfl,_⟩ | ⟨_,rfl | ⟨f,hf0,rfl⟩⟩:=h <;> rfl
 | .empty o,v,_,h=>by simp only [RV] at h; obtain ⟨f,c,rfl,_⟩:=h; rfl
 | .val u,v,_,h=>by simp only [RV] at h; subst h; rfl
 | .agg l,v,hk,h=>by simp only [RV] at h; obtain ⟨l',rfl,h⟩:=h; simp only [TV.known] at hk; simp only [V.onlyMaps,TV.onlyMaps]; exact RVL.onlyMaps_eq l l' hk h
 | .tuple l,v,hk,h=>by simp only [RV] at h; obtain ⟨l',rfl,h⟩:=h; simp only [TV.known] at hk; simp only [V.onlyMaps,TV.onlyMaps]; exact RVL.onlyMaps_eq l l' hk h
 | .fn g a b,v,hk,h=>by
  simp only [RV] at h; obtain ⟨a',b',rfl,h1,h2⟩:=h;simp only [TV.known,Bool.and_eq_true] at hk;simp only [V.onlyMaps,TV.onlyMaps,RVL.onlyMaps_eq a a' hk.1 h1,RVL.onlyMaps_eq b b' hk.2 h2]
 | .ptr r o,v,_,h=>by simp only [RV] at h; subst h; rfl
 | .bsl r o n,v,_,h=>by simp only [RV] at h; subst h; rfl
 | .yld r,v,_,h=>by simp only [RV] at h; subst h; rfl
 | .lp ..,v,_,h=>by simp only [RV] at h
 | .mref r,v,_,h=>by simp only [RV] at h; subst h; rfl
 | .cptr s l,v,hk,h=>by simp only [RV] at h; obtain ⟨f,l',rfl,_,_,h⟩:=h; simp only [TV.known] at hk; simp only [V.onlyMaps,TV.onlyMaps]; exact RVL.onlyMaps_eq l l' hk h
 | .iface t x,v,hk,h=>by simp [TV.known] at hk
theorem RVL.onlyMaps_eq:∀ (l:List TV) (l':List V),knownL l = true->RVL l l'->Ab.onlyMapsL l' = onlyMapsTL l
 | [],l',_,h=>by simp only [RVL] at h; subst h; rfl
 | x :: l,l',hk,h=>by
  simp only [RVL] at h; obtain ⟨v,m,rfl,h1,h2⟩:=h;simp only [knownL,Bool.and_eq_true] at hk;simp only [Ab.onlyMapsL,onlyMapsTL,RV.onlyMaps_eq x v hk.1 h1,RVL.onlyMaps_eq l m hk.2 h2]
end
theorem mcallOf_eq {g:FuncId} {first cap args:List TV} {first' cap' args':List V} (hk:knownL (first ++ args ++ cap) = true) (h:RVL (first ++ args ++ cap) (first' ++ args' ++ cap')) :
  mcallOf (.fn g first' cap') args' = mcallOfT (.fn g first cap) args:=by
 unfold mcallOf mcallOfT;simp only [hk,if_true,RVL.ptrs_eq _ _ hk h,RVL.onlyMaps_eq _ _ hk h];cases ptrsTL (first ++ args ++ cap) <;> rfl
end Go.Tx
end
section
namespace Go.Tx
open Go Go.Ab
theorem toL_len (e:Env):e.toL.length = e.n:=by simp [Env.toL]
theorem toL_get? (e:Env) (i:Nat):e.toL[i]? = if i < e.n then some (e.t.get (.any []) i) else none:=by
 unfold Env.toL;rw [List.getElem?_map];by_cases h:i < e.n
 ·rw [if_pos h]; simp [h]
 ·rw [if_neg h,List.getElem?_eq_none (by simp; omega)]; rfl
theorem get_getD (e:Env) (i:Nat):e.get i = e.toL.getD i (.any []):=by
 rw [List.getD_eq_getElem?_getD,toL_get?];show Bool.rec (motive:=λ_=>TV) (.any []) (e.t.get (.any []) i) (Nat.ble (i + 1) e.n) = _;rw [brec];by_cases h:i < e.n
 ·rw [if_pos h,if_pos (by rw [Nat.ble_eq]; omega)]; rfl
 ·rw [if_neg h,if_neg (by rw [Nat.ble_eq]; omega)]; rfl
theorem get_some {e:Env} {i:Nat} {x:TV} (h:e.toL[i]? = some x):e.get i = x:=by
 rw [get_getD,List.getD_eq_getElem?_getD,h]; rfl
theorem some_get {e:Env} {i:Nat} {x:TV} (h:e.get i = x) (hx:∀ rs,x ≠ .any rs):e.toL[i]? = some x:=by
 rw [get_getD,List.getD_eq_getElem?_getD] at h;cases hh:e.toL[i]? with
 | none=>rw [hh] at h; exact absurd h.symm (hx [])
 | some y=>rw [hh] at h; simpa using h
theorem toL_set (e:Env) (i:Nat) (v:TV):(e.set i v).toL = e.toL.set i v:=by
 apply List.ext_getElem?;intro j;rw [List.getElem?_set,toL_get?,toL_get?,toL_len];show (if j < e.n then some ((e.t.set (.any []) i v).get (.any []) j) else none) = _;rw [Tr.get_set];by_cases h:j < e.n
 ·rw [if_pos h,if_pos h];by_cases e1:i = j
  ·rw [if_pos e1,if_pos e1,if_pos (by omega)]
  ·rw [if_neg e1,if_neg e1]
 ·rw [if_neg h,if_neg h];by_cases e1:i = j
  ·rw [if_pos e1,if_neg (by omega)]
  ·rw [if_neg e1]
theorem toL_mapI (f:Nat->TV->TV) (e:Env) (i:Nat):(e.mapI f).toL[i]? = (e.toL[i]?).map (f i):=by
 rw [toL_get?,toL_get?];show (if i < e.n then some ((e.t.mapI (.any []) e.n f 1 0).get (.any []) i) else none) = _;by_cases h:i < e.n
 ·rw [if_pos h,if_pos h,Tr.get_mapI _ _ _ _ _ _ _ (Nat.le_refl _) (by omega)];simp
 ·rw [if_neg h,if_neg h]; rfl
theorem mapI_len (f:Nat->TV->TV) (e:Env):(e.mapI f).toL.length = e.toL.length:=by rw [toL_len,toL_len]; rfl
theorem all_get {p:Nat->TV->Bool} {e:Env} (h:e.all p = true) (hp:∀ i,p i (.any []) = true) {i:Nat} {x:TV} (hx:e.toL[i]? = some x):p i x = true:=by
 rw [toL_get?] at hx;split at hx
 ·cases hx;have:=Tr.allI_get (.any []) hp e.t 1 0 i h;simpa using this
 ·cases hx
theorem mask_get {p:TV->Bool} {e:Env} (hp:p (.any []) = false) {i:Nat} {x:TV} (hx:e.toL[i]? = some x) (h:p x = true):i ∈ e.mask p:=by
 rw [toL_get?] at hx;split at hx
 ·cases hx;have:=Tr.maskI_get (.any []) hp e.t 1 0 i h;rw [Mask.mem_iff];simpa [Mask.has,Env.mask] using this
 ·cases hx
theorem fillTr_get:∀ (l:List TV) (i:Nat) (t:Tr TV) (j:Nat),(fillTr l i t).get (.any []) j = if i<=j/\j < i + l.length then l.getD (j - i) (.any []) else t.get (.any []) j
 | [],i,t,j=>by
  rw [if_neg (by simp)];rfl
 | v :: l,i,t,j=>by
  show (fillTr l (i + 1) (t.set (.any []) i v)).get (.any []) j = _;rw [fillTr_get l,Tr.get_set];by_cases h1:i + 1<=j/\j < i + 1 + l.length
  ·rw [if_pos h1,if_pos (by simp; omega)];have:j - i = (j - (i + 1)) + 1:=by omega
   rw [this]; simp
  ·rw [if_neg h1];by_cases h2:i = j
   ·rw [if_pos h2,if_pos (by simp; omega)]; simp [h2]
   ·rw [if_neg h2,if_neg (by simp; omega)]
theorem toL_ofArgs (args:List TV) (n:Nat):(Env.ofArgs args n).toL = args ++ List.replicate (n - args.length) (.any []):=by
 apply List.ext_getElem?;intro j;rw [toL_get?];show (if j < args.length + (n - args.length) then some ((fillTr args 0 .nil).get (.any []) j) else none) = _;rw [fillTr_get,List.getElem?_append];by_cases h1:j < args.length
 ·rw [if_pos (by omega),if_pos (by omega),if_pos h1];simp [h1]
 ·rw [if_neg h1];by_cases h2:j < args.length + (n - args.length)
  ·rw [if_pos h2,if_neg (by omega),Tr.get_nil,List.getElem?_replicate,if_pos (by omega)]
  ·rw [if_neg h2,List.getElem?_replicate,if_neg (by omega)]
theorem forgetM_get (D:Mask) (rs:Nat->List Root) (e:Env) (i:Nat):(forgetM D rs e).toL[i]? = if i ∈ D then (e.toL[i]?).map (λ_=>.any (rs i)) else e.toL[i]?:=by
 unfold forgetM;rw [toL_mapI];by_cases h:i ∈ D
 ·rw [if_pos h];rw [Mask.mem_iff] at h;rw [h]
 ·rw [if_neg h];rw [Mask.mem_iff] at h;have:D.has i = false:=by simpa using h
  rw [this];show (e.toL[i]?).map (λv=>v) = _;simp
theorem forgetM_len (D:Mask) (rs:Nat->List Root) (e:Env):(forgetM D rs e).toL.length = e.toL.length:=mapI_len _ _
theorem toL_modify (E:Env) (t:Nat):(E.set t (E.get t).dull).toL = E.toL.modify t TV.dull:=by
 apply List.ext_getElem?;intro j;rw [toL_set,List.getElem?_set,List.getElem?_modify];by_cases h:t = j
 ·rw [if_pos h];subst h;cases hh:E.toL[t]? with
  | none=>rw [if_neg (by have:=List.getElem?_eq_none_iff.1 hh; omega)]; rfl
  | some x=>rw [if_pos (List.getElem?_eq_some_iff.1 hh).1,get_some hh]; simp
 ·rw [if_neg h];cases E.toL[j]? <;> simp [h]
theorem dedupN_mem {x:Nat}:∀ {l:List Nat},x ∈ dedupN l ↔ x ∈ l
 | []=>by simp [dedupN]
 | a :: l=>by
  simp only [dedupN];split
  ·rename_i h;rw [dedupN_mem];simp at h;constructor
   ·intro hx; simp [hx]
   ·intro hx;rcases List.mem_cons.1 hx with rfl | hx
    ·exact h
    ·exact hx
  ·simp [dedupN_mem (l:=l)]
def SameA (acc:List Mask) (acc':List (List Nat)):Prop:=acc.length = acc'.length/\∀ i j,j ∈ acc.getD i .empty ↔ j ∈ acc'.getD i []
theorem foldl_mask (acc:List Mask) (acc':List (List Nat)) (h:SameA acc acc'):∀ (l:List Nat) (m:Mask) (x:Nat),x ∈ l.foldl (λm j=>Mask.ins j (m ++ acc.getD j .empty)) m ↔ x ∈ m\/x ∈ l.flatMap λj=>j :: acc'.getD j []
 | [],m,x=>by simp
 | j :: l,m,x=>by
  simp only [List.foldl_cons];rw [foldl_mask acc acc' h l];simp only [Mask.mem_ins,Mask.mem_append,List.flatMap_cons,List.mem_append,List.mem_cons];rw [h.2 j x];constructor
  ·rintro ((h1 | (h1 | h1)) | h1)
   ·exact .inr (.inl (.inl h1))
   ·exact .inl h1
   ·exact .inr (.inl (.inr h1))
   ·exact .inr (.inr h1)
  ·rintro (h1 | ((h1 | h1) | h1))
   ·exact .inl (.inr (.inl h1))
   ·exact .inl (.inl h1)
   ·exact .inl (.inr (.inr h1))
   ·exact .inr h1
theorem sameA_fold:∀ (ops:List Oper) (acc:List Mask) (acc':List (List Nat)),SameA acc acc' ->
  SameA (ops.foldl (λacc o=>acc ++ [(boundE o).foldl (λm j=>Mask.ins j (m ++ acc.getD j .empty)) .empty]) acc) (ops.foldl (λacc o=>acc ++ [dedupN ((boundE o).flatMap λj=>j :: acc.getD j [])]) acc')
 | [],acc,acc',h=>h
 | o :: ops,acc,acc',h=>by
  simp only [List.foldl_cons];refine sameA_fold ops _ _ ⟨by simp [h.1],λi j=>?_⟩;simp only [List.getD_eq_getElem?_getD,List.getElem?_append];by_cases hi:i < acc.length
  ·rw [if_pos hi,if_pos (by rw [<- h.1]; exact hi)];have:=h.2 i j;simpa only [List.getD_eq_getElem?_getD] using this
  ·rw [if_neg hi,if_neg (by rw [<- h.1]; exact hi),h.1];by_cases h0:i - acc'.length = 0
   ·rw [h0];simp only [List.getElem?_cons_zero,Option.getD_some];have:=foldl_mask acc acc' h (boundE o) .empty j;simp only [List.getD_eq_getElem?_getD] at this;rw [this,dedupN_mem];simp
   ·obtain ⟨k,hk⟩:∃ k,i - acc'.length = k + 1:=⟨i - acc'.length - 1,by omega⟩
    rw [hk]; simp
theorem ancsM_has (ops:List Oper) (i j:Nat):((ancsM ops).getD i .empty).has j = ((ancs ops).getD i []).contains j:=by
 have h:=(sameA_fold ops [] [] ⟨rfl,λi j=>by simp⟩).2 i j;have e:∀ a b:Bool,(a = true ↔ b = true)->a = b:=λa b=>by cases a <;> cases b <;> simp
 apply e;rw [List.contains_iff_mem];exact h
theorem regionOkM_eq (H:Hints) (f:FuncId) (U:List (Nat × Nat)) (ops:Array Oper):regionOkM H f U ops = regionOk H f U ops:=by
 unfold regionOkM regionOk;simp only [ancsM_has];rfl
theorem beforM_eq (draw:Bool) (ops:List Oper) (i c:Nat):beforM draw (ancsM ops) i c = befor draw (ancs ops) i c:=by
 unfold beforM befor;rw [ancsM_has]
theorem linkOkM_eq (H:Hints) (f:FuncId) (draw:Bool) (ops:Array Oper):linkOkM H f draw ops = linkOk H f draw ops:=by
 have h:∀ lone c oc,linkOneM H f draw (ancsM ops.toList) ops lone c oc = linkOne H f draw (ancs ops.toList) ops lone c oc:=λlone c oc=>by
  unfold linkOneM linkOne;simp only [beforM_eq];rfl
 unfold linkOkM linkOk;simp only [h];rfl
end Go.Tx
end
section
namespace Go.Tx
open Go Go.Ab
variable {P:Program} {H:Hints} {f:FuncId}
def lookM (M:List TLevel) (l s:Nat):Option (Option (List TV)):=match M[l]? with
 | some b=>lookT b s
 | none=>none
def lookV (M:List Level) (l s:Nat):Option (List V):=match M[l]? with
 | some b=>lookB b s
 | none=>none
def RC:List TV->List V->Prop
 | [.lp s pe f env ps a b],c'=>∃ env',c' = [.lp s pe f env' ps a b]/\RVL env env'
 | c,c'=>RVL c c'
theorem rvl_notRec {c:List TV} {c':List V} (h:RVL c c'):isRec c = false:=by
 cases c with
 | nil=>rfl
 | cons x l =>
  simp only [RVL] at h; obtain ⟨v,m,_,h1,_⟩:=h;cases x <;> first | rfl | (simp only [RV] at h1)
theorem RVL.rc {c:List TV} {c':List V} (h:RVL c c'):RC c c':=by
 have h0:=rvl_notRec h;unfold RC;split
 ·simp [isRec] at h0
 ·exact h
theorem RC.rvl {c:List TV} {c':List V} (h:RC c c') (hn:isRec c = false):RVL c c':=by
 unfold RC at h;split at h
 ·simp [isRec] at hn
 ·exact h
theorem RC.ptrs {c:List TV} {c':List V} (h:RC c c') (r:Root) (hr:r ∈ ptrsL c'):r ∈ ptrsTL c:=by
 unfold RC at h;split at h
 ·obtain ⟨env',rfl,h⟩:=h;simp only [ptrsL,V.ptrs,List.append_nil] at hr;simp only [ptrsTL,TV.ptrs,List.append_nil];exact RVL.ptrs _ _ h r hr
 ·exact RVL.ptrs _ _ h r hr
def RB:Option (Option (List TV))->Option (List V)->Prop
 | none,b=>b = none
 | some none,b=>∀ c,b = some c->isLoop c = false
 | some (some c),b=>∃ c',b = some c'/\RC c c'
structure LR (M:List TLevel) (M':List Level):Prop where
 len:M'.length = M.length
 rel:∀ l s,RB (lookM M l s) (lookV M' l s)
 nd:∀ b ∈ M',(b.map (·.1)).Nodup
 /-- maps lie apart -/
 mp:∀ l s c,lookV M' l s = some c->s < 16384->isMp c = false
def TSt.all (st:TSt):List TLevel:=st.L ++ [st.B]
def allV (s:St):List Level:=s.L ++ [s.B]
structure Rst (st:TSt) (s:St):Prop where
 E:RVL st.E.toL s.E
 M:LR st.all (allV s)
theorem Rst.len {st:TSt} {s:St} (h:Rst st s):s.L.length = st.L.length:=by
 have:=h.M.len; simp [TSt.all,allV] at this; exact this
theorem look_box {s:St} (r:Root):s.box r = lookV (allV s) r.lvl r.slot:=by
 obtain ⟨l,sl⟩:=r;unfold St.box lookV allV;by_cases h:l = s.L.length
 ·subst h; simp
 ·rw [if_neg h];by_cases hlt:l < s.L.length
  ·simp only [List.getElem?_append_left hlt] <;> rfl
  ·have h1:s.L[l]? = none:=by simp <;> omega
   have h2:(s.L ++ [s.B])[l]? = none:=by simp <;> omega
   simp only [h1,h2]
theorem tlook_cont {st:TSt} (r:Root):st.cont r = match lookM st.all r.lvl r.slot with
  | some (some c)=>some c
  | _=>none:=by
 obtain ⟨l,sl⟩:=r;unfold TSt.cont lookM TSt.all;by_cases h:l = st.L.length
 ·subst h; simp <;> rfl
 ·rw [if_neg h];by_cases hlt:l < st.L.length
  ·simp only [List.getElem?_append_left hlt] <;> rfl
  ·have h1:st.L[l]? = none:=by simp <;> omega
   have h2:(st.L ++ [st.B])[l]? = none:=by simp <;> omega
   simp only [h1,h2]
theorem cont_some {st:TSt} {r:Root} {c:List TV} (h:st.cont r = some c):lookM st.all r.lvl r.slot = some (some c):=by
 rw [tlook_cont] at h;split at h
 ·rename_i c' hc; cases h; exact hc
 ·cases h
theorem box_cont {st:TSt} {r:Root} {c:List TV} (h:st.box r = some c):st.cont r = some c/\isRec c = false:=by
 unfold TSt.box at h;split at h
 ·rename_i c' hc;split at h
  ·cases h
  ·rename_i hr;cases h; exact ⟨hc,by simpa using hr⟩
 ·cases h
theorem box_some {st:TSt} {r:Root} {c:List TV} (h:st.box r = some c):lookM st.all r.lvl r.slot = some (some c):=cont_some (box_cont h).1
theorem cont_box {st:TSt} {r:Root} {c:List TV} (h:st.cont r = some c) (hn:isRec c = false):st.box r = some c:=by
 unfold TSt.box; rw [h]; simp [hn]
theorem Rst.box {st:TSt} {s:St} (h:Rst st s) {r:Root} {c:List TV} (hc:st.box r = some c):∃ c',s.box r = some c'/\RVL c c':=by
 have:=h.M.rel r.lvl r.slot;rw [box_some hc] at this;rw [look_box];obtain ⟨c',h1,h2⟩:=this;exact ⟨c',h1,h2.rvl (box_cont hc).2⟩
theorem Rst.bx {st:TSt} {s:St} (h:Rst st s) (r:Root):BxR (st.box r) (s.box r):=by
 cases hc:st.box r with
 | none=>trivial
 | some c=>exact h.box hc
theorem lookT_setT (b:TLevel) (s s':Nat) (c:Option (List TV)):lookT (setT b s c) s' = if s' = s then (lookT b s).map (λ_=>c) else lookT b s':=by
 induction b with
 | nil=>simp [setT,lookT]
 | cons p b ih =>
  obtain ⟨k,d⟩:=p;by_cases h:k = s
  ·subst h;by_cases h2:k = s'
   ·subst h2; simp [setT,lookT]
   ·simp [setT,lookT,h2,Ne.symm h2]
  ·by_cases h2:k = s'
   ·subst h2; simp [setT,lookT,h]
   ·simp [setT,lookT,h,h2,ih]
theorem lookB_setB (b:Level) (s s':Nat) (c:List V):lookB (setB b s c) s' = if s' = s then (lookB b s).map (λ_=>c) else lookB b s':=by
 induction b with
 | nil=>simp [setB,lookB]
 | cons p b ih =>
  obtain ⟨k,d⟩:=p;by_cases h:k = s
  ·subst h;by_cases h2:k = s'
   ·subst h2; simp [setB,lookB]
   ·simp [setB,lookB,h2,Ne.symm h2]
  ·by_cases h2:k = s'
   ·subst h2; simp [setB,lookB,h]
   ·simp [setB,lookB,h,h2,ih]
theorem keys_setB (b:Level) (s:Nat) (c:List V):(setB b s c).map (·.1) = b.map (·.1):=by
 induction b with
 | nil=>rfl
 | cons p b ih =>
  obtain ⟨k,d⟩:=p;by_cases h:k = s <;> simp [setB,h,ih]
theorem lookM_modify (M:List TLevel) (l:Nat) (g:TLevel->TLevel) (l' s:Nat):lookM (M.modify l g) l' s = if l' = l then (match M[l]? with | some b=>lookT (g b) s | none=>none) else lookM M l' s:=by
 unfold lookM;rw [List.getElem?_modify];by_cases h:l' = l
 ·subst h;rw [if_pos rfl];cases M[l']? with
  | none=>rfl
  | some b=>simp
 ·rw [if_neg h];cases M[l']? with
  | none=>rfl
  | some b=>simp [Ne.symm h]
theorem lookV_modify (M:List Level) (l:Nat) (g:Level->Level) (l' s:Nat):lookV (M.modify l g) l' s = if l' = l then (match M[l]? with | some b=>lookB (g b) s | none=>none) else lookV M l' s:=by
 unfold lookV;rw [List.getElem?_modify];by_cases h:l' = l
 ·subst h;rw [if_pos rfl];cases M[l']? with
  | none=>rfl
  | some b=>simp
 ·rw [if_neg h];cases M[l']? with
  | none=>rfl
  | some b=>simp [Ne.symm h]
theorem modify_last {α:Type} (g:α->α) (b:α):∀ L:List α,(L ++ [b]).modify L.length g = L ++ [g b]
 | []=>rfl
 | x :: L=>by simp [modify_last g b L]
theorem modify_left {α:Type} (g:α->α) (b:α):∀ (L:List α) {l:Nat},l ≠ L.length->(L ++ [b]).modify l g = L.modify l g ++ [b]
 | [],l,h=>by
  cases l with
  | zero=>simp at h
  | succ n=>simp
 | x :: L,l,h=>by
  cases l with
  | zero=>simp
  | succ n =>
   have:=modify_left g b L (l:=n) (by simpa using h);simp [this]
theorem setBox_all (s:St) (r:Root) (c:List V):allV (s.setBox r c) = (allV s).modify r.lvl (λb=>setB b r.slot c):=by
 unfold St.setBox allV;by_cases h:r.lvl = s.L.length
 ·rw [if_pos h,h,modify_last]
 ·rw [if_neg h,modify_left _ _ _ h]
theorem tsetBox_all (st:TSt) (r:Root) (c:List TV):(st.setBox r c).all = st.all.modify r.lvl (λb=>setT b r.slot (some c)):=by
 unfold TSt.setBox TSt.all;by_cases h:r.lvl = st.L.length
 ·rw [if_pos h,h,modify_last]
 ·rw [if_neg h,modify_left _ _ _ h]
theorem forget_all (st:TSt) (rs:List Root) (r:Root):(st.forget rs r).all = st.all.modify r.lvl (λb=>anyB rs b r.slot):=by
 unfold TSt.forget TSt.all;by_cases h:r.lvl = st.L.length
 ·rw [if_pos h,h,modify_last]
 ·rw [if_neg h,modify_left _ _ _ h]
theorem mem_modify {α:Type} {g:α->α} {b:α}:∀ {M:List α} {l:Nat},b ∈ M.modify l g->b ∈ M\/∃ b' ∈ M,b = g b'
 | [],l,h=>by cases l <;> simp at h
 | x :: M,0,h=>by
  simp only [List.modify_zero_cons,List.mem_cons] at h;rcases h with rfl | h
  ·exact .inr ⟨x,by simp,rfl⟩
  ·exact .inl (by simp [h])
 | x :: M,l + 1,h=>by
  simp only [List.modify_succ_cons,List.mem_cons] at h;rcases h with rfl | h
  ·exact .inl (by simp)
  ·rcases mem_modify h with h | ⟨b',h1,h2⟩
   ·exact .inl (by simp [h])
   ·exact .inr ⟨b',by simp [h1],h2⟩
theorem LR.setBox {M:List TLevel} {M':List Level} (h:LR M M') (l s:Nat) {c:List TV} {c':List V} (hd:lookM M l s ≠ some none) (hc:RC c c') (hmp:s < 16384->isMp c' = false) :
  LR (M.modify l λb=>setT b s (some c)) (M'.modify l λb=>setB b s c') where
 len:=by simp [h.len]
 rel:=λl2 s2=>by
  rw [lookM_modify,lookV_modify];by_cases e:l2 = l
  ·subst e;rw [if_pos rfl,if_pos rfl];have key:=h.rel l2 s2;have key2:=h.rel l2 s;unfold lookM lookV at key key2;cases h1:M[l2]? with
   | none =>
    have h2:M'[l2]? = none:=by rw [List.getElem?_eq_none_iff] at h1 ⊢; rw [h.len]; exact h1
    rw [h2]; rfl
   | some b =>
    have h2:∃ b',M'[l2]? = some b':=by
     have:=(List.getElem?_eq_some_iff.1 h1).1;exact ⟨_,List.getElem?_eq_getElem (by rw [h.len]; exact this)⟩
    obtain ⟨b',h2⟩:=h2;rw [h1,h2] at key key2;rw [h2];simp only at key key2 ⊢;rw [lookT_setT,lookB_setB];by_cases e2:s2 = s
    ·subst e2;rw [if_pos rfl,if_pos rfl];cases hl:lookT b s2 with
     | none=>rw [hl] at key; simp only [RB] at key; rw [key] <;> rfl
     | some o =>
      rw [hl] at key;cases o with
      | none =>
       exact absurd (by unfold lookM; rw [h1]; exact hl) hd
      | some d =>
       obtain ⟨d',hd',_⟩:=key;rw [hd'];exact ⟨c',rfl,hc⟩
    ·rw [if_neg e2,if_neg e2]; exact key
  ·rw [if_neg e,if_neg e]; exact h.rel l2 s2
 nd:=λb hb=>by
  rcases mem_modify hb with hb | ⟨b',hb',rfl⟩
  ·exact h.nd b hb
  ·rw [keys_setB]; exact h.nd b' hb'
 mp:=λl2 s2 c2 h2 hlt=>by
  rw [lookV_modify] at h2;by_cases e:l2 = l
  ·subst e;rw [if_pos rfl] at h2;have h0:=h.mp l2 s2;unfold lookV at h0;cases h1:M'[l2]? with
   | none=>rw [h1] at h2; cases h2
   | some b =>
    rw [h1] at h2 h0;simp only at h2 h0;rw [lookB_setB] at h2;by_cases e2:s2 = s
    ·subst e2;rw [if_pos rfl] at h2;obtain ⟨_,_,rfl⟩:=Option.map_eq_some_iff.1 h2;exact hmp hlt
    ·rw [if_neg e2] at h2; exact h0 c2 h2 hlt
  ·rw [if_neg e] at h2; exact h.mp l2 s2 c2 h2 hlt
structure Fr2 (st st':TSt) (s s':St):Prop where
 wt:∀ t ∈ st.Wt,t ∈ st'.Wt
 wb:∀ r ∈ st.Wb,r ∈ st'.Wb
 e:∀ t,t ∉ st'.Wt->s'.E[t]? = s.E[t]?\/((∃ rs,st.E.toL[t]? = some (.any rs))/\s'.E[t]? = some .undef)
 an:∀ t,t ∉ st'.Wt->∀ rs,st'.E.toL[t]? = some (.any rs)->∃ rs',st.E.toL[t]? = some (.any rs')
 b:∀ r,r ∉ st'.Wb->s'.box r = s.box r\/(s.L.length = 0/\st.cont r = none/\(s'.box r).isSome = (s.box r).isSome/\∀ c,s'.box r = some c->isLoop c = false)
 bn:∀ r,r ∉ st'.Wb->(st.cont r).isSome = true->(st'.cont r).isSome = true
 len:s'.L.length = s.L.length
 elen:s'.E.length = s.E.length
theorem Fr2.refl (st:TSt) (s:St):Fr2 st st s s:=⟨λ_ h=>h,λ_ h=>h,λ_ _=>.inl rfl,λ_ _ rs h=>⟨rs,h⟩,λ_ _=>.inl rfl,λ_ _ h=>h,rfl,rfl⟩
theorem Fr2.trans {a b c:TSt} {s t u:St} (h:Fr2 a b s t) (h':Fr2 b c t u):Fr2 a c s u where
 wt:=λx hx=>h'.wt x (h.wt x hx)
 wb:=λx hx=>h'.wb x (h.wb x hx)
 e:=λx hx=>by
  have hx1:x ∉ b.Wt:=λhh=>hx (h'.wt x hh);rcases h'.e x hx with h1 | ⟨⟨rs,h1⟩,h2⟩
  ·rw [h1]; exact h.e x hx1
  ·exact .inr ⟨h.an x hx1 rs h1,h2⟩
 an:=λx hx rs hr=>by
  obtain ⟨rs',h1⟩:=h'.an x hx rs hr;exact h.an x (λhh=>hx (h'.wt x hh)) rs' h1
 b:=λx hx=>by
  have hx1:x ∉ b.Wb:=λhh=>hx (h'.wb x hh);rcases h'.b x hx with h1 | ⟨h0,h1,h2,h3⟩
  ·rw [h1]; exact h.b x hx1
  ·right
   have hn:a.cont x = none:=by
    cases hb:a.cont x with
    | none=>rfl
    | some c=>have:=h.bn x hx1 (by rw [hb]; rfl); rw [h1] at this; cases this
   refine ⟨by rw [<- h.len]; exact h0,hn,?_,h3⟩;rcases h.b x hx1 with h4 | ⟨_,_,h4,_⟩
   ·rw [h2,h4]
   ·rw [h2,h4]
 bn:=λx hx hs=>h'.bn x hx (h.bn x (λhh=>hx (h'.wb x hh)) hs)
 len:=by rw [h'.len,h.len]
 elen:=by rw [h'.elen,h.elen]
theorem rvl_of_get:∀ {l:List TV} {l':List V},l'.length = l.length->(∀ (i:Nat) x v,l[i]? = some x->l'[i]? = some v->RV x v)->RVL l l'
 | [],l',hl,_=>by simp at hl; simp [hl,RVL]
 | x :: l,[],hl,_=>by simp at hl
 | x :: l,v :: m,hl,h=>rvl_cons.2 ⟨h 0 x v rfl rfl,rvl_of_get (by simpa using hl) λi y u h1 h2=>h (i + 1) y u (by simpa using h1) (by simpa using h2)⟩
theorem set_get {α:Type} (E:List α) (t i:Nat) (a:α):(E.set t a)[i]? = if t = i then (E[i]?).map (λ_=>a) else E[i]?:=by
 rw [List.getElem?_set];by_cases e:t = i
 ·subst e;rw [if_pos rfl,if_pos rfl];by_cases hlt:t < E.length
  ·simp [hlt]
  ·simp [hlt]
 ·rw [if_neg e,if_neg e]
theorem foldl_set_get {α:Type} (a:α):∀ (D:List Tmp) (E:List α) (i:Nat),(D.foldl (λE t=>E.set t a) E)[i]? = if i ∈ D then (E[i]?).map (λ_=>a) else E[i]?
 | [],E,i=>by simp
 | t :: D,E,i=>by
  simp only [List.foldl_cons];rw [foldl_set_get a D,set_get];by_cases h:i ∈ D
  ·rw [if_pos h,if_pos (List.mem_cons_of_mem _ h)];split
   ·cases E[i]? <;> rfl
   ·rfl
  ·rw [if_neg h];by_cases e:t = i
   ·subst e;rw [if_pos rfl,if_pos List.mem_cons_self]
   ·rw [if_neg e,if_neg (by simp [h,Ne.symm e])]
theorem foldl_set_length {α:Type} (a:α):∀ (D:List Tmp) (E:List α),(D.foldl (λE t=>E.set t a) E).length = E.length
 | [],E=>rfl
 | t :: D,E=>by simp only [List.foldl_cons]; rw [foldl_set_length a D]; simp
def gone (rs:List Root):Option (Option (List TV))->Option (Option (List TV))
 | some (some cs)=>some (some (cs.map λ_=>.any rs))
 | _=>some none
theorem gone_gone (rs:List Root) (o:Option (Option (List TV))):gone rs (gone rs o) = gone rs o:=by
 cases o with
 | none=>rfl
 | some o=>cases o with
  | none=>rfl
  | some cs=>simp [gone]
theorem lookT_anyB (rs:List Root) (b:TLevel) (s s':Nat):lookT (anyB rs b s) s' = if s' = s then gone rs (lookT b s) else lookT b s':=by
 unfold anyB;split
 ·rename_i h;by_cases e:s' = s
  ·subst e; simp [lookT,h,gone]
  ·simp [lookT,e,Ne.symm e]
 ·rename_i h;by_cases e:s' = s
  ·subst e; simp [h,gone]
  ·simp [e]
 ·rename_i cs h;rw [lookT_setT];by_cases e:s' = s
  ·subst e; simp [h,gone]
  ·simp [e]
theorem lookM_forget (st:TSt) (rs:List Root) (r:Root) (l s:Nat):lookM (st.forget rs r).all l s = if l = r.lvl/\s = r.slot/\l < st.all.length then gone rs (lookM st.all l s) else lookM st.all l s:=by
 rw [forget_all,lookM_modify];by_cases e:l = r.lvl
 ·subst e;rw [if_pos rfl];unfold lookM;cases h:st.all[r.lvl]? with
  | none =>
   have:¬ r.lvl < st.all.length:=by rw [List.getElem?_eq_none_iff] at h; omega
   rw [if_neg (λhh=>this hh.2.2)]
  | some b =>
   have hlt:=(List.getElem?_eq_some_iff.1 h).1;simp only
   rw [lookT_anyB];by_cases e2:s = r.slot
   ·subst e2; simp [hlt]
   ·simp [e2]
 ·rw [if_neg e,if_neg (by simp [e])]
theorem forget_len (st:TSt) (rs:List Root) (r:Root):(st.forget rs r).all.length = st.all.length:=by rw [forget_all]; simp
theorem forget_E (st:TSt) (rs:List Root) (r:Root):(st.forget rs r).E = st.E:=by unfold TSt.forget; split <;> rfl
theorem lookM_forgets (rs:List Root) (l s:Nat):∀ (wr:List Root) (st:TSt),lookM (wr.foldl (λst r=>st.forget rs r) st).all l s = if (⟨l,s⟩:Root) ∈ wr/\l < st.all.length then gone rs (lookM st.all l s) else lookM st.all l s
 | [],st=>by simp
 | r :: wr,st=>by
  simp only [List.foldl_cons];rw [lookM_forgets rs l s wr,forget_len,lookM_forget];by_cases h1:l = r.lvl/\s = r.slot/\l < st.all.length
  ·rw [if_pos h1];have hr:(⟨l,s⟩:Root) = r:=by obtain ⟨e1,e2,_⟩:=h1; cases r; simp_all
   rw [gone_gone,if_pos (⟨by simp [hr],h1.2.2⟩:(⟨l,s⟩:Root) ∈ r :: wr/\l < st.all.length)];split <;> rfl
  ·rw [if_neg h1];by_cases h2:(⟨l,s⟩:Root) ∈ wr/\l < st.all.length
   ·rw [if_pos h2,if_pos ⟨by simp [h2.1],h2.2⟩]
   ·rw [if_neg h2,if_neg];rintro ⟨h3,h4⟩;rcases List.mem_cons.1 h3 with h3 | h3
    ·exact h1 ⟨by rw [<- h3],by rw [<- h3],h4⟩
    ·exact h2 ⟨h3,h4⟩
theorem forgets_E (rs:List Root):∀ (wr:List Root) (st:TSt),(wr.foldl (λst r=>st.forget rs r) st).E = st.E
 | [],st=>rfl
 | r :: wr,st=>by simp only [List.foldl_cons]; rw [forgets_E rs wr,forget_E]
theorem forgets_len (rs:List Root):∀ (wr:List Root) (st:TSt),(wr.foldl (λst r=>st.forget rs r) st).all.length = st.all.length
 | [],st=>rfl
 | r :: wr,st=>by simp only [List.foldl_cons]; rw [forgets_len rs wr,forget_len]
def vget (s:St) (p:Place):Option V:=match p.lvl with
 | none=>s.E[p.slot]?
 | some l=>(s.box ⟨l,p.slot⟩).bind (·[p.cell]?)
theorem rvl_set_same {l:List TV} {l':List V} (h:RVL l l') (i:Nat) {x:TV} (hx:∀ u,l'[i]? = some u->RV x u):RVL (l.set i x) l':=by
 refine rvl_of_get (by simp [h.length]) λk y v hy hv=>?_;rw [List.getElem?_set] at hy;split at hy
 ·rename_i e; subst e;split at hy
  ·cases hy; exact hx v hv
  ·cases hy
 ·obtain ⟨u,hu,hr⟩:=h.get hy;rw [hv] at hu; cases hu; exact hr
theorem Rst.setPlace {st:TSt} {s:St} (h:Rst st s) {p:Place} {v:TV} (hv:∀ u,vget s p = some u->RV v u):Rst (st.setPlace p v) s:=by
 unfold TSt.setPlace;cases hl:p.lvl with
 | none=>exact ⟨by rw [toL_set]; exact rvl_set_same h.E _ λu hu=>hv u (by unfold vget; rw [hl]; exact hu),h.M⟩
 | some l =>
  simp only
  cases hb:st.box ⟨l,p.slot⟩ with
  | none=>exact h
  | some cs =>
   simp only
   obtain ⟨c',hc',hr⟩:=h.box hb;have hset:RVL (cs.set p.cell v) c':=rvl_set_same hr _ λu hu=>hv u (by unfold vget; rw [hl]; simp only; rw [hc']; exact hu);refine ⟨?_,?_⟩
   ·have:({ st.setBox ⟨l,p.slot⟩ (cs.set p.cell v) with Wb:=st.Wb }:TSt).E = st.E:=by simp only [TSt.setBox]; split <;> rfl
    rw [this]; exact h.E
   ·have e1:({ st.setBox ⟨l,p.slot⟩ (cs.set p.cell v) with Wb:=st.Wb }:TSt).all = (st.setBox ⟨l,p.slot⟩ (cs.set p.cell v)).all:=rfl;rw [e1,tsetBox_all];refine ⟨by rw [h.M.len]; simp,λl2 s2=>?_,h.M.nd,h.M.mp⟩;rw [lookM_modify];have hlook:=box_some hb;simp only at hlook ⊢;by_cases e:l2 = l
    ·subst e;rw [if_pos rfl];have key:=h.M.rel l2 s2;unfold lookM at key hlook;cases h1:st.all[l2]? with
     | none=>rw [h1] at hlook; cases hlook
     | some b =>
      rw [h1] at key hlook;simp only at key hlook ⊢;rw [lookT_setT];by_cases e2:s2 = p.slot
      ·subst e2;rw [if_pos rfl,hlook];rw [look_box] at hc';exact ⟨c',hc',hset.rc⟩
      ·rw [if_neg e2]; exact key
    ·rw [if_neg e]; exact h.M.rel l2 s2
theorem setPlaces_ok {s:St}:∀ (ps:List Place) (vs:List TV) (st:TSt),Rst st s->(∀ p v,(p,v) ∈ ps.zip vs->∀ u,vget s p = some u->RV v u)->Rst (setPlaces st ps vs) s
 | [],vs,st,h,_=>by cases vs <;> exact h
 | p :: ps,[],st,h,_=>h
 | p :: ps,v :: vs,st,h,hv=>setPlaces_ok ps vs _ (h.setPlace (hv p v (by simp))) λq w hq=>hv q w (by simp [hq])
theorem asTy_any:∀ (τ:Ty) (o:Nat) (rs:List Root),asTy τ o (.any rs) = none
 | .int _,_,_ | .bool,_,_ | .str,_,_ | .flt,_,_ | .cx,_,_ | .err,_,_ | .mset _,_,_ | .sl _,_,_ | .unit,_,_ | .pair ..,_,_=>rfl
theorem Rst.get {st:TSt} {s:St} (h:Rst st s) {p:Place} (hp:∀ rs,st.get p ≠ .any rs) {u:V} (hu:vget s p = some u):RV (st.get p) u:=by
 unfold TSt.get at hp ⊢;unfold vget at hu;cases hl:p.lvl with
 | none =>
  rw [hl] at hu hp;simp only at hu hp ⊢;have:=h.E.getD p.slot;rw [<- get_getD,List.getD_eq_getElem?_getD,hu] at this;exact this
 | some l =>
  rw [hl] at hu hp;simp only at hu hp ⊢;cases hb:st.box ⟨l,p.slot⟩ with
  | none=>rw [hb] at hp; exact absurd rfl (hp [])
  | some cs =>
   obtain ⟨c',hc',hr⟩:=h.box hb;rw [hc'] at hu;simp only [Option.bind_some] at hu;have:=hr.getD p.cell;rw [List.getD_eq_getElem?_getD,List.getD_eq_getElem?_getD,hu] at this;simp only
   rw [List.getD_eq_getElem?_getD];exact this
theorem collect_ok {st:TSt} {s:St} (h:Rst st s):∀ (ps:List (Ty × Nat)) (lv:List Place) (x:denL (ps.map (·.1))),asL ps (lv.map st.get) = some x ->
  ∀ p v,(p,v) ∈ lv.zip (ofL ps x)->∀ u,vget s p = some u->RV v u/\u.ptrs = []/\isLoop [u] = false
 | [],lv,x,hx,p,v,hm,u,hu=>by simp [ofL] at hm
 | [(τ,o)],lv,x,hx,p,v,hm,u,hu=>by
  match lv,hx,hm with
  | [q],hx,hm =>
   simp only [List.map_cons,List.map_nil,asL] at hx;simp only [ofL,List.zip_cons_cons,List.zip_nil_right,List.mem_singleton,Prod.mk.injEq] at hm;obtain ⟨rfl,rfl⟩:=hm;have hg:=h.get (p:=p) (λrs e=>by rw [e,asTy_any] at hx; cases hx) hu;have hr:=asTy_ok _ _ _ _ _ hx hg;have hrv:=rv_ofTy _ _ _ _ hr;exact ⟨hrv,rty_ptrs _ _ _ _ hr,rvl_notLoop (rvl_cons.2 ⟨hrv,rvl_nil⟩)⟩
  | [],hx,hm=>simp [asL] at hx
  | _ :: _ :: _,hx,hm=>simp [asL] at hx
 | (τ,o) :: q' :: ps,lv,x,hx,p,v,hm,u,hu=>by
  match lv,hx,hm with
  | [],hx,hm=>simp [asL] at hx
  | q :: lv,hx,hm =>
   simp only [List.map_cons,asL] at hx;obtain ⟨y,hy,hx⟩:=Option.bind_eq_some_iff.1 hx;obtain ⟨z,hz,hx⟩:=Option.bind_eq_some_iff.1 hx;simp only [Option.some.injEq] at hx;subst hx;simp only [ofL,List.zip_cons_cons,List.mem_cons,Prod.mk.injEq] at hm;rcases hm with ⟨rfl,rfl⟩ | hm
   ·have hg:=h.get (p:=p) (λrs e=>by rw [e,asTy_any] at hy; cases hy) hu;have hr:=asTy_ok _ _ _ _ _ hy hg;have hrv:=rv_ofTy _ _ _ _ hr;exact ⟨hrv,rty_ptrs _ _ _ _ hr,rvl_notLoop (rvl_cons.2 ⟨hrv,rvl_nil⟩)⟩
   ·exact collect_ok h (q' :: ps) lv z (by simpa using hz) p v hm u hu
theorem asL_length:∀ (ps:List (Ty × Nat)) (l:List TV) (x:denL (ps.map (·.1))),asL ps l = some x->(ofL ps x).length = l.length
 | [],l,x,h=>by cases l with
  | nil=>rfl
  | cons=>simp [asL] at h
 | [(τ,o)],l,x,h=>by
  match l,h with
  | [v],h=>rfl
  | [],h=>simp [asL] at h
  | _ :: _ :: _,h=>simp [asL] at h
 | (τ,o) :: q :: ps,l,x,h=>by
  match l,h with
  | [],h=>simp [asL] at h
  | v :: l,h =>
   simp only [asL] at h;obtain ⟨y,hy,h⟩:=Option.bind_eq_some_iff.1 h;obtain ⟨z,hz,h⟩:=Option.bind_eq_some_iff.1 h;simp only [Option.some.injEq] at h;subst h;simp [ofL,asL_length (q :: ps) l z hz]
theorem isIn_mem {lv:List Place} {l:Option Nat} {s c:Nat} (h:Place.isIn lv l s c = true):(⟨l,s,c⟩:Place) ∈ lv:=by
 unfold Place.isIn at h;rw [List.any_eq_true] at h;obtain ⟨p,hp,h⟩:=h;simp only [Bool.and_eq_true,decide_eq_true_eq] at h;obtain ⟨⟨rfl,rfl⟩,rfl⟩:=h;exact hp
theorem isIn_some {lv:List Place} {vs:List TV} (hl:vs.length = lv.length) {p:Place} (h:p ∈ lv):∃ v,(p,v) ∈ lv.zip vs:=by
 obtain ⟨i,hi⟩:=List.mem_iff_getElem?.1 h;have hlt:=(List.getElem?_eq_some_iff.1 hi).1;refine ⟨vs[i]'(by omega),List.mem_iff_getElem?.2 ⟨i,?_⟩⟩;rw [List.getElem?_zip_eq_some];exact ⟨hi,List.getElem?_eq_getElem _⟩
theorem subset_mem {l m:List Root} (h:Go.Tx.subset l m = true):∀ r ∈ l,r ∈ m:=λr hr=>by
 unfold Go.Tx.subset at h;rw [List.all_eq_true] at h;simpa using h r hr
theorem isPtrT_eq:∀ {v:TV} {r:Root} {o:Nat},isPtrT v r o = true->v = .ptr r o
 | .ptr r o,r',o',h=>by
  simp only [isPtrT,Bool.and_eq_true,decide_eq_true_eq] at h;rw [h.1,h.2]
theorem putPs_ok {s:St}:∀ (l:List (Tmp × Root × Nat)) {st:TSt},Rst st s->(∀ p ∈ l,s.E[p.1]? = some (.ptr p.2.1 p.2.2))->Rst (putPs st l) s
 | [],_,h,_=>h
 | p :: l,st,h,hl=>by
  refine putPs_ok l ⟨?_,h.M⟩ λq hq=>hl q (List.mem_cons_of_mem _ hq);show RVL (st.E.set p.1 (.ptr p.2.1 p.2.2)).toL s.E;rw [toL_set];have h1:=hl p List.mem_cons_self;have h2:=RVL.set p.1 h.E (x:=.ptr p.2.1 p.2.2) (v:=.ptr p.2.1 p.2.2) (by simp only [RV]);have h3:s.E.set p.1 (.ptr p.2.1 p.2.2) = s.E:=by
   apply List.ext_getElem?;intro i;rw [List.getElem?_set];by_cases e:p.1 = i
   ·rw [if_pos e,<- e,if_pos (List.getElem?_eq_some_iff.1 h1).1,h1]
   ·rw [if_neg e]
  rwa [h3] at h2
theorem putPs_logs:∀ (l:List (Tmp × Root × Nat)) (st:TSt),(putPs st l).Wt = st.Wt/\(putPs st l).Wb = st.Wb/\(putPs st l).L = st.L/\(putPs st l).B = st.B
 | [],_=>⟨rfl,rfl,rfl,rfl⟩
 | p :: l,st=>putPs_logs l { st with E:=st.E.set p.1 (.ptr p.2.1 p.2.2) }
theorem putPs_E:∀ (l:List (Tmp × Root × Nat)) (st:TSt) (t:Nat) (rs:List Root),(putPs st l).E.toL[t]? = some (.any rs)->st.E.toL[t]? = some (.any rs)
 | [],_,_,_,h=>h
 | p :: l,st,t,rs,h=>by
  have:=putPs_E l _ t rs h;simp only at this;rw [toL_set,List.getElem?_set] at this;split at this
  ·split at this
   ·cases this
   ·cases this
  ·exact this
theorem keeps_ok {st:TSt} {s:St} (h:Rst st s) {j:Join} (hk:st.keeps j = true):∀ p ∈ j.kp,s.E[p.1]? = some (.ptr p.2.1 p.2.2):=by
 intro p hp;unfold TSt.keeps at hk;rw [List.all_eq_true] at hk;have h1:=isPtrT_eq (hk p hp);obtain ⟨v,hv,hr⟩:=h.E.get (some_get h1 (by simp));simp only [RV] at hr;rw [hv,hr]
theorem rebuild0_ok {st st2:TSt} {s s':St} {j:Join} {x:denL (j.ps.map (·.1))} (h:Rst st s) (h2:Rst st2 s') (hf:Fr2 st.fresh st2 s s') (ho:st2.outs st j = some x):Rst (st.rebuild0 j (ofL j.ps x)) s':=by
 unfold TSt.outs at ho;split at ho
 ·rename_i hc;simp only [Bool.and_eq_true] at hc;obtain ⟨⟨hfor,hwr⟩,hlike⟩:=hc;have hcol:=collect_ok h2 j.ps j.lv x ho;have hlen:(ofL j.ps x).length = j.lv.length:=by rw [asL_length _ _ _ ho]; simp
  unfold TSt.forgets at hfor;simp only [Bool.and_eq_true,List.all_eq_true] at hfor;obtain ⟨⟨hD0,hW⟩,_⟩:=hfor;have hD:∀ t ∈ j.D,∀ x,st2.E.toL[t]? = some x->(Place.isIn j.lv none t 0 || Go.Tx.subset x.ptrs (j.rsAt t)) = true:=λt ht x hx=>by
   have:=all_get hD0 (λi=>by cases j.D.has i <;> simp [TV.ptrs,Go.Tx.subset]) hx;rw [Mask.mem_iff] at ht;rw [ht] at this;exact this
  unfold TSt.wrote at hwr;simp only [Bool.and_eq_true,List.all_eq_true] at hwr;obtain ⟨hwt0,hwb⟩:=hwr;have hwt:∀ t ∈ st2.Wt,t ∈ j.D:=λt ht=>Mask.sub_mem hwt0 ht;unfold TSt.like at hlike;rw [List.all_eq_true] at hlike;unfold TSt.rebuild0;refine setPlaces_ok _ _ _ ⟨?_,?_⟩ λp v hm u hu=>(hcol p v hm u hu).1
  ·-- temporaries
   show RVL (j.wr.foldl (λ(st:TSt) r=>st.forget j.rb r) { st with E:=forgetM j.D j.rsAt st.E }).E.toL s'.E;rw [forgets_E];refine rvl_of_get ?_ λi y v hy hv=>?_
   ·simp only; rw [forgetM_len,hf.elen,h.E.length]
   ·simp only at hy;rw [forgetM_get] at hy;split at hy
    ·rename_i hi;obtain ⟨z,hz,rfl⟩:=Option.map_eq_some_iff.1 hy;obtain ⟨x2,hx2⟩:∃ x2,st2.E.toL[i]? = some x2:=by
      have hlt:=(List.getElem?_eq_some_iff.1 hv).1;have:=h2.E.length;exact ⟨_,List.getElem?_eq_getElem (by omega)⟩
     have hi':=hD i hi x2 hx2;simp only [Bool.or_eq_true] at hi';simp only [RV];rcases hi' with hi' | hi'
     ·obtain ⟨w,hw⟩:=isIn_some hlen (isIn_mem hi');obtain ⟨_,hp,hlp⟩:=hcol _ w hw v (by unfold vget; exact hv);exact ⟨by rw [hp]; simp,hlp⟩
     ·obtain ⟨v2,hv2,hg⟩:=h2.E.get hx2;rw [hv] at hv2; cases hv2;refine ⟨λr hr=>subset_mem hi' r (RV.ptrs _ _ hg r hr),rvl_notLoop (rvl_cons.2 ⟨hg,rvl_nil⟩)⟩
    ·rename_i hi;have:i ∉ st2.Wt:=λhh=>hi (hwt i hh);obtain ⟨u,hu,hr⟩:=h.E.get hy;rcases hf.e i this with he | ⟨⟨rs,he1⟩,he2⟩
     ·rw [hv] at he;rw [<- he] at hu; cases hu; exact hr
     ·rw [he2] at hv; cases hv;have he1:st.E.toL[i]? = some (.any rs):=he1;rw [hy] at he1; cases he1;exact rv_undef rs
  ·-- boxes
   show LR (j.wr.foldl (λ(st:TSt) r=>st.forget j.rb r) { st with E:=forgetM j.D j.rsAt st.E }).all (allV s');refine ⟨?_,λl sl=>?_,h2.M.nd,h2.M.mp⟩
   ·rw [forgets_len];have:=hf.len;have:=h.M.len;simp [TSt.all,allV] at this ⊢;omega
   ·rw [lookM_forgets];have hall:({ st with E:=forgetM j.D j.rsAt st.E }:TSt).all = st.all:=rfl;rw [hall];split
    ·rename_i hm;have hbx:=look_box (s:=s') ⟨l,sl⟩;simp only at hbx;have key2:=h2.M.rel l sl;have hnl:∀ c,lookV (allV s') l sl = some c->isLoop c = false:=λc hc=>by
      cases hk:lookM st2.all l sl with
      | none=>rw [hk] at key2; simp only [RB] at key2; rw [key2] at hc; cases hc
      | some o =>
       rw [hk] at key2;cases o with
       | none=>exact key2 c hc
       | some d =>
        obtain ⟨d',hd',hr⟩:=key2;rw [hd'] at hc; cases hc;have hw:=hW _ hm.1;rw [tlook_cont] at hw;simp only [hk,Bool.and_eq_true,Bool.not_eq_true'] at hw;exact rvl_notLoop (hr.rvl hw.1)
     cases hk:lookM st.all l sl with
     | none=>exact hnl
     | some o =>
      cases o with
      | none=>exact hnl
      | some cs =>
       have hb:st.cont ⟨l,sl⟩ = some cs:=by rw [tlook_cont]; simp only; rw [hk]
       have hli:=hlike _ hm.1;rw [hb] at hli;simp only at hli;split at hli
       ·rename_i cs2 hb2;simp only [decide_eq_true_eq] at hli;have hw:=hW _ hm.1;rw [hb2] at hw;simp only [Bool.and_eq_true,Bool.not_eq_true',List.all_eq_true] at hw;obtain ⟨c',hc',hr⟩:=h2.box (cont_box hb2 hw.1);rw [hbx] at hc';refine ⟨c',hc',RVL.rc ?_⟩;refine rvl_of_get (by simp [hr.length,hli]) λi y v hy hv=>?_;rw [List.getElem?_map] at hy;obtain ⟨z,hz,rfl⟩:=Option.map_eq_some_iff.1 hy;have hi:i < cs2.length:=by have:=(List.getElem?_eq_some_iff.1 hz).1; omega
        have hw':=hw.2 i (by simpa using hi);simp only [Bool.or_eq_true] at hw';simp only [RV];rcases hw' with hw' | hw'
        ·obtain ⟨w,hww⟩:=isIn_some hlen (isIn_mem hw');obtain ⟨_,hp,hlp⟩:=hcol _ w hww v (by unfold vget; simp only; rw [hbx,hc']; exact hv);exact ⟨by rw [hp]; simp,hlp⟩
        ·have hg:=hr.getD i;rw [List.getD_eq_getElem?_getD (l:=c'),hv] at hg;exact ⟨λr hrr=>subset_mem hw' r (RV.ptrs _ _ hg r hrr),rvl_notLoop (rvl_cons.2 ⟨hg,rvl_nil⟩)⟩
       ·cases hli
    ·rename_i hm;have key:=h.M.rel l sl;by_cases hlt:l < st.all.length
     ·have hnr:(⟨l,sl⟩:Root) ∉ st2.Wb:=λhh=>by
       have:=hwb _ hh;simp only [Bool.or_eq_true,decide_eq_true_eq] at this;rcases this with h3 | h3
       ·exact hm ⟨by simpa using h3,hlt⟩
       ·have h4:=h2.len;have h5:=hf.len;have h6:=h.len;simp [TSt.all] at hlt;omega
      rcases hf.b _ hnr with hb | ⟨_,hb0,hb1,hb2⟩
      ·rw [look_box,look_box] at hb;simp only at hb;rw [hb]; exact key
      ·rw [look_box,look_box] at hb1;rw [look_box] at hb2;simp only at hb1 hb2;have hb0:st.cont ⟨l,sl⟩ = none:=hb0;rw [tlook_cont] at hb0;simp only at hb0;cases hk:lookM st.all l sl with
       | none =>
        rw [hk] at key;simp only [RB] at key ⊢;rw [key] at hb1;simpa using hb1
       | some o =>
        cases o with
        | none=>exact hb2
        | some c=>rw [hk] at hb0; cases hb0
     ·have h1:lookM st.all l sl = none:=by
       unfold lookM;rw [List.getElem?_eq_none (by omega)]
      have h3:lookV (allV s') l sl = none:=by
       unfold lookV;have hl:=hf.len;have hl2:=h.len;rw [List.getElem?_eq_none];simp [TSt.all,allV] at hlt ⊢;omega
      rw [h1,h3]; rfl
 ·cases ho
theorem rebuild_ok {st st2:TSt} {s s':St} {j:Join} {x:denL (j.ps.map (·.1))} (h:Rst st s) (h2:Rst st2 s') (hf:Fr2 st.fresh st2 s s') (ho:st2.outs st j = some x):Rst (st.rebuild j (ofL j.ps x)) s':=by
 refine putPs_ok _ (rebuild0_ok h h2 hf ho) (keeps_ok h2 ?_);unfold TSt.outs at ho;split at ho
 ·rename_i hc;simp only [Bool.and_eq_true] at hc;have:=hc.1.1;unfold TSt.forgets at this;simp only [Bool.and_eq_true] at this;exact this.2
 ·cases ho
theorem lookT_clear (D:List Tmp) (b:TLevel) (s:Nat):lookT (clearTB D b) s = if D.contains s then none else lookT b s:=by
 induction b with
 | nil=>simp [clearTB,lookT]
 | cons p b ih =>
  obtain ⟨k,c⟩:=p;simp only [clearTB];by_cases h:D.contains k = true
  ·rw [if_pos h,ih];by_cases e:k = s
   ·subst e; rw [if_pos h,if_pos h]
   ·simp only [lookT,if_neg e]
  ·rw [if_neg h];by_cases e:k = s
   ·subst e; simp only [lookT,if_true]; rw [if_neg h]
   ·simp only [lookT,if_neg e,ih]
theorem lookB_clear (D:List Tmp) (b:Level) (s:Nat):lookB (clearB D b) s = if D.contains s then none else lookB b s:=by
 induction b with
 | nil=>simp [clearB,lookB]
 | cons p b ih =>
  obtain ⟨k,c⟩:=p;simp only [clearB];by_cases h:D.contains k = true
  ·rw [if_pos h,ih];by_cases e:k = s
   ·subst e; rw [if_pos h,if_pos h]
   ·simp only [lookB,if_neg e]
  ·rw [if_neg h];by_cases e:k = s
   ·subst e; simp only [lookB,if_true]; rw [if_neg h]
   ·simp only [lookB,if_neg e,ih]
theorem lookB_mem {b:Level} (hn:(b.map (·.1)).Nodup) {k:Nat} {c:List V} (h:(k,c) ∈ b):lookB b k = some c:=by
 induction b with
 | nil=>cases h
 | cons p b ih =>
  obtain ⟨k',c'⟩:=p;simp only [List.map_cons,List.nodup_cons] at hn;rcases List.mem_cons.1 h with h | h
  ·cases h; simp [lookB]
  ·have:k' ≠ k:=λe=>hn.1 (List.mem_map.2 ⟨_,h,e.symm⟩);simp only [lookB,if_neg this];exact ih hn.2 h
theorem lookT_mem {b:TLevel} {k:Nat} {c:Option (List TV)} (h:lookT b k = some c):(k,c) ∈ b:=by
 induction b with
 | nil=>cases h
 | cons p b ih =>
  obtain ⟨k',c'⟩:=p;simp only [lookT] at h;split at h
  ·rename_i e; cases h; subst e; simp
  ·exact List.mem_cons.2 (.inr (ih h))
theorem ptrsB_mem {b:Level} {r:Root} (h:r ∈ ptrsB b):∃ k c,(k,c) ∈ b/\r ∈ ptrsL c:=by
 induction b with
 | nil=>simp [ptrsB] at h
 | cons p b ih =>
  obtain ⟨k,c⟩:=p;simp only [ptrsB,List.mem_append] at h;rcases h with h | h
  ·exact ⟨k,c,by simp,h⟩
  ·obtain ⟨k',c',h1,h2⟩:=ih h; exact ⟨k',c',by simp [h1],h2⟩
theorem mem_ptrsTB {b:TLevel} {k:Nat} {c:List TV} (h:(k,some c) ∈ b) {r:Root} (hr:r ∈ ptrsTL c):r ∈ ptrsTB b:=by
 induction b with
 | nil=>cases h
 | cons p b ih =>
  obtain ⟨k',c'⟩:=p;rcases List.mem_cons.1 h with h | h'
  ·cases h; simp [ptrsTB,hr]
  ·cases c' with
   | none=>simp only [ptrsTB]; exact ih h'
   | some d=>simp only [ptrsTB,List.mem_append]; exact .inr (ih h')
theorem full_mem {b:TLevel} (hf:fullB b = true) {k:Nat} {c:Option (List TV)} (h:(k,c) ∈ b):∃ d,c = some d:=by
 induction b with
 | nil=>cases h
 | cons p b ih =>
  obtain ⟨k',c'⟩:=p;simp only [fullB,Bool.and_eq_true] at hf;rcases List.mem_cons.1 h with h | h
  ·cases h; exact Option.isSome_iff_exists.1 hf.1
  ·exact ih hf.2 h
theorem clearTB_len {D:List Tmp} {b:TLevel} (h:(clearTB D b).length = b.length):∀ k c,(k,c) ∈ b->D.contains k = false:=by
 induction b with
 | nil=>simp
 | cons p b ih =>
  obtain ⟨k',c'⟩:=p;have hle:∀ b:TLevel,(clearTB D b).length<=b.length:=λb=>by
   induction b with
   | nil=>simp [clearTB]
   | cons p b ih=>obtain ⟨k,c⟩:=p; simp only [clearTB]; split <;> simp <;> omega
  simp only [clearTB] at h;intro k c hk;split at h
  ·have:=hle b; simp at h; omega
  ·rename_i hn;rcases List.mem_cons.1 hk with hk | hk
   ·cases hk; simpa using hn
   ·exact ih (by simpa using h) k c hk
theorem clearB_same {D:List Tmp} {b:Level} (h:∀ k c,(k,c) ∈ b->D.contains k = false):clearB D b = b:=by
 induction b with
 | nil=>rfl
 | cons p b ih =>
  obtain ⟨k,c⟩:=p;simp only [clearB];rw [if_neg (by rw [h k c (by simp)]; simp),ih λk c hk=>h k c (by simp [hk])]
theorem clearE_get (D:List Tmp) (E:List V) (i:Nat):(clearE D E)[i]? = if i ∈ D then (E[i]?).map (λ_=>.undef) else E[i]?:=foldl_set_get _ D E i
theorem clearTE_get (D:List Tmp) (E:Env) (i:Nat):(clearTE D E).toL[i]? = if i ∈ D then (E.toL[i]?).map (λ_=>.any []) else E.toL[i]?:=by
 unfold clearTE;rw [forgetM_get];by_cases h:i ∈ D
 ·rw [if_pos h,if_pos (Mask.mem_ofList.2 h)]
 ·rw [if_neg h,if_neg (λhh=>h (Mask.mem_ofList.1 hh))]
theorem clearE_rvl (D:List Tmp) {E:Env} {E':List V} (h:RVL E.toL E'):RVL (clearTE D E).toL (clearE D E'):=by
 refine rvl_of_get ?_ λi x v hx hv=>?_
 ·unfold clearTE clearE;rw [forgetM_len,foldl_set_length,h.length]
 ·rw [clearTE_get] at hx;rw [clearE_get] at hv;by_cases hm:i ∈ D
  ·rw [if_pos hm] at hx hv;obtain ⟨_,_,rfl⟩:=Option.map_eq_some_iff.1 hx;obtain ⟨_,_,rfl⟩:=Option.map_eq_some_iff.1 hv;exact rv_undef []
  ·rw [if_neg hm] at hx hv;obtain ⟨u,hu,hr⟩:=h.get hx;rw [hv] at hu; cases hu; exact hr
theorem ptrsL_at:∀ {l:List V} {r:Root},r ∈ ptrsL l->∃ (i:Nat) (v:V),l[i]? = some v/\r ∈ v.ptrs
 | [],r,h=>by simp [ptrsL] at h
 | v :: l,r,h=>by
  simp only [ptrsL,List.mem_append] at h;rcases h with h | h
  ·exact ⟨0,v,rfl,h⟩
  ·obtain ⟨i,u,hu,hr⟩:=ptrsL_at h;exact ⟨i + 1,u,by simpa using hu,hr⟩
theorem gone_mem {D:List Tmp} {n:Nat} {b:TLevel} {k:Nat} {c:Option (List TV)} (h:(k,c) ∈ b) (hk:D.contains k = true):(⟨n,k⟩:Root) ∈ goneB D n b:=by
 induction b with
 | nil=>cases h
 | cons p b ih =>
  obtain ⟨k',c'⟩:=p;simp only [goneB];rcases List.mem_cons.1 h with h | h
  ·cases h; rw [if_pos hk]; simp
  ·split
   ·exact List.mem_cons.2 (.inr (ih h))
   ·exact ih h
theorem clearB_sub (D:List Tmp) (b:Level):(clearB D b).Sublist b:=by
 induction b with
 | nil=>exact .slnil
 | cons p b ih =>
  obtain ⟨k,c⟩:=p;simp only [clearB];split
  ·exact ih.cons _
  ·exact ih.cons_cons _
theorem clear_ok {D:List Tmp} {st st1:TSt} {s:St} (h:Rst st s) (hc:st.clear D = some st1):∃ s1,s.clear D = some s1/\Rst st1 s1/\Fr2 st st1 s s1:=by
 have hlen:=h.len;have hEl:s.E.length = st.E.n:=by rw [h.E.length,toL_len]
 have hin:∀ t,t ∈ inE st D ↔ t ∈ D/\t < st.E.n:=λt=>by simp [inE]
 have hEq:clearE (inE st D) s.E = clearE D s.E:=by
  apply List.ext_getElem?;intro i;rw [clearE_get,clearE_get];by_cases h1:i ∈ D
  ·rw [if_pos h1];by_cases h2:i < st.E.n
   ·rw [if_pos ((hin i).2 ⟨h1,h2⟩)]
   ·rw [if_neg (λh3=>h2 ((hin i).1 h3).2),List.getElem?_eq_none (by omega)]; rfl
  ·rw [if_neg h1,if_neg (λh3=>h1 ((hin i).1 h3).1)]
 have hE:=clearE_rvl (inE st D) h.E;rw [hEq] at hE;have hlastM:st.all[st.L.length]? = some st.B:=by simp [TSt.all]
 have hlastV:(allV s)[st.L.length]? = some s.B:=by rw [<- hlen]; simp [allV]
 have hB:∀ k,RB (lookT st.B k) (lookB s.B k):=λk=>by
  have:=h.M.rel st.L.length k;unfold lookM lookV at this;rw [hlastM,hlastV] at this;exact this
 have hnd:(s.B.map (·.1)).Nodup:=h.M.nd s.B (by simp [allV]);unfold TSt.clear at hc;simp only at hc;split at hc
 ·rename_i hcond;cases hc;have hv:s.clear D = some { s with E:=clearE D s.E,B:=clearB D s.B }:=by
   unfold St.clear;simp only
   rw [if_pos];simp only [Bool.or_eq_true,decide_eq_true_eq,Bool.and_eq_true] at hcond;rcases hcond with hl | ⟨⟨h1,h2⟩,h3⟩
   ·left
    rw [clearB_same];intro k c hk;have hlk:=lookB_mem hnd hk;have hb:=hB k;cases ht:lookT st.B k with
    | none=>rw [ht] at hb; simp only [RB] at hb; rw [hb] at hlk; cases hlk
    | some o=>exact clearTB_len hl k o (lookT_mem ht)
   ·right
    unfold okPtrs at h2 ⊢;rw [List.all_eq_true] at h2;simp only [Bool.and_eq_true,List.all_eq_true];refine ⟨λr hr=>?_,λr hr=>?_⟩
    ·rw [hlen];obtain ⟨i,v,hv,hrv⟩:=ptrsL_at hr;obtain ⟨x,hx⟩:∃ x,(clearTE (inE st D) st.E).toL[i]? = some x:=by
      have hlt:=(List.getElem?_eq_some_iff.1 hv).1;have:=hE.length;exact ⟨_,List.getElem?_eq_getElem (by omega)⟩
     obtain ⟨v2,hv2,hrx⟩:=hE.get hx;rw [hv] at hv2; cases hv2;have h3:=all_get h1 (λi=>by simp [TV.ptrs,okPtrs]) hx;unfold okPtrs at h3;rw [List.all_eq_true] at h3;exact h3 r (RV.ptrs _ _ hrx r hrv)
    ·rw [hlen];obtain ⟨k,c,hk,hrc⟩:=ptrsB_mem hr;have hlk:=lookB_mem (by exact List.Sublist.nodup ((clearB_sub D s.B).map _) hnd) hk;rw [lookB_clear] at hlk;split at hlk
     ·cases hlk
     ·rename_i hkD;have hb:=hB k;cases ht:lookT st.B k with
      | none=>rw [ht] at hb; simp only [RB] at hb; rw [hb] at hlk; cases hlk
      | some o =>
       have ht2:lookT (clearTB D st.B) k = some o:=by rw [lookT_clear,if_neg hkD]; exact ht
       obtain ⟨d,rfl⟩:=full_mem h3 (lookT_mem ht2);rw [ht] at hb;obtain ⟨d',hd',hr'⟩:=hb;rw [hd'] at hlk; cases hlk;exact h2 r (mem_ptrsTB (lookT_mem ht2) (hr'.ptrs r hrc))
  refine ⟨_,hv,⟨hE,?_⟩,?_⟩
  ·refine ⟨by have:=h.M.len; simpa [TSt.all,allV] using this,λl k=>?_,λb hb=>?_,λl k c hc hlt=>?_⟩
   rotate_right
   ·have key:=h.M.mp l k;unfold lookV at key hc;by_cases e:l = st.L.length
    ·subst e;have e2:(allV { s with E:=clearE D s.E,B:=clearB D s.B })[st.L.length]? = some (clearB D s.B):=by rw [<- hlen]; simp [allV]
     rw [e2] at hc;rw [hlastV] at key;simp only at hc key;rw [lookB_clear] at hc;split at hc
     ·cases hc
     ·exact key c hc hlt
    ·have e2:(allV { s with E:=clearE D s.E,B:=clearB D s.B })[l]? = (allV s)[l]?:=by
      simp only [allV];by_cases hlt:l < s.L.length
      ·rw [List.getElem?_append_left hlt,List.getElem?_append_left hlt]
      ·rw [List.getElem?_eq_none (by simp; omega),List.getElem?_eq_none (by simp; omega)]
     rw [e2] at hc;exact key c hc hlt
   ·have key:=h.M.rel l k;unfold lookM lookV at key ⊢;by_cases e:l = st.L.length
    ·subst e;have e1:({ st with E:=clearTE (inE st D) st.E,B:=clearTB D st.B,Wt:=Mask.ofList (inE st D) ++ st.Wt,Wb:=goneB D st.L.length st.B ++ st.Wb }:TSt).all[st.L.length]? = some (clearTB D st.B):=by simp [TSt.all]
     have e2:(allV { s with E:=clearE D s.E,B:=clearB D s.B })[st.L.length]? = some (clearB D s.B):=by rw [<- hlen]; simp [allV]
     rw [e1,e2];simp only
     rw [lookT_clear,lookB_clear];split
     ·rfl
     ·exact hB k
    ·have e1:({ st with E:=clearTE (inE st D) st.E,B:=clearTB D st.B,Wt:=Mask.ofList (inE st D) ++ st.Wt,Wb:=goneB D st.L.length st.B ++ st.Wb }:TSt).all[l]? = st.all[l]?:=by
      simp only [TSt.all];by_cases hlt:l < st.L.length
      ·rw [List.getElem?_append_left hlt,List.getElem?_append_left hlt]
      ·rw [List.getElem?_eq_none (by simp; omega),List.getElem?_eq_none (by simp; omega)]
     have e2:(allV { s with E:=clearE D s.E,B:=clearB D s.B })[l]? = (allV s)[l]?:=by
      simp only [allV];by_cases hlt:l < s.L.length
      ·rw [List.getElem?_append_left hlt,List.getElem?_append_left hlt]
      ·rw [List.getElem?_eq_none (by simp; omega),List.getElem?_eq_none (by simp; omega)]
     rw [e1,e2]; exact key
   ·simp only [allV,List.mem_append,List.mem_singleton] at hb;rcases hb with hb | rfl
    ·exact h.M.nd b (by simp [allV,hb])
    ·exact List.Sublist.nodup ((clearB_sub D s.B).map _) hnd
  ·refine ⟨λt ht=>by simp [ht],λr hr=>by simp [hr],λt ht=>.inl ?_,λt ht rs hE=>⟨rs,?_⟩,λr hr=>.inl ?_,λr hr hsm=>?_,rfl,?_⟩
   ·simp only [Mask.mem_append,Mask.mem_ofList,not_or] at ht;simp only
    rw [clearE_get];by_cases hD:t ∈ D
    ·have hge:¬ t < st.E.n:=λhlt=>ht.1 ((hin t).2 ⟨hD,hlt⟩);rw [if_pos hD,List.getElem?_eq_none (by omega)]; rfl
    ·rw [if_neg hD]
   ·simp only [Mask.mem_append,Mask.mem_ofList,not_or] at ht;rw [clearTE_get,if_neg ht.1] at hE;exact hE
   ·simp only [List.mem_append,not_or] at hr;obtain ⟨l,k⟩:=r;rw [look_box,look_box];simp only
    unfold lookV;by_cases e:l = st.L.length
    ·subst e;have e2:(allV { s with E:=clearE D s.E,B:=clearB D s.B })[st.L.length]? = some (clearB D s.B):=by rw [<- hlen]; simp [allV]
     rw [e2,hlastV];simp only
     rw [lookB_clear];split
     ·rename_i hk;have hb:=hB k;cases ht:lookT st.B k with
      | none=>rw [ht] at hb; simp only [RB] at hb; exact hb.symm
      | some o=>exact absurd (gone_mem (lookT_mem ht) hk) hr.1
     ·rfl
    ·have e2:(allV { s with E:=clearE D s.E,B:=clearB D s.B })[l]? = (allV s)[l]?:=by
      simp only [allV];by_cases hlt:l < s.L.length
      ·rw [List.getElem?_append_left hlt,List.getElem?_append_left hlt]
      ·rw [List.getElem?_eq_none (by simp; omega),List.getElem?_eq_none (by simp; omega)]
     rw [e2]
   ·simp only [List.mem_append,not_or] at hr;obtain ⟨l,k⟩:=r;obtain ⟨c,hc⟩:=Option.isSome_iff_exists.1 hsm;have hlk:=cont_some hc;simp only at hlk;have:lookM ({ st with E:=clearTE (inE st D) st.E,B:=clearTB D st.B,Wt:=Mask.ofList (inE st D) ++ st.Wt,Wb:=goneB D st.L.length st.B ++ st.Wb }:TSt).all l k = some (some c):=by
     unfold lookM at hlk ⊢;by_cases e:l = st.L.length
     ·subst e;rw [hlastM] at hlk;simp only at hlk;have e1:({ st with E:=clearTE (inE st D) st.E,B:=clearTB D st.B,Wt:=Mask.ofList (inE st D) ++ st.Wt,Wb:=goneB D st.L.length st.B ++ st.Wb }:TSt).all[st.L.length]? = some (clearTB D st.B):=by simp [TSt.all]
      rw [e1];simp only
      rw [lookT_clear];split
      ·rename_i hk; exact absurd (gone_mem (lookT_mem hlk) hk) hr.1
      ·exact hlk
     ·have e1:({ st with E:=clearTE (inE st D) st.E,B:=clearTB D st.B,Wt:=Mask.ofList (inE st D) ++ st.Wt,Wb:=goneB D st.L.length st.B ++ st.Wb }:TSt).all[l]? = st.all[l]?:=by
       simp only [TSt.all];by_cases hlt:l < st.L.length
       ·rw [List.getElem?_append_left hlt,List.getElem?_append_left hlt]
       ·rw [List.getElem?_eq_none (by simp; omega),List.getElem?_eq_none (by simp; omega)]
      rw [e1]; exact hlk
    rw [tlook_cont];simp only
    rw [this]; rfl
   ·exact foldl_set_length _ D s.E
 ·cases hc
end Go.Tx
end
section
namespace Go.Tx
open Go Go.Ab
variable {P:Program} {H:Hints} {J:TH} {T:CallT} {O:TOrc} {lib:FuncId->Option (List V->Option V)} {f:FuncId} {ctx:List Tmp}
def Ev (p:Orc->Prop) (P:Program) (H:Hints) (lib:FuncId->Option (List V->Option V)):Prop:=∃ n,∀ m,n<=m->p (orcN P H lib m)
theorem Ev.and {p q:Orc->Prop} (h:Ev p P H lib) (h':Ev q P H lib):Ev (λC=>p C/\q C) P H lib:=by
 obtain ⟨n,h⟩:=h; obtain ⟨n',h'⟩:=h';exact ⟨max n n',λm hm=>⟨h m (by omega),h' m (by omega)⟩⟩
theorem Ev.imp {p q:Orc->Prop} (h:Ev p P H lib) (hi:∀ C,p C->q C):Ev q P H lib:=by
 obtain ⟨n,h⟩:=h; exact ⟨n,λm hm=>hi _ (h m hm)⟩
theorem Ev.peek:Ev (λC=>C.peek = H.peek) P H lib:=⟨1,λm hm=>by
 cases m with
 | zero=>omega
 | succ m=>rfl⟩
theorem Ev.of {p:Orc->Prop} (h:∀ C,p C):Ev p P H lib:=⟨0,λm _=>h _⟩
def ExEv (P:Program) (H:Hints) (lib:FuncId->Option (List V->Option V)) (f:FuncId) (bid:Nat) (c:Code) (s:St) (e:Ex) (s':St):Prop:=Ev (λC=>ex P H C f bid c s = some (e,s')) P H lib
def CallEv (P:Program) (H:Hints) (lib:FuncId->Option (List V->Option V)) (g:FuncId) (args:List V) (M:List Level) (r:V) (M':List Level):Prop:=Ev (λC=>C.call g args M = some (r,M')) P H lib
def Snd (run:TSt->(R:Type)->(Ex->TSt->Option R)->Option R) (rel:St->Ex->St->Prop):Prop :=
 ∀ (st:TSt) (R:Type) (k:Ex->TSt->Option R) (r:R) (s:St),run st R k = some r->Rst st s->∃ e st' s',rel s e s'/\Rst st' s'/\Fr2 st st' s s'/\k e st' = some r
theorem setPlace_logs (st:TSt) (p:Place) (v:TV):(st.setPlace p v).Wt = st.Wt/\(st.setPlace p v).Wb = st.Wb:=by
 unfold TSt.setPlace;cases p.lvl with
 | none=>exact ⟨rfl,rfl⟩
 | some l =>
  simp only
  cases st.box ⟨l,p.slot⟩ with
  | none=>exact ⟨rfl,rfl⟩
  | some cs=>exact ⟨by simp only [TSt.setBox]; split <;> rfl,rfl⟩
theorem setPlaces_logs:∀ (ps:List Place) (vs:List TV) (st:TSt),(setPlaces st ps vs).Wt = st.Wt/\(setPlaces st ps vs).Wb = st.Wb
 | [],vs,st=>by cases vs <;> exact ⟨rfl,rfl⟩
 | p :: ps,[],st=>⟨rfl,rfl⟩
 | p :: ps,v :: vs,st=>by
  have h1:=setPlaces_logs ps vs (st.setPlace p v);have h2:=setPlace_logs st p v;exact ⟨h1.1.trans h2.1,h1.2.trans h2.2⟩
theorem tsetBox_some (st:TSt) (r:Root) (c:List TV) (q:Root) (h:(st.cont q).isSome = true):((st.setBox r c).cont q).isSome = true:=by
 obtain ⟨l,s⟩:=r;obtain ⟨l',s'⟩:=q;have key:∀ b:TLevel,(match lookT b s' with | some (some c)=>some c | _=>none:Option (List TV)).isSome = true->(match lookT (setT b s (some c)) s' with | some (some c)=>some c | _=>none:Option (List TV)).isSome = true:=λb hb=>by
  rw [lookT_setT];by_cases e:s' = s
  ·rw [if_pos e];subst e;cases hl:lookT b s' with
   | none=>rw [hl] at hb; cases hb
   | some o=>rfl
  ·rw [if_neg e]; exact hb
 unfold TSt.setBox TSt.cont at *;simp only at h ⊢;by_cases h1:l = st.L.length
 ·rw [if_pos h1];simp only
  by_cases h2:l' = st.L.length
  ·rw [if_pos h2] at h ⊢; exact key _ h
  ·rw [if_neg h2] at h ⊢; exact h
 ·rw [if_neg h1];simp only [List.length_modify];by_cases h2:l' = st.L.length
  ·rw [if_pos h2] at h ⊢; exact h
  ·rw [if_neg h2] at h ⊢;rw [List.getElem?_modify];cases hb:st.L[l']? with
   | none=>rw [hb] at h; cases h
   | some b =>
    rw [hb] at h;simp only [Option.map_eq_map,Option.map_some];by_cases e:l = l'
    ·rw [if_pos e]; exact key _ h
    ·rw [if_neg e]; exact h
theorem setPlaces_E:∀ (ps:List Place) (vs:List TV) (st:TSt) (t:Nat),(setPlaces st ps vs).E.toL[t]? = st.E.toL[t]?\/∃ v ∈ vs,(setPlaces st ps vs).E.toL[t]? = some v
 | [],vs,st,t=>by cases vs <;> exact .inl rfl
 | p :: ps,[],st,t=>.inl rfl
 | p :: ps,v :: vs,st,t=>by
  rcases setPlaces_E ps vs (st.setPlace p v) t with h | ⟨u,hu,h⟩
  ·show (setPlaces (st.setPlace p v) ps vs).E.toL[t]? = _\/∃ u ∈ v :: vs,(setPlaces (st.setPlace p v) ps vs).E.toL[t]? = some u;rw [h];unfold TSt.setPlace;cases p.lvl with
   | none =>
    simp only [toL_set,List.getElem?_set];split
    ·split
     ·exact .inr ⟨v,by simp,rfl⟩
     ·rename_i h1 h2; left; rw [List.getElem?_eq_none (by omega)]
    ·exact .inl rfl
   | some l =>
    simp only
    cases st.box ⟨l,p.slot⟩ with
    | none=>exact .inl rfl
    | some cs=>left; simp only [TSt.setBox]; split <;> rfl
  ·exact .inr ⟨u,by simp [hu],h⟩
theorem setPlace_box (st:TSt) (p:Place) (v:TV) (r:Root) (h:(st.cont r).isSome = true):((st.setPlace p v).cont r).isSome = true:=by
 unfold TSt.setPlace;cases p.lvl with
 | none=>exact h
 | some l =>
  simp only
  cases hb:st.box ⟨l,p.slot⟩ with
  | none=>exact h
  | some cs =>
   simp only
   have hbx:({ st.setBox ⟨l,p.slot⟩ (cs.set p.cell v) with Wb:=st.Wb }:TSt).cont r = (st.setBox ⟨l,p.slot⟩ (cs.set p.cell v)).cont r:=rfl;rw [hbx];exact tsetBox_some st ⟨l,p.slot⟩ _ r h
theorem setPlaces_box:∀ (ps:List Place) (vs:List TV) (st:TSt) (r:Root),(st.cont r).isSome = true->((setPlaces st ps vs).cont r).isSome = true
 | [],vs,st,r,h=>by cases vs <;> exact h
 | p :: ps,[],st,r,h=>h
 | p :: ps,v :: vs,st,r,h=>setPlaces_box ps vs _ r (setPlace_box st p v r h)
theorem ofTy_any (τ:Ty) (o:Nat) (x:τ.den):∀ rs,ofTy τ o x ≠ .any rs:=λrs=>by cases τ <;> simp [ofTy]
theorem ofL_any:∀ (ps:List (Ty × Nat)) (x:denL (ps.map (·.1))),∀ v ∈ ofL ps x,∀ rs,v ≠ .any rs
 | [],x,v,hv=>by simp [ofL] at hv
 | [(τ,o)],x,v,hv=>by simp only [ofL,List.mem_singleton] at hv; subst hv; exact ofTy_any τ o x
 | (τ,o) :: q :: ps,x,v,hv=>by
  simp only [ofL,List.mem_cons] at hv;rcases hv with rfl | hv
  ·exact ofTy_any τ o x.1
  ·exact ofL_any (q :: ps) x.2 v hv
theorem rebuild0_fr {st st2:TSt} {s s':St} {j:Join} {x:denL (j.ps.map (·.1))} (h2:Rst st2 s') (hf:Fr2 st.fresh st2 s s') (ho:st2.outs st j = some x):Fr2 st (st.rebuild0 j (ofL j.ps x)) s s':=by
 generalize hvs:ofL j.ps x = vs;have hany:∀ v ∈ vs,∀ rs,v ≠ .any rs:=by rw [<- hvs]; exact ofL_any j.ps x
 unfold TSt.outs at ho;split at ho
 ·rename_i hc;simp only [Bool.and_eq_true] at hc;obtain ⟨⟨_,hwr⟩,_⟩:=hc;unfold TSt.wrote at hwr;simp only [Bool.and_eq_true,List.all_eq_true] at hwr;obtain ⟨hwt0,hwb⟩:=hwr;have hwt:∀ t ∈ st2.Wt,t ∈ j.D:=λt ht=>Mask.sub_mem hwt0 ht;have hl:=setPlaces_logs j.lv vs { j.wr.foldl (λ(st:TSt) r=>st.forget j.rb r) { st with E:=forgetM j.D j.rsAt st.E } with Wt:=j.D ++ st.Wt,Wb:=j.wr ++ st.Wb };have e1:(st.rebuild0 j vs).Wt = j.D ++ st.Wt:=hl.1;have e2:(st.rebuild0 j vs).Wb = j.wr ++ st.Wb:=hl.2;refine ⟨λt ht=>by rw [e1]; simp [ht],λr hr=>by rw [e2]; simp [hr],λt ht=>?_,λt ht rs hE=>?_,λr hr=>?_,λr hr hsm=>?_,hf.len,hf.elen⟩
  ·rw [e1] at ht;exact hf.e t λhh=>ht (by simp [hwt t hh])
  ·rw [e1] at ht;simp only [Mask.mem_append,not_or] at ht;unfold TSt.rebuild0 at hE;rcases setPlaces_E j.lv vs _ t with h3 | ⟨v,hv,h3⟩
   ·rw [h3] at hE;have h4:(j.wr.foldl (λ(st:TSt) r=>st.forget j.rb r) { st with E:=forgetM j.D j.rsAt st.E }).E.toL[t]? = some (.any rs):=hE;rw [forgets_E] at h4;simp only at h4;rw [forgetM_get,if_neg ht.1] at h4;exact ⟨rs,h4⟩
   ·rw [h3] at hE;exact absurd (Option.some.inj hE) (hany v hv rs)
  ·rw [e2] at hr;by_cases hm:r ∈ st2.Wb
   ·have:=hwb r hm;simp only [Bool.or_eq_true,decide_eq_true_eq] at this;rcases this with h3 | h3
    ·exact absurd (by simp at h3; simp [h3]) hr
    ·rw [look_box,look_box];unfold lookV;have h4:=h2.len;have h5:=hf.len;rw [List.getElem?_eq_none (by simp [allV]; omega),List.getElem?_eq_none (by simp [allV]; omega)];exact .inl rfl
   ·exact hf.b r hm
  ·rw [e2] at hr;simp only [List.mem_append,not_or] at hr;unfold TSt.rebuild0;refine setPlaces_box j.lv vs _ r ?_;obtain ⟨c,hc⟩:=Option.isSome_iff_exists.1 hsm;have hlk:=cont_some hc;have h3:lookM (j.wr.foldl (λ(st:TSt) r=>st.forget j.rb r) { st with E:=forgetM j.D j.rsAt st.E }).all r.lvl r.slot = some (some c):=by
    rw [lookM_forgets,if_neg (λhh=>hr.1 hh.1)];exact hlk
   have h4:({ j.wr.foldl (λ(st:TSt) r=>st.forget j.rb r) { st with E:=forgetM j.D j.rsAt st.E } with Wt:=j.D ++ st.Wt,Wb:=j.wr ++ st.Wb }:TSt).cont r = some c:=by
    rw [tlook_cont];show (match lookM (j.wr.foldl (λ(st:TSt) r=>st.forget j.rb r) { st with E:=forgetM j.D j.rsAt st.E }).all r.lvl r.slot with
     | some (some c)=>some c
     | _=>none) = some c
    rw [h3]
   rw [h4]; rfl
 ·cases ho
theorem rebuild_fr {st st2:TSt} {s s':St} {j:Join} {x:denL (j.ps.map (·.1))} (h2:Rst st2 s') (hf:Fr2 st.fresh st2 s s') (ho:st2.outs st j = some x):Fr2 st (st.rebuild j (ofL j.ps x)) s s':=by
 have h:=rebuild0_fr h2 hf ho;have hl:=putPs_logs j.kp (st.rebuild0 j (ofL j.ps x));have hc:∀ r,(st.rebuild j (ofL j.ps x)).cont r = (st.rebuild0 j (ofL j.ps x)).cont r:=λr=>by
  unfold TSt.cont TSt.rebuild;rw [hl.2.2.1,hl.2.2.2]
 refine ⟨λt ht=>?_,λr hr=>?_,λt ht=>?_,λt ht rs hE=>?_,λr hr=>?_,λr hr hs=>?_,h.len,h.elen⟩
 ·unfold TSt.rebuild; rw [hl.1]; exact h.wt t ht
 ·unfold TSt.rebuild; rw [hl.2.1]; exact h.wb r hr
 ·unfold TSt.rebuild at ht; rw [hl.1] at ht; exact h.e t ht
 ·unfold TSt.rebuild at ht hE; rw [hl.1] at ht; exact h.an t ht rs (putPs_E _ _ _ _ hE)
 ·unfold TSt.rebuild at hr; rw [hl.2.1] at hr; exact h.b r hr
 ·rw [hc]; unfold TSt.rebuild at hr; rw [hl.2.1] at hr; exact h.bn r hr hs
theorem merge_fr {st st2:TSt} {s s':St} (hf:Fr2 st.fresh st2 s s'):Fr2 st (st2.merge st) s s' :=
 ⟨λt ht=>by simp [TSt.merge,ht],λr hr=>by simp [TSt.merge,hr],λt ht=>hf.e t λhh=>ht (by simp [TSt.merge,hh]),λt ht rs hE=>hf.an t (λhh=>ht (by simp [TSt.merge,hh])) rs hE,λr hr=>hf.b r λhh=>hr (by simp [TSt.merge,hh]),λr hr hsm=>hf.bn r (λhh=>hr (by simp [TSt.merge,hh])) hsm,hf.len,hf.elen⟩
theorem Rst.fresh {st:TSt} {s:St} (h:Rst st s):Rst st.fresh s:=⟨h.E,h.M⟩
theorem Rst.merge {st st0:TSt} {s:St} (h:Rst st s):Rst (st.merge st0) s:=⟨h.E,h.M⟩
theorem joinT_ok {run:TSt->(R:Type)->(Ex->TSt->Option R)->Option R} {rel:St->Ex->St->Prop} (h:Snd run rel) (j:Option Join):Snd (λst R k=>joinT j st run R k) rel:=by
 intro st R k r s hr hs;simp only [joinT] at hr;cases j with
 | none=>exact h st R k r s hr hs
 | some j =>
  simp only at hr;split at hr
  ·obtain ⟨x,hx,hk⟩:=Option.bind_eq_some_iff.1 hr;obtain ⟨e,st2,s',hrel,hR,hF,hkk⟩:=h _ _ _ _ s hx hs.fresh;have habn:∀ e,(k e (st2.merge st)).map Sum.inr = some x->rel s e s'->∃ e st' s',rel s e s'/\Rst st' s'/\Fr2 st st' s s'/\k e st' = some r:=λe hkk hrel=>by
    obtain ⟨y,hy,rfl⟩:=Option.map_eq_some_iff.1 hkk;simp only [Sum.elim_inr,Option.some.injEq] at hk;subst hk;exact ⟨e,_,s',hrel,hR.merge,merge_fr hF,hy⟩
   cases e with
   | normal =>
    obtain ⟨y,hy,rfl⟩:=Option.map_eq_some_iff.1 hkk;simp only [Sum.elim_inl] at hk;exact ⟨.normal,_,s',hrel,rebuild_ok hs hR hF hy,rebuild_fr hR hF hy,hk⟩
   | exit id=>exact habn _ hkk hrel
   | ret=>exact habn _ hkk hrel
  ·obtain ⟨x,hx,hk⟩:=Option.bind_eq_some_iff.1 hr;obtain ⟨e,st2,s',hrel,hR,hF,hkk⟩:=h _ _ _ _ s hx hs.fresh;cases e with
   | normal=>exact ⟨.normal,_,s',hrel,rebuild_ok hs hR hF hkk,rebuild_fr hR hF hkk,hk⟩
   | exit id=>cases hkk
   | ret=>cases hkk
def TOk (P:Program) (H:Hints) (lib:FuncId->Option (List V->Option V)) (T:CallT):Prop :=
 ∀ g args (R:Type) (k:TV->Option R) r vs,T g args R k = some r->RVL args vs->∃ x v,k x = some r/\RV x v/\CallEv P H lib g vs [] v []
structure OOk (P:Program) (H:Hints) (lib:FuncId->Option (List V->Option V)) (O:TOrc):Prop where
 call:∀ ctx g args M (R:Type) (k:TV->List TLevel->List Root->Option R) r vs M',O.call ctx g args M R k = some r->RVL args vs->LR M M' ->
  ∃ x N wb v N',k x N wb = some r/\RV x v/\LR N N'/\N.length = M.length/\(∀ l sl,(⟨l,sl⟩:Root) ∉ wb->lookV N' l sl = lookV M' l sl/\∀ c,lookM M l sl = some (some c)->∃ c',lookM N l sl = some (some c'))/\CallEv P H lib g vs M' v N'
 code:∀ ctx f bid c,Snd (λst R k=>O.code ctx f bid c st R k) λs e s'=>Ev (λC=>C.code f bid c s = some (e,s')) P H lib
 born:∀ ctx g args (R:Type) (k:TV->TV->Option R) r vs,O.born ctx g args R k = some r->RVL args vs ->
  ∃ x τ o l v sl,k x (.t (.mset τ) o l) = some r/\keyTy τ = true/\RV x v/\x.onlyMaps = true/\Ev (λC=>C.born g vs = some (v,sl,kvs τ l)) P H lib
theorem flHand_own (f:Fl):flHand f ≠ .own:=by cases f <;> simp [flHand]
theorem flLoosen_own (f:Fl):flLoosen f = .own ↔ f = .own:=by cases f <;> simp [flLoosen]
theorem flSettle_own (f:Fl):flSettle f = .own ↔ f = .own:=by cases f <;> simp [flSettle]
theorem lastSplitT_eq:∀ {M:List TLevel} {L:List TLevel} {B:TLevel},lastSplitT M = some (L,B)->M = L ++ [B]
 | [],_,_,h=>by cases h
 | [b],_,_,h=>by simp only [lastSplitT,Option.some.injEq,Prod.mk.injEq] at h; simp [<- h.1,<- h.2]
 | b :: c :: l,L,B,h=>by
  simp only [lastSplitT] at h;obtain ⟨⟨x,y⟩,hxy,h2⟩:=Option.map_eq_some_iff.1 h;simp only [Prod.mk.injEq] at h2;obtain ⟨rfl,rfl⟩:=h2;simp [lastSplitT_eq hxy]
theorem lastSplit_app:∀ (L:List Level) (B:Level),lastSplit (L ++ [B]) = some (L,B)
 | [],B=>rfl
 | [a],B=>rfl
 | a :: b :: L,B=>by
  have:=lastSplit_app (b :: L) B;simp only [List.cons_append] at this ⊢;simp only [lastSplit,this,Option.map_some]
theorem split_last {α:Type}:∀ {M:List α} {n:Nat},M.length = n + 1->∃ L B,M = L ++ [B]
 | [],n,h=>by simp at h
 | [b],n,h=>⟨[],b,rfl⟩
 | b :: c :: l,n,h=>by
  obtain ⟨L,B,e⟩:=split_last (M:=c :: l) (n:=l.length) (by simp);exact ⟨b :: L,B,by rw [e]; rfl⟩
theorem LR.init {M:List TLevel} {M':List Level} (h:LR M M'):LR (M ++ [[]]) (M' ++ [[]]) where
 len:=by simp [h.len]
 rel:=λl s=>by
  have key:=h.rel l s;unfold lookM lookV at key ⊢;have hl:=h.len;by_cases e:l < M.length
  ·rw [List.getElem?_append_left e,List.getElem?_append_left (by omega)]; exact key
  ·rw [List.getElem?_append_right (by omega),List.getElem?_append_right (by omega),hl];cases l - M.length with
   | zero=>simp [lookT,lookB,RB]
   | succ n=>simp [RB]
 nd:=λb hb=>by
  simp only [List.mem_append,List.mem_singleton] at hb;rcases hb with hb | rfl
  ·exact h.nd b hb
  ·simp
 mp:=λl s c hc hlt=>by
  have key:=h.mp l s c;unfold lookV at key hc;by_cases e:l < M'.length
  ·rw [List.getElem?_append_left e] at hc; exact key hc hlt
  ·rw [List.getElem?_append_right (by omega)] at hc;cases hm:l - M'.length with
   | zero=>rw [hm] at hc; simp [lookB] at hc
   | succ n=>rw [hm] at hc; simp at hc
theorem LR.front {M:List TLevel} {M':List Level} {b:TLevel} {b':Level} (h:LR (M ++ [b]) (M' ++ [b'])):LR M M' where
 len:=by have:=h.len; simp at this; exact this
 rel:=λl s=>by
  have hl:M'.length = M.length:=by have:=h.len; simp at this; exact this
  have key:=h.rel l s;unfold lookM lookV at key ⊢;by_cases e:l < M.length
  ·rw [List.getElem?_append_left e,List.getElem?_append_left (by omega)] at key; exact key
  ·rw [List.getElem?_eq_none (by omega),List.getElem?_eq_none (by omega)]; rfl
 nd:=λc hc=>h.nd c (by simp [hc])
 mp:=λl s c hc hlt=>by
  have key:=h.mp l s c;unfold lookV at key hc;by_cases e:l < M'.length
  ·rw [List.getElem?_append_left e] at key; exact key hc hlt
  ·rw [List.getElem?_eq_none (by omega)] at hc; cases hc
theorem setRec_all (st:TSt) (r:Root) (v:TV):(st.setRec r v).all = st.all.modify r.lvl (λb=>setT b r.slot (some [v])):=tsetBox_all st r [v]
theorem setRec_ok {st:TSt} {s:St} (hs:Rst st s) {r:Root} {c0:List TV} (hb:st.cont r = some c0) {x:LoopState} {pe:Option Code} {g:FuncId} {env:List TV} {env':List V} {ps:List Tmp} {a b:Code} (he:RVL env env') :
  Rst (st.setRec r (.lp x pe g env ps a b)) (s.setBox r [.lp x pe g env' ps a b]):=by
 have e1:(st.setRec r (.lp x pe g env ps a b)).E = st.E:=(show (st.setBox r [_]).E = st.E by unfold TSt.setBox; split <;> rfl)
 have e2:(s.setBox r [.lp x pe g env' ps a b]).E = s.E:=by unfold St.setBox; split <;> rfl
 refine ⟨by rw [e1,e2]; exact hs.E,?_⟩;rw [setRec_all,setBox_all];exact LR.setBox hs.M _ _ (by rw [cont_some hb]; simp) ⟨env',rfl,he⟩ (λ_=>rfl)
theorem setRec_some (st:TSt) (r:Root) (v:TV) (q:Root) (h:(st.cont q).isSome = true):((st.setRec r v).cont q).isSome = true:=tsetBox_some st r [v] q h
theorem rec_look {st:TSt} {s:St} (hs:Rst st s) {r:Root} {x:LoopState} {pe:Option Code} {g:FuncId} {env:List TV} {ps:List Tmp} {a b:Code} (h:st.cont r = some [.lp x pe g env ps a b]) :
  ∃ env',s.box r = some [.lp x pe g env' ps a b]/\RVL env env':=by
 have:=hs.M.rel r.lvl r.slot;rw [cont_some h] at this;obtain ⟨c',h1,env',rfl,h2⟩:=this;exact ⟨env',by rw [look_box]; exact h1,h2⟩
theorem zipSetT_ok:∀ {E:Env} {E':List V} {ps:List Tmp} {asz:List TV} {vs:List V},RVL E.toL E'->RVL asz vs->RVL (zipSetT E ps asz).toL (zipSet E' ps vs)
 | E,E',[],asz,vs,hE,ha=>by
  cases asz with
  | nil=>simp only [RVL] at ha; subst ha; exact hE
  | cons a asz=>simp only [RVL] at ha; obtain ⟨v,m,rfl,_⟩:=ha; exact hE
 | E,E',t :: ps,[],vs,hE,ha=>by simp only [RVL] at ha; subst ha; exact hE
 | E,E',t :: ps,a :: asz,vs,hE,ha=>by
  simp only [RVL] at ha;obtain ⟨v,m,rfl,h1,h2⟩:=ha;simp only [zipSetT,zipSet];exact zipSetT_ok (by rw [toL_set]; exact RVL.set _ hE h1) h2
theorem box_low {E:List V} {L:List Level} {B:Level} {q:Root} (h:q.lvl < L.length):({ E,L,B }:St).box q = lookV L q.lvl q.slot:=by
 rw [look_box];unfold lookV allV;simp only
 rw [List.getElem?_append_left h]
theorem roundT_ok (hO:OOk P H lib O) {d:Tmp} {r:Root} {args:List TV} {args':List V} {st:TSt} {s:St} {R:Type} {k:TV->TSt->Option R} {res:R}
  (ha:RVL args args') (hs:Rst st s) (h:roundT O ctx d r args st R k = some res) :
  ∃ v st' u s',k v st' = some res/\Ev (λC=>vround C r args' s = some (u,s')) P H lib/\RV v u/\Rst st' s'/\Fr2 st st' s s'/\st'.E = st.E/\s'.E = s.E:=by
 unfold roundT at h;split at h
 ·rename_i g env ps asz bo hc1;obtain ⟨env',hb1,hre⟩:=rec_look hs hc1;split at h
  ·cases h
  ·rename_i hlen;have hlen':¬ args'.length ≠ ps.length:=by rw [ha.length]; exact hlen
   have hE0:RVL (zipSetT (Env.ofArgs env env.length) ps (dullL args)).toL (zipSet env' ps (args'.map V.hand)):=by
    refine zipSetT_ok ?_ (ha.map_dull flHand_own rfl);rw [toL_ofArgs]; simpa using hre
   have h0:Rst { E:=zipSetT (Env.ofArgs env env.length) ps (dullL args),L:=st.L ++ [st.B],B:=[],Wt:=.empty,Wb:=[] } { E:=zipSet env' ps (args'.map V.hand),L:=s.L ++ [s.B],B:=[] }:=⟨hE0,hs.M.init⟩
   obtain ⟨e1,t2,s2,hev1,hR2,hF2,h⟩:=hO.code _ _ _ _ _ _ _ _ _ h h0;cases e1 with
   | exit id=>cases h
   | ret=>cases h
   | normal =>
    simp only at h;split at h
    ·rename_i g2 env2 ps2 as2 bo2 hc2;obtain ⟨env2',hb2,hre2⟩:=rec_look hR2 hc2;have hset:=setRec_ok hR2 hc2 (x:=.busy) (pe:=none) (g:=g2) (ps:=ps2) (a:=as2) (b:=bo2) hre2;obtain ⟨e3,t3,s3,hev2,hR3,hF3,h⟩:=hO.code _ _ _ _ _ _ _ _ _ h hset;split at h
     ·rename_i x9 pe9 g3 env3 ps3 as3 bo3 hc3;obtain ⟨env3',hb3,hre3⟩:=rec_look hR3 hc3;have hset3:=setRec_ok hR3 hc3 (x:=if e3.code.isNone then .ready else .done) (pe:=e3.code) (g:=g3) (ps:=ps3) (a:=as3) (b:=bo3) hre3;split at h
      ·rename_i L B hsp;have hL3:=lastSplitT_eq hsp;split at h
       ·rename_i hL;have hlen0:=hs.len;have hlA:(s3.setBox r [.lp (if e3.code.isNone then .ready else .done) e3.code g3 env3' ps3 as3 bo3]).L.length = L.length + 1:=by
         have:=hset3.len; rw [hL3] at this; rw [this]; simp
        obtain ⟨L',B',hL3'⟩:=split_last hlA;have hL':L'.length = s.L.length:=by rw [hL3'] at hlA; simp at hlA; omega
        have hs3L:s3.L.length = s.L.length + 1:=by
         have:=hF3.len; have:=hF2.len;have e9:(s2.setBox r [.lp .busy none g2 env2' ps2 as2 bo2]).L.length = s2.L.length:=by unfold St.setBox; split <;> simp
         simp only [List.length_append,List.length_singleton] at *;omega
        have ht2:∀ q,q ∉ t3.Wb->q ∉ t2.Wb:=λq hq hh=>hq (hF3.wb q hh);have hbig:s2.L.length = s.L.length + 1:=by have:=hF2.len; simpa using this
        -- what is not written stays
        have same2:∀ q,q ∉ t3.Wb->s2.box q = ({ E:=zipSet env' ps (args'.map V.hand),L:=s.L ++ [s.B],B:=[] }:St).box q:=λq hq=>by
         rcases hF2.b q (ht2 q hq) with h9 | ⟨h9,_⟩
         ·exact h9
         ·simp at h9
        have same3:∀ q,q ∉ t3.Wb->s3.box q = (s2.setBox r [.lp .busy none g2 env2' ps2 as2 bo2]).box q:=λq hq=>by
         rcases hF3.b q hq with h9 | ⟨h9,_⟩
         ·exact h9
         ·have e9:(s2.setBox r [.lp .busy none g2 env2' ps2 as2 bo2]).L.length = s2.L.length:=by unfold St.setBox; split <;> simp
          omega
        have low:∀ q:Root,q.lvl<=s.L.length->({ E:=zipSet env' ps (args'.map V.hand),L:=s.L ++ [s.B],B:=[] }:St).box q = s.box q:=λq hq=>by
         rw [box_low (by simp; omega),look_box]; rfl
        have hfin:∀ q:Root,q.lvl<=s.L.length->({ s with L:=L',B:=B' }:St).box q = (s3.setBox r [.lp (if e3.code.isNone then .ready else .done) e3.code g3 env3' ps3 as3 bo3]).box q:=λq hq=>by
         rw [look_box,look_box];unfold lookV allV;simp only
         rw [hL3',List.getElem?_append_left (l₁:=L' ++ [B']) (by simp; omega)]
        refine ⟨_,_,.val (.bool e3.code.isNone),{ s with L:=L',B:=B' },h,((hev1.and hev2)).imp λC ⟨hC1,hC2⟩=>?_,by simp [RV,RTy],⟨hs.E,?_⟩,⟨λt ht=>ht,λq hq=>by simp [hq],λt ht=>.inl rfl,λt ht rs hE=>⟨rs,hE⟩,λq hq=>.inl ?_,λq hq hsm=>?_,hL',rfl⟩,rfl,rfl⟩
        ·unfold vround;rw [hb1];simp only
         rw [if_neg hlen',hC1];simp only
         rw [hb2];simp only
         rw [hC2];simp only
         rw [hb3];simp only
         rw [hL3',lastSplit_app];simp only [hL',if_true]
        ·have h9:=LR.front hset3.M;rw [hL3,hL3'] at h9;exact h9
        ·simp only [List.mem_append,not_or] at hq;obtain ⟨hq0,hq3,_⟩:=hq;by_cases hlv:q.lvl<=s.L.length
         ·rw [hfin q hlv,box_setBox];by_cases e:q = r
          ·subst e;rw [if_pos rfl,hb3];have hx:e3.code.isNone = true:=by
            cases hx:e3.code.isNone with
            | true=>rfl
            | false=>rw [hx] at hq0; simp at hq0
           have k2:=same2 q hq3;rw [low q hlv,hb1,hb2] at k2;have k3:=same3 q hq3;rw [box_setBox,if_pos rfl,hb2,hb3] at k3;simp only [Option.map_some,Option.some.injEq,List.cons.injEq,V.lp.injEq,and_true,true_and] at k2 k3;obtain ⟨a1,a2,a3,a4,a5⟩:=k2;obtain ⟨_,_,b1,b2,b3,b4,b5⟩:=k3;subst a1 a2 a3 a4 a5 b1 b2 b3 b4 b5;rw [hx,hb1];simp only [Option.map_some,if_true,Option.isNone_iff_eq_none.1 hx]
          ·rw [if_neg e,same3 q hq3,box_setBox,if_neg e,same2 q hq3,low q hlv]
         ·rw [look_box,look_box];unfold lookV allV;simp only
          rw [List.getElem?_eq_none (by simp; omega),List.getElem?_eq_none (by simp; omega)]
        ·simp only [List.mem_append,not_or] at hq;obtain ⟨hq0,hq3,_⟩:=hq;have hlv:q.lvl < (st.L ++ [st.B]).length:=by
          obtain ⟨c,hc⟩:=Option.isSome_iff_exists.1 hsm;have:=cont_some hc;unfold lookM TSt.all at this;cases hM0:(st.L ++ [st.B])[q.lvl]? with
          | none=>rw [hM0] at this; cases this
          | some b=>exact (List.getElem?_eq_some_iff.1 hM0).1
         have i0:(({ E:=zipSetT (Env.ofArgs env env.length) ps (dullL args),L:=st.L ++ [st.B],B:=[],Wt:=.empty,Wb:=[] }:TSt).cont q).isSome = true:=by
          rw [tlook_cont] at hsm ⊢;unfold lookM TSt.all at hsm ⊢;simp only at hsm ⊢;rw [List.getElem?_append_left hlv];exact hsm
         have i1:=hF2.bn q (ht2 q hq3) i0;have i2:=setRec_some t2 r (.lp .busy none g2 env2 ps2 as2 bo2) q i1;have i3:=hF3.bn q hq3 i2;have i4:=setRec_some t3 r (.lp (if e3.code.isNone then .ready else .done) e3.code g3 env3 ps3 as3 bo3) q i3;rw [tlook_cont] at i4 ⊢;unfold lookM TSt.all at i4 ⊢;rw [hL3,List.getElem?_append_left (l₁:=L ++ [B]) (by simp at hlv ⊢; omega)] at i4;exact i4
       ·cases h
      ·cases h
     ·cases h
    ·cases h
 ·cases h
theorem callVT_ok (hT:TOk P H lib T) (hO:OOk P H lib O) {d:Tmp} {fv:TV} {fv':V} {args:List TV} {args':List V} {st:TSt} {s:St} {R:Type} {k:TV->TSt->Option R} {r:R}
  (hf:RV fv fv') (ha:RVL args args') (hs:Rst st s) (h:callVT H J T O ctx f d fv args st R k = some r) :
  ∃ v st' u s',k v st' = some r/\Ev (λC=>vcallV C fv' args' s = some (u,s')/\looksCall C fv' = looksCallT H fv) P H lib/\RV v u/\Rst st' s'/\Fr2 st st' s s'/\st'.E = st.E/\s'.E = s.E/\pureCall fv' args' = pureCallT fv args:=by
 unfold callVT at h;split at h
 ·rename_i g first cap;simp only [RV] at hf;obtain ⟨first',cap',rfl,hf1,hc1⟩:=hf;have hall:RVL (first ++ args ++ cap) (first' ++ args' ++ cap'):=(hf1.append ha).append hc1;split at h
  ·rename_i hk;have hpt:=RVL.ptrs_eq _ _ hk hall;have hpure:pureCall (.fn g first' cap') args' = pureCallT (.fn g first cap) args:=by
    simp only [pureCall,pureCallT,hpt]
   split at h
   ·rename_i hp;have hp':(ptrsL (first' ++ args' ++ cap')).isEmpty = true:=by rw [hpt]; exact hp
    have hshare:RVL (shareL (first ++ args ++ cap)) ((first' ++ args' ++ cap').map V.share):=by
     have:=RVL.share _ _ hall;rw [reflagL_map] at this; exact this
    have fin:∀ {x:TV} {v:V},k (if tightL (first ++ args ++ cap) then x else x.loosen) st = some r->RV x v->CallEv P H lib g ((first' ++ args' ++ cap').map V.share) [] v [] ->
      ∃ v st' u s',k v st' = some r/\Ev (λC=>vcallV C (.fn g first' cap') args' s = some (u,s')/\looksCall C (.fn g first' cap') = looksCallT H (.fn g first cap)) P H lib/\RV v u/\Rst st' s'/\Fr2 st st' s s'/\st'.E = st.E/\s'.E = s.E/\pureCall (.fn g first' cap') args' = pureCallT (.fn g first cap) args:=by
     intro x v hkx hr hev;refine ⟨if tightL (first ++ args ++ cap) then x else x.loosen,st,if looseL (first' ++ args' ++ cap') = true then v.loosen else v,s,hkx,(hev.and Ev.peek).imp λC ⟨hC,hCp⟩=>?_,?_,hs,Fr2.refl _ _,rfl,rfl,hpure⟩
     ·refine ⟨?_,by simp only [looksCall,looksCallT,hCp]⟩;show vcall C g (first' ++ args' ++ cap') s = _;unfold vcall;rw [if_pos hp',hC]
     ·cases htg:tightL (first ++ args ++ cap) with
      | true =>
       rw [RVL.tight _ _ htg hall];simpa using hr
      | false =>
       simp only [Bool.false_eq_true,if_false];split
       ·exact RV.lo flLoosen_own _ _ hr
       ·exact hr.lo0
    split at h
    ·obtain ⟨x,N,wb,v,N',hkx,hr,hN,hlen,_,hev⟩:=hO.call _ _ _ _ _ _ _ _ [] h hshare ⟨rfl,λl s=>by simp [lookM,lookV,RB],by simp,λl s c h=>by simp [lookV] at h⟩;have hN0:N = []:=List.eq_nil_of_length_eq_zero (by rw [hlen]; rfl);subst hN0;have hN0':N' = []:=List.eq_nil_of_length_eq_zero (by rw [hN.len]; rfl);subst hN0';exact fin hkx hr hev
    ·obtain ⟨x,v,hkx,hr,hev⟩:=hT _ _ _ _ _ _ h hshare;exact fin hkx hr hev
   ·rename_i hp;have hp':¬ (ptrsL (first' ++ args' ++ cap')).isEmpty = true:=by rw [hpt]; exact hp
    split at h
    ·rename_i hpk;split at h
     ·rename_i xs hxs;split at h
      ·rename_i hxp;obtain ⟨us,hus,hru⟩:=peekTL_ok (bt:=st.box) (bx:=s.box) (λr c hc=>by
        obtain ⟨c',h1,h2⟩:=hs.box hc;exact ⟨c',h1,h2,λhlt=>hs.M.mp r.lvl r.slot c' (by rw [<- look_box]; exact h1) hlt⟩) _ _ _ hxs hall
       obtain ⟨x,v,hkx,hr,hev⟩:=hT _ _ _ _ _ _ h hru;split at hkx
       ·rename_i hmine;refine ⟨x,st,v,s,hkx,(hev.and Ev.peek).imp λC ⟨hC,hCp⟩=>⟨?_,by simp only [looksCall,looksCallT,hCp]⟩,hr,hs,Fr2.refl _ _,rfl,rfl,hpure⟩;show vcall C g (first' ++ args' ++ cap') s = _;have hup:(ptrsL us).isEmpty = true:=by
         rw [List.isEmpty_iff,List.eq_nil_iff_forall_not_mem];intro q hq;have:=RVL.ptrs _ _ hru q hq;rw [List.isEmpty_iff] at hxp;rw [hxp] at this; cases this
        unfold vcall;rw [if_neg hp',hCp,if_pos hpk,hus];simp only [hup,if_true,hC,RV.mine x v hmine hr]
       ·cases hkx
      ·cases h
     ·cases h
    rename_i hpk;have hdull:RVL (dullL (first ++ args ++ cap)) ((first' ++ args' ++ cap').map V.hand):=hall.map_dull flHand_own rfl;obtain ⟨x,N,wb,v,N',hkx,hr,hN,hlen,hfr,hev⟩:=hO.call _ _ _ _ _ _ _ _ (s.L ++ [s.B]) h hdull hs.M;split at hkx
    ·rename_i L B hsp;have hNe:=lastSplitT_eq hsp;subst hNe;split at hkx
     ·rename_i hL;obtain ⟨L',B',rfl⟩:=split_last (M:=N') (n:=L.length) (by rw [hN.len]; simp);have hL':L'.length = s.L.length:=by have:=hN.len; have:=hs.len; simp at *; omega
      refine ⟨x,_,v,{ s with L:=L',B:=B' },hkx,(hev.and Ev.peek).imp λC ⟨hC,hCp⟩=>?_,hr,⟨hs.E,hN⟩,⟨λt ht=>ht,λq hq=>by simp [hq],λt ht=>.inl rfl,λt ht rs hE=>⟨rs,hE⟩,λq hq=>.inl ?_,λq hq hsm=>?_,hL',rfl⟩,rfl,rfl,hpure⟩
      ·refine ⟨?_,by simp only [looksCall,looksCallT,hCp]⟩;show vcall C g (first' ++ args' ++ cap') s = _;unfold vcall;rw [if_neg hp',hCp,if_neg hpk,hC];simp only [lastSplit_app,hL',if_true]
      ·rw [look_box,look_box];simp only [List.mem_append,not_or] at hq;exact (hfr q.lvl q.slot hq.1).1
      ·simp only [List.mem_append,not_or] at hq;obtain ⟨c,hc⟩:=Option.isSome_iff_exists.1 hsm;obtain ⟨c',hc'⟩:=(hfr q.lvl q.slot hq.1).2 c (cont_some hc);rw [tlook_cont];show (match lookM (L ++ [B]) q.lvl q.slot with
        | some (some c)=>some c
        | _=>none).isSome = true
       rw [hc']; rfl
     ·cases hkx
    ·cases hkx
  ·cases h
 ·rename_i q;simp only [RV] at hf; subst hf;obtain ⟨v,st',u,s',h1,h2,h3,h4,h5,h6,h7⟩:=roundT_ok hO ha hs h;exact ⟨v,st',u,s',h1,h2.imp λC hC=>⟨hC,rfl⟩,h3,h4,h5,h6,h7,rfl⟩
 ·cases h
theorem rvl_one {x:TV} {ys:List V} (h:RVL [x] ys):∃ v,ys = [v]/\RV x v:=by
 simp only [RVL] at h; obtain ⟨v,m,rfl,h1,rfl⟩:=h; exact ⟨v,rfl,h1⟩
def dfltMT (P:Program) (H:Hints) (f:FuncId) (o:Oper) (xs:List TV) (st:TSt) (R:Type) (k:TV->TSt->Fp->Option R):Option R :=
 if isMapOpT o.op xs then mapStepT P H f o xs st R k else match rootOfT o.op xs with
  | none=>topSem P H f (takes H f o) o.op xs none R λv c=>match c with
   | none=>k v st .none
   | some _=>none
  | some r=>if 16384<=r.slot then none else topSem P H f (takes H f o) o.op xs (st.box r) R λv c=>match c with
   | none=>k v st (.root r (rangeOfT P o.op xs).1 (rangeOfT P o.op xs).2 false)
   | some c=>if (wptrsT o.op xs).all (λp=>decide (p.lvl<=r.lvl)) && decide ((rangeOfT P o.op xs).1 + (rangeOfT P o.op xs).2<=c.length) then k v (st.setBox r c) (.root r (rangeOfT P o.op xs).1 (rangeOfT P o.op xs).2 true) else none
theorem stepMT_dflt {o:Oper} (h:isDflt o.op = true) (xs:List TV) (st:TSt) (R:Type) (k:TV->TSt->Fp->Option R):stepMT P H J T O ctx f o xs st R k = dfltMT P H f o xs st R k:=by
 unfold stepMT;split
 ·rename_i hop; rw [hop] at h; simp [isDflt] at h
 ·rename_i hop; rw [hop] at h; simp [isDflt] at h
 ·rename_i hop; rw [hop] at h; simp [isDflt] at h
 ·rfl
theorem stepMT_call {o:Oper} {c:Call} {fo:Operand} (hop:o.op = .call c) (hc:c.callee = .value fo) (xs:List TV) (st:TSt) (R:Type) (k:TV->TSt->Fp->Option R) :
  stepMT P H J T O ctx f o xs st R k = match xs with
   | fv :: args=>if isSpecT H fv args then specT H O ctx o.dst fv args st R k else callVT H J T O ctx f (o.dst.getD 0) fv args st R λv s=>k v s (if pureCallT fv args then .none else if looksCallT H fv then .looks else .all)
   | []=>none:=by
 unfold stepMT;obtain ⟨cal,a1,a2⟩:=c;simp only at hc;subst hc;simp only [hop];cases xs <;> rfl
theorem LR.push {M:List TLevel} {M':List Level} {b:TLevel} {b':Level} {d:Nat} {c:List TV} {c':List V} (h:LR (M ++ [b]) (M' ++ [b'])) (hl:M'.length = M.length) (hd:lookT b d = none) (hc:RC c c') (hmp:d < 16384->isMp c' = false):LR (M ++ [(d,some c) :: b]) (M' ++ [insB d c' b']):=by
 have hkey:∀ k,RB (lookT b k) (lookB b' k):=λk=>by
  have:=h.rel M.length k;unfold lookM lookV at this;rw [List.getElem?_append_right (Nat.le_refl _),<- hl,List.getElem?_append_right (Nat.le_refl _)] at this;simpa using this
 have hnone:lookB b' d = none:=by
  have h2:=hkey d;rw [hd] at h2;exact h2
 refine ⟨by simp [hl],λl k=>?_,λq hq=>?_,λl k c2 h2 hlt=>?_⟩
 rotate_right
 ·have key:=h.mp l k;unfold lookV at key h2;by_cases e:l < M'.length
  ·rw [List.getElem?_append_left e] at key h2;exact key c2 h2 hlt
  ·rw [List.getElem?_append_right (by omega)] at key h2;cases hm:l - M'.length with
   | zero =>
    rw [hm] at key h2;simp only [List.getElem?_cons_zero] at key h2;by_cases e2:d = k
    ·subst e2;rw [lookB_insB hnone] at h2;simp only [if_true,Option.some.injEq] at h2;subst h2;exact hmp hlt
    ·rw [lookB_insB_ne e2] at h2;exact key c2 h2 hlt
   | succ n=>rw [hm] at h2; simp at h2
 ·have key:=h.rel l k;unfold lookM lookV at key ⊢;by_cases e:l < M.length
  ·rw [List.getElem?_append_left e,List.getElem?_append_left (by omega)] at key ⊢;exact key
  ·rw [List.getElem?_append_right (by omega),List.getElem?_append_right (by omega),hl] at key ⊢;cases hm:l - M.length with
   | zero =>
    simp only [List.getElem?_cons_zero];by_cases e2:d = k
    ·subst e2; simp only [lookT,lookB_insB hnone,if_true]; exact ⟨c',rfl,hc⟩
    ·simp only [lookT,lookB_insB_ne e2,if_neg e2]; exact hkey k
   | succ n=>simp [RB]
 ·simp only [List.mem_append,List.mem_singleton] at hq;rcases hq with hq | rfl
  ·exact h.nd q (by simp [hq])
  ·exact insB_nodup hnone (h.nd b' (by simp))
theorem lookT_none {st:TSt} {s:St} (hs:Rst st s) {d:Nat} (h:lookT st.B d = none):lookB s.B d = none:=by
 have:=hs.M.rel st.L.length d;unfold lookM lookV at this;have e1:st.all[st.L.length]? = some st.B:=by simp [TSt.all]
 have e2:(allV s)[st.L.length]? = some s.B:=by rw [<- hs.len]; simp [allV]
 rw [e1,e2] at this;simp only at this;rw [h] at this;exact this
theorem push_ok {st:TSt} {s:St} (hs:Rst st s) {d:Nat} {c:List TV} {c':List V} (hd:lookT st.B d = none) (hc:RC c c') (hmp:d < 16384->isMp c' = false) :
  Rst { st with B:=(d,some c) :: st.B,Wb:=⟨st.L.length,d⟩ :: st.Wb } { s with B:=insB d c' s.B }/\Fr2 st { st with B:=(d,some c) :: st.B,Wb:=⟨st.L.length,d⟩ :: st.Wb } s { s with B:=insB d c' s.B }:=by
 refine ⟨⟨hs.E,LR.push hs.M hs.len hd hc hmp⟩,⟨λt ht=>ht,λr hr=>by simp [hr],λt ht=>.inl rfl,λt ht rs hE=>⟨rs,hE⟩,λr hr=>.inl ?_,λr hr hsm=>?_,rfl,rfl⟩⟩
 case refine_2 =>
  simp only [List.mem_cons,not_or] at hr;obtain ⟨l,sl⟩:=r;unfold TSt.cont at hsm ⊢;simp only at hsm ⊢;by_cases e:l = st.L.length
  ·rw [if_pos e] at hsm ⊢;have:d ≠ sl:=λe2=>hr.1 (by rw [e2,e]);simp only [lookT,if_neg this];exact hsm
  ·rw [if_neg e] at hsm ⊢;exact hsm
 simp only [List.mem_cons,not_or] at hr;obtain ⟨l,sl⟩:=r;rw [look_box,look_box];unfold lookV allV;simp only
 have hlen:=hs.len;by_cases e:l < s.L.length
 ·rw [List.getElem?_append_left e,List.getElem?_append_left e]
 ·rw [List.getElem?_append_right (by omega),List.getElem?_append_right (by omega)];cases hm:l - s.L.length with
  | zero =>
   simp only [List.getElem?_cons_zero];have:d ≠ sl:=λe2=>hr.1 (by rw [e2]; congr 1; omega);rw [lookB_insB_ne this]
  | succ n=>simp
theorem tsetBox_E (st:TSt) (r:Root) (c:List TV):(st.setBox r c).E = st.E/\(st.setBox r c).Wt = st.Wt/\(st.setBox r c).Wb = r :: st.Wb/\(st.setBox r c).L.length = st.L.length:=by
 unfold TSt.setBox; split <;> simp
theorem setBox_E (s:St) (r:Root) (c:List V):(s.setBox r c).E = s.E/\(s.setBox r c).L.length = s.L.length:=by
 unfold St.setBox; split <;> simp
theorem setBox_ok {st:TSt} {s:St} (hs:Rst st s) {r:Root} {c0 c:List TV} {c':List V} (hb:st.box r = some c0) (hc:RVL c c') (hmp:r.slot < 16384->isMp c' = false):Rst (st.setBox r c) (s.setBox r c')/\Fr2 st (st.setBox r c) s (s.setBox r c'):=by
 obtain ⟨e1,e2,e3,e4⟩:=tsetBox_E st r c;obtain ⟨e5,e6⟩:=setBox_E s r c';refine ⟨⟨by rw [e1,e5]; exact hs.E,?_⟩,⟨λt ht=>by rw [e2]; exact ht,λq hq=>by rw [e3]; simp [hq],λt ht=>.inl (by rw [e5]),λt ht rs hE=>⟨rs,by rw [<- e1]; exact hE⟩,λq hq=>.inl ?_,λq hq hsm=>tsetBox_some st r c q hsm,e6,by rw [e5]⟩⟩
 ·rw [tsetBox_all,setBox_all];exact LR.setBox hs.M _ _ (by rw [box_some hb]; simp) hc.rc hmp
 ·rw [e3] at hq;simp only [List.mem_cons,not_or] at hq;rw [box_setBox,if_neg hq.1]
theorem isMp_oks {x:V} (h:x.oks = true):isMp x.cells = false:=by
 unfold V.oks at h;cases hc:x.cells with
 | nil=>rfl
 | cons y l =>
  rw [hc] at h;simp only [List.all_cons,Bool.and_eq_true] at h;cases y <;> first | rfl | (simp [V.one] at h)
theorem isMp_head {x:V} {l m:List V}:isMp (x :: l) = isMp (x :: m):=by cases x <;> rfl
theorem isMp_splice {cs ys:List V} {off:Nat} (h1:isMp cs = false) (h2:off = 0\/cs = []->isMp ys = false):isMp (splice cs off ys) = false:=by
 unfold splice;cases off with
 | zero =>
  simp only [List.take_zero,List.nil_append,Nat.zero_add];cases ys with
  | nil=>simpa using h1
  | cons y l=>rw [List.cons_append,isMp_head (m:=l)]; exact h2 (.inl rfl)
 | succ n =>
  cases cs with
  | nil=>simpa using h2 (.inr rfl)
  | cons c l=>simp only [List.take_succ_cons,List.cons_append]; rw [isMp_head (m:=l)]; exact h1
theorem isMp_reflag {g:Fl->Fl} {l:List V} (h:isMp l = false):isMp (reflagL g l) = false:=by
 cases l with
 | nil=>rfl
 | cons x l=>cases x with
  | mp=>simp [isMp] at h
  | room s n =>
   simp only [reflagL,V.reflag];by_cases h1:g .own = .own
   ·rw [if_pos h1]; rfl
   ·rw [if_neg h1];by_cases h2:n = 0
    ·rw [if_pos h2]; rfl
    ·rw [if_neg h2]; rfl
  | _=>rfl
theorem opSem_mp {tk:Bool} {o:Op} {ty:TypeId} {ys:List V} {q:Root} {bx:Option (List V)} {u:V} {c':List V} (hr:rootOf o ys = some q) (hb:∀ c,bx = some c->isMp c = false)
  (h:opSem P H f tk o ty ys bx = some (u,some c')):isMp c' = false:=by
 obtain ⟨off,rest,rfl,⟨t,a,rfl⟩ | ⟨t,a,x,rfl⟩⟩:=rootOf_some hr
 ·cases rest with
  | nil =>
   simp only [opSem] at h;split at h
   ·rename_i cs;split at h
    ·cases h
    ·split at h
     ·obtain ⟨y,_,he⟩:=Option.map_eq_some_iff.1 h;cases he;refine isMp_splice (hb cs rfl) λh0=>isMp_reflag ?_;have h9:=hb cs rfl;cases cs with
      | nil=>simp [isMp]
      | cons c l =>
       rcases h0 with h0 | h0
       ·subst h0;simp only [List.drop_zero];cases (if isAggT P t = true then P.cellsOf t else 1) with
        | zero=>rfl
        | succ n=>simp only [List.take_succ_cons]; rw [isMp_head (m:=l)]; exact h9
       ·cases h0
     ·obtain ⟨y,_,he⟩:=Option.map_eq_some_iff.1 h;cases he
   ·cases h
  | cons y l=>simp [opSem] at h
 ·match rest,h with
  | [y],h =>
   simp only [opSem] at h;split at h
   ·rename_i cs;split at h
    ·rename_i hc;simp only [Option.some.injEq,Prod.mk.injEq] at h;obtain ⟨_,rfl⟩:=h;exact isMp_splice (hb _ rfl) λ_=>isMp_oks hc.2.2.2.2
    ·cases h
   ·cases h
  | [],h=>simp [opSem] at h
  | _ :: _ :: _,h=>simp [opSem] at h
theorem isMapOp_of {op:Op} {xs:List TV} {ys:List V} (hx:RVL xs ys) (h:isMapOpT op xs = true):isMapOp op ys = true:=by
 unfold isMapOpT at h;split at h
 ·rfl
 ·rfl
 ·rfl
 ·rfl
 ·simp only [RVL] at hx;obtain ⟨v,m,rfl,h1,rfl⟩:=hx;simp only [RV] at h1;subst h1; rfl
 ·cases h
theorem isMapOp_to {op:Op} {xs:List TV} {ys:List V} (hx:RVL xs ys) (hn:¬ isMapOpT op xs = true) (hm:isMapOp op ys = true) :
  rootOfT op xs = none/\∀ tk bx (R:Type) (k:TV->Option (List TV)->Option R),topSem P H f tk op xs bx R k = none:=by
 unfold isMapOp at hm;split at hm
 ·exact absurd rfl hn
 ·exact absurd rfl hn
 ·exact absurd rfl hn
 ·exact absurd rfl hn
 ·rename_i args argTypes q
  match xs,hx with
  | [x],hx =>
   obtain ⟨v,hv,hr⟩:=rvl_one hx;cases hv;cases x with
   | any rs=>exact ⟨rfl,λ_ _ _ _=>rfl⟩
   | mref r=>exact absurd rfl hn
   | t τ o x=>cases τ <;> simp [RV,RTy] at hr
   | _=>simp [RV] at hr
  | [],hx=>simp [RVL] at hx
  | x :: y :: l,hx =>
   have:=hx.length;simp at this
 ·cases hm
theorem mapStepT_ok {o:Oper} {xs:List TV} {ys:List V} {st:TSt} {s:St} {R:Type} {k:TV->TSt->Fp->Option R} {r:R} (hx:RVL xs ys) (hs:Rst st s) (h:mapStepT P H f o xs st R k = some r) :
  ∃ v st' fp u s',k v st' fp = some r/\mapStep P H f o ys s = some (u,s',fp)/\RV v u/\Rst st' s'/\Fr2 st st' s s'/\st'.E = st.E/\s'.E = s.E:=by
 have hset:∀ {q:Root} {τ:Ty} {o':Nat} {l:List τ.den},st.box q = some [.t (.mset τ) o' l]->keyTy τ = true/\s.box q = some [.mp (kvs τ l)] /\ ¬ q.slot < 16384:=λ{q τ o' l} hb=>by
  obtain ⟨c',hc',hr⟩:=hs.box hb;obtain ⟨v,rfl,hv⟩:=rvl_one hr;simp only [RV,RTy] at hv;obtain ⟨hk,rfl⟩:=hv;refine ⟨hk,hc',λhlt=>?_⟩;have:=hs.M.mp q.lvl q.slot _ (by rw [<- look_box]; exact hc') hlt;simp [isMp] at this
 unfold mapStepT at h;split at h
 ·-- make
  rename_i t ro hop;split at h
  ·rename_i d kt vt hd hu;split at h
   ·rename_i τ hτ;split at h
    ·rename_i hc;obtain ⟨hn,hk,hci⟩:=hc;have hn':lookT st.B (mapSlot d) = none:=by simpa using hn
     have hrv:RVL [.t (.mset τ) 0 []] [.mp []]:=rvl_cons.2 ⟨by simp [RV,RTy,hk],rvl_nil⟩;obtain ⟨hR,hF⟩:=push_ok hs hn' (RVL.rc hrv) (λhlt=>absurd hlt (by unfold mapSlot; omega));refine ⟨_,_,_,.mref ⟨s.L.length,mapSlot d⟩,_,h,?_,by simp [RV,hs.len],hR,hF,rfl,rfl⟩;have hci':isConstInt ys = true:=by
      unfold isConstIntT at hci;split at hci
      ·simp only [RVL] at hx; subst hx; rfl
      ·obtain ⟨v,rfl,hv⟩:=rvl_one hx;simp only [RV,RTy] at hv;subst hv; rfl
      ·cases hci
     unfold mapStep;simp only [hop,hd,hu];rw [if_pos ⟨by rw [lookT_none hs hn']; rfl,hci'⟩,hs.len]
    ·cases h
   ·cases h
  ·cases h
 ·-- look up
  rename_i t mo ko ok hop;split at h
  ·rename_i q x;split at h
   ·rename_i τ o' l kt vt hb hu;split at h
    ·rename_i hf;split at h
     ·rename_i o2 y hz hy;obtain ⟨v1,m1,rfl,hv1,hx⟩:=(by simpa only [RVL] using hx:∃ v m,ys = v :: m/\RV (.mref q) v/\∃ v' m',m = v' :: m'/\RV x v'/\m' = [])
      obtain ⟨v2,m2,rfl,hv2,rfl⟩:=hx;simp only [RV] at hv1;subst hv1;obtain ⟨hk,hbs,_⟩:=hset hb;obtain ⟨u,hlk,hru⟩:=lookup_ok (ok:=ok) (l:=l) hu hf hz hy hv2;refine ⟨_,_,_,u,s,h,?_,hru,hs,Fr2.refl _ _,rfl,rfl⟩;unfold mapStep;simp only [hop,hbs,hlk,Option.map_some]
     ·cases h
    ·cases h
   ·cases h
  ·cases h
 ·rename_i t mo ko xo hop;split at h
  ·rename_i q x ob;split at h
   ·rename_i τ o' l kt vt hb hu;split at h
    ·rename_i hf;split at h
     ·rename_i y hy;obtain ⟨v1,m1,rfl,hv1,hx⟩:=(by simpa only [RVL] using hx:∃ v m,ys = v :: m/\RV (.mref q) v/\∃ v' m',m = v' :: m'/\RV x v'/\∃ v'' m'',m' = v'' :: m''/\RV (.t .bool ob true) v''/\m'' = [])
      obtain ⟨v2,m2,rfl,hv2,hx⟩:=hx;obtain ⟨v3,m3,rfl,hv3,rfl⟩:=hx;simp only [RV] at hv1;subst hv1;obtain ⟨hk,hbs,hsl⟩:=hset hb;have hup:=update_ok (l:=l) hu hf hy hv2 (by simpa only [RV,RTy] using hv3);have hrv:RVL [.t (.mset τ) 0 (insK τ l y)] [.mp (kvs τ (insK τ l y))]:=rvl_cons.2 ⟨by simp only [RV,RTy]; exact ⟨hk,rfl⟩,rvl_nil⟩;obtain ⟨hR,hF⟩:=setBox_ok hs hb hrv (λhlt=>absurd hlt hsl);refine ⟨_,_,_,.undef,_,h,?_,rv_undef [],hR,hF,(tsetBox_E _ _ _).1,(setBox_E _ _ _).1⟩;unfold mapStep;simp only [hop,hbs,hup,Option.map_some]
     ·cases h
    ·cases h
   ·cases h
  ·cases h
 ·rename_i t mo ko xo hop;split at h
  ·rename_i q x ob;split at h
   ·rename_i τ o' l kt vt hb hu;split at h
    ·rename_i hf;split at h
     ·rename_i y hy;obtain ⟨v1,m1,rfl,hv1,hx⟩:=(by simpa only [RVL] using hx:∃ v m,ys = v :: m/\RV (.mref q) v/\∃ v' m',m = v' :: m'/\RV x v'/\∃ v'' m'',m' = v'' :: m''/\RV (.t .bool ob true) v''/\m'' = [])
      obtain ⟨v2,m2,rfl,hv2,hx⟩:=hx;obtain ⟨v3,m3,rfl,hv3,rfl⟩:=hx;simp only [RV] at hv1;subst hv1;obtain ⟨hk,hbs,hsl⟩:=hset hb;have hup:=update_ok (l:=l) hu hf hy hv2 (by simpa only [RV,RTy] using hv3);have hrv:RVL [.t (.mset τ) 0 (insK τ l y)] [.mp (kvs τ (insK τ l y))]:=rvl_cons.2 ⟨by simp only [RV,RTy]; exact ⟨hk,rfl⟩,rvl_nil⟩;obtain ⟨hR,hF⟩:=setBox_ok hs hb hrv (λhlt=>absurd hlt hsl);refine ⟨_,_,_,.undef,_,h,?_,rv_undef [],hR,hF,(tsetBox_E _ _ _).1,(setBox_E _ _ _).1⟩;unfold mapStep;simp only [hop,hbs,hup,Option.map_some]
     ·cases h
    ·cases h
   ·cases h
  ·cases h
 ·rename_i args argTypes hop;split at h
  ·rename_i q;split at h
   ·rename_i τ o' l kt vt hb hu;split at h
    ·rename_i hm;obtain ⟨v,rfl,hv⟩:=rvl_one hx;simp only [RV] at hv;subst hv;obtain ⟨hk,hbs,_⟩:=hset hb;refine ⟨_,_,_,.val (.int .i64 (kvs τ l).length),s,h,?_,by simp [RV,RTy,kvs],hs,Fr2.refl _ _,rfl,rfl⟩;unfold mapStep;simp only [hop,hbs,hu,hm,if_true]
    ·cases h
   ·cases h
  ·cases h
 ·cases h
theorem bornT_ok (hO:OOk P H lib O) {d:Option Tmp} {fv:TV} {fv':V} {args:List TV} {args':List V} {st:TSt} {s:St} {R:Type} {k:TV->TSt->Fp->Option R} {r:R}
  (hf:RV fv fv') (ha:RVL args args') (hs:Rst st s) (h:bornT O ctx d fv args st R k = some r) :
  ∃ v st' fp u s',k v st' fp = some r/\Ev (λC=>vborn C d fv' args' s = some (u,s',fp)) P H lib/\RV v u/\Rst st' s'/\Fr2 st st' s s'/\st'.E = st.E/\s'.E = s.E:=by
 unfold bornT at h;split at h
 ·rename_i g first cap d;simp only [RV] at hf;obtain ⟨first',cap',rfl,hf1,hc1⟩:=hf;have hall:RVL (first ++ args ++ cap) (first' ++ args' ++ cap'):=(hf1.append ha).append hc1;split at h
  ·rename_i hc;simp only [Bool.and_eq_true,Option.isNone_iff_eq_none] at hc;obtain ⟨⟨⟨hk,hp⟩,htg⟩,hn⟩:=hc;have hpt:=RVL.ptrs_eq _ _ hk hall;have hp':(ptrsL (first' ++ args' ++ cap')).isEmpty = true:=by rw [hpt]; exact hp
   have hl:=RVL.tight _ _ htg hall;have hshare:RVL (shareL (first ++ args ++ cap)) ((first' ++ args' ++ cap').map V.share):=by
    have:=RVL.share _ _ hall;rw [reflagL_map] at this; exact this
   obtain ⟨x,τ,o,l,v,sl,hkx,hkt,hr,hom,hev⟩:=hO.born _ _ _ _ _ _ _ h hshare;have hrv:RVL [.t (.mset τ) o l] [.mp (kvs τ l)]:=rvl_cons.2 ⟨by simp only [RV,RTy]; exact ⟨hkt,rfl⟩,rvl_nil⟩;obtain ⟨hR,hF⟩:=push_ok hs hn (RVL.rc hrv) (λhlt=>absurd hlt (by unfold mapSlot; omega));refine ⟨_,_,_,v.adopt ⟨s.L.length,mapSlot d⟩,_,hkx,hev.imp λC hC=>?_,?_,hR,hF,rfl,rfl⟩
   ·unfold vborn;simp only [hC];rw [if_pos (by simp only [Bool.and_eq_true,Bool.not_eq_true',Option.isNone_iff_eq_none]; exact ⟨⟨hp',hl⟩,lookT_none hs hn⟩),hs.len]
   ·rw [hs.len]; exact (rv_adopt _ _ _ hom hr).1
  ·cases h
 ·cases h
theorem hideT_look {n:Nat} {q:Root} {c:List TV} (l sl:Nat):lookM (hideT n q c) l sl = if l = q.lvl/\sl = q.slot/\l < n then some (some c) else none:=by
 unfold lookM hideT;simp only [List.getElem?_map];by_cases hl:l < n
 ·rw [List.getElem?_range hl];simp only [Option.map_some];by_cases h1:l = q.lvl
  ·rw [if_pos h1];simp only [lookT];by_cases h2:q.slot = sl
   ·rw [if_pos h2,if_pos ⟨h1,h2.symm,hl⟩]
   ·rw [if_neg h2,if_neg (λe=>h2 e.2.1.symm)]
  ·rw [if_neg h1,if_neg (λe=>h1 e.1)]; rfl
 ·rw [List.getElem?_eq_none (by simp; omega),if_neg (λe=>hl e.2.2)]; rfl
theorem hideV_look {n:Nat} {q:Root} {c:List V} (l sl:Nat):lookV (hideL n q c) l sl = if l = q.lvl/\sl = q.slot/\l < n then some c else none:=by
 unfold lookV hideL;simp only [List.getElem?_map];by_cases hl:l < n
 ·rw [List.getElem?_range hl];simp only [Option.map_some];by_cases h1:l = q.lvl
  ·rw [if_pos h1];simp only [lookB];by_cases h2:q.slot = sl
   ·rw [if_pos h2,if_pos ⟨h1,h2.symm,hl⟩]
   ·rw [if_neg h2,if_neg (λe=>h2 e.2.1.symm)]
  ·rw [if_neg h1,if_neg (λe=>h1 e.1)]; rfl
 ·rw [List.getElem?_eq_none (by simp; omega),if_neg (λe=>hl e.2.2)]; rfl
theorem mcallT_ok (hO:OOk P H lib O) {d:Tmp} {g:FuncId} {args:List TV} {args':List V} {q:Root} {st:TSt} {s:St} {R:Type} {k:TV->TSt->Option R} {r:R}
  (ha:RVL args args') (hs:Rst st s) (h:mcallT O ctx d g args q st R k = some r) :
  ∃ v st' u s',k v st' = some r/\Ev (λC=>vmcall C g args' q s = some (u,s')) P H lib/\RV v u/\Rst st' s'/\Fr2 st st' s s'/\st'.E = st.E/\s'.E = s.E:=by
 unfold mcallT at h;split at h
 ·rename_i τ o l hb;obtain ⟨c',hc',hcr⟩:=hs.box hb;obtain ⟨mv,rfl,hmv⟩:=rvl_one hcr;simp only [RV,RTy] at hmv;obtain ⟨hkt,rfl⟩:=hmv;have hsl:¬ q.slot < 16384:=λhlt=>by
   have:=hs.M.mp q.lvl q.slot _ (by rw [<- look_box]; exact hc') hlt;simp [isMp] at this
  have hLR:LR (hideT (st.L.length + 1) q [.t (.mset τ) o l]) (hideL (s.L.length + 1) q [.mp (l.map λx=>(keyVal τ x,.bool true))]):=by
   refine ⟨by simp [hideT,hideL,hs.len],λl' sl=>?_,λb hb'=>?_,λl' sl c hc hlt=>?_⟩
   ·rw [hideT_look,hideV_look,hs.len];split
    ·exact ⟨_,rfl,hcr⟩
    ·rfl
   ·unfold hideL at hb';obtain ⟨x,_,rfl⟩:=List.mem_map.1 hb';split <;> simp
   ·rw [hideV_look] at hc;split at hc
    ·rename_i e; exact absurd (by rw [<- e.2.1]; exact hlt) hsl
    ·cases hc
  have hdull:RVL (dullL args) (args'.map V.hand):=ha.map_dull flHand_own rfl;obtain ⟨x,N,wb,v,N',hkx,hr,hN,hlen,hfr,hev⟩:=hO.call _ _ _ _ _ _ _ _ _ h hdull hLR;split at hkx
  ·rename_i hc;simp only [Bool.and_eq_true,Bool.not_eq_true',List.isEmpty_iff] at hc;obtain ⟨⟨hkn,hp⟩,hown⟩:=hc;split at hkx
   ·rename_i τ' o' l' hlk;have hrel:=hN.rel q.lvl q.slot;rw [show lookM N q.lvl q.slot = some (some [.t (.mset τ') o' l']) from hlk] at hrel;obtain ⟨c2,hc2,hcr2⟩:=hrel;obtain ⟨mv2,rfl,hmv2⟩:=rvl_one hcr2;have hmv2':=hmv2;simp only [RV,RTy] at hmv2';obtain ⟨hkt2,rfl⟩:=hmv2';obtain ⟨hR,hF⟩:=setBox_ok hs hb (rvl_cons.2 ⟨hmv2,rvl_nil⟩) (λhlt=>absurd hlt hsl);have hvo:v.owns = false:=by
     cases hvo:v.owns with
     | false=>rfl
     | true=>rw [RV.owns x v hr hvo] at hown; cases hown
    refine ⟨x,_,v,_,hkx,hev.imp λC hC=>?_,hr,hR,hF,(tsetBox_E _ _ _).1,(setBox_E _ _ _).1⟩;unfold vmcall;simp only [hc',hC];rw [if_pos (by rw [RV.ptrs_eq x v hkn hr,hp,hvo]; rfl)];rw [show boxOf N' q = lookV N' q.lvl q.slot from rfl,hc2]
   ·cases hkx
  ·cases hkx
 ·cases h
theorem isSeq_fn {fv:TV} {fv':V} {g:FuncId} {a b:List TV} (h:RV (.fn g a b) fv'):isSeq H fv' = (H.seq g).isSome:=by
 simp only [RV] at h;obtain ⟨a',b',rfl,_⟩:=h;rfl
theorem seqT_ok {d:Option Tmp} {fv:TV} {fv':V} {args:List TV} {args':List V} {st:TSt} {s:St} {R:Type} {k:TV->TSt->Fp->Option R} {r:R}
  (hf:RV fv fv') (ha:RVL args args') (hs:Rst st s) (h:seqT H d fv args st R k = some r) :
  ∃ v st' fp u s',k v st' fp = some r/\Ev (λC=>vseq C d fv' args' s = some (u,s',fp)) P H lib/\RV v u/\Rst st' s'/\Fr2 st st' s s'/\st'.E = st.E/\s'.E = s.E:=by
 unfold seqT at h;split at h
 ·rename_i g first cap d;simp only [RV] at hf;obtain ⟨first',cap',rfl,hf1,hc1⟩:=hf;have hall:RVL (first ++ args ++ cap) (first' ++ args' ++ cap'):=(hf1.append ha).append hc1;split at h
  ·rename_i o1 str o2 sep hl;rw [hl] at hall;simp only [RVL,RV,RTy] at hall;obtain ⟨_,_,hl',rfl,_,_,rfl,rfl,rfl⟩:=hall;split at h
   ·rename_i clos hc;split at h
    ·rename_i hn;rw [Option.isNone_iff_eq_none] at hn;have hrv:RVL [.t .str 0 str] [.val (.string ⟨str.toArray⟩)]:=rvl_cons.2 ⟨by simp only [RV,RTy],rvl_nil⟩;obtain ⟨hR,hF⟩:=push_ok hs hn (RVL.rc hrv) (λ_=>rfl);refine ⟨_,_,_,.fn clos [] [.cptr .shared [.val (.string ⟨sep.toArray⟩)],.ptr ⟨s.L.length,d⟩ 0,.cptr .shared [.val (.int .i64 0)]],_,h,⟨1,λm hm=>?_⟩,?_,hR,hF,rfl,rfl⟩
     ·obtain ⟨m',rfl⟩:∃ m',m = m' + 1:=⟨m - 1,by omega⟩
      unfold vseq;simp only [hl',orcN,hc];rw [if_pos (by rw [Option.isNone_iff_eq_none]; exact lookT_none hs hn),hs.len]
     ·simp only [RV];exact ⟨[],_,rfl,rvl_nil,rvl_cons.2 ⟨by simp only [RV]; exact ⟨.shared,_,rfl,by simp,λ_=>rfl,rvl_cons.2 ⟨by simp only [RV,RTy],rvl_nil⟩⟩,rvl_cons.2 ⟨by simp only [RV,hs.len],rvl_cons.2 ⟨by simp only [RV]; exact ⟨.shared,_,rfl,by simp,λ_=>rfl,rvl_cons.2 ⟨by simp only [RV,RTy],rvl_nil⟩⟩,rvl_nil⟩⟩⟩⟩
    ·cases h
   ·cases h
  ·cases h
 ·cases h
theorem isBorn_fn {fv:TV} {fv':V} {g:FuncId} {a b:List TV} (h:RV (.fn g a b) fv'):isBorn H fv' = H.born g:=by
 simp only [RV] at h;obtain ⟨a',b',rfl,_⟩:=h;rfl
theorem specT_ok (hO:OOk P H lib O) {d:Option Tmp} {fv:TV} {fv':V} {args:List TV} {args':List V} {st:TSt} {s:St} {R:Type} {k:TV->TSt->Fp->Option R} {r:R}
  (hf:RV fv fv') (ha:RVL args args') (hs:Rst st s) (h:specT H O ctx d fv args st R k = some r) :
  isSpec H fv' args' = true/\∃ v st' fp u s',k v st' fp = some r/\Ev (λC=>vspec H C d fv' args' s = some (u,s',fp)) P H lib/\RV v u/\Rst st' s'/\Fr2 st st' s s'/\st'.E = st.E/\s'.E = s.E:=by
 unfold specT at h;split at h
 ·rename_i hbn;have hb':isBorn H fv' = true:=by
   cases fv <;> first | (simp [isBornT] at hbn; done) | (rw [isBorn_fn (fv:=.any []) hf]; exact hbn)
  obtain ⟨v,st',fp,u,s',hk,hev,hr,hR,hF,e1,e2⟩:=bornT_ok hO hf ha hs h;refine ⟨by unfold isSpec; rw [hb']; rfl,v,st',fp,u,s',hk,hev.imp λC hC=>?_,hr,hR,hF,e1,e2⟩;unfold vspec;rw [if_pos hb']; exact hC
 rename_i hbn;split at h
 ·rename_i hsq;have hb':isBorn H fv' = false:=by
   cases fv <;> first | (simp [isSeqT] at hsq; done) | (rw [isBorn_fn (fv:=.any []) hf]; simpa [isBornT] using hbn)
  have hs':isSeq H fv' = true:=by
   cases fv <;> first | (simp [isSeqT] at hsq; done) | (rw [isSeq_fn (fv:=.any []) hf]; exact hsq)
  obtain ⟨v,st',fp,u,s',hk,hev,hr,hR,hF,e1,e2⟩:=seqT_ok (P:=P) (lib:=lib) hf ha hs h;refine ⟨by unfold isSpec; rw [hs',hb']; rfl,v,st',fp,u,s',hk,hev.imp λC hC=>?_,hr,hR,hF,e1,e2⟩;unfold vspec;rw [if_neg (by rw [hb']; simp),if_pos hs']; exact hC
 ·rename_i hsq;split at h
  ·rename_i g first cap q hq;have hb':isBorn H fv' = false:=by
    rw [isBorn_fn (fv:=.any []) hf]; simpa [isBornT] using hbn
   have hs':isSeq H fv' = false:=by
    rw [isSeq_fn (fv:=.any []) hf]; simpa [isSeqT] using hsq
   have hf':=hf;simp only [RV] at hf';obtain ⟨first',cap',rfl,hf1,hc1⟩:=hf';have hall:RVL (first ++ args ++ cap) (first' ++ args' ++ cap'):=(hf1.append ha).append hc1;have hkn:knownL (first ++ args ++ cap) = true:=by
    unfold mcallOfT at hq;simp only at hq;split at hq
    ·assumption
    ·cases hq
   have hq':mcallOf (.fn g first' cap') args' = some q:=by rw [mcallOf_eq hkn hall]; exact hq
   obtain ⟨v,st',u,s',hk,hev,hr,hR,hF,e1,e2⟩:=mcallT_ok hO hall hs h;refine ⟨by unfold isSpec; rw [hq']; simp,v,st',_,u,s',hk,hev.imp λC hC=>?_,hr,hR,hF,e1,e2⟩;unfold vspec;rw [if_neg (by rw [hb']; simp),if_neg (by rw [hs']; simp),hq'];simp only [hC,Option.map_some]
  ·cases h
theorem dfltMT_ok {o:Oper} {xs:List TV} {ys:List V} {st:TSt} {s:St} {R:Type} {k:TV->TSt->Fp->Option R} {r:R} (hx:RVL xs ys) (hs:Rst st s) (h:dfltMT P H f o xs st R k = some r) :
  ∃ v st' fp u s',k v st' fp = some r/\dfltM P H f o ys s = some (u,s',fp)/\RV v u/\Rst st' s'/\Fr2 st st' s s'/\st'.E = st.E/\s'.E = s.E:=by
 unfold dfltMT at h;split at h
 ·rename_i hmo;obtain ⟨v,st',fp,u,s',hk,hm,hr,hR,hF,e1,e2⟩:=mapStepT_ok hx hs h;refine ⟨v,st',fp,u,s',hk,?_,hr,hR,hF,e1,e2⟩;unfold dfltM;rw [if_pos (isMapOp_of hx hmo),hm]
 rename_i hmo;have hmo':¬ isMapOp o.op ys = true:=λhm=>by
  obtain ⟨h1,h2⟩:=isMapOp_to (P:=P) (H:=H) (f:=f) hx hmo hm;rw [h1] at h; simp only [h2] at h; cases h
 split at h
 ·rename_i hr;obtain ⟨z,c,u,c',hk,hsem,hrv,hbo⟩:=topSem_ok (ty:=o.type) (bx:=none) (bx':=none) hx True.intro (by simp) h;split at hk
  ·have hc':c' = none:=hbo;subst hc';have hr':rootOf o.op ys = none:=by
    cases ho:o.op <;> try rfl
    case load t a =>
     rw [ho] at h hr
     match xs,hx,h,hr with
     | [],hx,h,hr=>simp [topSem] at h
     | [x],hx,h,hr =>
      obtain ⟨v,rfl,hv⟩:=rvl_one hx;cases x <;> simp only [topSem] at h <;> try (cases h; done)
      simp only [RV] at hv; obtain ⟨_,l',rfl,_⟩:=hv; rfl
     | x :: y :: xs,hx,h,hr =>
      cases x <;> simp [topSem] at h
    case store t a b =>
     rw [ho] at h hr
     match xs,hx,h,hr with
     | [],hx,h,hr=>simp [topSem] at h
     | [x],hx,h,hr=>cases x <;> simp [topSem] at h
     | [x,y],hx,h,hr =>
      cases x <;> simp only [topSem] at h <;> try (cases h; done)
     | x :: y :: z :: xs,hx,h,hr=>cases x <;> simp [topSem] at h
   refine ⟨z,st,.none,u,s,hk,?_,hrv,hs,Fr2.refl _ _,rfl,rfl⟩;unfold dfltM;rw [if_neg hmo',hr'];simp only [hsem]
  ·cases hk
 ·rename_i q hr;split at h
  ·cases h
  rename_i hslot;have hslot:q.slot < 16384:=Nat.lt_of_not_le hslot;have hmpq:∀ c,s.box q = some c->isMp c = false:=λc hc=>hs.M.mp q.lvl q.slot c (by rw [<- look_box]; exact hc) hslot;obtain ⟨z,c,u,c',hk,hsem,hrv,hbo⟩:=topSem_ok (ty:=o.type) hx (hs.bx q) hmpq h;have hshape:rootOf o.op ys = some q/\rangeOf P o.op ys = rangeOfT P o.op xs/\(∀ p ∈ wptrs o.op ys,p ∈ wptrsT o.op xs)/\(∀ d,c = some d->∃ c0,st.box q = some c0):=by
   cases ho:o.op <;> rw [ho] at hr <;> try (simp [rootOfT] at hr; done)
   case load t a =>
    rw [ho] at h
    match xs,hx,h,hr with
    | [],hx,h,hr=>simp [topSem] at h
    | [x],hx,h,hr =>
     obtain ⟨v,rfl,hv⟩:=rvl_one hx;cases x <;> simp only [rootOfT] at hr <;> try (cases hr; done)
     cases hr;simp only [RV] at hv; subst hv;refine ⟨rfl,rfl,λp hp=>by simp [wptrs] at hp,λd _=>?_⟩;simp only [topSem] at h;split at h
     ·rename_i cs hcs; exact ⟨cs,hcs⟩
     ·cases h
    | x :: y :: xs,hx,h,hr=>cases x <;> simp [topSem] at h
   case store t a b =>
    rw [ho] at h
    match xs,hx,h,hr with
    | [],hx,h,hr=>simp [topSem] at h
    | [x],hx,h,hr=>cases x <;> simp [topSem] at h
    | [x,y],hx,h,hr =>
     cases x <;> simp only [rootOfT] at hr <;> try (cases hr; done)
     cases hr;simp only [RVL] at hx;obtain ⟨v,m,rfl,hv,v2,m2,rfl,hv2,rfl⟩:=hx;simp only [RV] at hv; subst hv;simp only [topSem] at h;split at h
     ·rename_i cs hcs;split at h
      ·rename_i hcond;obtain ⟨hcells,_⟩:=RV.cells hcond.2.2.2 hv2;refine ⟨rfl,?_,λp hp=>?_,λd _=>⟨cs,hcs⟩⟩
       ·simp only [rangeOf,rangeOfT,hcells.length]
       ·simp only [wptrs] at hp;simp only [wptrsT];exact RV.ptrs _ _ hv2 p hp
      ·cases h
     ·cases h
    | x :: y :: z :: xs,hx,h,hr=>cases x <;> simp [topSem] at h
  obtain ⟨hroot,hrange,hwp,hbx⟩:=hshape;split at hk
  ·have hc':c' = none:=hbo;subst hc';refine ⟨z,st,_,u,s,hk,?_,hrv,hs,Fr2.refl _ _,rfl,rfl⟩;unfold dfltM;rw [if_neg hmo',hroot];simp only [hsem,hrange]
  ·rename_i d;obtain ⟨d',rfl,hd⟩:=hbo;split at hk
   ·rename_i hcond;obtain ⟨c0,hc0⟩:=hbx d rfl;obtain ⟨hR,hF⟩:=setBox_ok hs hc0 hd (λ_=>opSem_mp hroot hmpq hsem);refine ⟨z,_,_,u,s.setBox q d',hk,?_,hrv,hR,hF,(tsetBox_E st q d).1,(setBox_E s q d').1⟩;unfold dfltM;rw [if_neg hmo',hroot];simp only [hsem,hrange];rw [if_pos];simp only [Bool.and_eq_true,List.all_eq_true,decide_eq_true_eq] at hcond ⊢;exact ⟨λp hp=>hcond.1 p (hwp p hp),by rw [hd.length]; exact hcond.2⟩
   ·cases hk
end Go.Tx
end
section
namespace Go.Tx
open Go Go.Ab
variable {P:Program} {H:Hints} {J:TH} {T:CallT} {O:TOrc} {lib:FuncId->Option (List V->Option V)} {f:FuncId} {ctx:List Tmp}
theorem isMp_const (p:Bool) (u:Value):isMp (ofConst p u).cells = false:=by
 have h0:∀ u,isMp [ofZero p u] = false:=λu=>by
  unfold ofZero;split
  ·unfold nilSlice; split <;> rfl
  ·rfl
 have h1:∀ u,isMp (ofZero p u).cells = false\/(∃ cs,u = .agg cs):=λu=>by
  unfold ofZero;split
  ·left; unfold nilSlice; split <;> rfl
  ·left; rfl
 by_cases hu:∃ cs,u = .agg cs
 ·obtain ⟨cs,rfl⟩:=hu;show isMp (cs.toList.map (ofZero p)) = false;cases cs.toList with
  | nil=>rfl
  | cons x l=>rw [List.map_cons,isMp_head (m:=[])]; exact h0 x
 ·have e:ofConst p u = ofZero p u:=by
   unfold ofConst;split
   ·exact absurd ⟨_,rfl⟩ hu
   ·rfl
  rw [e];rcases h1 u with h2 | h2
  ·exact h2
  ·exact absurd h2 hu
theorem isLoop_hard {c:List V} (h:isLoop c = false):isLoop (c.map V.hard) = false:=by
 match c with
 | []=>rfl
 | x :: l =>
  simp only [List.map_cons];unfold V.hard;split
  ·rfl
  ·cases x <;> first | rfl | (simp [isLoop] at h)
theorem isMp_hard {c:List V} (h:isMp c = false):isMp (c.map V.hard) = false:=by
 match c with
 | []=>rfl
 | x :: l =>
  simp only [List.map_cons];unfold V.hard;split
  ·rfl
  ·cases x <;> first | rfl | (simp [isMp] at h)
theorem updF_sl {ys:List V}:∀ {p:Path} {v u:V},updF ys p v = some u->∃ c l,u = .sl .own c l:=by
 intro p v u h;unfold updF at h;split at h
 ·cases h
 ·split at h
  ·split at h
   ·split at h
    ·split at h
     ·cases h; exact ⟨_,_,rfl⟩
     ·cases h
    ·split at h
     ·obtain ⟨z,_,rfl⟩:=Option.map_eq_some_iff.1 h;exact ⟨_,_,rfl⟩
     ·cases h
   ·cases h
  ·cases h
 ·cases h
theorem isMp_set {c:List V} {i:Nat} {u:V} (h:isMp c = false) (hu:isMp [u] = false):isMp (c.set i u) = false:=by
 cases c with
 | nil=>rfl
 | cons x l=>cases i with
  | zero=>rw [List.set_cons_zero,isMp_head (m:=[])]; exact hu
  | succ n=>rw [List.set_cons_succ,isMp_head (m:=l)]; exact h
theorem stepMT_ok (hT:TOk P H lib T) (hO:OOk P H lib O) {o:Oper} {xs:List TV} {ys:List V} {st:TSt} {s:St} {R:Type} {k:TV->TSt->Fp->Option R} {r:R} (hx:RVL xs ys) (hs:Rst st s)
  (h:stepMT P H J T O ctx f o xs st R k = some r) :
  ∃ v st' fp u s',k v st' fp = some r/\Ev (λC=>stepM P H C f o ys s = some (u,s',fp)) P H lib/\RV v u/\Rst st' s'/\Fr2 st st' s s'/\st'.E = st.E/\s'.E = s.E:=by
 rcases op_cases o.op with ⟨t,hop⟩ | ⟨t,a,hop⟩ | ⟨c,fo,hop,hc⟩ | hd
 ·unfold stepMT at h;simp only [hop] at h;split at h
  ·rename_i d z hd hz;split at h
   ·rename_i hn;have hn':lookT st.B d = none:=by simpa using hn
    obtain ⟨z',hz',_,hcz⟩:=zeroT_ok hz;have hmz:isMp z'.cells = false:=by
     obtain ⟨i,u,_,_,rfl⟩:=zero_info hz';exact isMp_const _ u
    obtain ⟨hR,hF⟩:=push_ok hs hn' (RVL.rc hcz) (λ_=>hmz);refine ⟨_,_,_,.ptr ⟨s.L.length,d⟩ 0,_,h,.of λC=>?_,by simp [RV,hs.len],hR,hF,rfl,rfl⟩;unfold stepM;simp only [hop,hd,hz'];rw [if_pos (by rw [lookT_none hs hn']; rfl),hs.len]
   ·cases h
  ·cases h
 ·unfold stepMT at h;simp only [hop] at h;split at h
  ·rename_i d x hd;split at h
   ·rename_i hn;have hn':lookT st.B d = none:=by simpa using hn.1
    obtain ⟨v,rfl,hv⟩:=rvl_one hx;obtain ⟨hcells,hok⟩:=RV.cells hn.2.2 hv;obtain ⟨hR,hF⟩:=push_ok hs hn' (RVL.rc hcells) (λ_=>isMp_oks hok);refine ⟨_,_,_,.ptr ⟨s.L.length,d⟩ 0,_,h,.of λC=>?_,by simp [RV,hs.len],hR,hF,rfl,rfl⟩;unfold stepM;simp only [hop,hd];rw [if_pos ⟨by rw [lookT_none hs hn']; rfl,by rw [hcells.length]; exact hn.2.1,hok⟩,hs.len]
   ·cases h
  ·cases h
 ·rw [stepMT_call hop hc] at h;cases xs with
  | nil=>cases h
  | cons fv args =>
   simp only [RVL] at hx;obtain ⟨fv',args',rfl,hfv,ha⟩:=hx;simp only at h;cases hbn:isSpecT H fv args with
   | true =>
    rw [if_pos hbn] at h;obtain ⟨hb',v,st',fp,u,s',hk,hev,hr,hR,hF,e1,e2⟩:=specT_ok hO hfv ha hs h;refine ⟨v,st',fp,u,s',hk,hev.imp λC hC=>?_,hr,hR,hF,e1,e2⟩;rw [stepM_call hop hc];simp only [hb',if_true];exact hC
   | false =>
    rw [if_neg (by rw [hbn]; simp)] at h;simp only [isSpecT,Bool.or_eq_false_iff] at hbn;have hb':isSpec H fv' args' = false:=by
     have h':=h;unfold callVT at h';split at h'
     ·rename_i g first cap;split at h'
      ·rename_i hkn;have hbn1:isBorn H fv' = false:=by rw [isBorn_fn (fv:=.any []) hfv]; exact hbn.1
       have hbn2:isSeq H fv' = false:=by rw [isSeq_fn (fv:=.any []) hfv]; exact hbn.2.1
       have hf':=hfv;simp only [RV] at hf';obtain ⟨first',cap',rfl,hf1,hc1⟩:=hf';unfold isSpec;rw [hbn1,hbn2,mcallOf_eq hkn ((hf1.append ha).append hc1),hbn.2.2]; rfl
      ·cases h'
     ·have hf':=hfv;simp only [RV] at hf';subst hf';rfl
     ·cases h'
    obtain ⟨v,st',u,s',hk,hev,hr,hR,hF,e1,e2,hp⟩:=callVT_ok hT hO hfv ha hs h;refine ⟨v,st',_,u,s',hk,hev.imp λC hC=>?_,hr,hR,hF,e1,e2⟩;rw [stepM_call hop hc];obtain ⟨hC,hlk⟩:=hC;simp only [hb',Bool.false_eq_true,if_false,hC,Option.map_some];rw [<- hp,hlk]
 ·rw [stepMT_dflt hd] at h;obtain ⟨v,st',fp,u,s',hk,hm,hr,hR,hF,e1,e2⟩:=dfltMT_ok hx hs h;exact ⟨v,st',fp,u,s',hk,.of λC=>by rw [stepM_dflt hd]; exact hm,hr,hR,hF,e1,e2⟩
theorem getE {E:Env} {E':List V} (h:RVL E.toL E') (t:Nat):RV (E.get t) (E'.getD t .undef):=by rw [get_getD]; exact h.getD t
theorem rd_ok {o:Oper} {E:Env} {E':List V} (h:RVL E.toL E') (x:Operand):RV (rdT H f o E x) (rd H f o E' x):=by
 cases x with
 | tmp t =>
  simp only [rdT,rd];split
  ·exact getE h t
  ·exact (getE h t).dull
 | const v=>exact rv_const _ _
 | global g=>exact rv_undef []
 | func g=>simp [rdT,rd,RV,RVL]
theorem rds_ok {o:Oper} {E:Env} {E':List V} (h:RVL E.toL E'):∀ l:List Operand,RVL (l.map (rdT H f o E)) (l.map (rd H f o E'))
 | []=>rvl_nil
 | x :: l=>rvl_cons.2 ⟨rd_ok h x,rds_ok h l⟩
theorem dullAt_ok:∀ (ts:List Tmp) {E:Env} {E':List V},RVL E.toL E'->RVL (dullAtT E ts).toL (dullAt E' ts)
 | [],E,E',h=>h
 | t :: ts,E,E',h=>by
  have h1:RVL (E.set t (E.get t).dull).toL (E'.modify t V.dull):=by
   rw [toL_modify];refine rvl_of_get (by simp [h.length]) λi x v hx hv=>?_;rw [List.getElem?_modify] at hx hv;obtain ⟨y,hy,rfl⟩:=Option.map_eq_some_iff.1 hx;obtain ⟨u,hu,rfl⟩:=Option.map_eq_some_iff.1 hv;obtain ⟨u2,hu2,hr⟩:=h.get hy;rw [hu] at hu2; cases hu2;by_cases e:t = i
   ·simp only [e,if_true]; exact hr.dull
   ·simp only [if_neg e]; exact hr
  exact dullAt_ok ts h1
theorem dullAt_other {ts:List Tmp} {t:Nat} (h:t ∉ ts):∀ E:List V,(dullAt E ts)[t]? = E[t]?:=by
 induction ts with
 | nil=>intro E; rfl
 | cons u ts ih =>
  intro E;simp only [List.mem_cons,not_or] at h;have e:dullAt E (u :: ts) = dullAt (E.modify u V.dull) ts:=rfl;rw [e,ih h.2,List.getElem?_modify];simp [Ne.symm h.1]
theorem dullAt_len' (ts:List Tmp) (E:List V):(dullAt E ts).length = E.length:=dullAt_length ts E
theorem put_ok {st:TSt} {s:St} (hs:Rst st s) (d:Option Tmp) {v:TV} {u:V} (hv:RV v u):Rst (st.put d v) (s.put d u)/\Fr2 st (st.put d v) s (s.put d u):=by
 cases d with
 | none=>exact ⟨hs,Fr2.refl _ _⟩
 | some t =>
  refine ⟨⟨by show RVL (st.E.set t v).toL _; rw [toL_set]; exact hs.E.set t hv,hs.M⟩,⟨λx hx=>by simp [TSt.put,hx],λr hr=>hr,λx hx=>.inl ?_,λx hx rs hE=>⟨rs,?_⟩,λr hr=>.inl rfl,λr hr h=>h,rfl,by simp [St.put]⟩⟩
  case refine_2 =>
   simp only [TSt.put,Mask.mem_ins,not_or] at hx;simp only [TSt.put,toL_set] at hE
   rwa [List.getElem?_set_ne (Ne.symm hx.1)] at hE
  simp only [TSt.put,Mask.mem_ins,not_or] at hx;simp only [St.put];rw [List.getElem?_set_ne (Ne.symm hx.1)]
theorem dullAt_same {E:Env} {E':List V} (h:RVL E.toL E') {ts:List Tmp} {t:Nat} (ht:t ∉ ts.filter (λt=>(E.get t).owns)):(dullAt E' ts)[t]? = E'[t]?:=by
 rw [dullAt_at];split
 ·rename_i hm;have hno:(E.get t).owns = false:=by
   cases hh:(E.get t).owns with
   | false=>rfl
   | true=>exact absurd (List.mem_filter.2 ⟨hm,hh⟩) ht
  cases hv:E'[t]? with
  | none=>rfl
  | some v =>
   have hr:=getE h t;rw [List.getD_eq_getElem?_getD (l:=E'),hv] at hr;simp only [Option.map_some,Option.some.injEq];refine dull_of_owns v ?_;cases ho:v.owns with
   | false=>rfl
   | true=>have:=RV.owns _ _ hr ho; rw [hno] at this; cases this
 ·rfl
theorem dull_any {x:TV} {rs:List Root} (h:x.dull = .any rs):x = .any rs:=by
 cases x with
 | room a s=>rcases a with _ | a <;> simp [TV.dull] at h
 | _=>simp_all [TV.dull]
theorem dullAtT_any:∀ (T:List Tmp) (E:Env) (t:Nat) (rs:List Root),(dullAtT E T).toL[t]? = some (.any rs)->∃ rs',E.toL[t]? = some (.any rs')
 | [],E,t,rs,h=>⟨rs,h⟩
 | s :: T,E,t,rs,h=>by
  have h':(dullAtT (E.set s (E.get s).dull) T).toL[t]? = some (.any rs):=h;obtain ⟨rs',h1⟩:=dullAtT_any T _ t rs h';rw [toL_modify,List.getElem?_modify] at h1;cases hE:E.toL[t]? with
  | none=>rw [hE] at h1; cases h1
  | some x =>
   rw [hE] at h1;simp only [Option.map_eq_map,Option.map_some,Option.some.injEq] at h1;split at h1
   ·exact ⟨rs',by rw [dull_any h1]⟩
   ·exact ⟨rs',by rw [h1]⟩
theorem stepFpT_ok (hT:TOk P H lib T) (hO:OOk P H lib O) {o:Oper} {st:TSt} {s:St} {R:Type} {k:TSt->Fp->Option R} {r:R} (hs:Rst st s) (h:stepFpT P H J T O ctx f o st R k = some r) :
  ∃ st' fp s',k st' fp = some r/\Ev (λC=>stepFp P H C f o s = some (s',fp)) P H lib/\Rst st' s'/\Fr2 st st' s s'/\∀ t:Nat,t ∉ tmpsOf o->o.dst ≠ some t->s'.E[t]? = s.E[t]?:=by
 unfold stepFpT at h;split at h
 ·cases h
 ·rename_i hn;have hs1:Rst (if takes H f o = true then { st with E:=dullAtT st.E (tmpsOf o),Wt:=Mask.ofList ((tmpsOf o).filter (λt=>(st.E.get t).owns)) ++ st.Wt } else st) (if takes H f o = true then { s with E:=dullAt s.E (tmpsOf o) } else s) /\
    Fr2 st (if takes H f o = true then { st with E:=dullAtT st.E (tmpsOf o),Wt:=Mask.ofList ((tmpsOf o).filter (λt=>(st.E.get t).owns)) ++ st.Wt } else st) s (if takes H f o = true then { s with E:=dullAt s.E (tmpsOf o) } else s):=by
   split
   ·refine ⟨⟨dullAt_ok _ hs.E,hs.M⟩,⟨λt ht=>by simp [ht],λr hr=>hr,λt ht=>.inl ?_,λt ht rs hE=>?_,λr hr=>.inl rfl,λr hr h=>h,rfl,dullAt_len' _ _⟩⟩
    ·simp only [Mask.mem_append,Mask.mem_ofList,not_or] at ht;exact dullAt_same hs.E ht.1
    ·exact dullAtT_any _ _ _ _ hE
   ·exact ⟨hs,Fr2.refl _ _⟩
  obtain ⟨v,st',fp,u,s',hk,hev,hr,hR,hF,e1,e2⟩:=stepMT_ok hT hO (rds_ok hs.E _) hs1.1 h;obtain ⟨hR2,hF2⟩:=put_ok hR o.dst hr;refine ⟨_,fp,_,hk,hev.imp λC hC=>?_,hR2,(hs1.2.trans hF).trans hF2,λt h1 h2=>?_⟩
  ·unfold stepFp;rw [if_neg hn,hC];rfl
  ·have h3:(s'.put o.dst u).E[t]? = s'.E[t]?:=by
    unfold St.put;cases hd:o.dst with
    | none=>rfl
    | some d =>
     simp only
     rw [List.getElem?_set_ne];rintro rfl; exact h2 hd
   rw [h3,e2];split
   ·exact dullAt_other h1 s.E
   ·rfl
theorem gate_ok {ops:Array Oper} {o:Oper} {st:TSt} {s:St} {R:Type} {yes no:TSt->Option R} {r:R} (hs:Rst st s) (h:gateT ops o st R yes no = some r) :
  ∃ st1 b,wantedA ops s.E o = some b/\Rst st1 s/\Fr2 st st1 s s/\(if b then yes st1 else no st1) = some r:=by
 unfold gateT at h;unfold wantedA;split at h
 ·rename_i hg;rw [hg];exact ⟨st,true,rfl,hs,Fr2.refl _ _,h⟩
 ·rename_i j want hg;rw [hg];simp only
  split at h
  ·rename_i t ht;rw [ht];simp only
   split at h
   ·rename_i o' b hb;obtain ⟨v,hv,hr⟩:=hs.E.get (some_get hb (by simp));simp only [RV,RTy] at hr;subst hr;rw [hv];have hset:∀ c,b = c->Rst ({ st with E:=st.E.set t (.t .bool 0 c) }:TSt) s:=λc hc=>⟨by
     rw [toL_set];refine rvl_set_same hs.E t λu hu=>?_;rw [hv] at hu; cases hu; simp [RV,RTy,hc],hs.M⟩
    have hfr:∀ c,Fr2 st ({ st with E:=st.E.set t (.t .bool 0 c) }:TSt) s s:=λc=>⟨λx hx=>hx,λx hx=>hx,λx hx=>.inl rfl,λx hx rs hE=>⟨rs,by
     simp only [toL_set,List.getElem?_set] at hE;split at hE
     ·split at hE <;> cases hE
     ·exact hE⟩,λx hx=>.inl rfl,λx hx h=>h,rfl,rfl⟩
    cases b with
    | true =>
     simp only [cond_true] at h;refine ⟨_,(true == want),rfl,hset true rfl,hfr true,?_⟩;cases want <;> exact h
    | false =>
     simp only [cond_false] at h;refine ⟨_,(false == want),rfl,hset false rfl,hfr false,?_⟩;cases want <;> exact h
   ·rename_i vs hb;obtain ⟨v,hv,hr⟩:=hs.E.get (some_get hb (by simp));simp only [RV] at hr;subst hr;rw [hv];split at h
    ·rename_i h0;exact ⟨st,false,by simp only [h0,if_true],hs,Fr2.refl _ _,h⟩
    ·cases h
   ·cases h
  ·cases h
def pathV (p:List (Int × Nat × Nat)):Path:=p.map λe=>(e.1.toNat,e.2.1,e.2.2)
theorem idxOfT_ok {E:Env} {E':List V} (h:RVL E.toL E') {i:Operand} {n:Int} (hi:idxOfT E i = some n) (h0:0<=n):idxOf E' i = some n.toNat:=by
 cases i with
 | tmp t =>
  simp only [idxOfT] at hi;obtain ⟨k,hk⟩:=tint_ok hi (getE h t);simp only [idxOf,hk];exact natOf_int h0
 | const v =>
  simp only [idxOfT] at hi;split at hi
  ·cases hi; simp only [idxOf]; exact natOf_int h0
  ·cases hi
 | _=>simp [idxOfT] at hi
theorem lkPathT_ok {ops:Array Oper} {E:Env} {E':List V} (h:RVL E.toL E'):∀ (n k:Nat) (d:Tmp) (rt:Rt) (p:List (Int × Nat × Nat)) (ptr:Bool),lkPathT P H f ops E n k d = some (rt,p,ptr)->(∀ e ∈ p,0<=e.1)->lkPath P H f ops E' n k d = some (rt,pathV p,ptr):=by
 intro n;induction n with
 | zero=>intro k d rt p ptr hx; simp [lkPathT] at hx
 | succ n ih =>
  intro k d rt p ptr hx h0;simp only [lkPathT] at hx;simp only [lkPath];split at hx
  ·rename_i hl;rw [if_pos hl];simp only [Option.some.injEq,Prod.mk.injEq] at hx;obtain ⟨rfl,rfl,rfl⟩:=hx;rfl
  ·rename_i hl;rw [if_neg hl];cases hc:defAt ops k d with
   | none=>rw [hc] at hx; cases hx
   | some c =>
    rw [hc] at hx;try simp only at hx ⊢
    cases hop:(ops[c]?).map Oper.op with
    | none=>rw [hop] at hx; cases hx
    | some op =>
     rw [hop] at hx;try simp only at hx ⊢
     split at hx
     ·rename_i a heq;cases heq;exact ih _ _ _ _ _ hx h0
     ·rename_i t a i heq;cases heq;try simp only
      split at hx
      ·rename_i r q j elem hq hj hu;simp only [Option.some.injEq,Prod.mk.injEq] at hx;obtain ⟨rfl,rfl,rfl⟩:=hx;rw [ih _ _ _ _ _ hq (λe he=>h0 e (by simp [he])),idxOfT_ok h hj (h0 (j,0,P.cellsOf elem) (by simp)),hu];rfl
      ·cases hx
     ·rename_i t a fd heq;cases heq;try simp only
      split at hx
      ·rename_i r j o s q o' hq ho';simp only [Option.some.injEq,Prod.mk.injEq] at hx;obtain ⟨rfl,rfl,rfl⟩:=hx;rw [ih _ _ _ _ _ hq (λe he=>by
        rcases List.mem_cons.1 he with rfl | he
        ·exact h0 (j,o + o',s) (by simp)
        ·exact h0 e (by simp [he])),ho']
       rfl
      ·cases hx
     ·rename_i t a heq;cases heq;try simp only
      split at hx
      ·cases hx
      ·rename_i hag;rw [if_neg hag];split at hx
       ·rename_i hla;rw [if_pos hla];split at hx
        ·rename_i r q hq;simp only [Option.some.injEq,Prod.mk.injEq] at hx;obtain ⟨rfl,rfl,rfl⟩:=hx;rw [ih _ _ _ _ _ hq h0]
        ·cases hx
       ·rename_i hla;rw [if_neg hla];split at hx
        ·rename_i r off hE;simp only [Option.some.injEq,Prod.mk.injEq] at hx;obtain ⟨rfl,rfl,rfl⟩:=hx;have:=getE h a;rw [hE] at this;simp only [RV] at this;rw [this];rfl
        ·cases hx
     ·cases hx
theorem recellT_ok {τ:Ty} (he:τ.elemOk = true) {o:Nat} {e:τ.den} {b:V} (hr:RTy τ o e b) {cs:List TV} {cs':List V} (hc:RVL cs cs') (hlen:cs.length = τ.ncells) (h0:τ.ncells ≠ 0):RV (recellT (ofTy τ o e) cs) (recell b cs'):=by
 have hd:∀ (hone:τ.ncells = 1),RV (cs.headD (.any [])) (cs'.headD .undef):=λ_=>by
  cases hc':cs with
  | nil=>rw [hc'] at hlen; simp at hlen; omega
  | cons x l =>
   rw [hc'] at hc;simp only [RVL] at hc;obtain ⟨v,m,rfl,h1,_⟩:=hc;exact h1
 cases τ with
 | int k=>simp only [RTy] at hr; subst hr; exact hd rfl
 | bool=>simp only [RTy] at hr; subst hr; exact hd rfl
 | str=>simp only [RTy] at hr; subst hr; exact hd rfl
 | flt=>simp only [RTy] at hr; obtain ⟨_,rfl,_⟩:=hr; exact hd rfl
 | cx=>simp only [RTy] at hr; obtain ⟨_,_,rfl,_⟩:=hr; exact hd rfl
 | err=>simp only [RTy] at hr; rcases hr with ⟨_,rfl⟩ | ⟨_,t9,rfl⟩ <;> exact hd rfl
 | mset t=>simp [Ty.elemOk] at he
 | sl t=>simp only [RTy] at hr; obtain ⟨f,c,l',rfl,_⟩:=hr; exact hd rfl
 | unit=>exact absurd rfl h0
 | pair a b' =>
  simp only [RTy] at hr; obtain ⟨v1,l,rfl,_⟩:=hr;simp only [ofTy,recellT,recell,RV];exact ⟨cs',rfl,hc⟩
theorem all2_set {α β:Type} {R:α->β->Prop} {l:List α} {l':List β} (h:All2 R l l'):∀ (i:Nat) {a:α} {b:β},R a b->All2 R (l.set i a) (l'.set i b):=by
 induction h with
 | nil=>intro i a b _; exact .nil
 | cons h1 h2 ih =>
  intro i a b hab;cases i with
  | zero=>exact .cons hab h2
  | succ i=>exact .cons h1 (ih i hab)
theorem updT_ok {ys:List TV} {ys':List V} (hy:RVL ys ys'):∀ (p:List (Int × Nat × Nat)) (x:TV) (v:V) {R:Type} {k:TV->Option R} {r:R},updT ys p x R k = some r->RV x v ->
  (∀ e ∈ p,0<=e.1)/\∃ y u,k y = some r/\updF ys' (pathV p) v = some u/\RV y u:=by
 intro p;induction p with
 | nil=>intro x v R k r h; unfold updT at h; cases h
 | cons q p ih =>
  obtain ⟨i,o,s⟩:=q;intro x v R k r h hx;by_cases hxs:∃ τ lv l,x = .t (.sl τ) lv l
  ·obtain ⟨τ,lv,l,rfl⟩:=hxs;unfold updT at h;split at h
   ·rename_i hc;obtain ⟨hown,hcl,hs0,hok,hel⟩:=hc;obtain ⟨e,he,h⟩:=Option.bind_eq_some_iff.1 h;obtain ⟨h0,hget⟩:=idx_some he;simp only [RV,RTy] at hx;obtain ⟨fl,c,l',rfl,hfl,hall⟩:=hx;have hf:fl = .own:=hfl.own hown;subst hf;obtain ⟨b,hb,hr⟩:=hall.get hget;obtain ⟨hbl,hbo⟩:=rty_ncells hel hr;have hcells:=(RV.cells (ofTy_oks hel (nx lv) e) (rv_ofTy τ (nx lv) e b hr)).1;have hcl2:(ofTy τ (nx lv) e).cells.length = τ.ncells:=by rw [<- hcells.length,hbl]
    have hn0:τ.ncells ≠ 0:=by rw [hcl]; exact hs0
    have hfin:∀ (cs:List TV) (cs':List V) (e':τ.den),RVL cs cs'->cs.length = τ.ncells->asTy τ (nx lv) (recellT (ofTy τ (nx lv) e) cs) = some e' ->
      RV (.t (.sl τ) lv (l.set i.toNat e')) (.sl .own c (l'.set i.toNat (recell b cs'))):=λcs cs' e' hcs hlen has=>by
     have:=asTy_ok _ _ _ _ _ has (recellT_ok hel hr hcs hlen hn0);simp only [RV,RTy];exact ⟨.own,c,_,rfl,flr_own hown,all2_set hall _ this⟩
    cases p with
    | nil =>
     simp only at h;split at h
     ·rename_i hle;split at h
      ·rename_i e' has;have hsp:=splice_ok (off:=o) hcells hy;refine ⟨by simp [h0],_,_,h,?_,hfin _ _ e' hsp ?_ has⟩
       ·simp only [pathV,List.map_cons,List.map_nil,updF];rw [hb];simp only
        rw [if_pos ⟨by rw [hbl,hcl],hbo⟩,if_pos (by rw [hy.length]; exact hle)]
       ·rw [<- hsp.length,splice_length (by rw [hy.length,hbl,hcl]; exact hle),hbl]
      ·cases h
     ·cases h
    | cons q2 p2 =>
     simp only at h;split at h
     ·rename_i z hz;obtain ⟨z',hz',hrz⟩:=hcells.get hz;obtain ⟨h1,y,u,hk,hupd,hyu⟩:=ih z z' h hrz;split at hk
      ·rename_i e' has;have hset:=hcells.set o hyu;refine ⟨λe he=>?_,_,_,hk,?_,hfin _ _ e' hset (by simp [hcl2]) has⟩
       ·rcases List.mem_cons.1 he with rfl | he
        ·exact h0
        ·exact h1 e he
       ·have hpv:pathV ((i,o,s) :: q2 :: p2) = (i.toNat,o,s) :: pathV (q2 :: p2):=rfl;have hpn:pathV (q2 :: p2) = (q2.1.toNat,q2.2.1,q2.2.2) :: pathV p2:=rfl;rw [hpv];rw [hpn] at hupd ⊢;unfold updF;rw [hb];simp only
        rw [if_pos ⟨by rw [hbl,hcl],hbo⟩,hz'];simp only
        rw [hupd]; rfl
      ·cases hk
     ·cases h
   ·cases h
  ·exfalso
   cases x with
   | t τ lv l =>
    cases τ with
    | sl τ=>exact hxs ⟨τ,lv,l,rfl⟩
    | _=>simp [updT] at h
   | _=>simp [updT] at h
theorem rv_hard {x:TV} {v:V} (h:RV x v):RV x.hard v.hard:=by
 unfold TV.hard V.hard;cases hf:x.firm with
 | true =>
  rw [RV.firm x v hf h];simpa using h
 | false =>
  simp only [Bool.false_eq_true,if_false];split
  ·exact rv_undef _
  ·simp only [RV]; exact ⟨λr hr=>RV.ptrs x v h r hr,rvl_notLoop (rvl_cons.2 ⟨h,rvl_nil⟩)⟩
theorem rvl_hard:∀ {l:List TV} {l':List V},RVL l l'->RVL (l.map TV.hard) (l'.map V.hard)
 | [],l',h=>by simp only [RVL] at h; subst h; exact rvl_nil
 | x :: l,l',h=>by
  simp only [RVL] at h; obtain ⟨v,m,rfl,h1,h2⟩:=h;exact rvl_cons.2 ⟨rv_hard h1,rvl_hard h2⟩
theorem rvl_firm:∀ {l:List TV} {l':List V},RVL l l'->l.all TV.firm = true->l'.map V.hard = l'
 | [],l',h,_=>by simp only [RVL] at h; subst h; rfl
 | x :: l,l',h,hf=>by
  simp only [RVL] at h; obtain ⟨v,m,rfl,h1,h2⟩:=h;simp only [List.all_cons,Bool.and_eq_true] at hf;simp only [List.map_cons];rw [rvl_firm h2 hf.2];have:v.hard = v:=by unfold V.hard; rw [RV.firm x v hf.1 h1]; rfl
  rw [this]
theorem softT_mem {E:Env} {i:Nat} {x:TV} (h:E.toL[i]? = some x) (hf:x.firm = false) (ha:x.isAny = false):i ∈ softT E :=
 mask_get (by simp [TV.isAny]) h (by simp [hf,ha])
theorem softB_mem:∀ {b:TLevel} {k:Nat} {c:List TV},lookT b k = some (some c)->c.all TV.firm = false->(⟨0,k⟩:Root) ∈ softB b
 | [],k,c,h,_=>by simp [lookT] at h
 | (k',none) :: b,k,c,h,hf=>by
  simp only [lookT] at h;split at h
  ·cases h
  ·simp only [softB]; exact softB_mem h hf
 | (k',some d) :: b,k,c,h,hf=>by
  simp only [lookT] at h;simp only [softB];split at h
  ·rename_i e;cases h;rw [hf];simp [e]
  ·split
   ·exact softB_mem h hf
   ·exact List.mem_cons_of_mem _ (softB_mem h hf)
theorem lookT_hard (s:Nat):∀ b:TLevel,lookT (hardTB b) s = (lookT b s).map (Option.map (List.map TV.hard))
 | []=>rfl
 | (k,c) :: b=>by
  simp only [hardTB,List.map_cons,lookT];split
  ·rfl
  ·exact lookT_hard s b
theorem notAny_firm {x:TV} (h:x.isAny = true):∃ rs,x = .any rs:=by cases x <;> first | exact ⟨_,rfl⟩ | (simp [TV.isAny] at h)
def softV (s:St) (T:List Tmp):St:={ s with E:=(dullAt s.E T).map V.hard,B:=hardB s.B }
theorem cont_all0 {st:TSt} (hL:st.L = []) (r:Root):st.cont r = if r.lvl = 0 then (match lookT st.B r.slot with | some (some c)=>some c | _=>none) else none:=by
 unfold TSt.cont;rw [hL];simp only [List.length_nil];by_cases h:r.lvl = 0
 ·rw [if_pos h,if_pos h];cases lookT st.B r.slot with
  | none=>rfl
  | some o=>cases o <;> rfl
 ·rw [if_neg h,if_neg h]; simp
theorem noRec_look {b:TLevel} (h:noRecB b = true) {k:Nat} {c:List TV} (hl:lookT b k = some (some c)):isRec c = false:=by
 unfold noRecB at h;rw [List.all_eq_true] at h;have:=h _ (lookT_mem hl);simpa using this
theorem soften_any {st:TSt} {s:St} (h:Rst st s) (hL:st.L = []) (hn0:noRecB st.B = true) (T:List Tmp):s.L = []/\noLoopB s.B = true/\Rst (st.soften T) (softV s T)/\Fr2 st (st.soften T) s (softV s T):=by
 have hL':s.L = []:=List.eq_nil_of_length_eq_zero (by rw [h.len,hL]; rfl);have hB:∀ k,RB (lookT st.B k) (lookB s.B k):=λk=>by
  have:=h.M.rel 0 k;unfold lookM lookV at this;simpa [TSt.all,allV,hL,hL'] using this
 have hnd:(s.B.map (·.1)).Nodup:=h.M.nd s.B (by simp [allV]);have hlp:∀ k c,lookB s.B k = some c->isLoop c = false:=λk c hc=>by
  have:=hB k;cases ht:lookT st.B k with
  | none=>rw [ht] at this; simp only [RB] at this; rw [this] at hc; cases hc
  | some o =>
   rw [ht] at this;cases o with
   | none=>exact this c hc
   | some d=>obtain ⟨d',hd',hr⟩:=this; rw [hc] at hd'; cases hd'; exact rvl_notLoop (hr.rvl (noRec_look hn0 ht))
 have hE:=dullAt_ok T h.E;have hlen:(dullAt s.E T).length = s.E.length:=dullAt_length T s.E;have hfirmE:∀ (t:Nat),t ∉ softT (dullAtT st.E T)->∀ x v,(dullAtT st.E T).toL[t]? = some x->(dullAt s.E T)[t]? = some v->x.firm = true\/∃ rs,x = .any rs:=λt hts x v hx _=>by
  cases hf:x.firm with
  | true=>exact .inl rfl
  | false =>
   cases ha:x.isAny with
   | true=>exact .inr (notAny_firm ha)
   | false=>exact absurd (softT_mem hx hf ha) hts
 have hmap:((dullAtT st.E T).mapI λ_ v=>v.hard).toL = (dullAtT st.E T).toL.map TV.hard:=by
  apply List.ext_getElem?;intro i;rw [toL_mapI,List.getElem?_map]
 refine ⟨hL',?_,⟨by show RVL ((dullAtT st.E T).mapI λ_ v=>v.hard).toL _; rw [hmap]; exact rvl_hard hE,?_⟩,?_⟩
 ·unfold noLoopB;rw [List.all_eq_true];rintro ⟨k,c⟩ hk;simp only [hlp k c (lookB_mem hnd hk),Bool.not_false]
 ·refine ⟨by simp [TSt.all,allV,TSt.soften,softV,hL,hL'],λl k=>?_,λb hb=>?_,λl k c hc hlt=>?_⟩
  rotate_right
  ·unfold lookV at hc;simp only [allV,softV,hL',List.nil_append] at hc;cases l with
   | zero =>
    simp only [List.getElem?_cons_zero,lookB_hard] at hc;obtain ⟨c0,h1,rfl⟩:=Option.map_eq_some_iff.1 hc;exact isMp_hard (h.M.mp 0 k c0 (by unfold lookV; simpa [allV,hL'] using h1) hlt)
   | succ l=>simp at hc
  ·unfold lookM lookV;simp only [TSt.all,allV,TSt.soften,softV,hL,hL',List.nil_append];cases l with
   | zero =>
    simp only [List.getElem?_cons_zero];rw [lookT_hard,lookB_hard];have:=hB k;cases ht:lookT st.B k with
    | none=>rw [ht] at this; simp only [RB] at this; rw [this] <;> rfl
    | some o =>
     rw [ht] at this;cases o with
     | none =>
      simp only [Option.map_some,Option.map_none];intro c hc;obtain ⟨c0,h1,rfl⟩:=Option.map_eq_some_iff.1 hc;exact isLoop_hard (this c0 h1)
     | some d=>obtain ⟨d',hd',hr⟩:=this; rw [hd']; exact ⟨_,rfl,(rvl_hard (hr.rvl (noRec_look hn0 ht))).rc⟩
   | succ l=>simp [RB]
  ·simp only [allV,softV,hL',List.nil_append,List.mem_singleton] at hb;subst hb;simpa [hardB,List.map_map,Function.comp_def] using hnd
 ·refine ⟨λt ht=>by simp [TSt.soften,ht],λr hr=>by simp [TSt.soften,hr],λt ht=>?_,λt ht rs hE'=>?_,λr hr=>?_,λr hr hsm=>?_,rfl,by simp [softV,hlen]⟩
  ·simp only [TSt.soften,Mask.mem_append,Mask.mem_ofList,not_or] at ht;simp only [softV,List.getElem?_map];have hEt:=dullAt_same h.E ht.1;rw [hEt];cases hv:s.E[t]? with
   | none=>left; rfl
   | some v =>
    simp only [Option.map_some];have hv2:(dullAt s.E T)[t]? = some v:=by rw [hEt]; exact hv
    have hxt:∃ x,(dullAtT st.E T).toL[t]? = some x:=by
     have hlt:t < (dullAtT st.E T).toL.length:=by
      have:=(List.getElem?_eq_some_iff.1 hv2).1;rw [<- hE.length]; exact this
     exact ⟨_,List.getElem?_eq_getElem hlt⟩
    obtain ⟨x,hx⟩:=hxt;rcases hfirmE t ht.2.1 x v hx hv2 with hf | ⟨rs,rfl⟩
    ·left
     obtain ⟨v',hv',hr⟩:=hE.get hx;rw [hv2] at hv'; cases hv';unfold V.hard; rw [RV.firm x v hf hr]; rfl
    ·unfold V.hard;cases hs:v.soft with
     | false=>left; rfl
     | true =>
      right
      exact ⟨dullAtT_any _ _ _ _ hx,rfl⟩
  ·simp only [TSt.soften,Mask.mem_append,Mask.mem_ofList,not_or] at ht;simp only [TSt.soften,hmap,List.getElem?_map] at hE';obtain ⟨x,hx,hxa⟩:=Option.map_eq_some_iff.1 hE';obtain ⟨v,hv,_⟩:=hE.get hx;rcases hfirmE t ht.2.1 x v hx hv with hf | ⟨rs',rfl⟩
   ·unfold TV.hard at hxa;rw [hf] at hxa;simp only [if_true] at hxa;subst hxa;simp [TV.firm] at hf
   ·exact dullAtT_any _ _ _ _ hx
  ·simp only [TSt.soften,List.mem_append,not_or] at hr;rw [box_L0 (st:=softV s T) hL',box_L0 hL'];by_cases h0:r.lvl = 0
   ·rw [if_pos h0,if_pos h0];simp only [softV,lookB_hard];have:=hB r.slot;cases ht:lookT st.B r.slot with
    | none=>rw [ht] at this; simp only [RB] at this; rw [this]; left; rfl
    | some o =>
     rw [ht] at this;cases o with
     | none =>
      right
      refine ⟨by rw [hL']; rfl,by rw [cont_all0 hL,if_pos h0,ht],by simp,λc hc=>?_⟩;obtain ⟨c0,h1,rfl⟩:=Option.map_eq_some_iff.1 hc;exact isLoop_hard (this c0 h1)
     | some d =>
      left
      obtain ⟨d',hd',hrr⟩:=this;rw [hd'];cases hf:d.all TV.firm with
      | true=>simp only [Option.map_some]; rw [rvl_firm (hrr.rvl (noRec_look hn0 ht)) hf]
      | false =>
       exfalso
       refine hr.1 ?_;have:=softB_mem ht hf;obtain ⟨l,sl⟩:=r;simp only at h0 this;rw [h0]; exact this
   ·rw [if_neg h0,if_neg h0]; left; rfl
  ·rw [cont_all0 hL] at hsm;have hL2:(st.soften T).L = []:=hL;rw [cont_all0 hL2];by_cases h0:r.lvl = 0
   ·rw [if_pos h0] at hsm ⊢;simp only [TSt.soften,lookT_hard];cases ht:lookT st.B r.slot with
    | none=>rw [ht] at hsm; cases hsm
    | some o =>
     rw [ht] at hsm;cases o with
     | none=>cases hsm
     | some d=>rfl
   ·rw [if_neg h0] at hsm; cases hsm
theorem soften_ok {st:TSt} {s:St} (h:Rst st s) (hL:st.L = []) (hn0:noRecB st.B = true) (hB0:st.B.all (λp=>decide (p.1 < 16384)) = true) (T:List Tmp):s.L = []/\noLpB s.B = true/\Rst (st.soften T) (softV s T)/\Fr2 st (st.soften T) s (softV s T):=by
 obtain ⟨hL',hnl,hR,hF⟩:=soften_any h hL hn0 T;refine ⟨hL',?_,hR,hF⟩;have hB:∀ k,RB (lookT st.B k) (lookB s.B k):=λk=>by
  have:=h.M.rel 0 k;unfold lookM lookV at this;simpa [TSt.all,allV,hL,hL'] using this
 have hnd:(s.B.map (·.1)).Nodup:=h.M.nd s.B (by simp [allV]);have hmp:∀ k c,lookB s.B k = some c->isMp c = false:=λk c hc=>by
  by_cases hlt:k < 16384
  ·have h9:lookV (allV s) 0 k = some c:=by unfold lookV; simpa [allV,hL'] using hc
   exact h.M.mp 0 k c h9 hlt
  ·have:=hB k;cases ht:lookT st.B k with
   | none=>rw [ht] at this; simp only [RB] at this; rw [this] at hc; cases hc
   | some o =>
    rw [List.all_eq_true] at hB0;have h9:=hB0 _ (lookT_mem ht);simp only [decide_eq_true_eq] at h9;omega
 unfold noLpB;unfold noLoopB at hnl;rw [List.all_eq_true] at hnl ⊢;rintro ⟨k,c⟩ hk;have h1:=hnl _ hk;simp only [Bool.not_eq_true'] at h1;simp only [isLp_split h1 (hmp k c (lookB_mem hnd hk)),Bool.not_false]
theorem rv_weak {x:TV} {v:V} (h:RV x v):RV x.hard v:=by
 unfold TV.hard;split
 ·exact h
 ·simp only [RV];exact ⟨RV.ptrs x v h,rvl_notLoop (rvl_cons.2 ⟨h,rvl_nil⟩)⟩
theorem rvl_weak:∀ {l:List TV} {l':List V},RVL l l'->RVL (l.map TV.hard) l'
 | [],l',h=>h
 | x :: l,l',h=>by
  simp only [RVL] at h; obtain ⟨v,m,rfl,h1,h2⟩:=h;exact rvl_cons.2 ⟨rv_weak h1,rvl_weak h2⟩
theorem soften_weak {st:TSt} {s:St} (h:Rst st s) (hL:st.L = []) (hn0:noRecB st.B = true):Rst (st.soften []) s/\Fr2 st (st.soften []) s s:=by
 obtain ⟨hL',_,_,hf⟩:=soften_any h hL hn0 [];have hB:∀ k,RB (lookT st.B k) (lookB s.B k):=λk=>by
  have:=h.M.rel 0 k;unfold lookM lookV at this;simpa [TSt.all,allV,hL,hL'] using this
 have hE:RVL (dullAtT st.E []).toL s.E:=dullAt_ok [] h.E;have hmap:((dullAtT st.E []).mapI λ_ v=>v.hard).toL = (dullAtT st.E []).toL.map TV.hard:=by
  apply List.ext_getElem?;intro i;rw [toL_mapI,List.getElem?_map]
 refine ⟨⟨by show RVL ((dullAtT st.E []).mapI λ_ v=>v.hard).toL _; rw [hmap]; exact rvl_weak hE,⟨by simp [TSt.all,allV,TSt.soften,hL,hL'],λl k=>?_,h.M.nd,h.M.mp⟩⟩,⟨hf.wt,hf.wb,λ_ _=>.inl rfl,hf.an,λ_ _=>.inl rfl,hf.bn,rfl,rfl⟩⟩;unfold lookM lookV;simp only [TSt.all,allV,TSt.soften,hL,hL',List.nil_append];cases l with
 | zero =>
  simp only [List.getElem?_cons_zero];rw [lookT_hard];have:=hB k;cases ht:lookT st.B k with
  | none=>rw [ht] at this; simp only [RB] at this; rw [this] <;> rfl
  | some o =>
   rw [ht] at this;cases o with
   | none=>exact this
   | some d=>obtain ⟨d',hd',hr⟩:=this; rw [hd']; exact ⟨_,rfl,(rvl_weak (hr.rvl (noRec_look hn0 ht))).rc⟩
 | succ l=>simp [RB]
theorem all2_intsV {xs:List Int} {o:Nat} {l:List V} (h:All2 (RTy (.int .i64) o) xs l):intsOf l = some xs:=by
 induction h with
 | nil=>rfl
 | cons h1 _ ih =>
  simp only [RTy] at h1;subst h1;simp only [intsOf,ih,Option.map_some]
theorem all2_ofInts (o:Nat):∀ xs:List Int,All2 (RTy (.int .i64) o) xs (ofInts xs)
 | []=>.nil
 | x :: xs=>.cons (by simp only [RTy]) (all2_ofInts o xs)
theorem turnT_ok {F:List Int->Option (List Int)} {t:Tmp} {d:Option Tmp} {st:TSt} {s:St} {R:Type} {k:TSt->Option R} {r:R} (hs:Rst st s) (h:turnT F t d st R k = some r) :
  ∃ st' s',k st' = some r/\turnStep F t d s = some s'/\Rst st' s'/\Fr2 st st' s s':=by
 unfold turnT at h;split at h
 ·rename_i hLn;simp only [Bool.and_eq_true,List.isEmpty_iff] at hLn;obtain ⟨hL,hn0⟩:=hLn;split at h
  ·rename_i o xs hget;split at h
   ·rename_i ho;obtain ⟨ys,hys,hk⟩:=Option.bind_eq_some_iff.1 h;obtain ⟨hL',hnl,hR1,hF1⟩:=soften_any hs hL hn0 [];have hrt:=getE hs.E t;rw [hget] at hrt;simp only [RV,RTy] at hrt;obtain ⟨f,c,l',hv,hfl,hall⟩:=hrt;have hf:=hfl.own ho;subst hf;have hin:=all2_intsV (o:=0) hall;have hnew:RV (.t (.sl (.int .i64)) o ys) (.sl .own c (ofInts ys)):=by
     simp only [RV,RTy];exact ⟨.own,c,_,rfl,hfl,all2_ofInts 0 ys⟩
    have hand:RV (.any []) V.undef:=rv_undef [];cases hx:xs with
    | nil =>
     obtain ⟨hR0,hF0⟩:=soften_weak hs hL hn0;obtain ⟨hR2,hF2⟩:=put_ok hR0 (some t) hnew;obtain ⟨hR3,hF3⟩:=put_ok hR2 d hand;refine ⟨_,_,hk,?_,hR3,(hF0.trans hF2).trans hF3⟩;unfold turnStep;rw [if_pos (by rw [hL',hnl]; rfl),hv];simp only [hin,hys];rw [hx];rfl
    | cons x0 xs0 =>
     obtain ⟨hR2,hF2⟩:=put_ok hR1 (some t) hnew;obtain ⟨hR3,hF3⟩:=put_ok hR2 d hand;refine ⟨_,_,hk,?_,hR3,(hF1.trans hF2).trans hF3⟩;unfold turnStep;rw [if_pos (by rw [hL',hnl]; rfl),hv];simp only [hin,hys];rw [hx];rfl
   ·cases h
  ·cases h
 ·cases h
def HoleOk (h:Hole) (s:St):Prop:=∃ c l' b,s.E[h.r]? = some (.sl .own c (l'.set h.j.toNat b))/\All2 (RTy h.τ (nx h.lv)) h.l l'/\b.cells = [b]/\b.oks = true/\(∀ cs,recell b cs = cs.headD .undef)/\0<=h.j/\h.j.toNat < l'.length/\isOwn h.lv = true
def HolesOk (h:Option Hole) (s:St):Prop:=∀ x,h = some x->HoleOk x s
theorem holes_none {s:St}:HolesOk none s:=λx h=>by cases h
theorem keepH_ok {o:Oper} {hole:Option Hole} {s s':St} (h:HolesOk hole s) (hk:∀ t:Nat,t ∉ tmpsOf o->o.dst ≠ some t->s'.E[t]? = s.E[t]?):HolesOk (keepH o hole) s':=by
 intro x hx;unfold keepH at hx;split at hx
 ·rename_i h0;split at hx
  ·cases hx
  ·rename_i hc;cases hx;simp only [not_or] at hc;obtain ⟨c,l',b,h1,h2⟩:=h x rfl;exact ⟨c,l',b,by rw [hk x.r (by simpa using hc.2) hc.1]; exact h1,h2⟩
 ·cases hx
theorem keepH_put {o:Oper} {hole:Option Hole} {s:St} (h:HolesOk hole s) (v:V):HolesOk (keepH o hole) (s.put o.dst v) :=
 keepH_ok h λt _ h2=>by
  unfold St.put;cases hd:o.dst with
  | none=>rfl
  | some d =>
   simp only
   rw [List.getElem?_set_ne];rintro rfl; exact h2 hd
theorem fillH_ok {hole:Option Hole} {r0:Tmp} {p:List (Int × Nat × Nat)} {x:TV} {v:V} {st:TSt} {s sV:St} {R:Type} {k:TSt->Option R} {r:R} (hh:HolesOk hole sV) (hx:RV x v) (hs:Rst st s) (h:fillH hole r0 p x st R k = some r) :
  (∀ e ∈ p,0<=e.1)/\∃ st' y,k st' = some r/\updF v.cells (pathV p) (sV.E.getD r0 .undef) = some y/\y.soft = false/\Rst st' (s.put (some r0) y)/\Fr2 st st' s (s.put (some r0) y):=by
 unfold fillH at h;split at h
 ·rename_i hl i;split at h
  ·rename_i hr0;subst hr0;split at h
   ·rename_i τ o y;split at h
    ·rename_i e he;cases hd:decide (i = hl.j) with
     | false=>rw [hd] at h; cases h
     | true =>
      rw [hd] at h;simp only [cond_true] at h;have hij:i = hl.j:=of_decide_eq_true hd;subst hij;split at h
      ·rename_i hf;obtain ⟨c,l',b,h1,h2,h3,h4,h5,h6,h7,h8⟩:=hh hl rfl;have hvc:v.cells = [v]:=by
        simp only [RV,RTy] at hx; obtain ⟨f,c,m,rfl,_⟩:=hx; rfl
       have hy:=asTy_ok _ _ _ _ _ he hx;have hnew:RV (.t (.sl hl.τ) hl.lv (hl.l.set hl.j.toNat e)) (.sl .own c (l'.set hl.j.toNat v)):=by
        simp only [RV,RTy];exact ⟨.own,c,_,rfl,flr_own h8,all2_set h2 _ hy⟩
       obtain ⟨hR2,hF2⟩:=put_ok hs (some hl.r) hnew;refine ⟨by simp [h6],_,_,h,?_,RV.firm _ _ hf hnew,hR2,hF2⟩;have hE:sV.E.getD hl.r .undef = .sl .own c (l'.set hl.j.toNat b):=by rw [List.getD_eq_getElem?_getD,h1]; rfl
       rw [hE,hvc];simp only [pathV,List.map_cons,List.map_nil,updF];have hg:(l'.set hl.j.toNat b)[hl.j.toNat]? = some b:=by rw [List.getElem?_set_self h7]
       rw [hg];simp only
       rw [if_pos ⟨by rw [h3]; rfl,h4⟩,if_pos (by simp),h3,h5,List.set_set];simp [splice]
      ·cases h
    ·cases h
   ·cases h
  ·cases h
 ·cases h
theorem lsT_ok {ops:Array Oper} {i:Nat} {o:Oper} {st:TSt} {s:St} {hole:Option Hole} {R:Type} {k:TSt->Option R} {r:R} (hs:Rst st s) (hh:HolesOk hole s) (h:lsT P H f ops i o st hole R k = some r) :
  ∃ st' s',k st' = some r/\lsStep P H f ops i o s = some s'/\Rst st' s'/\Fr2 st st' s s':=by
 unfold lsT at h;split at h
 ·rename_i t d xo hop;simp only at h;split at h
  ·rename_i hc;simp only [Bool.and_eq_true,decide_eq_true_eq,List.isEmpty_iff] at hc;obtain ⟨⟨⟨⟨⟨⟨⟨⟨⟨hL,hn0⟩,hB0⟩,hdst⟩,hgd⟩,hnd⟩,hs0⟩,hxl⟩,hxo⟩,hxp⟩:=hc;obtain ⟨hL',hnl,hsoft,hfr⟩:=soften_ok hs hL hn0 hB0 (tmpsOf o);have hrx:=rd_ok (H:=H) (f:=f) (o:=o) hs.E xo;obtain ⟨hcx,hox⟩:=RV.cells hxo hrx;have hpx:(rd H f o s.E xo).ptrs = []:=by
    rw [List.eq_nil_iff_forall_not_mem];intro q hq;have:=RV.ptrs _ _ hrx q hq;rw [hxp] at this; cases this
   have hcond:(s.L.isEmpty && noLpB s.B && o.dst.isNone && o.guard.isNone && nodupT (tmpsOf o) && decide (P.cellsOf t ≠ 0) && decide ((rd H f o s.E xo).cells.length = P.cellsOf t) && (rd H f o s.E xo).oks && (rd H f o s.E xo).ptrs.isEmpty) = true:=by
    simp only [Bool.and_eq_true,decide_eq_true_eq];exact ⟨⟨⟨⟨⟨⟨⟨⟨by rw [hL']; rfl,hnl⟩,hdst⟩,hgd⟩,hnd⟩,hs0⟩,by rw [hcx.length]; exact hxl⟩,hox⟩,by rw [hpx]; rfl⟩
   have hrev:∀ p:List (Int × Nat × Nat),(pathV p).reverse = pathV p.reverse:=λp=>by simp [pathV]
   split at h
   ·rename_i r0 p hlk;split at h
    ·cases h
    ·rename_i hrT;split at h
     ·obtain ⟨hp0,st',y,hk,hupd,hysoft,hR2,hF2⟩:=fillH_ok hh hrx hsoft h;have hlk':=lkPathT_ok hs.E _ _ _ _ _ _ hlk hp0;have hsing:(pathV p).reverse = pathV p:=by
       unfold fillH at h;split at h
       ·rfl
       ·cases h
      refine ⟨_,_,hk,?_,hR2,hfr.trans hF2⟩;unfold lsStep;rw [hop];simp only
      rw [if_pos hcond,hlk'];simp only
      rw [if_neg hrT,hsing,hupd];simp only
      rw [hysoft];rfl
     obtain ⟨hp0,y,u,hk,hupd,hyu⟩:=updT_ok hcx _ _ _ h (getE hs.E r0);split at hk
     ·rename_i hf;have hlk':=lkPathT_ok hs.E _ _ _ _ _ _ hlk (λe he=>hp0 e (by simpa using he));obtain ⟨hR2,hF2⟩:=put_ok hsoft (some r0) hyu;refine ⟨_,_,hk,?_,hR2,hfr.trans hF2⟩;unfold lsStep;rw [hop];simp only
      rw [if_pos hcond,hlk'];simp only
      rw [if_neg hrT,hrev,hupd];simp only
      rw [RV.firm y u hf hyu];rfl
     ·cases hk
   ·rename_i q off p hlk;split at h
    ·rename_i cs hcs;split at h
     ·rename_i z hz;obtain ⟨c',hc',hrc⟩:=hs.box hcs;obtain ⟨z',hz',hrz⟩:=hrc.get hz;obtain ⟨hp0,y,u,hk,hupd,hyu⟩:=updT_ok hcx _ _ _ h hrz;split at hk
      ·rename_i hf;have hlk':=lkPathT_ok hs.E _ _ _ _ _ _ hlk (λe he=>hp0 e (by simpa using he));have hsb:(st.soften (tmpsOf o)).box q = some (cs.map TV.hard):=by
        have hL2:(st.soften (tmpsOf o)).L = []:=hL;refine cont_box ?_ (rvl_notRec (rvl_hard hrc))
        replace hcs:=(box_cont hcs).1
        rw [cont_all0 hL] at hcs;rw [cont_all0 hL2];by_cases h0:q.lvl = 0
        ·rw [if_pos h0] at hcs ⊢;simp only [TSt.soften,lookT_hard];split at hcs
         ·rename_i c hc; cases hcs; rw [hc]; rfl
         ·cases hcs
        ·rw [if_neg h0] at hcs; cases hcs
       have hq0:q.lvl = 0:=by
        rw [box_L0 hL'] at hc';split at hc'
        ·assumption
        ·cases hc'
       obtain ⟨hR2,hF2⟩:=setBox_ok hsoft hsb ((rvl_hard hrc).set off hyu) (λhlt=>isMp_set (isMp_hard (hs.M.mp q.lvl q.slot c' (by rw [<- look_box]; exact hc') hlt)) (by obtain ⟨c9,l9,h9⟩:=updF_sl hupd; rw [h9]; rfl));refine ⟨_,_,hk,?_,hR2,hfr.trans hF2⟩;unfold lsStep;rw [hop];simp only
       rw [if_pos hcond,hlk'];simp only
       rw [hc'];simp only
       rw [hz'];simp only
       rw [hrev,hupd];simp only
       rw [RV.firm y u hf hyu];simp only [Bool.false_eq_true,if_false,Option.some.injEq];unfold St.setBox softV;rw [if_pos (by rw [hq0,hL']; rfl)]
      ·cases hk
     ·cases h
    ·cases h
   ·cases h
  ·cases h
 ·cases h
theorem lkGate_ok {o:Oper} {E:Env} {E':List V} (h:RVL E.toL E') (hg:lkGateT H f o E = true):lkGate H f o E' = true:=by
 unfold lkGateT at hg;unfold lkGate;simp only [Bool.or_eq_true,Bool.and_eq_true] at hg ⊢;refine hg.imp id λ⟨h1,h2⟩=>⟨?_,?_⟩
 ·rw [h.length,toL_len]; exact h1
 ·split
  ·rename_i t a hop;rw [hop] at h2;simp only [Bool.or_eq_true] at h2 ⊢;refine h2.imp id λh3=>?_;have:=getE h a;cases hx:E.get a with
   | cptr l=>rw [hx] at this; simp only [RV] at this; obtain ⟨f',l',hl',_⟩:=this; rw [hl'] <;> rfl
   | _=>rw [hx] at h3; cases h3
  ·rfl
theorem execT_ok (hT:TOk P H lib T) (hO:OOk P H lib O) {ops:Array Oper} {R:Type} {k:TSt->Option R} {r:R}:∀ (is:List Nat) (st:TSt) (s:St),Rst st s->execT P H J T O ctx f ops is st R k = some r ->
  ∃ st' s',k st' = some r/\Ev (λC=>execOps P H C f ops is s = some s') P H lib/\Rst st' s'/\Fr2 st st' s s'
 | [],st,s,hs,h=>⟨st,s,h,.of λC=>rfl,hs,Fr2.refl _ _⟩
 | i :: is,st,s,hs,h=>by
  simp only [execT] at h;split at h
  ·cases h
  ·rename_i o ho;obtain ⟨st1,b,hw,hs1,hf1,hb⟩:=gate_ok hs h;cases b with
   | true =>
    simp only [if_true] at hb;obtain ⟨st2,fp,s2,hk,hev,hR,hF,hkeep⟩:=stepFpT_ok hT hO hs1 hb;obtain ⟨st3,s3,hk3,hev3,hR3,hF3⟩:=execT_ok hT hO is st2 s2 hR hk;refine ⟨st3,s3,hk3,(hev.and hev3).imp λC hC=>?_,hR3,(hf1.trans hF).trans hF3⟩;simp only [execOps,ho,hw,stepOp,hC.1,Option.map_some,hC.2]
   | false =>
    simp only [Bool.false_eq_true,if_false] at hb;obtain ⟨hR,hF⟩:=put_ok hs1 o.dst (v:=.val undef) (u:=.val undef) (by simp [RV]);obtain ⟨st3,s3,hk3,hev3,hR3,hF3⟩:=execT_ok hT hO is _ _ hR hb;refine ⟨st3,s3,hk3,hev3.imp λC hC=>?_,hR3,(hf1.trans hF).trans hF3⟩;simp only [execOps,ho,hw,hC]
def Cov (l:List (Nat × Foot)) (e:Nat × Foot):Prop:=∃ e' ∈ l,e'.1 = e.1/\e'.2.fp = e.2.fp/\e'.2.looks = e.2.looks/\∀ t ∈ e.2.took,t ∈ e'.2.took
theorem took_ok {o:Oper} {E:Env} {E':List V} (h:RVL E.toL E'):∀ t ∈ tookAt H f o E',t ∈ tookAtT H f o E:=λt ht=>by
 unfold tookAt at ht;unfold tookAtT;split at ht
 ·rename_i htk;rw [if_pos htk];simp only [List.mem_filter] at ht ⊢;exact ⟨ht.1,RV.owns _ _ (getE h t) ht.2⟩
 ·cases ht
theorem execRT_ok (hT:TOk P H lib T) (hO:OOk P H lib O) {ops:Array Oper} {R:Type} {k:TSt->List (Nat × Foot)->Option R} {r:R}:∀ (is:List Nat) (st:TSt) (s:St) (acc:List (Nat × Foot)),Rst st s->execRT P H J T O ctx f ops is st acc R k = some r ->
  ∃ st' s' fps fpv,k st' fps = some r/\Ev (λC=>execR P H C f ops is s = some (s',fpv)) P H lib/\Rst st' s'/\Fr2 st st' s s'/\(∀ e ∈ acc,e ∈ fps)/\(∀ e ∈ fpv,Cov fps e)
 | [],st,s,acc,hs,h=>⟨st,s,acc,[],h,.of λC=>rfl,hs,Fr2.refl _ _,λe he=>he,by simp⟩
 | i :: is,st,s,acc,hs,h=>by
  simp only [execRT] at h;split at h
  ·cases h
  ·rename_i o ho;obtain ⟨st1,b,hw,hs1,hf1,hb⟩:=gate_ok hs h;cases b with
   | true =>
    simp only [if_true] at hb;obtain ⟨st2,fp,s2,hk,hev,hR,hF,hkeep⟩:=stepFpT_ok hT hO hs1 hb;obtain ⟨st3,s3,fps,fpv,hk3,hev3,hR3,hF3,hacc,hcov⟩:=execRT_ok hT hO is st2 s2 _ hR hk;refine ⟨st3,s3,fps,(i,⟨fp,tookAt H f o s.E,looksT H f ops o⟩) :: fpv,hk3,(hev.and hev3).imp λC hC=>?_,hR3,(hf1.trans hF).trans hF3,λe he=>hacc e (by simp [he]),λe he=>?_⟩
    ·simp only [execR,oneR,ho,hw,hC.1,Option.map_some,hC.2]
    ·rcases List.mem_cons.1 he with rfl | he
     ·exact ⟨_,hacc _ (List.mem_cons_self ..),rfl,rfl,rfl,λt ht=>took_ok hs1.E t ht⟩
     ·exact hcov e he
   | false =>
    simp only [Bool.false_eq_true,if_false] at hb;obtain ⟨hR,hF⟩:=put_ok hs1 o.dst (v:=.val undef) (u:=.val undef) (by simp [RV]);obtain ⟨st3,s3,fps,fpv,hk3,hev3,hR3,hF3,hacc,hcov⟩:=execRT_ok hT hO is _ _ _ hR hb;refine ⟨st3,s3,fps,(i,⟨.none,[],looksT H f ops o⟩) :: fpv,hk3,hev3.imp λC hC=>?_,hR3,(hf1.trans hF).trans hF3,λe he=>hacc e (by simp [he]),λe he=>?_⟩
    ·simp only [execR,oneR,ho,hw,hC,Option.map_some]
    ·rcases List.mem_cons.1 he with rfl | he
     ·exact ⟨_,hacc _ (List.mem_cons_self ..),rfl,rfl,rfl,λt ht=>by cases ht⟩
     ·exact hcov e he
theorem apT_ok {ops:Array Oper} {i:Nat} {o:Oper} {st:TSt} {s:St} {R:Type} {k:TSt->Hole->Option R} {r:R} (hs:Rst st s) (h:apT P H f ops i o st R k = some r) :
  ∃ st' s' hole,k st' hole = some r/\apTake P H f ops i o s = some s'/\Rst st' s'/\Fr2 st st' s s'/\HoleOk hole s':=by
 unfold apT at h;split at h
 ·rename_i argTypes args _ hop;split at h
  ·rename_i d hd;split at h
   ·rename_i r0 j hlk;split at h
    ·cases h
    ·rename_i hrd;simp only [not_or] at hrd;split at h
     ·rename_i τ lv l hE;split at h
      ·rename_i hown;simp only [Bool.and_eq_true] at hown;obtain ⟨e,he,hk⟩:=Option.bind_eq_some_iff.1 h;obtain ⟨h0,hget⟩:=idx_some he;have hlk':=lkPathT_ok hs.E _ _ _ _ _ _ hlk (λe he=>by simp only [List.mem_singleton] at he; subst he; exact h0);have hr:=getE hs.E r0;rw [hE] at hr;simp only [RV,RTy] at hr;obtain ⟨fl,c,l',hv,hfl,hall⟩:=hr;have hf:fl = .own:=hfl.own hown.1;subst hf;obtain ⟨b,hb,hrb⟩:=hall.get hget;have hrb0:RTy (.sl τ) (nx lv) e b:=hrb;obtain ⟨f2,c2,l2,rfl,hf2,hall2⟩:=hrb;have hf2':f2 = .own:=hf2.own hown.2;subst hf2';have hlen:s.E.length = st.E.n:=by rw [hs.E.length,toL_len]
       have hr0lt:r0 < s.E.length:=by
        rcases Nat.lt_or_ge r0 s.E.length with h9 | h9
        ·exact h9
        ·exfalso
         rw [List.getD_eq_getElem?_getD,List.getElem?_eq_none h9] at hv;cases hv
       have hjl:j.toNat < l'.length:=(List.getElem?_eq_some_iff.1 hb).1;have hdl:(V.sl .own c2 l2).dull = .sl .dull c2 (reflagL flDull l2):=rfl;let y:V:=.sl .own c (l'.set j.toNat (V.dull (.sl .own c2 l2)))
       have hyp:y.ptrs = []:=by simp [y,V.ptrs]
       refine ⟨_,{ s with E:=(s.E.set r0 y).set d (.sl .own c2 l2) },_,hk,?_,⟨?_,hs.M⟩,?_,?_⟩
       ·unfold apTake;rw [hop];simp only
        rw [hd];simp only
        rw [hlk'];simp only [pathV,List.map_cons,List.map_nil];rw [if_neg (by simp only [not_or]; exact ⟨hrd.1,by omega⟩),hv];simp only [takF,hb];simp [y]
       ·show RVL ((st.E.set r0 (.any [])).set d _).toL _;rw [toL_set,toL_set];refine (hs.E.set r0 ?_).set d ?_
        ·simp only [RV];exact ⟨by rw [hyp]; simp,by simp [y,isLoop]⟩
        ·simp only [RV]; exact hrb0
       ·refine ⟨λt ht=>by simp [Mask.mem_ins,ht],λq hq=>hq,λt ht=>.inl ?_,λt ht rs hE'=>?_,λq hq=>.inl rfl,λq hq h=>h,rfl,by simp⟩
        ·simp only [Mask.mem_ins,not_or] at ht;simp only
         rw [List.getElem?_set_ne (Ne.symm ht.2.1),List.getElem?_set_ne (Ne.symm ht.1)]
        ·simp only [Mask.mem_ins,not_or] at ht;simp only [toL_set] at hE';rw [List.getElem?_set_ne (Ne.symm ht.2.1),List.getElem?_set_ne (Ne.symm ht.1)] at hE';exact ⟨rs,hE'⟩
       ·refine ⟨c,l',V.dull (.sl .own c2 l2),?_,hall,rfl,by simp [hdl,V.oks,V.cells,V.one],λcs=>by rw [hdl]; rfl,h0,hjl,hown.1⟩;simp only
        rw [List.getElem?_set_ne (Ne.symm hrd.1),List.getElem?_set_self hr0lt]
      ·cases h
     ·cases h
   ·cases h
  ·cases h
 ·cases h
theorem execLT_ok (hT:TOk P H lib T) (hO:OOk P H lib O) {ops:Array Oper} {R:Type} {k:TSt->List (Nat × Foot)->Option R} {r:R}:∀ (is:List Nat) (st:TSt) (s:St) (hole:Option Hole) (acc:List (Nat × Foot)),Rst st s->HolesOk hole s->execLT P H J T O ctx f ops is st hole acc R k = some r ->
  ∃ st' s' fps fpv,k st' fps = some r/\Ev (λC=>execL P H C f ops is s = some (s',fpv)) P H lib/\Rst st' s'/\Fr2 st st' s s'/\(∀ e ∈ acc,e ∈ fps)/\(∀ e ∈ fpv,Cov fps e)
 | [],st,s,hole,acc,hs,hh,h=>⟨st,s,acc,[],h,.of λC=>rfl,hs,Fr2.refl _ _,λe he=>he,by simp⟩
 | i :: is,st,s,hole,acc,hs,hh,h=>by
  simp only [execLT] at h;split at h
  ·cases h
  ·rename_i o ho;split at h
   ·rename_i hls;obtain ⟨st2,s2,hk,hst,hR,hF⟩:=lsT_ok hs hh h;obtain ⟨st3,s3,fps,fpv,hk3,hev3,hR3,hF3,hacc,hcov⟩:=execLT_ok hT hO is st2 s2 none _ hR holes_none hk;refine ⟨st3,s3,fps,(i,⟨.all,[],looksAt ops o⟩) :: fpv,hk3,hev3.imp λC hC=>?_,hR3,hF.trans hF3,λe he=>hacc e (by simp [he]),λe he=>?_⟩
    ·simp only [execL,oneL,ho,hls,if_true,hst,Option.map_some,hC]
    ·rcases List.mem_cons.1 he with rfl | he
     ·exact ⟨_,hacc _ (List.mem_cons_self ..),rfl,rfl,rfl,λt ht=>ht⟩
     ·exact hcov e he
   ·rename_i hls;have fin:∀ (st:TSt) (s0:St) (hole:Option Hole),Rst st s0->HolesOk hole s0 ->
      (gateT ops o st R
       (λst=>stepFpT P H J T O ctx f o st R λst' fp=>execLT P H J T O ctx f ops is st' (keepH o hole) ((i,⟨fp,tookAtT H f o st.E,looksT H f ops o⟩) :: acc) R k)
       (λst=>execLT P H J T O ctx f ops is (st.put o.dst (.val undef)) (keepH o hole) ((i,⟨.none,[],looksT H f ops o⟩) :: acc) R k)) = some r ->
      ∃ st' s' fps fpv,k st' fps = some r/\Ev (λC=>∃ s1 ft rest,oneR P H C f ops i s0 = some (s1,ft)/\execL P H C f ops is s1 = some (s',rest)/\fpv = (i,ft) :: rest) P H lib/\Rst st' s'/\Fr2 st st' s0 s'/\(∀ e ∈ acc,e ∈ fps)/\(∀ e ∈ fpv,Cov fps e):=by
     intro st s0 hole hs hh h;obtain ⟨st1,b,hw,hs1,hf1,hb⟩:=gate_ok hs h;cases b with
     | true =>
      simp only [if_true] at hb;obtain ⟨st2,fp,s2,hk,hev,hR,hF,hkeep⟩:=stepFpT_ok hT hO hs1 hb;obtain ⟨st3,s3,fps,fpv,hk3,hev3,hR3,hF3,hacc,hcov⟩:=execLT_ok hT hO is st2 s2 _ _ hR (keepH_ok hh hkeep) hk;refine ⟨st3,s3,fps,(i,⟨fp,tookAt H f o s0.E,looksT H f ops o⟩) :: fpv,hk3,(hev.and hev3).imp λC hC=>⟨s2,_,fpv,?_,hC.2,rfl⟩,hR3,(hf1.trans hF).trans hF3,λe he=>hacc e (by simp [he]),λe he=>?_⟩
      ·simp only [oneR,ho,hw,hC.1,Option.map_some]
      ·rcases List.mem_cons.1 he with rfl | he
       ·exact ⟨_,hacc _ (List.mem_cons_self ..),rfl,rfl,rfl,λt ht=>took_ok hs1.E t ht⟩
       ·exact hcov e he
     | false =>
      simp only [Bool.false_eq_true,if_false] at hb;obtain ⟨hR,hF⟩:=put_ok hs1 o.dst (v:=.val undef) (u:=.val undef) (by simp [RV]);obtain ⟨st3,s3,fps,fpv,hk3,hev3,hR3,hF3,hacc,hcov⟩:=execLT_ok hT hO is _ _ _ _ hR (keepH_put hh _) hb;refine ⟨st3,s3,fps,(i,⟨.none,[],looksT H f ops o⟩) :: fpv,hk3,hev3.imp λC hC=>⟨_,_,fpv,?_,hC,rfl⟩,hR3,(hf1.trans hF).trans hF3,λe he=>hacc e (by simp [he]),λe he=>?_⟩
      ·simp only [oneR,ho,hw]
      ·rcases List.mem_cons.1 he with rfl | he
       ·exact ⟨_,hacc _ (List.mem_cons_self ..),rfl,rfl,rfl,λt ht=>by cases ht⟩
       ·exact hcov e he
    split at h
    ·rename_i hap;split at h
     ·cases h
     rename_i hilk;obtain ⟨st1,s1,hl,hk,hta,hR,hF,hhl⟩:=apT_ok hs h;obtain ⟨st3,s3,fps,fpv,hk3,hev3,hR3,hF3,hacc,hcov⟩:=fin st1 s1 (some hl) hR (λx hx=>by cases hx; exact hhl) hk;refine ⟨st3,s3,fps,fpv,hk3,hev3.imp λC ⟨s2,ft,rest,h1,h2,h3⟩=>?_,hR3,hF.trans hF3,hacc,hcov⟩;simp only [execL,oneL,ho,hls,hap,hilk,hta,if_true,Bool.false_eq_true,if_false,Option.bind_some,h1,h2,h3,Option.map_some]
    ·rename_i hap;split at h
     ·rename_i hgt;have hg:=lkGate_ok hs.E hgt;obtain ⟨st3,s3,fps,fpv,hk3,hev3,hR3,hF3,hacc,hcov⟩:=fin st s hole hs hh h;refine ⟨st3,s3,fps,fpv,hk3,hev3.imp λC ⟨s2,ft,rest,h1,h2,h3⟩=>?_,hR3,hF3,hacc,hcov⟩;simp only [execL,oneL,ho,hls,hap,hg,if_true,Bool.false_eq_true,if_false,h1,h2,h3,Option.map_some]
     ·cases h
theorem meets_mono {l l' m:List Tmp} (h:∀ t ∈ l,t ∈ l') (hm:meets l m = true):meets l' m = true:=by
 unfold meets at hm ⊢;rw [List.any_eq_true] at hm ⊢;obtain ⟨t,ht,h2⟩:=hm;exact ⟨t,h t ht,h2⟩
theorem noConf_ok {U:List (Nat × Nat)} {fps fpv:List (Nat × Foot)} (hc:∀ e ∈ fpv,Cov fps e) (h:noConf U fps = true):noConf U fpv = true:=by
 unfold noConf at h ⊢;rw [List.all_eq_true] at h ⊢;rintro ⟨i,j⟩ hu;have h1:=h (i,j) hu;simp only [List.all_eq_true] at h1 ⊢;rintro ⟨a,p⟩ ha;obtain ⟨⟨a',p'⟩,hp',hpa,hpf,hpl,hpt⟩:=hc (a,p) ha;simp only at hpa hpf hpl hpt;subst hpa;have h2:=h1 (a',p') hp';simp only [Bool.or_eq_true,List.all_eq_true] at h2 ⊢;rcases h2 with h2 | h2
 ·exact .inl h2
 ·right
  rintro ⟨b,q⟩ hb;obtain ⟨⟨b',q'⟩,hq',hqa,hqf,hql,hqt⟩:=hc (b,q) hb;simp only at hqa hqf hql hqt;subst hqa;have h3:=h2 (b',q') hq';simp only [Bool.not_eq_true'] at h3 ⊢;rcases h3 with h3 | h3
  ·exact .inl h3
  ·right
   cases hcl:Foot.clash p q with
   | false=>rfl
   | true =>
    have:Foot.clash p' q' = true:=by
     unfold Foot.clash at hcl ⊢;simp only [Bool.or_eq_true] at hcl ⊢;rw [<- hpf,<- hqf,<- hpl,<- hql] at hcl;rcases hcl with (h4 | h4) | h4
     ·exact .inl (.inl h4)
     ·exact .inl (.inr (meets_mono hpt h4))
     ·exact .inr (meets_mono hqt h4)
    rw [this] at h3; cases h3
theorem loopO_some {σ ρ:Type} {g:σ->Option (σ ⊕ ρ)} {s:σ} {r:ρ} (h:loopO g s = some r):∃ n,loopN g n s = some r:=by
 unfold loopO at h;split at h
 ·rename_i hex;cases h;exact ⟨_,Classical.choose_spec (Classical.choose_spec hex)⟩
 ·cases h
theorem loop_ok {j:Join} {bid:Nat} {c:Code} (ih:Snd (tx P H J T O ctx f bid c) (ExEv P H lib f bid c)) {st:TSt} {s0:St} (hst:Rst st s0) {R:Type} {k:Ex->TSt->Option R} {r:R} :
  ∀ (n:Nat) (x:denL (j.ps.map (·.1))) (s:St),Rst (st.fresh.rebuild j (ofL j.ps x)) s->Fr2 st.fresh (st.fresh.rebuild j (ofL j.ps x)) s0 s ->
   loopN (λx=>match (st.fresh.rebuild j (ofL j.ps x)).clear (H.clear f bid) with
      | some st1=>tx P H J T O ctx f bid c st1 (denL (j.ps.map (·.1)) ⊕ R) λe st2=>match e with
       | .normal=>(st2.outs st j).map .inl
       | e=>(k e (st2.merge st)).map .inr
      | none=>none) n x = some r ->
   ∃ e st' s',ExEv P H lib f bid (.loop c) s e s'/\Rst st' s'/\Fr2 st st' s0 s'/\k e st' = some r
 | 0,x,s,hs,hf,h=>by simp [loopN] at h
 | n + 1,x,s,hs,hf,h=>by
  simp only [loopN] at h;cases hcl:(st.fresh.rebuild j (ofL j.ps x)).clear (H.clear f bid) with
  | none=>rw [hcl] at h; simp at h
  | some st1 =>
   rw [hcl] at h;simp only at h;obtain ⟨s1,hv1,hs1,hf1⟩:=clear_ok hs hcl;have done:∀ (e:Ex) (st2:TSt) (s2:St),e ≠ .normal->ExEv P H lib f bid c s1 e s2->Rst st2 s2->Fr2 st1 st2 s1 s2->k e (st2.merge st) = some r ->
     ∃ e st' s',ExEv P H lib f bid (.loop c) s e s'/\Rst st' s'/\Fr2 st st' s0 s'/\k e st' = some r:=by
    intro e st2 s2 hne hev hR hF hk;refine ⟨e,st2.merge st,s2,hev.imp λC hC=>?_,hR.merge,merge_fr ((hf.trans hf1).trans hF),hk⟩;simp only [ex,hv1,hC];cases e with
    | normal=>exact absurd rfl hne
    | _=>rfl
   split at h
   ·rename_i x' hx';obtain ⟨e,st2,s2,hev,hR,hF,hk⟩:=ih st1 _ _ _ s1 hx' hs1;cases e with
    | normal =>
     obtain ⟨y,hy,hy2⟩:=Option.map_eq_some_iff.1 hk;cases hy2;have hF0:Fr2 st.fresh st2 s0 s2:=(hf.trans hf1).trans hF;have hy':st2.outs st.fresh j = some x':=hy;obtain ⟨e',st',s',hev',hR',hF',hk'⟩:=loop_ok ih hst n x' s2 (rebuild_ok hst.fresh hR hF0 hy') (rebuild_fr (st:=st.fresh) hR hF0 hy') h;refine ⟨e',st',s',?_,hR',hF',hk'⟩;obtain ⟨n1,h1⟩:=hev;obtain ⟨n2,h2⟩:=hev';refine ⟨max n1 (n2 + 1),λm hm=>?_⟩;have e1:=h1 m (by omega);obtain ⟨m',rfl⟩:∃ m',m = m' + 1:=⟨m - 1,by omega⟩
     have e2:=h2 m' (by omega);have hun:ex P H (orcN P H lib (m' + 1)) f bid (.loop c) s = (match s.clear (H.clear f bid) with
      | some st=>match ex P H (orcN P H lib (m' + 1)) f bid c st with
       | some (.normal,s)=>(orcN P H lib (m' + 1)).code f bid (.loop c) s
       | r=>r
      | none=>none):=by simp only [ex] <;> rfl
     show ex P H (orcN P H lib (m' + 1)) f bid (.loop c) s = _;rw [hun,hv1];simp only [e1];exact e2
    | exit id =>
     obtain ⟨y,hy,hy2⟩:=Option.map_eq_some_iff.1 hk;cases hy2
    | ret =>
     obtain ⟨y,hy,hy2⟩:=Option.map_eq_some_iff.1 hk;cases hy2
   ·rename_i y hx';cases h;obtain ⟨e,st2,s2,hev,hR,hF,hk⟩:=ih st1 _ _ _ s1 hx' hs1;cases e with
    | normal =>
     obtain ⟨y,hy,hy2⟩:=Option.map_eq_some_iff.1 hk;cases hy2
    | exit id =>
     obtain ⟨y',hy,hy2⟩:=Option.map_eq_some_iff.1 hk;cases hy2;exact done _ _ _ (by simp) hev hR hF hy
    | ret =>
     obtain ⟨y',hy,hy2⟩:=Option.map_eq_some_iff.1 hk;cases hy2;exact done _ _ _ (by simp) hev hR hF hy
   ·cases h
theorem start_ok {j:Join} {st:TSt} {s:St} (hs:Rst st s) (hf:st.forgets j = true) {x:denL (j.ps.map (·.1))} (hx:asL j.ps (j.lv.map st.get) = some x) :
  Rst (st.fresh.rebuild j (ofL j.ps x)) s/\Fr2 st.fresh (st.fresh.rebuild j (ofL j.ps x)) s s:=by
 have ho:st.fresh.outs st.fresh j = some x:=by
  unfold TSt.outs;have h1:st.fresh.forgets j = true:=hf;have h2:st.fresh.wrote j = true:=by
   have:Mask.empty.sub j.D = true:=Mask.sub_of λt ht=>absurd ht Mask.mem_empty;simp [TSt.wrote,TSt.fresh,this]
  have h3:st.fresh.like st.fresh j = true:=by
   unfold TSt.like;rw [List.all_eq_true];intro r _;cases st.fresh.cont r <;> simp
  rw [h1,h2,h3];exact hx
 exact ⟨rebuild_ok hs.fresh hs.fresh (Fr2.refl _ _) ho,rebuild_fr (st:=st.fresh) hs.fresh (Fr2.refl _ _) ho⟩
theorem turnOf_true (ops:Array Oper):turnOf H ops true = none:=by
 unfold turnOf;split
 ·rename_i h _; cases h
 ·rfl
theorem clear_nil (s:St):s.clear [] = some s:=by
 have h1:clearB [] s.B = s.B:=by
  have:∀ B:Level,clearB [] B = B:=λB=>by
   induction B with
   | nil=>rfl
   | cons p B ih=>obtain ⟨k,c⟩:=p; simp [clearB,ih]
  exact this s.B
 unfold St.clear;simp only [h1,true_or,if_true];rfl
theorem preT_ok {D:List Tmp} {st st1:TSt} {s:St} (h:Rst st s) (hc:preT D st = some st1):∃ s1,s.clear D = some s1/\Rst st1 s1/\Fr2 st st1 s s1:=by
 cases D with
 | nil =>
  simp only [preT,Option.some.injEq] at hc;subst hc;exact ⟨s,clear_nil s,h,Fr2.refl _ _⟩
 | cons d D=>exact clear_ok h hc
theorem lookM_app (L:List TLevel) (B:TLevel) (l k:Nat):lookM (L ++ [B]) l k = if l = L.length then lookT B k else lookM L l k:=by
 unfold lookM;by_cases h:l = L.length
 ·subst h; simp
 ·rw [if_neg h];by_cases hlt:l < L.length
  ·rw [List.getElem?_append_left hlt]
  ·rw [List.getElem?_eq_none (by simp; omega),List.getElem?_eq_none (by omega)]
theorem lookV_app (L:List Level) (B:Level) (l k:Nat):lookV (L ++ [B]) l k = if l = L.length then lookB B k else lookV L l k:=by
 unfold lookV;by_cases h:l = L.length
 ·subst h; simp
 ·rw [if_neg h];by_cases hlt:l < L.length
  ·rw [List.getElem?_append_left hlt]
  ·rw [List.getElem?_eq_none (by simp; omega),List.getElem?_eq_none (by omega)]
theorem LR.last {M:List TLevel} {M':List Level} {b:TLevel} {b':Level} (h:LR (M ++ [b]) (M' ++ [b'])) (k:Nat):RB (lookT b k) (lookB b' k):=by
 have hl:M'.length = M.length:=by have:=h.len; simp at this; exact this
 have:=h.rel M.length k;rw [lookM_app,lookV_app,if_pos rfl,if_pos hl.symm] at this;exact this
theorem LR.relast {M:List TLevel} {M':List Level} {b c:TLevel} {b' c':Level} (h:LR (M ++ [b]) (M' ++ [b'])) (hr:∀ k,RB (lookT c k) (lookB c' k)) (hn:(c'.map (·.1)).Nodup) (hm:∀ k x,lookB c' k = some x->k < 16384->isMp x = false):LR (M ++ [c]) (M' ++ [c']):=by
 have hl:M'.length = M.length:=by have:=h.len; simp at this; exact this
 refine ⟨by simp [hl],λl k=>?_,λq hq=>?_,λl k x hx hlt=>?_⟩
 ·have:=h.rel l k;rw [lookM_app,lookV_app,hl] at this ⊢;by_cases e:l = M.length
  ·rw [if_pos e,if_pos e]; exact hr k
  ·rw [if_neg e,if_neg e] at this ⊢; exact this
 ·simp only [List.mem_append,List.mem_singleton] at hq;rcases hq with hq | rfl
  ·exact h.nd q (by simp [hq])
  ·exact hn
 ·have:=h.mp l k x;rw [lookV_app] at this hx;by_cases e:l = M'.length
  ·rw [if_pos e] at hx; exact hm k x hx hlt
  ·rw [if_neg e] at this hx; exact this hx hlt
theorem ptrs_full {M:List TLevel} {M':List Level} {b:TLevel} {b':Level} (h:LR (M ++ [b]) (M' ++ [b'])) (hf:fullB b = true) {r:Root} (hr:r ∈ ptrsB b'):r ∈ ptrsTB b:=by
 obtain ⟨k,c,hk,hrc⟩:=ptrsB_mem hr;have hlk:=lookB_mem (h.nd b' (by simp)) hk;have hb:=h.last k;cases ht:lookT b k with
 | none=>rw [ht] at hb; simp only [RB] at hb; rw [hb] at hlk; cases hlk
 | some o =>
  obtain ⟨d,rfl⟩:=full_mem hf (lookT_mem ht);rw [ht] at hb;obtain ⟨d',hd',hr'⟩:=hb;rw [hd'] at hlk; cases hlk;exact mem_ptrsTB (lookT_mem ht) (hr'.ptrs r hrc)
theorem range_ok (hT:TOk P H lib T) (hO:OOk P H lib O) {bid:Nat} {g:Operand} {ps:Array Tmp} {asz bo:Code} {st:TSt} {R:Type} {k:Ex->TSt->Option R} {r:R} {s:St}
  (h:tx P H J T O ctx f bid (.rangeFunc g ps asz bo) st R k = some r) (hs:Rst st s) :
  ∃ e st' s',ExEv P H lib f bid (.rangeFunc g ps asz bo) s e s'/\Rst st' s'/\Fr2 st st' s s'/\k e st' = some r:=by
 simp only [tx] at h;split at h
 ·rename_i hh first cap t ts hgv hps;split at h
  ·rename_i hnb;simp only [Bool.and_eq_true,Option.isNone_iff_eq_none,decide_eq_true_eq] at hnb;obtain ⟨hn,ht⟩:=hnb;have hlen:=hs.len;have hnV:=lookT_none hs hn;have hg:=rd_ok (H:=H) (f:=f) (o:=default) hs.E g;rw [hgv] at hg;simp only [RV] at hg;obtain ⟨first',cap',hV,hf1,hc1⟩:=hg;have hE:RVL (dullL st.E.toL) (s.E.map V.dull):=by
    have:=hs.E.dull; rw [reflagL_map] at this; exact this
   have hR1:Rst { st with B:=(t,some [.lp .ready none f (dullL st.E.toL) (t :: ts) asz bo]) :: st.B,Wb:=⟨st.L.length,t⟩ :: st.Wb } { s with B:=(t,[.lp .ready none f (s.E.map V.dull) (t :: ts) asz bo]) :: s.B }:=by
    refine ⟨hs.E,LR.relast hs.M (λq=>?_) ?_ (λq x hx hlt=>?_)⟩
    ·simp only [lookT,lookB];by_cases e:t = q
     ·rw [if_pos e,if_pos e]; exact ⟨_,rfl,_,rfl,hE⟩
     ·rw [if_neg e,if_neg e]; exact hs.M.last q
    ·have:=hs.M.nd s.B (by simp [allV]);simp only [List.map_cons,List.nodup_cons];refine ⟨λhm=>?_,this⟩;obtain ⟨⟨k',c⟩,hp,hp2⟩:=List.mem_map.1 hm;simp only at hp2; subst hp2;rw [lookB_mem this hp] at hnV; cases hnV
    ·simp only [lookB] at hx;by_cases e:t = q
     ·rw [if_pos e] at hx; cases hx; rfl
     ·rw [if_neg e] at hx;refine hs.M.mp s.L.length q x ?_ hlt;unfold allV;rw [lookV_app,if_pos rfl]; exact hx
   have hfv:RV (.fn hh first cap) (.fn hh first' cap'):=by simp only [RV]; exact ⟨_,_,rfl,hf1,hc1⟩
   have hyl:RVL [.yld ⟨st.L.length,t⟩] [.yld ⟨s.L.length,t⟩]:=by rw [hlen]; exact rvl_cons.2 ⟨by simp only [RV],rvl_nil⟩
   obtain ⟨v,st2,u,s2,hk,hev,_,hR2,hF2,hE2,hE2',_⟩:=callVT_ok hT hO hfv hyl hR1 h;simp only at hk hE2 hE2';split at hk
   ·rename_i hcond;simp only [Bool.and_eq_true] at hcond;obtain ⟨hok,hfull⟩:=hcond;have hlen2:=hR2.len;have hlen3:s2.L.length = s.L.length:=hF2.len;have hcl:∀ q,RB (lookT (clearTB [t] st2.B) q) (lookB (clearB [t] s2.B) q):=λq=>by
     rw [lookT_clear,lookB_clear];by_cases e : [t].contains q = true
     ·rw [if_pos e,if_pos e]; rfl
     ·rw [if_neg e,if_neg e]; exact hR2.M.last q
    have hM3:LR (st2.L ++ [clearTB [t] st2.B]) (s2.L ++ [clearB [t] s2.B]):=by
     refine LR.relast hR2.M hcl ((hR2.M.nd s2.B (by simp [allV])).sublist ((clearB_sub [t] s2.B).map _)) (λq x hx hlt=>?_);rw [lookB_clear] at hx;split at hx
     ·cases hx
     ·refine hR2.M.mp s2.L.length q x ?_ hlt;unfold allV;rw [lookV_app,if_pos rfl]; exact hx
    have hokV:okPtrs s.L.length [t] (ptrsB (clearB [t] s2.B)) = true:=by
     unfold okPtrs at hok ⊢;rw [List.all_eq_true] at hok ⊢;intro q hq;rw [hlen];exact hok q (ptrs_full hM3 hfull hq)
    have hvB:∀ {x pe g3 env3 ps3 as3 bo3},lookT st2.B t = some (some [.lp x pe g3 env3 ps3 as3 bo3])->∃ env3',lookB s2.B t = some [.lp x pe g3 env3' ps3 as3 bo3]:=λhl=>by
     have:=hR2.M.last t;rw [hl] at this;obtain ⟨c',h1,env',rfl,_⟩:=this;exact ⟨env',h1⟩
    have hrest:Rst { st2 with B:=clearTB [t] st2.B,Wb:=st.Wb ++ st2.Wb.filter (λq=>!decide (q = ⟨st.L.length,t⟩)) } { s with L:=s2.L,B:=clearB [t] s2.B }/\Fr2 st { st2 with B:=clearTB [t] st2.B,Wb:=st.Wb ++ st2.Wb.filter (λq=>!decide (q = ⟨st.L.length,t⟩)) } s { s with L:=s2.L,B:=clearB [t] s2.B }:=by
     refine ⟨⟨by have:=hR2.E; rw [hE2'] at this; exact this,hM3⟩,⟨λx hx=>hF2.wt x hx,λx hx=>by simp [hx],λx hx=>.inl rfl,λx hx rs hr=>⟨rs,by rw [<- hE2]; exact hr⟩,λq hq=>?_,λq hq hsm=>?_,hlen3,rfl⟩⟩
     ·have eB:∀ q:Root,q ≠ ⟨st.L.length,t⟩->({ s with L:=s2.L,B:=clearB [t] s2.B }:St).box q = s2.box q:=λq hq=>by
       rw [look_box,look_box];unfold allV;rw [lookV_app,lookV_app];by_cases e:q.lvl = s2.L.length
       ·rw [if_pos e,if_pos e,lookB_clear,if_neg];intro hc;simp only [List.contains_cons,List.contains_nil,Bool.or_false,beq_iff_eq] at hc;exact hq (by cases q; simp only at hc e ⊢; subst hc; rw [e,hlen3,hlen])
       ·rw [if_neg e,if_neg e]
      have eS:∀ q:Root,q ≠ ⟨st.L.length,t⟩->({ s with B:=(t,[.lp .ready none f (s.E.map V.dull) (t :: ts) asz bo]) :: s.B }:St).box q = s.box q:=λq hq=>by
       rw [look_box,look_box];unfold allV;rw [lookV_app,lookV_app];by_cases e:q.lvl = s.L.length
       ·rw [if_pos e,if_pos e];simp only [lookB];rw [if_neg];intro hc;exact hq (by cases q; simp only at hc e ⊢; subst hc; rw [e,hlen])
       ·rw [if_neg e,if_neg e]
      by_cases e:q = ⟨st.L.length,t⟩
      ·subst e;left
       rw [look_box,look_box];unfold allV;rw [lookV_app,lookV_app];simp only
       rw [if_pos (by omega),if_pos hlen.symm,lookB_clear,if_pos (by simp),hnV]
      ·have hq2:q ∉ st2.Wb:=λhm=>hq (by
        simp only [List.mem_append,List.mem_filter];exact .inr ⟨hm,by simp [e]⟩)
       rw [eB q e];rcases hF2.b q hq2 with h9 | ⟨h9,h10,h11,h12⟩
       ·left; rw [h9,eS q e]
       ·right
        refine ⟨h9,?_,by rw [h11,eS q e],h12⟩;rw [tlook_cont] at h10 ⊢;unfold TSt.all at h10 ⊢;rw [lookM_app] at h10 ⊢;by_cases e2:q.lvl = st.L.length
        ·simp only [e2,if_true,lookT] at h10 ⊢;rw [if_neg (by intro hc; exact e (by cases q; simp only at hc e2 ⊢; subst hc; rw [e2]))] at h10;exact h10
        ·simp only [e2,if_false] at h10 ⊢;exact h10
     ·by_cases e:q = ⟨st.L.length,t⟩
      ·subst e;rw [tlook_cont] at hsm;unfold TSt.all at hsm;rw [lookM_app,if_pos rfl,hn] at hsm;cases hsm
      ·have hq2:q ∉ st2.Wb:=λhm=>hq (by
        simp only [List.mem_append,List.mem_filter];exact .inr ⟨hm,by simp [e]⟩)
       have i1:=hF2.bn q hq2 (by
        rw [tlook_cont] at hsm ⊢;unfold TSt.all at hsm ⊢;rw [lookM_app] at hsm ⊢;by_cases e2:q.lvl = st.L.length
        ·simp only [e2,if_true,lookT] at hsm ⊢;rw [if_neg (by intro hc; exact e (by cases q; simp only at hc e2 ⊢; subst hc; rw [e2]))];exact hsm
        ·simp only [e2,if_false] at hsm ⊢;exact hsm)
       rw [tlook_cont] at i1 ⊢;unfold TSt.all at i1 ⊢;rw [lookM_app] at i1 ⊢;by_cases e2:q.lvl = st2.L.length
       ·simp only [e2,if_true] at i1 ⊢;rw [lookT_clear,if_neg]
        ·exact i1
        ·intro hc;simp only [List.contains_cons,List.contains_nil,Bool.or_false,beq_iff_eq] at hc;exact e (by cases q; simp only at hc e2 ⊢; subst hc; rw [e2]; congr 1; omega)
       ·simp only [e2,if_false] at i1 ⊢;exact i1
    have hnV':(lookB s.B t).isNone = true:=by rw [hnV]; rfl
    split at hk
    ·rename_i hl;obtain ⟨env3',hb⟩:=hvB hl;exact ⟨.normal,_,_,hev.imp λC ⟨hC,_⟩=>by simp only [ex,hV,hps,hnV',if_true,hC,hokV,hb],hrest.1,hrest.2,hk⟩
    ·rename_i hl;obtain ⟨env3',hb⟩:=hvB hl;exact ⟨.ret,_,_,hev.imp λC ⟨hC,_⟩=>by simp only [ex,hV,hps,hnV',if_true,hC,hokV,hb],hrest.1,hrest.2,hk⟩
    ·rename_i id _ _ _ _ _ hl;obtain ⟨env3',hb⟩:=hvB hl;exact ⟨.exit _,_,_,hev.imp λC ⟨hC,_⟩=>by simp only [ex,hV,hps,hnV',if_true,hC,hokV,hb],hrest.1,hrest.2,hk⟩
    ·cases hk
   ·cases hk
  ·cases h
 ·cases h
theorem tx_ok (hT:TOk P H lib T) (hO:OOk P H lib O):∀ (c:Code) (bid:Nat),Snd (tx P H J T O ctx f bid c) (ExEv P H lib f bid c)
 | .skip,bid=>λst R k r s h hs=>⟨.normal,st,s,.of λC=>rfl,hs,Fr2.refl _ _,h⟩
 | .ret,bid=>λst R k r s h hs=>⟨.ret,st,s,.of λC=>rfl,hs,Fr2.refl _ _,h⟩
 | .exit id,bid=>λst R k r s h hs=>⟨.exit id,st,s,.of λC=>rfl,hs,Fr2.refl _ _,h⟩
 | .seq a b,bid=>λst R k r s h hs=>by
  simp only [tx] at h;obtain ⟨e,st1,s1,hev,hR,hF,hk⟩:=tx_ok hT hO a bid st _ _ r s h hs;cases e with
  | normal =>
   obtain ⟨e2,st2,s2,hev2,hR2,hF2,hk2⟩:=tx_ok hT hO b bid st1 _ _ r s1 hk hR;exact ⟨e2,st2,s2,(hev.and hev2).imp λC hC=>by simp only [ex,hC.1,hC.2],hR2,hF.trans hF2,hk2⟩
  | exit id=>exact ⟨.exit id,st1,s1,hev.imp λC hC=>by simp only [ex,hC],hR,hF,hk⟩
  | ret=>exact ⟨.ret,st1,s1,hev.imp λC hC=>by simp only [ex,hC],hR,hF,hk⟩
 | .cond c a b,bid=>λst R k r s h hs=>by
  simp only [tx] at h;refine joinT_ok (rel:=ExEv P H lib f bid (.cond c a b)) ?_ _ st R k r s h hs;intro st R k r s h hs;have hr:=rd_ok (H:=H) (f:=f) (o:=default) hs.E c;simp only at h;split at h
  ·rename_i o t ht;rw [ht] at hr;simp only [RV,RTy] at hr;cases t with
   | true =>
    obtain ⟨e2,st2,s2,hev2,hR2,hF2,hk2⟩:=tx_ok hT hO a bid st _ _ r s h hs;exact ⟨e2,st2,s2,hev2.imp λC hC=>by simp only [ex,hr,if_true,hC],hR2,hF2,hk2⟩
   | false =>
    obtain ⟨e2,st2,s2,hev2,hR2,hF2,hk2⟩:=tx_ok hT hO b bid st _ _ r s h hs;exact ⟨e2,st2,s2,hev2.imp λC hC=>by simp only [ex,hr,Bool.false_eq_true,if_false,hC],hR2,hF2,hk2⟩
  ·cases h
 | .block id c,bid=>λst R k r s h hs=>by
  simp only [tx] at h;refine joinT_ok (rel:=ExEv P H lib f bid (.block id c)) ?_ _ st R k r s h hs;intro st R k r s h hs;obtain ⟨e,st1,s1,hev,hR,hF,hk⟩:=tx_ok hT hO c id st _ _ r s h hs;cases e with
  | exit i =>
   simp only at hk;split at hk
   ·rename_i hi;exact ⟨.normal,st1,s1,hev.imp λC hC=>by simp only [ex,hC,hi,if_true],hR,hF,hk⟩
   ·rename_i hi;exact ⟨.exit i,st1,s1,hev.imp λC hC=>by simp only [ex,hC,hi,if_false],hR,hF,hk⟩
  | normal=>exact ⟨.normal,st1,s1,hev.imp λC hC=>by simp only [ex,hC],hR,hF,hk⟩
  | ret=>exact ⟨.ret,st1,s1,hev.imp λC hC=>by simp only [ex,hC],hR,hF,hk⟩
 | .region id ops draw,bid=>λst R k r s h hs=>by
  simp only [tx] at h;refine joinT_ok (rel:=ExEv P H lib f bid (.region id ops draw)) ?_ _ st R k r s h hs;intro st R k r s h hs;simp only [regionOkM_eq,linkOkM_eq] at h;cases hpre:preT (H.pre f id) st with
  | none=>rw [hpre] at h; cases h
  | some sta =>
  rw [hpre] at h;simp only at h;obtain ⟨sa,hcl,hs,hf0⟩:=preT_ok hs hpre;cases hnt:turnOf H ops draw with
  | some p =>
   obtain ⟨F,t,e,d⟩:=p;rw [hnt] at h;simp only at h;split at h
   ·rename_i hlt;obtain ⟨hR0,hF0⟩:=put_ok hs (some e) (rv_undef []);obtain ⟨st1,s1,hk,hts,hR,hF⟩:=turnT_ok hR0 h;have hlt':e < sa.E.length:=by rw [hs.E.length,toL_len]; exact hlt
    exact ⟨.normal,st1,s1,.of λC=>by simp only [ex,hcl,hnt,hts,if_pos hlt',Option.map_some],hR,(hf0.trans hF0).trans hF,hk⟩
   ·cases h
  | none =>
  rw [hnt] at h;simp only at h;cases hls:hasLs H f ops with
  | true =>
   rw [hls] at h;simp only [if_true] at h;split at h
   ·rename_i hok;obtain ⟨st1,s1,fps,fpv,hk,hev,hR,hF,_,hcov⟩:=execLT_ok hT hO _ sta sa none [] hs holes_none h;split at hk
    ·rename_i hnc;refine ⟨.normal,st1,s1,hev.imp λC hC=>?_,hR,hf0.trans hF,hk⟩;have hnc':(!draw || noConf (H.pairs f id) fpv) = true:=by
      simp only [Bool.or_eq_true] at hnc ⊢;exact hnc.imp (λh=>h) λh=>noConf_ok hcov h
     simp only [ex,hcl,hnt,hls,if_true,hok,hC,hnc']
    ·cases hk
   ·cases h
  | false =>
  rw [hls] at h;simp only [Bool.false_eq_true,if_false] at h;split at h
  ·rename_i hd;split at h
   ·rename_i hok;split at h
    ·rename_i hU;obtain ⟨st1,s1,hk,hev,hR,hF⟩:=execT_ok hT hO _ sta sa hs h;rw [hU] at hok;exact ⟨.normal,st1,s1,hev.imp λC hC=>by simp only [ex,hcl,hnt,turnOf_true,hls,Bool.false_eq_true,if_false,hd,if_true,hU,hok,hC,Option.map_some],hR,hf0.trans hF,hk⟩
    ·rename_i U hU;obtain ⟨st1,s1,fps,fpv,hk,hev,hR,hF,_,hcov⟩:=execRT_ok hT hO _ sta sa [] hs h;split at hk
     ·rename_i hnc;have hnc':=noConf_ok hcov hnc;refine ⟨.normal,st1,s1,hev.imp λC hC=>?_,hR,hf0.trans hF,hk⟩;simp only [ex,hcl,hnt,turnOf_true,hls,Bool.false_eq_true,if_false,hd,if_true,hok];cases hp:H.pairs f id with
      | nil=>exact absurd hp (by simpa using hU)
      | cons u U' =>
       rw [hp] at hnc';simp only [hC,hnc',if_true]
     ·cases hk
   ·cases h
  ·rename_i hd;obtain ⟨st1,s1,hk,hev,hR,hF⟩:=execT_ok hT hO _ sta sa hs h;exact ⟨.normal,st1,s1,hev.imp λC hC=>by simp only [ex,hcl,hnt,hls,Bool.false_eq_true,if_false]; rw [if_neg hd,hC]; rfl,hR,hf0.trans hF,hk⟩
 | .loop c,bid=>λst R k r s h hs=>by
  simp only [tx] at h;split at h
  ·rename_i j hj;split at h
   ·rename_i hf;obtain ⟨x0,hx0,h⟩:=Option.bind_eq_some_iff.1 h;obtain ⟨n,hn⟩:=loopO_some h;obtain ⟨h1,h2⟩:=start_ok hs hf hx0;exact loop_ok (tx_ok hT hO c bid) hs n x0 s h1 h2 hn
   ·cases h
  ·split at h
   ·rename_i st1 hcl;obtain ⟨s1,hv1,hs1,hf1⟩:=clear_ok hs hcl;obtain ⟨e,st2,s2,hev,hR,hF,hk⟩:=tx_ok hT hO c bid st1 _ _ r s1 h hs1;cases e with
    | normal =>
     obtain ⟨e3,st3,s3,hev3,hR3,hF3,hk3⟩:=hO.code ctx f bid (.loop c) st2 _ _ r s2 hk hR;exact ⟨e3,st3,s3,(hev.and hev3).imp λC hC=>by simp only [ex,hv1,hC.1,hC.2],hR3,(hf1.trans hF).trans hF3,hk3⟩
    | exit id=>exact ⟨.exit id,st2,s2,hev.imp λC hC=>by simp only [ex,hv1,hC],hR,hf1.trans hF,hk⟩
    | ret=>exact ⟨.ret,st2,s2,hev.imp λC hC=>by simp only [ex,hv1,hC],hR,hf1.trans hF,hk⟩
   ·cases h
 | .rangeFunc ..,bid=>λst R k r s h hs=>range_ok hT hO h hs
 | .scope _,bid=>λst R k r s h hs=>by simp [tx] at h
 | .label _,bid=>λst R k r s h hs=>by simp [tx] at h
 | .goto _,bid=>λst R k r s h hs=>by simp [tx] at h
 | .refuse _,bid=>λst R k r s h hs=>by simp [tx] at h
end Go.Tx
end
section
namespace Go.Tx
open Go Go.Ab
variable {P:Program} {H:Hints} {J:TH} {T:CallT} {O:TOrc} {lib:FuncId->Option (List V->Option V)} {f:FuncId} {ctx:List Tmp}
theorem allSomeT_ok {st:TSt} {s:St} (hs:Rst st s):∀ (l:List ResultVar) (rs:List TV),allSomeT (l.map (resultT P st)) = some rs->∃ rs',allSome (l.map (resultOf P s)) = some rs'/\RVL rs rs'
 | [],rs,h=>by simp only [List.map_nil,allSomeT,Option.some.injEq] at h; subst h; exact ⟨[],rfl,rvl_nil⟩
 | v :: l,rs,h=>by
  simp only [List.map_cons] at h;cases h1:resultT P st v with
  | none=>rw [h1] at h; simp [allSomeT] at h
  | some x =>
   rw [h1] at h;simp only [allSomeT] at h;obtain ⟨rs0,h2,rfl⟩:=Option.map_eq_some_iff.1 h;obtain ⟨rs',h3,hr⟩:=allSomeT_ok hs l rs0 h2;have:∃ u,resultOf P s v = some u/\RV x u:=by
    cases v with
    | tmp t =>
     simp only [resultT,Option.some.injEq] at h1;subst h1;exact ⟨_,rfl,getE hs.E t⟩
    | cell a t =>
     simp only [resultT] at h1;split at h1
     ·rename_i r off hE;have hg:=getE hs.E a;rw [hE] at hg;simp only [RV] at hg;split at h1
      ·rename_i cs hcs;split at h1
       ·rename_i hsl;obtain ⟨cs',hcs',hc⟩:=hs.box hcs;obtain ⟨u,hu,hr⟩:=ofCellsT_ok h1 (hc.drop off);refine ⟨u,?_,hr⟩;have hlp:=isLp_split (rvl_notLoop hc) (hs.M.mp r.lvl r.slot cs' (by rw [<- look_box]; exact hcs') hsl);simp only [resultOf,hg,hcs',hlp,Bool.false_eq_true,if_false,hu]
       ·cases h1
      ·cases h1
     ·cases h1
   obtain ⟨u,hu,hru⟩:=this;refine ⟨u :: rs',?_,rvl_cons.2 ⟨hru,hr⟩⟩;simp only [List.map_cons,hu,allSome,h3,Option.map_some]
theorem allKeys_ok {st:TSt} {s:St} (hs:Rst st s):∀ (l:List ResultVar) (ks:List (Bool × Nat × Nat)),allKeys (l.map (resultKeyT st)) = some ks->l.map (resultKey s) = ks
 | [],ks,h=>by simp only [List.map_nil,allKeys,Option.some.injEq] at h; subst h; rfl
 | v :: l,ks,h=>by
  simp only [List.map_cons] at h;cases h1:resultKeyT st v with
  | none=>rw [h1] at h; simp [allKeys] at h
  | some x =>
   rw [h1] at h;simp only [allKeys] at h;obtain ⟨ks0,h2,rfl⟩:=Option.map_eq_some_iff.1 h;have:resultKey s v = x:=by
    cases v with
    | tmp t=>simp only [resultKeyT,Option.some.injEq] at h1; subst h1; rfl
    | cell a t =>
     simp only [resultKeyT] at h1;split at h1
     ·rename_i r off hE;have hg:=getE hs.E a;rw [hE] at hg;simp only [RV] at hg;cases h1;simp only [resultKey,hg]
     ·cases h1
   simp only [List.map_cons,this,allKeys_ok hs l ks0 h2]
theorem rv_packed:∀ {rs:List TV} {rs':List V},RVL rs rs'->RV (packedT rs) (packed rs')
 | [],rs',h=>by simp only [RVL] at h; subst h; simp [packedT,packed,RV,RVL]
 | [x],rs',h=>by obtain ⟨v,rfl,hv⟩:=rvl_one h; exact hv
 | x :: y :: rs,rs',h=>by
  have h0:=h;simp only [RVL] at h;obtain ⟨v,m,rfl,_,v2,m2,rfl,_,_⟩:=h;simp only [packedT,packed,RV];exact ⟨_,rfl,h0⟩
theorem runT_ok (hT:TOk P H lib T) (hO:OOk P H lib O) {args:List TV} {M:List TLevel} {R:Type} {k:TV->List TLevel->List Root->Option R} {r:R} {vs:List V} {M':List Level}
  (h:runT P H J T O ctx f args M R k = some r) (ha:RVL args vs) (hM:LR M M') :
  ∃ x N wb v N',k x N wb = some r/\RV x v/\LR N N'/\N.length = M.length/\(∀ l sl,(⟨l,sl⟩:Root) ∉ wb->lookV N' l sl = lookV M' l sl/\∀ c,lookM M l sl = some (some c)->∃ c',lookM N l sl = some (some c'))/\J.lib f = false/\Ev (λC=>runF P H C f vs M' = some (v,N')) P H lib:=by
 unfold runT at h;split at h
 ·cases h
 ·rename_i hlib;split at h
  ·rename_i fn hfn;split at h
   ·rename_i c hbody;have hE:RVL (Env.ofArgs args fn.ntmps).toL (vs ++ List.replicate (fn.ntmps - vs.length) .undef):=by
     rw [toL_ofArgs,ha.length]; exact ha.append (RVL.replicate (rv_undef []) _)
    have h0:Rst { E:=Env.ofArgs args fn.ntmps,L:=M,B:=[],Wt:=.empty,Wb:=[] } { E:=vs ++ List.replicate (fn.ntmps - vs.length) .undef,L:=M',B:=[] }:=⟨hE,hM.init⟩
    have hsnd:Snd (λst R k=>tx P H J T O ctx f 0 c st R λe st=>match e with
     | .normal=>k .normal st
     | .ret=>k .normal st
     | _=>none) (λs e s'=>e = .normal/\Ev (λC=>∃ e,(e = .normal\/e = .ret)/\ex P H C f 0 c s = some (e,s')) P H lib):=by
     intro st R k r s h hs;obtain ⟨e,st1,s1,hev,hR,hF,hk⟩:=tx_ok hT hO c 0 st _ _ r s h hs;cases e with
     | normal=>exact ⟨.normal,st1,s1,⟨rfl,hev.imp λC hC=>⟨.normal,.inl rfl,hC⟩⟩,hR,hF,hk⟩
     | ret=>exact ⟨.normal,st1,s1,⟨rfl,hev.imp λC hC=>⟨.ret,.inr rfl,hC⟩⟩,hR,hF,hk⟩
     | exit id=>cases hk
    obtain ⟨e,st1,s1,⟨_,hev⟩,hR,hF,hk⟩:=joinT_ok hsnd _ _ _ _ _ _ h h0;split at hk
    ·rename_i rs ks hrs hks;have hlen:=hR.len;have hlen2:=hF.len;have hML:=hM.len;simp only at hlen2;have frame:∀ l sl,(⟨l,sl⟩:Root) ∉ st1.Wb->lookV s1.L l sl = lookV M' l sl/\∀ c,lookM M l sl = some (some c)->∃ c',lookM st1.L l sl = some (some c'):=λl sl hl=>by
      refine ⟨?_,λc hc=>?_⟩
      ·by_cases e:l < s1.L.length
       ·rcases hF.b ⟨l,sl⟩ hl with this | ⟨h9,_⟩
        ·rw [look_box,look_box] at this;unfold lookV allV at this;simp only at this;unfold lookV;rw [List.getElem?_append_left e,List.getElem?_append_left (by omega)] at this;exact this
        ·simp only at h9; omega
       ·unfold lookV;rw [List.getElem?_eq_none (by omega),List.getElem?_eq_none (by omega)]
      ·have hlt:l < M.length:=by
        unfold lookM at hc;cases hM0:M[l]? with
        | none=>rw [hM0] at hc; cases hc
        | some b=>exact (List.getElem?_eq_some_iff.1 hM0).1
       have hbx:(({ E:=Env.ofArgs args fn.ntmps,L:=M,B:=[],Wt:=.empty,Wb:=[] }:TSt).cont ⟨l,sl⟩).isSome = true:=by
        rw [tlook_cont];unfold lookM TSt.all;simp only
        rw [List.getElem?_append_left hlt];unfold lookM at hc;rw [hc]; rfl
       obtain ⟨c',hc'⟩:=Option.isSome_iff_exists.1 (hF.bn ⟨l,sl⟩ hl hbx);have h10:=cont_some hc';refine ⟨c',?_⟩;unfold lookM TSt.all at h10;simp only at h10;rw [List.getElem?_append_left (by omega)] at h10;exact h10
     split at hk
     ·rename_i hc;simp only [Bool.and_eq_true] at hc;obtain ⟨⟨hkn,hpt⟩,hko⟩:=hc;obtain ⟨rs',hrs',hrr⟩:=allSomeT_ok hR _ _ hrs;have hkeys:=allKeys_ok hR _ _ hks;have hpeq:=RVL.ptrs_eq _ _ hkn hrr;refine ⟨_,_,_,packed (if M'.isEmpty && !ownsL rs' then reflagL flSettle rs' else rs'),s1.L,hk,?_,hR.M.front,by omega,frame,by simpa using hlib,hev.imp ?_⟩
      ·split
       ·exact rv_packed (RVL.keep flSettle_own rfl _ _ hrr)
       ·exact rv_packed hrr
      ·rintro C ⟨e,he,hC⟩;unfold runF;simp only [hfn,hbody,hC];rw [if_pos he,hrs'];simp only
       rw [if_pos];simp only [hpeq,hkeys,Bool.and_eq_true];rw [hML];exact ⟨hpt,hko⟩
     ·split at hk
      ·rename_i hc;simp only [Bool.and_eq_true,Bool.not_eq_true'] at hc;obtain ⟨⟨⟨hkn,hem⟩,hko⟩,hpt⟩:=hc;split at hk
       ·rename_i xs hxs;split at hk
        ·rename_i hc2;simp only [Bool.and_eq_true] at hc2;obtain ⟨hkx,hpx⟩:=hc2;obtain ⟨rs',hrs',hrr⟩:=allSomeT_ok hR _ _ hrs;have hkeys:=allKeys_ok hR _ _ hks;have hpeq:=RVL.ptrs_eq _ _ hkn hrr;obtain ⟨us,hus,hru⟩:=peekTL_ok (bt:=st1.box) (bx:=s1.box) (λr c hc=>by
          obtain ⟨c',h1,h2⟩:=hR.box hc;exact ⟨c',h1,h2,λhlt=>hR.M.mp r.lvl r.slot c' (by rw [<- look_box]; exact h1) hlt⟩) _ _ _ hxs hrr
         have hpu:=RVL.ptrs_eq _ _ hkx hru;have hem':M'.isEmpty = true:=by
          rw [List.isEmpty_iff] at hem ⊢;subst hem;exact List.eq_nil_of_length_eq_zero (by rw [hML]; rfl)
         refine ⟨_,_,_,packed us,s1.L,hk,rv_packed hru,hR.M.front,by omega,frame,by simpa using hlib,hev.imp ?_⟩;rintro C ⟨e,he,hC⟩;unfold runF;simp only [hfn,hbody,hC];rw [if_pos he,hrs'];simp only
         have hn1:¬ (((ptrsL rs').all λr=>decide (r.lvl < M'.length)) && keysOk M'.length (fn.results.toList.map (resultKey s1))) = true:=by
          rw [hpeq,hML,hpt]; simp
         rw [if_neg hn1,if_pos (by rw [hem',hkeys,hML,hko]; rfl),hus];simp only [hpu,hpx,if_true]
        ·cases hk
       ·cases hk
      ·cases hk
    ·cases hk
   ·cases h
  ·cases h
theorem packed_onlyMaps:∀ {rs:List TV},onlyMapsTL rs = true->(packedT rs).onlyMaps = true
 | [],_=>rfl
 | [x],h=>by simpa [packedT,onlyMapsTL] using h
 | x :: y :: l,h=>by simpa only [packedT,TV.onlyMaps] using h
theorem bornRT_ok (hT:TOk P H lib T) (hO:OOk P H lib O) {args:List TV} {R:Type} {k:TV->TV->Option R} {r:R} {vs:List V}
  (h:bornRT P H J T O ctx f args R k = some r) (ha:RVL args vs) :
  ∃ x τ o l v sl,k x (.t (.mset τ) o l) = some r/\keyTy τ = true/\RV x v/\x.onlyMaps = true/\Ev (λC=>bornF P H C f vs = some (v,sl,kvs τ l)) P H lib:=by
 unfold bornRT at h;split at h
 ·cases h
 ·split at h
  ·rename_i fn hfn;split at h
   ·rename_i c hbody;have hE:RVL (Env.ofArgs args fn.ntmps).toL (vs ++ List.replicate (fn.ntmps - vs.length) .undef):=by
     rw [toL_ofArgs,ha.length]; exact ha.append (RVL.replicate (rv_undef []) _)
    have hM0:LR [] []:=⟨rfl,λl s=>by simp [lookM,lookV,RB],by simp,λl s c h=>by simp [lookV] at h⟩
    have h0:Rst { E:=Env.ofArgs args fn.ntmps,L:=[],B:=[],Wt:=.empty,Wb:=[] } { E:=vs ++ List.replicate (fn.ntmps - vs.length) .undef,L:=[],B:=[] }:=⟨hE,hM0.init⟩
    obtain ⟨e,st1,s1,hev,hR,hF,hk⟩:=tx_ok hT hO c 0 _ _ _ r _ h h0;have key:(match allSomeT (fn.results.toList.map (resultT P st1)) with
     | some rs=>match peekTL st1.box rs with
      | some xs=>match ptrsTL xs with
       | [q]=>if q.lvl = 0 then (match st1.box q with
        | some [.t (.mset τ) o l]=>if knownL xs && onlyMapsTL xs then k (packedT xs) (.t (.mset τ) o l) else none
        | _=>none) else none
       | _=>none
      | none=>none
     | none=>none) = some r/\(e = .normal\/e = .ret):=by
     cases e with
     | normal=>exact ⟨hk,.inl rfl⟩
     | ret=>exact ⟨hk,.inr rfl⟩
     | exit id=>cases hk
    obtain ⟨hk2,he⟩:=key;split at hk2
    ·rename_i rs hrs;split at hk2
     ·rename_i xs hxs;split at hk2
      ·rename_i q hq;split at hk2
       ·rename_i hl0;split at hk2
        ·rename_i τ o l hbx;split at hk2
         ·rename_i hc;simp only [Bool.and_eq_true] at hc;obtain ⟨hkn,hom⟩:=hc;obtain ⟨rs',hrs',hrr⟩:=allSomeT_ok hR _ _ hrs;obtain ⟨us,hus,hru⟩:=peekTL_ok (bt:=st1.box) (bx:=s1.box) (λr c hc=>by
           obtain ⟨c',h1,h2⟩:=hR.box hc;exact ⟨c',h1,h2,λhlt=>hR.M.mp r.lvl r.slot c' (by rw [<- look_box]; exact h1) hlt⟩) _ _ _ hxs hrr
          have hpeq:=RVL.ptrs_eq _ _ hkn hru;obtain ⟨c',hc',hcr⟩:=hR.box hbx;obtain ⟨v,rfl,hv⟩:=rvl_one hcr;simp only [RV,RTy] at hv;obtain ⟨hkt,rfl⟩:=hv;have hom':=(rvl_adopt q _ _ hom hru).2;refine ⟨_,τ,o,l,packed us,q.slot,hk2,hkt,rv_packed hru,packed_onlyMaps hom,hev.imp λC hC=>?_⟩;unfold bornF;simp only [hfn,hbody,hC];rw [if_pos he,hrs'];simp only [hus,hpeq,hq];rw [if_pos hl0,hc'];simp only [hom',if_true];rfl
         ·cases hk2
        ·cases hk2
       ·cases hk2
      ·cases hk2
     ·cases hk2
    ·cases hk2
   ·cases h
  ·cases h
theorem denilT_ne {x:TV} (h:x ≠ .val (.slice none 0 0)):x.denil = x:=by
 unfold TV.denil;split
 ·exact absurd rfl h
 ·rfl
theorem rv_denil {x:TV} {v:V} (h:RV x v):RV x.denil v.denil:=by
 by_cases hv:v = .val (.slice none 0 0)
 ·subst hv;cases x with
  | any rs=>simp only [RV] at h; simp [TV.denil,V.denil,RV,V.ptrs,ptrsL,isLoop]
  | t τ o y=>cases τ <;> simp [RV,RTy] at h
  | val u =>
   simp only [RV,V.val.injEq] at h;subst h;simp [TV.denil,V.denil,RV,FlR,isOwn]
  | _=>simp [RV] at h
 ·rw [denil_ne hv,denilT_ne]
  ·exact h
  ·rintro rfl;simp only [RV] at h;exact hv h
theorem rvl_denil:∀ {l:List TV} {m:List V},RVL l m->RVL (l.map TV.denil) (m.map V.denil)
 | [],m,h=>by simp only [RVL] at h; subst h; exact rvl_nil
 | x :: l,m,h=>by
  simp only [RVL] at h;obtain ⟨v,m',rfl,h1,h2⟩:=h;exact rvl_cons.2 ⟨rv_denil h1,rvl_denil h2⟩
theorem rvl_dn {g:FuncId} {l:List TV} {m:List V} (h:RVL l m):RVL (dnT H g l) (dnA H g m):=by
 unfold dnT dnA;cases H.denil g
 ·exact h
 ·exact rvl_denil h
theorem torcN_ok (hT:TOk P H lib T) (hJ:∀ g,J.lib g = false->lib g = none):∀ n,OOk P H lib (torcN P H J T n)
 | 0=>⟨λctx g args M R k r vs M' h=>by simp [torcN] at h,λctx f bid c st R k r s h=>by simp [torcN] at h,λctx g args R k r vs h=>by simp [torcN] at h⟩
 | n + 1=>by
  have ih:=torcN_ok hT hJ n;refine ⟨λctx g args M R k r vs M' h ha hM=>?_,λctx f bid c st R k r s h hs=>?_,λctx g args R k r vs h ha=>?_⟩
  rotate_right
  ·simp only [torcN] at h;obtain ⟨x,τ,o,l,v,sl,hk,hkt,hr,hom,hev⟩:=bornRT_ok hT ih h ha;refine ⟨x,τ,o,l,v,sl,hk,hkt,hr,hom,?_⟩;obtain ⟨n1,h1⟩:=hev;refine ⟨n1 + 1,λm hm=>?_⟩;obtain ⟨m',rfl⟩:∃ m',m = m' + 1:=⟨m - 1,by omega⟩
   exact h1 m' (by omega)
  ·simp only [torcN] at h;obtain ⟨x,N,wb,v,N',hk,hr,hN,hlen,hfr,hl,hev⟩:=runT_ok hT ih h (rvl_dn ha) hM;refine ⟨x,N,wb,v,N',hk,hr,hN,hlen,hfr,?_⟩;obtain ⟨n1,h1⟩:=hev;refine ⟨n1 + 1,λm hm=>?_⟩;obtain ⟨m',rfl⟩:∃ m',m = m' + 1:=⟨m - 1,by omega⟩
   have:=h1 m' (by omega);simp only [orcN,hJ g hl];exact this
  ·simp only [torcN] at h;obtain ⟨e,st',s',hev,hR,hF,hk⟩:=tx_ok hT ih c bid st _ _ r s h hs;refine ⟨e,st',s',?_,hR,hF,hk⟩;obtain ⟨n1,h1⟩:=hev;refine ⟨n1 + 1,λm hm=>?_⟩;obtain ⟨m',rfl⟩:∃ m',m = m' + 1:=⟨m - 1,by omega⟩
   exact h1 m' (by omega)
def EntryOk (P:Program) (H:Hints) (lib:FuncId->Option (List V->Option V)) (e:Entry):Prop :=
 ∀ x y,e.F x = some y->∀ vs,RVL (ofPms e.ps x) vs->∃ v,CallEv P H lib e.g vs [] v []/\RV (packT e.rs y) v
theorem asCells_ok {τ:Ty} {cs:List TV} {x:τ.den} {l':List V} (h:asCells τ cs = some x) (hr:RVL cs l'):RVL (ofTy τ 1000 x).cells l':=by
 unfold asCells at h;split at h
 ·rename_i h1;split at h
  ·rename_i c;obtain ⟨u,rfl,hu⟩:=rvl_one hr;have h2:=rv_ofTy _ _ _ _ (asTy_ok _ _ _ _ _ h hu);have h3:(ofTy τ 1000 x).cells = [ofTy τ 1000 x]:=by cases τ <;> first | rfl | simp [Ty.one] at h1
   rw [h3]; exact rvl_cons.2 ⟨h2,rvl_nil⟩
  ·cases h
 ·rename_i h1;have h2:=rv_ofTy _ _ _ _ (asTy_ok _ _ _ _ (.agg l') h (by simp only [RV]; exact ⟨l',rfl,hr⟩));cases τ with
  | unit=>simp only [ofTy,TV.cells,RV] at h2 ⊢; obtain ⟨m,e,hm⟩:=h2; cases e; exact hm
  | pair a b=>simp only [ofTy,TV.cells,RV] at h2 ⊢; obtain ⟨m,e,hm⟩:=h2; cases e; exact hm
  | mset t=>simp [asTy] at h
  | _=>simp [Ty.one] at h1
theorem asCp_ok {c:Cp} {w:TV} {x:c.den} {v:V} (h:asCp c w = some x) (hr:RV w v):RV (ofCp c x) v:=by
 cases c with
 | v τ=>exact rv_ofTy _ _ _ _ (asTy_ok _ _ _ _ _ h hr)
 | p τ =>
  cases w <;> simp only [asCp] at h <;> try (cases h; done)
  rename_i sh cs;cases sh with
  | false=>simp only [asCp] at h; cases h
  | true =>
   simp only [asCp] at h;simp only [RV] at hr;obtain ⟨f,l',rfl,hf,hsh,hl⟩:=hr;simp only [ofCp,RV];exact ⟨f,l',rfl,hf,hsh,asCells_ok h hl⟩
theorem asTys_ok:∀ (cs:List Cp) (l:List TV) (x:denC cs) (l':List V),asTys cs l = some x->RVL l l'->RVL (ofTys cs x) l'
 | [],l,x,l',h,hr=>by
  cases l with
  | nil=>simpa [ofTys] using hr
  | cons=>simp [asTys] at h
 | [c],l,x,l',h,hr=>by
  match l,h,hr with
  | [v],h,hr =>
   obtain ⟨u,rfl,h1⟩:=rvl_one hr;exact rvl_cons.2 ⟨asCp_ok h h1,rvl_nil⟩
  | [],h,hr=>simp [asTys] at h
  | _ :: _ :: _,h,hr=>simp [asTys] at h
 | c :: q :: ps,l,x,l',h,hr=>by
  match l,h,hr with
  | [],h,hr=>simp [asTys] at h
  | v :: l,h,hr =>
   simp only [asTys] at h;obtain ⟨y,hy,h⟩:=Option.bind_eq_some_iff.1 h;obtain ⟨z,hz,h⟩:=Option.bind_eq_some_iff.1 h;simp only [Option.some.injEq] at h;subst h;simp only [RVL] at hr;obtain ⟨u,m,rfl,h1,h2⟩:=hr;exact rvl_cons.2 ⟨asCp_ok hy h1,asTys_ok (q :: ps) l _ _ hz h2⟩
theorem asPm_ok {p:Pm} {w:TV} {x:p.den} {v:V} (h:asPm p w = some x) (hr:RV w v):RV (ofPm p x) v:=by
 cases p with
 | ty τ=>exact rv_ofTy _ _ _ _ (asTy_ok _ _ _ _ _ h hr)
 | ptr τ=>exact asCp_ok (c:=.p τ) h hr
 | fn g cs =>
  cases w <;> simp only [asPm] at h <;> try (cases h; done)
  rename_i g' first cap;cases first with
  | cons y ys=>simp only [asPm] at h; cases h
  | nil =>
   simp only [asPm] at h;split at h
   ·rename_i hg;subst hg;simp only [RV] at hr;obtain ⟨a',b',rfl,ha,hb⟩:=hr;simp only [RVL] at ha;subst ha;simp only [ofPm,RV];exact ⟨[],b',rfl,rvl_nil,asTys_ok _ _ _ _ h hb⟩
   ·cases h
theorem asPms_ok:∀ (ps:List Pm) (l:List TV) (x:denP ps) (l':List V),asPms ps l = some x->RVL l l'->RVL (ofPms ps x) l'
 | [],l,x,l',h,hr=>by
  cases l with
  | nil=>simpa [ofPms] using hr
  | cons=>simp [asPms] at h
 | [p],l,x,l',h,hr=>by
  match l,h,hr with
  | [v],h,hr =>
   obtain ⟨u,rfl,h1⟩:=rvl_one hr;exact rvl_cons.2 ⟨asPm_ok h h1,rvl_nil⟩
  | [],h,hr=>simp [asPms] at h
  | _ :: _ :: _,h,hr=>simp [asPms] at h
 | p :: q :: ps,l,x,l',h,hr=>by
  match l,h,hr with
  | [],h,hr=>simp [asPms] at h
  | v :: l,h,hr =>
   simp only [asPms] at h;obtain ⟨y,hy,h⟩:=Option.bind_eq_some_iff.1 h;obtain ⟨z,hz,h⟩:=Option.bind_eq_some_iff.1 h;simp only [Option.some.injEq] at h;subst h;simp only [RVL] at hr;obtain ⟨u,m,rfl,h1,h2⟩:=hr;exact rvl_cons.2 ⟨asPm_ok hy h1,asPms_ok (q :: ps) l _ _ hz h2⟩
theorem tab_ok:∀ {l:List Entry},(∀ e ∈ l,EntryOk P H lib e)->TOk P H lib (tabT l)
 | [],_=>λg args R k r vs h=>by simp [tabT] at h
 | e :: l,he=>λg args R k r vs h ha=>by
  have ih:=tab_ok (l:=l) λe' h'=>he e' (by simp [h']);simp only [tabT] at h;split at h
  ·rename_i hg;subst hg;split at h
   ·rename_i x hx;obtain ⟨y,hy,hk⟩:=Option.bind_eq_some_iff.1 h;obtain ⟨v,hev,hr⟩:=he e (by simp) x y hy vs (asPms_ok _ _ _ _ hx ha);exact ⟨_,v,hk,hr,hev⟩
   ·exact ih _ _ _ _ _ _ h ha
  ·exact ih _ _ _ _ _ _ h ha
theorem tab_nil:TOk P H lib (tabT []):=tab_ok (by simp)
theorem tab_cons {e:Entry} {l:List Entry} (h:EntryOk P H lib e) (h':TOk P H lib (tabT l)):TOk P H lib (tabT (e :: l)):=λg args R k r vs hh ha=>by
 simp only [tabT] at hh;split at hh
 ·rename_i hg;subst hg;split at hh
  ·rename_i x hx;obtain ⟨y,hy,hk⟩:=Option.bind_eq_some_iff.1 hh;obtain ⟨v,hev,hr⟩:=h x y hy vs (asPms_ok _ _ _ _ hx ha);exact ⟨_,v,hk,hr,hev⟩
  ·exact h' _ _ _ _ _ _ hh ha
 ·exact h' _ _ _ _ _ _ hh ha
theorem asRes_ok {rs:List (Ty × Nat)} {x:TV} {y:denL (rs.map (·.1))} {v:V} (h:asRes rs x = some y) (hr:RV x v):RV (packT rs y) v:=by
 match rs,y,h with
 | [p],y,h =>
  simp only [asRes] at h;have:=asL_ok [p] [x] y [v] h (rvl_cons.2 ⟨hr,rvl_nil⟩);simp only [packT];obtain ⟨τ,o⟩:=p;simp only [ofL] at this ⊢;exact (rvl_cons.1 this).1
 | [],y,h =>
  cases x <;> simp only [asRes] at h <;> try (cases h; done)
  rename_i l _;simp only [RV] at hr;obtain ⟨l',rfl,hl⟩:=hr;have:=asL_ok [] l y l' h hl;simp only [packT,ofL,packedT,RV];exact ⟨l',rfl,this⟩
 | p :: q :: rs,y,h =>
  cases x <;> simp only [asRes] at h <;> try (cases h; done)
  rename_i l _;simp only [RV] at hr;obtain ⟨l',rfl,hl⟩:=hr;have:=asL_ok (p :: q :: rs) l y l' h hl;have hpk:∀ m:List TV,2<=m.length->packedT m = .tuple m:=λm hm=>by
   match m,hm with
   | _ :: _ :: _,_=>rfl
  simp only [packT];rw [hpk _ (by rw [asL_length _ _ _ h]; have:=asL_length _ _ _ h; obtain ⟨τ,o⟩:=p; cases rs <;> simp [ofL] at this <;> omega)];simp only [RV];exact ⟨l',rfl,this⟩
theorem entry_ok (hT:TOk P H lib T) (hJ:∀ g,J.lib g = false->lib g = none) (n:Nat) (g:FuncId) (ps:List Pm) (rs:List (Ty × Nat)) (F:denP ps->Option (denL (rs.map (·.1))))
  (h:∀ x,fnT P H J T n g (ofPms ps x) rs = F x):EntryOk P H lib ⟨g,ps,rs,F⟩:=by
 intro x y hy vs hvs;simp only at hy hvs;rw [<- h x] at hy;unfold fnT at hy;obtain ⟨w,N,wb,v,N',hk,hr,hN,hlen,_,hev⟩:=(torcN_ok hT hJ n).call _ _ _ _ _ _ _ _ [] hy hvs ⟨rfl,λl s=>by simp [lookM,lookV,RB],by simp,λl s c h=>by simp [lookV] at h⟩;have hN0:N = []:=List.eq_nil_of_length_eq_zero (by rw [hlen]; rfl);subst hN0;have hN0':N' = []:=List.eq_nil_of_length_eq_zero (by rw [hN.len]; rfl);subst hN0';exact ⟨v,hev,asRes_ok hk hr⟩
theorem entry_call (hm:P.follows .mixedOrders = true) (hname:NameOk P H)
  (hlib:∀ g h args r,lib g = some h->h args = some r->CallOk P g args [] r []) {e:Entry} (he:EntryOk P H lib e) {x:denP e.ps} {y:denL (e.rs.map (·.1))} (h:e.F x = some y) {vs:List V} (hv:RVL (ofPms e.ps x) vs) :
  ∃ v,CallOk P e.g vs [] v []/\RV (packT e.rs y) v:=by
 obtain ⟨v,⟨n,hev⟩,hr⟩:=he x y h vs hv;exact ⟨v,(orcN_ok hm hname hlib n).call _ _ _ _ _ (hev n (Nat.le_refl _)),hr⟩
end Go.Tx
end
section
namespace Go.Tx
open Go Go.Ab Go.RowKit Go.ChangeShapes Go.WideShapes Go.Deep
def Rng (N:Nat):(τ:Ty)->τ.den->Prop
 | .int k,n=>k.min<=n/\n<=k.max
 | .bool,_=>True
 | .str,s=>s.length<=N
 | .flt,_=>True
 | .cx,_=>True
 | .err,_=>True
 | .mset _,_=>True
 | .sl t,l=>l.length<=N/\∀ e ∈ l,Rng N t e
 | .unit,_=>True
 | .pair a b,x=>Rng N a x.1/\Rng N b x.2
def RngP (N:Nat):(τs:List Ty)->denP (τs.map .ty)->Prop
 | [],_=>True
 | [τ],x=>Rng N τ x
 | τ :: q :: l,x=>Rng N τ x.1/\RngP N (q :: l) x.2
def cx0 (w:World):Cx:={ β:=λ_=>none,ω:=λb=>match w.heap[b]? with
 | some (.cells c _ _)=>some (c.size,true)
 | _=>none }
structure Sm {H:Type} (N:Nat) (S:DataW H->Prop):Prop where
 slice:∀ es sp,S (.slice es sp)->es.length<=maxLen->es.length<=N/\∀ e ∈ es,S e
 agg:∀ ps,S (.agg ps)->∀ p ∈ ps,S p
 str:∀ b,S (.lit (.string b))->b.length<=maxLen->b.length<=N
def CellOk (N:Nat) (w:World) (τ:Ty) (v:Value):Prop:=∃ y u,Rng N τ y/\RTy τ 1000 y u/\Rep w (cx0 w) u v []
section
variable (P:Program)
def okT:Nat->TypeId->Bool
 | 0,_=>false
 | d + 1,t=>decide (t < P.types.size) && match P.underlying t with
  | some (.slice e)=>decide (P.cellsOf e ≠ 0) && ((cellsTy P d e).map List.length == some (P.cellsOf e)) && okT d e
  | some (.struct fields)=>fields.toList.all λfd=>okT d fd.type
  | some (.array _ e)=>okT d e
  | some (.float _) | some (.complex _)=>false
  | _=>true
end
variable {H:Type} {enc:TypeId × Value->H} {P:Program} {w:World} {base:Nat} {held:Bool}
theorem glue {α β:Type} {R:α->β->Prop}:∀ (css:List (List α)) (szs:List Nat) (vals:List β),css.length = szs.length->vals.length = szs.sum ->
  (∀ (j:Nat) c s,css[j]? = some c->szs[j]? = some s->All2 R c ((vals.drop (szs.take j).sum).take s))->All2 R css.flatten vals
 | [],szs,vals,h1,h2,_=>by
  have:szs = []:=List.eq_nil_of_length_eq_zero (by simpa using h1.symm);subst this;have:vals = []:=List.eq_nil_of_length_eq_zero (by simpa using h2);subst this;exact .nil
 | c :: css,[],vals,h1,_,_=>by simp at h1
 | c :: css,s :: szs,vals,h1,h2,h=>by
  have h0:=h 0 c s rfl rfl;simp only [List.take_zero,List.sum_nil,List.drop_zero] at h0;have hr:=glue css szs (vals.drop s) (by simpa using h1) (by simp only [List.length_drop,h2,List.sum_cons]; omega) λj c' s' hc hs=>by
   have:=h (j + 1) c' s' (by simpa using hc) (by simpa using hs);simpa [List.take_succ_cons,List.sum_cons,List.drop_drop] using this
  have:=h0.append hr;simpa [List.flatten_cons] using this
theorem pack_ok {N:Nat}:∀ (cs:List Ty) (vals:List Value),All2 (CellOk N w) cs vals->∃ (y:(cs.foldr Ty.pair .unit).den) (us:List V),Rng N _ y/\RTy (cs.foldr Ty.pair .unit) 1000 y (.agg us)/\RepL w (cx0 w) us vals []
 | [],vals,h=>by cases h; exact ⟨(),[],trivial,by simp [RTy],by simp [RepL]⟩
 | c :: cs,vals,h=>by
  cases h with
  | cons h1 h2 =>
   obtain ⟨y,u,hy,hu,hr⟩:=h1;obtain ⟨ys,us,hys,hus,hrs⟩:=pack_ok cs _ h2;refine ⟨(y,ys),u :: us,⟨hy,hys⟩,?_,?_⟩
   ·simp only [List.foldr_cons,RTy]; exact ⟨u,us,rfl,hu,hus⟩
   ·simp only [RepL]; exact ⟨_,_,[],[],rfl,rfl,hr,hrs⟩
theorem cellsTy_one {d:Nat} {e:TypeId} {σ:Ty} (hc:cellsTy P d e = some [σ]) (hs:∀ fs,P.underlying e ≠ some (.struct fs)) (ha:∀ n q,P.underlying e ≠ some (.array n q)):σ.one = true:=by
 cases d with
 | zero=>simp [cellsTy] at hc
 | succ d =>
  simp only [cellsTy] at hc;split at hc
  ·cases hc; rfl
  ·cases hc; rfl
  ·cases hc; rfl
  ·cases hc; rfl
  ·cases hc; rfl
  ·split at hc
   ·cases hc; rfl
   ·cases hc; rfl
   ·cases hc; rfl
   ·cases hc
  ·rename_i fs hfs; exact absurd hfs (hs _)
  ·rename_i n e' hfs; exact absurd hfs (ha _ _)
  ·cases hc
def elTy (P:Program) (e:TypeId) (cs:List Ty):Option Ty:=match P.underlying e with
 | some (.struct _)=>some (cs.foldr Ty.pair .unit)
 | some (.array ..)=>some (cs.foldr Ty.pair .unit)
 | _=>match cs with
  | [τ]=>some τ
  | _=>none
theorem elem_ok {N:Nat} {d:Nat} {e:TypeId} {cs:List Ty} {τ:Ty} (hc:cellsTy P d e = some cs) (hτ:elTy P e cs = some τ) {vals:List Value} (h:All2 (CellOk N w) cs vals) :
  ∃ (y:τ.den) (u:V) (v:Value),Rng N τ y/\RTy τ 1000 y u/\Rep w (cx0 w) u v []/\v.cells.toList = vals:=by
 have agg:τ = cs.foldr Ty.pair .unit->∃ (y:τ.den) (u:V) (v:Value),Rng N τ y/\RTy τ 1000 y u/\Rep w (cx0 w) u v []/\v.cells.toList = vals:=by
  rintro rfl;obtain ⟨y,us,hy,hu,hr⟩:=pack_ok cs vals h;exact ⟨y,.agg us,.agg vals.toArray,hy,hu,by simp only [Rep]; exact ⟨vals,rfl,hr⟩,by simp [Value.cells]⟩
 unfold elTy at hτ;split at hτ
 ·cases hτ; exact agg rfl
 ·cases hτ; exact agg rfl
 ·rename_i hns hna;have hns':=hns;have hna':=hna;split at hτ
  ·cases hτ;have hone:=cellsTy_one hc (λfs hh=>hns' fs hh) (λn q hh=>hna' n q hh)
   match vals,h with
   | v :: _,.cons h1 .nil =>
    obtain ⟨y,u,hy,hu,hr⟩:=h1;refine ⟨y,u,v,hy,hu,hr,?_⟩;rw [cells_of_one (rep_one (rty_one hone hu) hr)]
  ·cases hτ
theorem frozen0 {b:Nat} {e:Nat} {fz:Bool} (h:(cx0 w).ω b = some (e,fz)):fz = true/\b < w.heap.size/\∃ c t fr,w.heap[b]? = some (.cells c t fr)/\e = c.size:=by
 simp only [cx0] at h;split at h
 ·rename_i c t fr hc;cases h;exact ⟨rfl,(Array.getElem?_eq_some_iff.1 hc).1,c,t,fr,hc,rfl⟩
 ·cases h
theorem cell_block {a:Addr} {v:Value} (h:w.cell? a = some v):a.spot = none/\∃ c t fr,w.heap[a.block]? = some (.cells c t fr)/\c[a.off]? = some v:=by
 unfold World.cell? at h;split at h
 ·rename_i c t fr hc;split at h
  ·cases h
  ·rename_i hs;exact ⟨by simpa using hs,c,t,fr,hc,h⟩
 ·cases h
theorem slice_rep {N:Nat} {τ:Ty} {b off len cap s:Nat} (hs:0 < s) (hlc:len<=cap) (hcap:cap ≠ 0) (hτ:τ.elemOk = true) (hn:τ.ncells = s)
  (hel:∀ i,i < cap->∃ vals:List Value,vals.length = s/\(∀ j,j < s->w.cell? ⟨b,off + i * s + j,none⟩ = vals[j]?)/\(i < len->∃ (y:τ.den) (u:V) (v:Value),Rng N τ y/\RTy τ 1000 y u/\Rep w (cx0 w) u v []/\v.cells.toList = vals)) :
  ∃ (l:List τ.den) (us:List V),l.length = len/\(∀ y ∈ l,Rng N τ y)/\All2 (RTy τ 1000) l us/\Rep w (cx0 w) (.sl .shared false us) (.slice (some ⟨b,off,none⟩) len cap) []:=by
 have key:∀ n,n<=len->∃ (l:List τ.den) (us:List V) (vals:List Value),l.length = n/\(∀ y ∈ l,Rng N τ y)/\All2 (RTy τ 1000) l us/\RepE w (cx0 w) s us vals []/\vals.length = n * s/\(∀ j v,vals[j]? = some v->w.cell? ⟨b,off + j,none⟩ = some v):=by
  intro n;induction n with
  | zero=>exact λ_=>⟨[],[],[],rfl,by simp,.nil,by simp [RepE],by simp,by simp⟩
  | succ n ih =>
   intro hle;obtain ⟨l,us,vals,h1,h2,h3,h4,h5,h6⟩:=ih (by omega);obtain ⟨vs,hvl,hvc,hy⟩:=hel n (by omega);obtain ⟨y,u,v,hry,hu,hr,hcv⟩:=hy (by omega);refine ⟨l ++ [y],us ++ [u],vals ++ vs,by simp [h1],?_,h3.append (.cons hu .nil),?_,by simp [h5,hvl,Nat.succ_mul],?_⟩
   ·intro z hz;simp only [List.mem_append,List.mem_singleton] at hz;rcases hz with hz | rfl
    ·exact h2 z hz
    ·exact hry
   ·have h7:RepE w (cx0 w) s [u] vs []:=by
     simp only [RepE];exact ⟨v,[],[],[],by simp [hcv],by rw [<- hvl,<- hcv]; simp,rfl,hr,rfl,rfl⟩
    simpa using repE_append h4 h7
   ·intro j v hj;by_cases hlt:j < vals.length
    ·rw [List.getElem?_append_left hlt] at hj; exact h6 j v hj
    ·rw [List.getElem?_append_right (by omega)] at hj;have hjs:=(List.getElem?_eq_some_iff.1 hj).1;have:=hvc (j - vals.length) (by omega);rw [hj] at this;rw [<- this];congr 2
     omega
 obtain ⟨l,us,vals,h1,h2,h3,h4,h5,h6⟩:=key len (Nat.le_refl _);refine ⟨l,us,h1,h2,h3,?_⟩;have hlen:=h3.length;have hcells:=all2_cells hτ h3
 -- the block
 obtain ⟨vs,hvl,hvc,_⟩:=hel 0 (by omega);have hc0:=hvc 0 (by omega);have hv0:∃ v0,vs[0]? = some v0:=⟨vs[0]'(by omega),List.getElem?_eq_getElem (by omega)⟩
 obtain ⟨v0,hv0⟩:=hv0;rw [hv0] at hc0;obtain ⟨_,c,t,fr,hblk,hoff⟩:=cell_block hc0;simp only [Nat.zero_mul,Nat.add_zero] at hblk hoff;have hoff':=(Array.getElem?_eq_some_iff.1 hoff).1;simp only [Rep];refine ⟨all2_ptrs h3,.inr ⟨b,off,cap,s,vals,[],?_,?_,by simp,?_,hs,?_,h6,⟨c.size,true,?_,?_,rfl⟩,h4,by simp,by simp⟩⟩
 ·rw [hlen,h1]
 ·rw [hlen,h1]; exact hlc
 ·rw [hlen,h1]; exact h5
 ·intro x hx; rw [(hcells x hx).1]; exact hn
 ·simp only [cx0,hblk]
 ·by_cases h0:vals.length = 0
  ·rw [h0]; omega
  ·have:∃ v1,vals[vals.length - 1]? = some v1:=⟨vals[vals.length - 1]'(by omega),List.getElem?_eq_getElem (by omega)⟩
   obtain ⟨v1,hv1⟩:=this;obtain ⟨_,c',t',fr',hblk',hoff1⟩:=cell_block (h6 _ _ hv1);simp only at hblk' hoff1;rw [hblk] at hblk';cases hblk'
   have:=(Array.getElem?_eq_some_iff.1 hoff1).1;omega
theorem elTy_props {d:Nat} {e:TypeId} {cs:List Ty} {τ:Ty} (hc:cellsTy P d e = some cs) (hτ:elTy P e cs = some τ) (hones:∀ c ∈ cs,c.one = true):τ.elemOk = true/\τ.ncells = cs.length:=by
 have agg:∀ cs:List Ty,(∀ c ∈ cs,c.one = true)->(cs.foldr Ty.pair .unit).rowOk = true/\(cs.foldr Ty.pair .unit).elemOk = true/\(cs.foldr Ty.pair .unit).ncells = cs.length:=by
  intro cs;induction cs with
  | nil=>intro _; exact ⟨rfl,rfl,rfl⟩
  | cons c cs ih =>
   intro h;obtain ⟨h1,_,h3⟩:=ih λc' hc'=>h c' (by simp [hc']);simp only [List.foldr_cons,Ty.rowOk,Ty.elemOk,Ty.ncells,h c (by simp),h1,h3,Bool.and_self,List.length_cons];exact ⟨trivial,trivial,trivial⟩
 unfold elTy at hτ;split at hτ
 ·cases hτ; exact ⟨(agg cs hones).2.1,(agg cs hones).2.2⟩
 ·cases hτ; exact ⟨(agg cs hones).2.1,(agg cs hones).2.2⟩
 ·split at hτ
  ·cases hτ;have h1:=hones τ (by simp);cases τ <;> first | exact ⟨rfl,rfl⟩ | simp [Ty.one] at h1
  ·cases hτ
theorem mapM_get {α β:Type} {g:α->Option β}:∀ {l:List α} {r:List β},l.mapM g = some r->r.length = l.length/\∀ (i:Nat) (a:α),l[i]? = some a->∃ b,r[i]? = some b/\g a = some b
 | [],r,h=>by simp at h; subst h; exact ⟨rfl,by simp⟩
 | a :: l,r,h=>by
  simp only [List.mapM_cons,Option.bind_eq_bind,Option.bind_eq_some_iff] at h;obtain ⟨b,hb,r',hr',h⟩:=h;cases h;obtain ⟨h1,h2⟩:=mapM_get hr';refine ⟨by simp [h1],λi x hi=>?_⟩;cases i with
  | zero=>simp at hi; subst hi; exact ⟨b,rfl,hb⟩
  | succ n=>obtain ⟨c,hc,hg⟩:=h2 n x (by simpa using hi); exact ⟨c,by simpa using hc,hg⟩
theorem cellsTy_ones:∀ (d:Nat) (t:TypeId) (cs:List Ty),cellsTy P d t = some cs->∀ c ∈ cs,c.one = true
 | 0,t,cs,h=>by simp [cellsTy] at h
 | d + 1,t,cs,h=>by
  simp only [cellsTy] at h;split at h
  ·cases h; simp [Ty.one]
  ·cases h; simp [Ty.one]
  ·cases h; simp [Ty.one]
  ·cases h; simp [Ty.one]
  ·cases h; simp [Ty.one]
  ·split at h
   ·cases h; simp [Ty.one]
   ·cases h; simp [Ty.one]
   ·cases h; simp [Ty.one]
   ·cases h
  ·rename_i fields _;obtain ⟨css,hcss,rfl⟩:=Option.map_eq_some_iff.1 h;obtain ⟨h1,h2⟩:=mapM_get hcss;intro c hc;obtain ⟨q,hq,hcq⟩:=List.mem_flatten.1 hc;obtain ⟨i,hi⟩:=List.mem_iff_getElem?.1 hq;have hlt:i < fields.toList.length:=by have:=(List.getElem?_eq_some_iff.1 hi).1; omega
   obtain ⟨b,hb,hg⟩:=h2 i _ (List.getElem?_eq_getElem hlt);rw [hi] at hb; cases hb;exact cellsTy_ones d _ _ hg c hcq
  ·obtain ⟨q,hq,rfl⟩:=Option.map_eq_some_iff.1 h;intro c hc;obtain ⟨q',hq',hcq⟩:=List.mem_flatten.1 hc;obtain ⟨_,rfl⟩:=List.mem_replicate.1 hq';exact cellsTy_ones d _ _ hq c hcq
  ·cases h
end Go.Tx
end
