/-
  ONE LAW OF A CHAPTER: its program side is run by an interpreter that is proved sound; what it computes is shown to be what the law says. No conditions. Part 8 of 8.
-/
import Derived.Test.YtkcaaaiihhhnmaaGreatDoorMSPg
import Derived.Test.YtkcaaaiihhhnmaaGreatDoorTie
import Derived.Test.YtkcaaaiihhhnmaaGreatDoorCards
import Derived.Lay
import Derived.SevenTiedAt
set_option linter.unusedSimpArgs false
set_option linter.unusedVariables false
set_option linter.unnecessarySimpa false
section
namespace Go.Proofs.YtkcaaaiihhhnmaaGreatDoor.safetyProved
open Go Go.Ab Go.Tx Go.ChangeShapes Go.WideShapes Go.ChangeAt Go.RowKit
theorem hlib:∀ g h args r,Lb g = some h->h args = some r->qbk Tryz.prog g args [] r []:=λg h args r hg hr=>by
 unfold Lb at hg;split at hg
 ·rename_i e;subst e;cases hg;cases args with
  | nil=>cases hr; exact qzw
  | cons a l=>cases hr
 ·split at hg
  ·rename_i e;subst e;cases hg;simp only at hr;split at hr
   ·rename_i n;unfold qR at hr;split at hr
    ·rename_i hn;obtain ⟨k,rfl⟩:=Int.eq_ofNat_of_zero_le hn.1;cases hr;exact qCG k (Int.ofNat_lt.1 hn.2)
    ·cases hr
   ·cases hr
  ·cases hg
theorem true_ (x:denP ([(.pair (.sl .str) (.pair (.sl (.pair .str (.pair (.sl I) (.pair (.sl I) (.pair (.sl I) (.pair (.sl I) .unit)))))) (.pair (.sl (.pair (.sl I) (.pair (.sl I) .unit))) .unit))),I,(.sl I)].map Pm.ty)) (hx:qCi maxLen [(.pair (.sl .str) (.pair (.sl (.pair .str (.pair (.sl I) (.pair (.sl I) (.pair (.sl I) (.pair (.sl I) .unit)))))) (.pair (.sl (.pair (.sl I) (.pair (.sl I) .unit))) .unit))),I,(.sl I)] x):qa6.F x = some true:=qlH x.1 x.2.1 x.2.2
set_option maxRecDepth 100000 in
theorem contract (H:Type) (enc:TypeId × Value->H) (W:World) (base:Nat) (args:Array Value) (ds gs:List (DataW H)) (before:List MemPlace)
  (hval:∀ (j:Nat) t v,Tryz.f4.params[j]? = some t->args[j]? = some v->Value.okWide Tryz.prog W .any base t v)
  (hW:DataW.Whole enc Tryz.prog Tryz.f4.params.toList Rows.safetyProvedSpec.vars false W args.toList ds gs before) (hgl:ql5 W (cx0 W)) :
  Calls Tryz.prog 4 args W λe W'=>∃ v,e = .returned v/\Rows.safetyProvedSpec.post enc Tryz.prog Tryz.f4 false true false false W args v W' :=
 qr5 (τs:=[(.pair (.sl .str) (.pair (.sl (.pair .str (.pair (.sl I) (.pair (.sl I) (.pair (.sl I) (.pair (.sl I) .unit)))))) (.pair (.sl (.pair (.sl I) (.pair (.sl I) .unit))) .unit))),I,(.sl I)]) (ts:=[26,3,30]) (tb:=4) (F:=qa6.F) follows qcl hlib qz0 Tryz.func4 (by kernel_rfl) (by kernel_rfl) (by kernel_rfl) (by kernel_rfl) (by kernel_rfl) (by kernel_rfl) Tryz.underlying4 qh8 true_ rfl
  (λH ds h=>by
   match ds,h with
   | [d1,d2,d3],_=>rfl) H enc W base args ds gs before hval hW hgl
set_option maxRecDepth 100000 in
theorem lifted (os:Os) (started:os.Started) (H:Type) (enc:TypeId × Value->H) :
  ReturnsInHanded {} Tryz.checked os 4 .any (λw args=>(Rows.safetyProvedSpec.pre enc Tryz.prog Tryz.f4 Rows.safetyProvedRow.domain false w args/\laidMetH Tryz.prog qv9 w)/\sizedMet enc Tryz.prog Tryz.f4 (OpenSpec.ofChange Rows.safetyProvedSpec) false w args)
   (Rows.safetyProvedSpec.post enc Tryz.prog Tryz.f4 false true false false):=by
 refine returnsInHanded_of_change_and (C:=Tryz.checked) (X:=λw _=>laidMetH Tryz.prog qv9 w) (λ_ _ _ hh h=>h.of_heap hh) own started (by kernel_rfl) Tryz.func4
  (ChangeSpec.witness_shaped (enc:=enc) (C:=Tryz.checked) (os:=os) (X:=λw _=>laidMetH Tryz.prog qv9 w) false (World.laidAll Tryz.prog os qv9) #[.agg #[.slice none 0 0,.slice none 0 0,.slice none 0 0],.int .i64 0,.slice none 0 0] 8 (World.laidAll_os _ _ _)
   (World.shaped_of_ZipB (by kernel_rfl) (by kernel_rfl)) (by kernel_rfl) (by kernel_rfl) (by kernel_rfl)
   (by rw [MakeChecks.laidMetH_plain _ _ _ (by kernel_rfl)]; exact laidMet_laidAll _ (by kernel_rfl) (by kernel_rfl))) ?_
 intro W base args ds gs before hval hW _ _ hL _;exact contract H enc W base args ds gs before hval hW (qBn hL)
theorem said:Rows.SafetyProvedSaid :=
 OpenClaim.holds_of_wide 4 Tryz.f4 rfl rfl rfl rfl rfl rfl rfl ⟨rfl,rfl,rfl,rfl,rfl⟩ rfl rfl rfl rfl rfl (by kernel_rfl) Tryz.func4 (by kernel_rfl)
  (of_decide_eq_true (by kernel_rfl)) (by unfold Func.isWrapper; first | (rw [if_pos (by decide +kernel)]; kernel_rfl) | (rw [if_neg (by decide +kernel)]; exact ⟨rfl,rfl⟩))
  (λos started H enc _=>lifted os started H enc)
theorem proved:Rows.SafetyProvedCardSaid :=
 Claim7.holds_tied_plain_at .later [] [.data, .data] true (true, "e1fab70e5dba04e5b9d943c364cb30e45070e78fb89e0c99eb25930192b6c822") true
  said (λ_ h=>by cases h) (by kernel_rfl) (λ_ h=>by cases h) safetyProved_row_tie rfl ⟨rfl,rfl⟩ (by kernel_rfl) rfl
  (λf fn hf hfn=>by
   obtain rfl : f = 4 := Option.some.inj ((show Tryz.prog.funcNamed "ductility/ductilitylaw09.SafetyProved" = some 4 by kernel_rfl).symm.trans hf) |>.symm
   obtain rfl:fn = Tryz.f4:=(Option.some.inj (Tryz.func4.symm.trans hfn)).symm;exact ⟨by kernel_rfl,λj t ht=>by
    have hp:Tryz.f4.params = #[26,3,30]:=by kernel_rfl
    rw [hp] at ht;rcases j with _ | _ | _ | j
    ·simp at ht; subst ht; exact (show Tryz.prog.wantsStandIn 26 = false by kernel_rfl)
    ·simp at ht; subst ht; exact (show Tryz.prog.wantsStandIn 3 = false by kernel_rfl)
    ·simp at ht; subst ht; exact (show Tryz.prog.wantsStandIn 30 = false by kernel_rfl)
    ·simp at ht⟩)
  (by kernel_rfl)
end Go.Proofs.YtkcaaaiihhhnmaaGreatDoor.safetyProved
end
