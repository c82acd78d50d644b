/-
  ONE LAW OF A CHAPTER: its program side is run by an interpreter that is proved sound; what it computes is shown to be what the law says. No conditions. Part 6 of 6.
-/
import Derived.Test.YtbcdgfgacigaoaaGreatMKe
import Derived.Test.YtbcdgfgacigaoaaGreatProg
import Derived.KernelRfl
set_option linter.unusedSimpArgs false
set_option linter.unusedVariables false
set_option linter.unnecessarySimpa false
section
set_option maxRecDepth 100000
set_option linter.unusedVariables false
namespace Go.Proofs.YtbcdgfgacigaoaaGreat
open Go Go.Ab Go.Tx
noncomputable section
@[reducible] def I : Ty := .int .i64
@[reducible] def w64 (n : Int) : Int := IntKind.wrap .i64 n
def lookJ : List (List Tmp × FuncId × Kind × Join) → List Tmp → FuncId → Kind → Option Join
  | [], _, _, _ => none
  | (c, f, k, j) :: l, c', f', k' => if f = f' then (if k = k' then (if c = c' then some j else lookJ l c' f' k') else lookJ l c' f' k') else lookJ l c' f' k'
def awakeId : Nat := 12
def mkTH (js : List (List Tmp × FuncId × Kind × Join)) (inl : List (List Tmp × FuncId × Tmp)) : TH where
  lib := fun g => decide (g = awakeId)
  join := lookJ js
  inl := fun c f d => inl.any fun (c', f', d') => decide (f = f') && decide (d = d') && decide (c = c')
def Lb : FuncId → Option (List V → Option V) := fun g => if g = awakeId then some (fun args => match args with
    | [] => some (.val (.bool true))
    | _ => none) else none
theorem hJ {js : List (List Tmp × FuncId × Kind × Join)} {inl : List (List Tmp × FuncId × Tmp)} : ∀ g, (mkTH js inl).lib g = false → Lb g = none := fun g h => by
  simp only [mkTH, decide_eq_false_iff_not] at h
  simp [Lb, h]
def law04_awake : Option Bool := some true
def e_law04_awake : Entry := ⟨12, [], [(.bool, 0)], fun _ => law04_awake⟩
theorem o_law04_awake : EntryOk Tryz.prog Hn.hints Lb e_law04_awake := fun x y h vs hv => by
  obtain rfl : true = y := Option.some.inj h
  simp only [e_law04_awake, ofPms, RVL] at hv
  subst hv
  refine ⟨.val (.bool true), ⟨1, fun m hm => ?_⟩, by simp [packT, e_law04_awake, ofL, packedT, ofTy, RV, RTy]⟩
  obtain ⟨m', rfl⟩ : ∃ m', m = m' + 1 := ⟨m - 1, by omega⟩
  simp [orcN, Lb, awakeId, e_law04_awake]
def law04_fewOf (a0 : (List (List (Int × Int × Unit)))) (a1 : Int) : Option Bool :=
  bif decide ((a0.length : Int) > a1) then
    some false
  else
    (loopO (fun (s2 : Int) =>
        bif decide (s2 < (a0.length : Int)) then
          (idx a0 s2).bind fun x3 =>
          bif decide ((x3.length : Int) > 5) then
            some (.inr (.inr false))
          else
            some (.inl (w64 (s2 + 1)))
        else
          some (.inr (.inl ()))) 0).bind (Sum.elim (fun (p4 : Unit) =>
    some true) some)
def e_law04_fewOf : Entry := ⟨77, [.ty (.sl (.sl (.pair I (.pair I .unit)))), .ty I], [(.bool, 0)], fun x => law04_fewOf x.1 x.2⟩
def j_law04_fewOf : TH := mkTH [([], 77, .block 0, { lv := [], ps := [], abn := true, D := ⟨4193312⟩ }),
  ([], 77, .loop 0, { lv := [⟨none, 5, 0⟩], ps := [(I, 0)], D := ⟨4193312⟩ })] []
theorem k_law04_fewOf (x : denP e_law04_fewOf.ps) : fnT Tryz.prog Hn.hints j_law04_fewOf (tabT []) 40 77 (ofPms e_law04_fewOf.ps x) e_law04_fewOf.rs = e_law04_fewOf.F x := by kernel_rfl
theorem o_law04_fewOf : EntryOk Tryz.prog Hn.hints Lb e_law04_fewOf := entry_ok tab_nil hJ 40 _ _ _ _ k_law04_fewOf
def law04_few (a0 : (List (List (Int × Int × Unit)))) : Option Bool :=
  (law04_fewOf a0 (5 : Int)).bind fun x1 =>
  some x1
def e_law04_few : Entry := ⟨51, [.ty (.sl (.sl (.pair I (.pair I .unit))))], [(.bool, 0)], fun x => law04_few x⟩
def j_law04_few : TH := mkTH [] []
theorem k_law04_few (x : denP e_law04_few.ps) : fnT Tryz.prog Hn.hints j_law04_few (tabT [e_law04_fewOf]) 40 51 (ofPms e_law04_few.ps x) e_law04_few.rs = e_law04_few.F x := by kernel_rfl
theorem o_law04_few : EntryOk Tryz.prog Hn.hints Lb e_law04_few := entry_ok (tab_cons o_law04_fewOf tab_nil) hJ 40 _ _ _ _ k_law04_few
def law04_fewRig (a0 : ((List (List (Int × Int × Unit))) × (List (List (Int × Int × Unit))) × Int × Int × Int × Unit)) : Option Bool :=
  ((law04_few a0.1).bind fun x1 =>
    bif x1 then
      (law04_few a0.2.1).bind fun x2 =>
      some x2
    else
      some false).bind fun (p3 : Bool) =>
  some p3
def e_law04_fewRig : Entry := ⟨19, [.ty (.pair (.sl (.sl (.pair I (.pair I .unit)))) (.pair (.sl (.sl (.pair I (.pair I .unit)))) (.pair I (.pair I (.pair I .unit)))))], [(.bool, 0)], fun x => law04_fewRig x⟩
def j_law04_fewRig : TH := mkTH [([], 19, .region 1, { lv := [⟨none, 2, 0⟩], ps := [(.bool, 0)], D := ⟨2044⟩, rs := [⟨0, 1⟩], Dn := ⟨1908⟩ })] []
theorem k_law04_fewRig (x : denP e_law04_fewRig.ps) : fnT Tryz.prog Hn.hints j_law04_fewRig (tabT [e_law04_few]) 40 19 (ofPms e_law04_fewRig.ps x) e_law04_fewRig.rs = e_law04_fewRig.F x := by kernel_rfl
theorem o_law04_fewRig : EntryOk Tryz.prog Hn.hints Lb e_law04_fewRig := entry_ok (tab_cons o_law04_few tab_nil) hJ 40 _ _ _ _ k_law04_fewRig
def base_CopyGausses (a0 : (List (Int × Int × Unit))) : Option (List (Int × Int × Unit)) :=
  (app [] a0).bind fun x1 =>
  some x1
def e_base_CopyGausses : Entry := ⟨22, [.ty (.sl (.pair I (.pair I .unit)))], [((.sl (.pair I (.pair I .unit))), 1)], fun x => base_CopyGausses x⟩
def j_base_CopyGausses : TH := mkTH [] []
theorem k_base_CopyGausses (x : denP e_base_CopyGausses.ps) : fnT Tryz.prog Hn.hints j_base_CopyGausses (tabT []) 40 22 (ofPms e_base_CopyGausses.ps x) e_base_CopyGausses.rs = e_base_CopyGausses.F x := by kernel_rfl
theorem o_base_CopyGausses : EntryOk Tryz.prog Hn.hints Lb e_base_CopyGausses := entry_ok tab_nil hJ 40 _ _ _ _ k_base_CopyGausses
def ref04_CopyMatrix (a0 : (List (List (Int × Int × Unit)))) : Option (List (List (Int × Int × Unit))) :=
  (loopO (fun (s3 : ((List (List (Int × Int × Unit))) × Int)) =>
      bif decide (s3.2 < (a0.length : Int)) then
        (idx a0 s3.2).bind fun x4 =>
        (base_CopyGausses x4).bind fun x5 =>
        (app s3.1 ([x5])).bind fun x6 =>
        some (.inl (x6, w64 (s3.2 + 1)))
      else
        some (.inr s3.1)) ([], 0)).bind fun (p7 : (List (List (Int × Int × Unit)))) =>
  some p7
def e_ref04_CopyMatrix : Entry := ⟨29, [.ty (.sl (.sl (.pair I (.pair I .unit))))], [((.sl (.sl (.pair I (.pair I .unit)))), 2)], fun x => ref04_CopyMatrix x⟩
def j_ref04_CopyMatrix : TH := mkTH [([], 29, .block 0, { lv := [⟨none, 3, 0⟩], ps := [((.sl (.sl (.pair I (.pair I .unit)))), 2)], D := ⟨524280⟩ }),
  ([], 29, .loop 0, { lv := [⟨none, 3, 0⟩, ⟨none, 4, 0⟩], ps := [((.sl (.sl (.pair I (.pair I .unit)))), 2), (I, 0)], D := ⟨524280⟩ })] []
theorem k_ref04_CopyMatrix (x : denP e_ref04_CopyMatrix.ps) : fnT Tryz.prog Hn.hints j_ref04_CopyMatrix (tabT [e_base_CopyGausses]) 40 29 (ofPms e_ref04_CopyMatrix.ps x) e_ref04_CopyMatrix.rs = e_ref04_CopyMatrix.F x := by kernel_rfl
theorem o_ref04_CopyMatrix : EntryOk Tryz.prog Hn.hints Lb e_ref04_CopyMatrix := entry_ok (tab_cons o_base_CopyGausses tab_nil) hJ 40 _ _ _ _ k_ref04_CopyMatrix
def ref04_CopyRig (a0 : ((List (List (Int × Int × Unit))) × (List (List (Int × Int × Unit))) × Int × Int × Int × Unit)) : Option ((List (List (Int × Int × Unit))) × (List (List (Int × Int × Unit))) × Int × Int × Int × Unit) :=
  (ref04_CopyMatrix a0.1).bind fun x1 =>
  (ref04_CopyMatrix a0.2.1).bind fun x2 =>
  some (x1, x2, a0.2.2.1, a0.2.2.2.1, a0.2.2.2.2.1, ())
def e_ref04_CopyRig : Entry := ⟨21, [.ty (.pair (.sl (.sl (.pair I (.pair I .unit)))) (.pair (.sl (.sl (.pair I (.pair I .unit)))) (.pair I (.pair I (.pair I .unit)))))], [((.pair (.sl (.sl (.pair I (.pair I .unit)))) (.pair (.sl (.sl (.pair I (.pair I .unit)))) (.pair I (.pair I (.pair I .unit))))), 0)], fun x => ref04_CopyRig x⟩
def j_ref04_CopyRig : TH := mkTH [] []
theorem k_ref04_CopyRig (x : denP e_ref04_CopyRig.ps) : fnT Tryz.prog Hn.hints j_ref04_CopyRig (tabT [e_ref04_CopyMatrix]) 40 21 (ofPms e_ref04_CopyRig.ps x) e_ref04_CopyRig.rs = e_ref04_CopyRig.F x := by kernel_rfl
theorem o_ref04_CopyRig : EntryOk Tryz.prog Hn.hints Lb e_ref04_CopyRig := entry_ok (tab_cons o_ref04_CopyMatrix tab_nil) hJ 40 _ _ _ _ k_ref04_CopyRig
def drive_unless (a0 : Bool) (a1 : Int) : Option Int :=
  bif a0 then
    some 0
  else
    some a1
def e_drive_unless : Entry := ⟨80, [.ty .bool, .ty I], [(I, 0)], fun x => drive_unless x.1 x.2⟩
def j_drive_unless : TH := mkTH [] []
theorem k_drive_unless (x : denP e_drive_unless.ps) : fnT Tryz.prog Hn.hints j_drive_unless (tabT []) 40 80 (ofPms e_drive_unless.ps x) e_drive_unless.rs = e_drive_unless.F x := by kernel_rfl
theorem o_drive_unless : EntryOk Tryz.prog Hn.hints Lb e_drive_unless := entry_ok tab_nil hJ 40 _ _ _ _ k_drive_unless
def drive_first (a0 : (List Int)) : Option Int :=
  (loopO (fun (s2 : Int) =>
      bif decide (s2 < (a0.length : Int)) then
        (idx a0 s2).bind fun x3 =>
        bif !(decide (x3 = 0)) then
          some (.inr (.inr x3))
        else
          some (.inl (w64 (s2 + 1)))
      else
        some (.inr (.inl ()))) 0).bind (Sum.elim (fun (p4 : Unit) =>
  some 0) some)
def e_drive_first : Entry := ⟨79, [.ty (.sl I)], [(I, 0)], fun x => drive_first x⟩
def j_drive_first : TH := mkTH [([], 79, .block 0, { lv := [], ps := [], abn := true, D := ⟨32656⟩ }),
  ([], 79, .loop 0, { lv := [⟨none, 7, 0⟩], ps := [(I, 0)], D := ⟨32656⟩ })] []
theorem k_drive_first (x : denP e_drive_first.ps) : fnT Tryz.prog Hn.hints j_drive_first (tabT []) 40 79 (ofPms e_drive_first.ps x) e_drive_first.rs = e_drive_first.F x := by kernel_rfl
theorem o_drive_first : EntryOk Tryz.prog Hn.hints Lb e_drive_first := entry_ok tab_nil hJ 40 _ _ _ _ k_drive_first
def drive_within (a0 : Int) (a1 : Int) (a2 : Int) : Option Bool :=
  (bif decide (a1 ≤ a0) then
      some (decide (a0 ≤ a2))
    else
      some false).bind fun (p1 : Bool) =>
  some p1
def e_drive_within : Entry := ⟨81, [.ty I, .ty I, .ty I], [(.bool, 0)], fun x => drive_within x.1 x.2.1 x.2.2⟩
def j_drive_within : TH := mkTH [([], 81, .region 1, { lv := [⟨none, 6, 0⟩], ps := [(.bool, 0)], D := ⟨32704⟩ })] []
theorem k_drive_within (x : denP e_drive_within.ps) : fnT Tryz.prog Hn.hints j_drive_within (tabT []) 40 81 (ofPms e_drive_within.ps x) e_drive_within.rs = e_drive_within.F x := by kernel_rfl
theorem o_drive_within : EntryOk Tryz.prog Hn.hints Lb e_drive_within := entry_ok tab_nil hJ 40 _ _ _ _ k_drive_within
def drive_isSized (a0 : Int) (a1 : Int) : Option Bool :=
  (drive_within a0 (w64 (0 - a1)) a1).bind fun x1 =>
  some x1
def e_drive_isSized : Entry := ⟨152, [.ty I, .ty I], [(.bool, 0)], fun x => drive_isSized x.1 x.2⟩
def j_drive_isSized : TH := mkTH [] []
theorem k_drive_isSized (x : denP e_drive_isSized.ps) : fnT Tryz.prog Hn.hints j_drive_isSized (tabT [e_drive_within]) 40 152 (ofPms e_drive_isSized.ps x) e_drive_isSized.rs = e_drive_isSized.F x := by kernel_rfl
theorem o_drive_isSized : EntryOk Tryz.prog Hn.hints Lb e_drive_isSized := entry_ok (tab_cons o_drive_within tab_nil) hJ 40 _ _ _ _ k_drive_isSized
def drive_whole_isSized (a0 : (Int × Int × Unit)) (a1 : Int) : Option Bool :=
  ((drive_isSized a0.1 a1).bind fun x1 =>
    bif x1 then
      (drive_isSized a0.2.1 a1).bind fun x2 =>
      some x2
    else
      some false).bind fun (p3 : Bool) =>
  some p3
def e_drive_whole_isSized : Entry := ⟨105, [.ty (.pair I (.pair I .unit)), .ty I], [(.bool, 0)], fun x => drive_whole_isSized x.1 x.2⟩
def j_drive_whole_isSized : TH := mkTH [([], 105, .region 1, { lv := [⟨none, 4, 0⟩], ps := [(.bool, 0)], D := ⟨32752⟩, rs := [⟨0, 2⟩], Dn := ⟨31696⟩ })] []
theorem k_drive_whole_isSized (x : denP e_drive_whole_isSized.ps) : fnT Tryz.prog Hn.hints j_drive_whole_isSized (tabT [e_drive_isSized]) 40 105 (ofPms e_drive_whole_isSized.ps x) e_drive_whole_isSized.rs = e_drive_whole_isSized.F x := by kernel_rfl
theorem o_drive_whole_isSized : EntryOk Tryz.prog Hn.hints Lb e_drive_whole_isSized := entry_ok (tab_cons o_drive_isSized tab_nil) hJ 40 _ _ _ _ k_drive_whole_isSized
def drive_CheckMatrix_1 (a0 : (Int × Int × Unit)) : Option Bool :=
  (drive_whole_isSized a0 (20 : Int)).bind fun x1 =>
  some (!x1)
def e_drive_CheckMatrix_1 : Entry := ⟨187, [.ty (.pair I (.pair I .unit))], [(.bool, 0)], fun x => drive_CheckMatrix_1 x⟩
def j_drive_CheckMatrix_1 : TH := mkTH [] []
theorem k_drive_CheckMatrix_1 (x : denP e_drive_CheckMatrix_1.ps) : fnT Tryz.prog Hn.hints j_drive_CheckMatrix_1 (tabT [e_drive_whole_isSized]) 40 187 (ofPms e_drive_CheckMatrix_1.ps x) e_drive_CheckMatrix_1.rs = e_drive_CheckMatrix_1.F x := by kernel_rfl
theorem o_drive_CheckMatrix_1 : EntryOk Tryz.prog Hn.hints Lb e_drive_CheckMatrix_1 := entry_ok (tab_cons o_drive_whole_isSized tab_nil) hJ 40 _ _ _ _ k_drive_CheckMatrix_1
def slices_IndexFunc_Lapi_Gauss_api_Gauss_of_drive_CheckMatrix_1 (a0 : (List (Int × Int × Unit))) : Option Int :=
  (loopO (fun (s2 : Int) =>
      bif decide (s2 < (a0.length : Int)) then
        (idx a0 s2).bind fun x3 =>
        (drive_CheckMatrix_1 x3).bind fun x4 =>
        bif x4 then
          some (.inr (.inr s2))
        else
          some (.inl (w64 (s2 + 1)))
      else
        some (.inr (.inl ()))) 0).bind (Sum.elim (fun (p5 : Unit) =>
  some (-1)) some)
def e_slices_IndexFunc_Lapi_Gauss_api_Gauss_of_drive_CheckMatrix_1 : Entry := ⟨183, [.ty (.sl (.pair I (.pair I .unit))), .fn 187 []], [(I, 0)], fun x => slices_IndexFunc_Lapi_Gauss_api_Gauss_of_drive_CheckMatrix_1 x.1⟩
def j_slices_IndexFunc_Lapi_Gauss_api_Gauss_of_drive_CheckMatrix_1 : TH := mkTH [([], 183, .block 0, { lv := [], ps := [], abn := true, D := ⟨524064⟩ }),
  ([], 183, .loop 0, { lv := [⟨none, 8, 0⟩], ps := [(I, 0)], D := ⟨524064⟩ })] []
theorem k_slices_IndexFunc_Lapi_Gauss_api_Gauss_of_drive_CheckMatrix_1 (x : denP e_slices_IndexFunc_Lapi_Gauss_api_Gauss_of_drive_CheckMatrix_1.ps) : fnT Tryz.prog Hn.hints j_slices_IndexFunc_Lapi_Gauss_api_Gauss_of_drive_CheckMatrix_1 (tabT [e_drive_CheckMatrix_1]) 40 183 (ofPms e_slices_IndexFunc_Lapi_Gauss_api_Gauss_of_drive_CheckMatrix_1.ps x) e_slices_IndexFunc_Lapi_Gauss_api_Gauss_of_drive_CheckMatrix_1.rs = e_slices_IndexFunc_Lapi_Gauss_api_Gauss_of_drive_CheckMatrix_1.F x := by kernel_rfl
theorem o_slices_IndexFunc_Lapi_Gauss_api_Gauss_of_drive_CheckMatrix_1 : EntryOk Tryz.prog Hn.hints Lb e_slices_IndexFunc_Lapi_Gauss_api_Gauss_of_drive_CheckMatrix_1 := entry_ok (tab_cons o_drive_CheckMatrix_1 tab_nil) hJ 40 _ _ _ _ k_slices_IndexFunc_Lapi_Gauss_api_Gauss_of_drive_CheckMatrix_1
def slices_ContainsFunc_Lapi_Gauss_api_Gauss_of_drive_CheckMatrix_1 (a0 : (List (Int × Int × Unit))) : Option Bool :=
  (slices_IndexFunc_Lapi_Gauss_api_Gauss_of_drive_CheckMatrix_1 a0).bind fun x1 =>
  some (decide (x1 ≥ 0))
def e_slices_ContainsFunc_Lapi_Gauss_api_Gauss_of_drive_CheckMatrix_1 : Entry := ⟨145, [.ty (.sl (.pair I (.pair I .unit))), .fn 187 []], [(.bool, 0)], fun x => slices_ContainsFunc_Lapi_Gauss_api_Gauss_of_drive_CheckMatrix_1 x.1⟩
def j_slices_ContainsFunc_Lapi_Gauss_api_Gauss_of_drive_CheckMatrix_1 : TH := mkTH [] []
theorem k_slices_ContainsFunc_Lapi_Gauss_api_Gauss_of_drive_CheckMatrix_1 (x : denP e_slices_ContainsFunc_Lapi_Gauss_api_Gauss_of_drive_CheckMatrix_1.ps) : fnT Tryz.prog Hn.hints j_slices_ContainsFunc_Lapi_Gauss_api_Gauss_of_drive_CheckMatrix_1 (tabT [e_slices_IndexFunc_Lapi_Gauss_api_Gauss_of_drive_CheckMatrix_1]) 40 145 (ofPms e_slices_ContainsFunc_Lapi_Gauss_api_Gauss_of_drive_CheckMatrix_1.ps x) e_slices_ContainsFunc_Lapi_Gauss_api_Gauss_of_drive_CheckMatrix_1.rs = e_slices_ContainsFunc_Lapi_Gauss_api_Gauss_of_drive_CheckMatrix_1.F x := by kernel_rfl
theorem o_slices_ContainsFunc_Lapi_Gauss_api_Gauss_of_drive_CheckMatrix_1 : EntryOk Tryz.prog Hn.hints Lb e_slices_ContainsFunc_Lapi_Gauss_api_Gauss_of_drive_CheckMatrix_1 := entry_ok (tab_cons o_slices_IndexFunc_Lapi_Gauss_api_Gauss_of_drive_CheckMatrix_1 tab_nil) hJ 40 _ _ _ _ k_slices_ContainsFunc_Lapi_Gauss_api_Gauss_of_drive_CheckMatrix_1
def drive_CheckMatrix (a0 : (List (List (Int × Int × Unit)))) : Option (Int × Int) :=
  (drive_unless (decide ((a0.length : Int) > 0)) (10 : Int)).bind fun x1 =>
  (drive_unless (decide ((a0.length : Int) ≤ 3)) (8 : Int)).bind fun x2 =>
  (drive_first ([x1, x2])).bind fun x3 =>
  bif !(decide (x3 = 0)) then
    some (0, x3)
  else
    (loopO (fun (s5 : Int) =>
        bif decide (s5 < (a0.length : Int)) then
          (idx a0 s5).bind fun x6 =>
          (slices_ContainsFunc_Lapi_Gauss_api_Gauss_of_drive_CheckMatrix_1 x6).bind fun x7 =>
          (drive_unless (decide ((x6.length : Int) = (a0.length : Int))) (10 : Int)).bind fun x8 =>
          (drive_unless (!x7) (2 : Int)).bind fun x9 =>
          (drive_first ([x8, x9])).bind fun x10 =>
          bif !(decide (x10 = 0)) then
            some (.inr (.inr (s5, x10)))
          else
            some (.inl (w64 (s5 + 1)))
        else
          some (.inr (.inl ()))) 0).bind (Sum.elim (fun (p11 : Unit) =>
    some (0, 0)) some)
def e_drive_CheckMatrix : Entry := ⟨159, [.ty (.sl (.sl (.pair I (.pair I .unit))))], [(I, 0), (I, 0)], fun x => drive_CheckMatrix x⟩
def j_drive_CheckMatrix : TH := mkTH [([], 159, .block 0, { lv := [], ps := [], abn := true, D := ⟨140737471578592⟩ }),
  ([], 159, .loop 0, { lv := [⟨none, 24, 0⟩], ps := [(I, 0)], D := ⟨140737471578592⟩ })] []
theorem k_drive_CheckMatrix (x : denP e_drive_CheckMatrix.ps) : fnT Tryz.prog Hn.hints j_drive_CheckMatrix (tabT [e_drive_first, e_drive_unless, e_slices_ContainsFunc_Lapi_Gauss_api_Gauss_of_drive_CheckMatrix_1]) 40 159 (ofPms e_drive_CheckMatrix.ps x) e_drive_CheckMatrix.rs = e_drive_CheckMatrix.F x := by kernel_rfl
theorem o_drive_CheckMatrix : EntryOk Tryz.prog Hn.hints Lb e_drive_CheckMatrix := entry_ok (tab_cons o_drive_first (tab_cons o_drive_unless (tab_cons o_slices_ContainsFunc_Lapi_Gauss_api_Gauss_of_drive_CheckMatrix_1 tab_nil))) hJ 40 _ _ _ _ k_drive_CheckMatrix
def drive_matrixErr (a0 : (List (List (Int × Int × Unit)))) : Option Int :=
  (drive_CheckMatrix a0).bind fun x1 =>
  some x1.2
def e_drive_matrixErr : Entry := ⟨108, [.ty (.sl (.sl (.pair I (.pair I .unit))))], [(I, 0)], fun x => drive_matrixErr x⟩
def j_drive_matrixErr : TH := mkTH [] []
theorem k_drive_matrixErr (x : denP e_drive_matrixErr.ps) : fnT Tryz.prog Hn.hints j_drive_matrixErr (tabT [e_drive_CheckMatrix]) 40 108 (ofPms e_drive_matrixErr.ps x) e_drive_matrixErr.rs = e_drive_matrixErr.F x := by kernel_rfl
theorem o_drive_matrixErr : EntryOk Tryz.prog Hn.hints Lb e_drive_matrixErr := entry_ok (tab_cons o_drive_CheckMatrix tab_nil) hJ 40 _ _ _ _ k_drive_matrixErr
def drive_matrix_at (a0 : (List (List (Int × Int × Unit)))) (a1 : Int) (a2 : Int) : Option (Int × Int × Unit) :=
  (idx a0 a1).bind fun x1 =>
  (idx x1 a2).bind fun x2 =>
  some x2
def e_drive_matrix_at : Entry := ⟨87, [.ty (.sl (.sl (.pair I (.pair I .unit)))), .ty I, .ty I], [((.pair I (.pair I .unit)), 0)], fun x => drive_matrix_at x.1 x.2.1 x.2.2⟩
def j_drive_matrix_at : TH := mkTH [] []
theorem k_drive_matrix_at (x : denP e_drive_matrix_at.ps) : fnT Tryz.prog Hn.hints j_drive_matrix_at (tabT []) 40 87 (ofPms e_drive_matrix_at.ps x) e_drive_matrix_at.rs = e_drive_matrix_at.F x := by kernel_rfl
theorem o_drive_matrix_at : EntryOk Tryz.prog Hn.hints Lb e_drive_matrix_at := entry_ok tab_nil hJ 40 _ _ _ _ k_drive_matrix_at
def drive_matrix_without (a0 : (List (List (Int × Int × Unit)))) (a1 : Int) (a2 : Int) : Option (List (List (Int × Int × Unit))) :=
  (loopO (fun (s2 : ((List (List (Int × Int × Unit))) × Int)) =>
      bif decide (s2.2 < (a0.length : Int)) then
        (idx a0 s2.2).bind fun x3 =>
        (bif !(decide (s2.2 = a1)) then
            (slc x3 0 a2).bind fun x4 =>
            bif decide (a2 = a2) then
              (slc x3 (w64 (a2 + 1)) (x3.length : Int)).bind fun x5 =>
              (app x4 x5).bind fun x6 =>
              (app s2.1 ([x6])).bind fun x7 =>
              some x7
            else
              none
          else
            some s2.1).bind fun (p8 : (List (List (Int × Int × Unit)))) =>
        some (.inl (p8, w64 (s2.2 + 1)))
      else
        some (.inr s2.1)) ([], 0)).bind fun (p9 : (List (List (Int × Int × Unit)))) =>
  some p9
def e_drive_matrix_without : Entry := ⟨150, [.ty (.sl (.sl (.pair I (.pair I .unit)))), .ty I, .ty I], [((.sl (.sl (.pair I (.pair I .unit)))), 2001)], fun x => drive_matrix_without x.1 x.2.1 x.2.2⟩
def j_drive_matrix_without : TH := mkTH [([], 150, .block 0, { lv := [⟨none, 7, 0⟩], ps := [((.sl (.sl (.pair I (.pair I .unit)))), 2001)], D := ⟨8589931392⟩ }),
  ([], 150, .loop 0, { lv := [⟨none, 7, 0⟩, ⟨none, 12, 0⟩], ps := [((.sl (.sl (.pair I (.pair I .unit)))), 2001), (I, 0)], D := ⟨8589931392⟩ }),
  ([], 150, .cond 19, { lv := [⟨none, 7, 0⟩], ps := [((.sl (.sl (.pair I (.pair I .unit)))), 2001)], D := ⟨4293918848⟩ })] []
theorem k_drive_matrix_without (x : denP e_drive_matrix_without.ps) : fnT Tryz.prog Hn.hints j_drive_matrix_without (tabT []) 40 150 (ofPms e_drive_matrix_without.ps x) e_drive_matrix_without.rs = e_drive_matrix_without.F x := by kernel_rfl
theorem o_drive_matrix_without : EntryOk Tryz.prog Hn.hints Lb e_drive_matrix_without := entry_ok tab_nil hJ 40 _ _ _ _ k_drive_matrix_without
def drive_whole_times (a0 : (Int × Int × Unit)) (a1 : (Int × Int × Unit)) : Option (Int × Int × Unit) :=
  some (w64 ((w64 (a0.1 * a1.1)) - (w64 (a0.2.1 * a1.2.1))), w64 ((w64 (a0.1 * a1.2.1)) + (w64 (a0.2.1 * a1.1))), ())
def e_drive_whole_times : Entry := ⟨82, [.ty (.pair I (.pair I .unit)), .ty (.pair I (.pair I .unit))], [((.pair I (.pair I .unit)), 0)], fun x => drive_whole_times x.1 x.2⟩
def j_drive_whole_times : TH := mkTH [] []
theorem k_drive_whole_times (x : denP e_drive_whole_times.ps) : fnT Tryz.prog Hn.hints j_drive_whole_times (tabT []) 40 82 (ofPms e_drive_whole_times.ps x) e_drive_whole_times.rs = e_drive_whole_times.F x := by kernel_rfl
theorem o_drive_whole_times : EntryOk Tryz.prog Hn.hints Lb e_drive_whole_times := entry_ok tab_nil hJ 40 _ _ _ _ k_drive_whole_times
def drive_whole_minus (a0 : (Int × Int × Unit)) (a1 : (Int × Int × Unit)) : Option (Int × Int × Unit) :=
  some (w64 (a0.1 - a1.1), w64 (a0.2.1 - a1.2.1), ())
def e_drive_whole_minus : Entry := ⟨104, [.ty (.pair I (.pair I .unit)), .ty (.pair I (.pair I .unit))], [((.pair I (.pair I .unit)), 0)], fun x => drive_whole_minus x.1 x.2⟩
def j_drive_whole_minus : TH := mkTH [] []
theorem k_drive_whole_minus (x : denP e_drive_whole_minus.ps) : fnT Tryz.prog Hn.hints j_drive_whole_minus (tabT []) 40 104 (ofPms e_drive_whole_minus.ps x) e_drive_whole_minus.rs = e_drive_whole_minus.F x := by kernel_rfl
theorem o_drive_whole_minus : EntryOk Tryz.prog Hn.hints Lb e_drive_whole_minus := entry_ok tab_nil hJ 40 _ _ _ _ k_drive_whole_minus
def drive_whole_plus (a0 : (Int × Int × Unit)) (a1 : (Int × Int × Unit)) : Option (Int × Int × Unit) :=
  some (w64 (a0.1 + a1.1), w64 (a0.2.1 + a1.2.1), ())
def e_drive_whole_plus : Entry := ⟨154, [.ty (.pair I (.pair I .unit)), .ty (.pair I (.pair I .unit))], [((.pair I (.pair I .unit)), 0)], fun x => drive_whole_plus x.1 x.2⟩
def j_drive_whole_plus : TH := mkTH [] []
theorem k_drive_whole_plus (x : denP e_drive_whole_plus.ps) : fnT Tryz.prog Hn.hints j_drive_whole_plus (tabT []) 40 154 (ofPms e_drive_whole_plus.ps x) e_drive_whole_plus.rs = e_drive_whole_plus.F x := by kernel_rfl
theorem o_drive_whole_plus : EntryOk Tryz.prog Hn.hints Lb e_drive_whole_plus := entry_ok tab_nil hJ 40 _ _ _ _ k_drive_whole_plus
def drive_matrix_determinant_n (n : Nat) : (List (List (Int × Int × Unit))) → Option (Int × Int × Unit) :=
  Nat.rec (motive := fun _ => (List (List (Int × Int × Unit))) → Option (Int × Int × Unit)) (fun _ => none) (fun _ ih a0 =>
  bif decide ((a0.length : Int) = 0) then
    some (1, 0, ())
  else
    (loopO (fun (s2 : (Int × Int × Int)) =>
        bif decide (s2.1 < (a0.length : Int)) then
          (drive_matrix_at a0 (0 : Int) s2.1).bind fun x3 =>
          (drive_matrix_without a0 (0 : Int) s2.1).bind fun x4 =>
          (ih x4).bind fun x5 =>
          (drive_whole_times x3 x5).bind fun x6 =>
          (bif decide (s2.1.tmod 2 = 1) then
              (drive_whole_minus (0, 0, ()) x6).bind fun x7 =>
              some (x7.1, x7.2.1)
            else
              some (x6.1, x6.2.1)).bind fun (p8 : (Int × Int)) =>
          (drive_whole_plus (s2.2.1, s2.2.2, ()) (p8.1, p8.2, ())).bind fun x9 =>
          some (.inl (w64 (s2.1 + 1), x9.1, x9.2.1))
        else
          some (.inr (s2.2.1, s2.2.2))) (0, 0, 0)).bind fun (p10 : (Int × Int)) =>
    some (p10.1, p10.2, ())) n
def drive_matrix_determinant : (List (List (Int × Int × Unit))) → Option (Int × Int × Unit) := drive_matrix_determinant_n 12
def e_drive_matrix_determinant : Entry := ⟨136, [.ty (.sl (.sl (.pair I (.pair I .unit))))], [((.pair I (.pair I .unit)), 0)], fun x => drive_matrix_determinant x⟩
def j_drive_matrix_determinant : TH := mkTH [([], 136, .block 0, { lv := [⟨some 0, 3, 0⟩, ⟨some 0, 3, 1⟩], ps := [(I, 0), (I, 0)], D := ⟨8589930544⟩, wr := [⟨0, 3⟩, ⟨0, 5⟩] }),
  ([], 136, .loop 0, { lv := [⟨none, 12, 0⟩, ⟨some 0, 3, 0⟩, ⟨some 0, 3, 1⟩], ps := [(I, 0), (I, 0), (I, 0)], D := ⟨8589930544⟩, wr := [⟨0, 3⟩, ⟨0, 5⟩], rs := [⟨0, 5⟩], Dn := ⟨8589930512⟩ }),
  ([], 136, .cond 25, { lv := [⟨some 0, 5, 0⟩, ⟨some 0, 5, 1⟩], ps := [(I, 0), (I, 0)], D := ⟨469762048⟩, wr := [⟨0, 5⟩] })] []
def e_drive_matrix_determinant_n (n : Nat) : Entry := ⟨136, [.ty (.sl (.sl (.pair I (.pair I .unit))))], [((.pair I (.pair I .unit)), 0)], fun x => drive_matrix_determinant_n n x⟩
theorem k_drive_matrix_determinant (n : Nat) (x : denP (e_drive_matrix_determinant_n (n + 1)).ps) : fnT Tryz.prog Hn.hints j_drive_matrix_determinant (tabT [(e_drive_matrix_determinant_n n), e_drive_matrix_at, e_drive_matrix_without, e_drive_whole_minus, e_drive_whole_plus, e_drive_whole_times]) 40 136 (ofPms (e_drive_matrix_determinant_n (n + 1)).ps x) (e_drive_matrix_determinant_n (n + 1)).rs = (e_drive_matrix_determinant_n (n + 1)).F x := by kernel_rfl
theorem o_drive_matrix_determinant_n : ∀ n, EntryOk Tryz.prog Hn.hints Lb (e_drive_matrix_determinant_n n)
  | 0 => fun x y h => by cases (show none = some y from h)
  | n + 1 => entry_ok (tab_cons (o_drive_matrix_determinant_n n) (tab_cons o_drive_matrix_at (tab_cons o_drive_matrix_without (tab_cons o_drive_whole_minus (tab_cons o_drive_whole_plus (tab_cons o_drive_whole_times tab_nil)))))) hJ 40 _ _ _ _ (k_drive_matrix_determinant n)
theorem o_drive_matrix_determinant : EntryOk Tryz.prog Hn.hints Lb e_drive_matrix_determinant := o_drive_matrix_determinant_n 12
def drive_whole_conj (a0 : (Int × Int × Unit)) : Option (Int × Int × Unit) :=
  some (a0.1, w64 (0 - a0.2.1), ())
def e_drive_whole_conj : Entry := ⟨83, [.ty (.pair I (.pair I .unit))], [((.pair I (.pair I .unit)), 0)], fun x => drive_whole_conj x⟩
def j_drive_whole_conj : TH := mkTH [] []
theorem k_drive_whole_conj (x : denP e_drive_whole_conj.ps) : fnT Tryz.prog Hn.hints j_drive_whole_conj (tabT []) 40 83 (ofPms e_drive_whole_conj.ps x) e_drive_whole_conj.rs = e_drive_whole_conj.F x := by kernel_rfl
theorem o_drive_whole_conj : EntryOk Tryz.prog Hn.hints Lb e_drive_whole_conj := entry_ok tab_nil hJ 40 _ _ _ _ k_drive_whole_conj
def drive_matrix_inverse_1 (a0 : Int) (a1 : Int) (a2 : (List (List (Int × Int × Unit)))) (a3 : (Int × Int × Unit)) : Option (Int × Int × Unit) :=
  (drive_matrix_without a2 a1 a0).bind fun x1 =>
  (drive_matrix_determinant x1).bind fun x2 =>
  (drive_whole_conj a3).bind fun x3 =>
  (drive_whole_times x2 x3).bind fun x4 =>
  bif decide ((w64 (a0 + a1)).tmod 2 = 1) then
    (drive_whole_minus (0, 0, ()) x4).bind fun x5 =>
    some x5
  else
    some x4
def e_drive_matrix_inverse_1 : Entry := ⟨149, [.ty I, .ty I, .ptr (.sl (.sl (.pair I (.pair I .unit)))), .ptr (.pair I (.pair I .unit))], [((.pair I (.pair I .unit)), 0)], fun x => drive_matrix_inverse_1 x.1 x.2.1 x.2.2.1 x.2.2.2⟩
def j_drive_matrix_inverse_1 : TH := mkTH [] []
theorem k_drive_matrix_inverse_1 (x : denP e_drive_matrix_inverse_1.ps) : fnT Tryz.prog Hn.hints j_drive_matrix_inverse_1 (tabT [e_drive_matrix_determinant, e_drive_matrix_without, e_drive_whole_conj, e_drive_whole_minus, e_drive_whole_times]) 40 149 (ofPms e_drive_matrix_inverse_1.ps x) e_drive_matrix_inverse_1.rs = e_drive_matrix_inverse_1.F x := by kernel_rfl
theorem o_drive_matrix_inverse_1 : EntryOk Tryz.prog Hn.hints Lb e_drive_matrix_inverse_1 := entry_ok (tab_cons o_drive_matrix_determinant (tab_cons o_drive_matrix_without (tab_cons o_drive_whole_conj (tab_cons o_drive_whole_minus (tab_cons o_drive_whole_times tab_nil))))) hJ 40 _ _ _ _ k_drive_matrix_inverse_1
def drive_made_of_drive_matrix_inverse_1 (a0 : Int) (a1 : Int) (a2 : (List (List (Int × Int × Unit)))) (a3 : (Int × Int × Unit)) : Option (List (List (Int × Int × Unit))) :=
  (mkS ([] : (List (Int × Int × Unit))) a0).bind fun x1 =>
  bif decide (a0 = a0) then
    (loopO (fun (s3 : ((List (List (Int × Int × Unit))) × Int)) =>
        bif decide (s3.2 < (x1.length : Int)) then
          (loopO (fun (s5 : ((List (List (Int × Int × Unit))) × Int)) =>
              bif decide (s5.2 < a1) then
                (idx s5.1 s3.2).bind fun x6 =>
                (drive_matrix_inverse_1 s3.2 s5.2 a2 a3).bind fun x7 =>
                (idx s5.1 s3.2).bind fun x8 =>
                (app x8 ([x7])).bind fun x9 =>
                (idx s5.1 s3.2).bind fun x10 =>
                bif decide (s3.2 = s3.2) then
                  let l11 : (List (List (Int × Int × Unit))) := List.set s5.1 s3.2.toNat x9
                  some (.inl (l11, w64 (s5.2 + 1)))
                else
                  none
              else
                some (.inr s5.1)) (s3.1, 0)).bind fun (p12 : (List (List (Int × Int × Unit)))) =>
          some (.inl (p12, w64 (s3.2 + 1)))
        else
          some (.inr s3.1)) (x1, 0)).bind fun (p13 : (List (List (Int × Int × Unit)))) =>
    some p13
  else
    none
def e_drive_made_of_drive_matrix_inverse_1 : Entry := ⟨85, [.ty I, .ty I, .fn 149 [.p (.sl (.sl (.pair I (.pair I .unit)))), .p (.pair I (.pair I .unit))]], [((.sl (.sl (.pair I (.pair I .unit)))), 2)], fun x => drive_made_of_drive_matrix_inverse_1 x.1 x.2.1 x.2.2.1 x.2.2.2⟩
def j_drive_made_of_drive_matrix_inverse_1 : TH := mkTH [([], 85, .block 0, { lv := [⟨none, 7, 0⟩], ps := [((.sl (.sl (.pair I (.pair I .unit)))), 2)], D := ⟨68719467392⟩ }),
  ([], 85, .loop 0, { lv := [⟨none, 7, 0⟩, ⟨none, 14, 0⟩], ps := [((.sl (.sl (.pair I (.pair I .unit)))), 2), (I, 0)], D := ⟨68719467392⟩ }),
  ([], 85, .block 2, { lv := [⟨none, 7, 0⟩], ps := [((.sl (.sl (.pair I (.pair I .unit)))), 2)], D := ⟨34359476864⟩ }),
  ([], 85, .loop 2, { lv := [⟨none, 7, 0⟩, ⟨none, 18, 0⟩], ps := [((.sl (.sl (.pair I (.pair I .unit)))), 2), (I, 0)], D := ⟨34359476864⟩ })] []
theorem k_drive_made_of_drive_matrix_inverse_1 (x : denP e_drive_made_of_drive_matrix_inverse_1.ps) : fnT Tryz.prog Hn.hints j_drive_made_of_drive_matrix_inverse_1 (tabT [e_drive_matrix_inverse_1]) 40 85 (ofPms e_drive_made_of_drive_matrix_inverse_1.ps x) e_drive_made_of_drive_matrix_inverse_1.rs = e_drive_made_of_drive_matrix_inverse_1.F x := by kernel_rfl
theorem o_drive_made_of_drive_matrix_inverse_1 : EntryOk Tryz.prog Hn.hints Lb e_drive_made_of_drive_matrix_inverse_1 := entry_ok (tab_cons o_drive_matrix_inverse_1 tab_nil) hJ 40 _ _ _ _ k_drive_made_of_drive_matrix_inverse_1
def drive_divisor (a0 : (List Int)) : Option Int :=
  (loopO (fun (s2 : (Int × Int)) =>
      bif decide (s2.2 < (a0.length : Int)) then
        (idx a0 s2.2).bind fun x3 =>
        (loopO (fun (s5 : (Int × Int)) =>
            bif !(decide (s5.2 = 0)) then
              bif decide (s5.2 = 0) then
                none
              else
                some (.inl (s5.2, s5.1.tmod s5.2))
            else
              some (.inr s5.1)) (s2.1, x3)).bind fun (p6 : Int) =>
        some (.inl (p6, w64 (s2.2 + 1)))
      else
        some (.inr s2.1)) (0, 0)).bind fun (p7 : Int) =>
  some (max p7 (w64 (0 - p7)))
def e_drive_divisor : Entry := ⟨151, [.ty (.sl I)], [(I, 0)], fun x => drive_divisor x⟩
def j_drive_divisor : TH := mkTH [([], 151, .block 0, { lv := [⟨none, 3, 0⟩], ps := [(I, 0)], D := ⟨524072⟩ }),
  ([], 151, .loop 0, { lv := [⟨none, 3, 0⟩, ⟨none, 8, 0⟩], ps := [(I, 0), (I, 0)], D := ⟨524072⟩ }),
  ([], 151, .block 2, { lv := [⟨none, 3, 0⟩], ps := [(I, 0)], D := ⟨258088⟩ }),
  ([], 151, .loop 2, { lv := [⟨none, 3, 0⟩, ⟨none, 5, 0⟩], ps := [(I, 0), (I, 0)], D := ⟨258088⟩ })] []
theorem k_drive_divisor (x : denP e_drive_divisor.ps) : fnT Tryz.prog Hn.hints j_drive_divisor (tabT []) 40 151 (ofPms e_drive_divisor.ps x) e_drive_divisor.rs = e_drive_divisor.F x := by kernel_rfl
theorem o_drive_divisor : EntryOk Tryz.prog Hn.hints Lb e_drive_divisor := entry_ok tab_nil hJ 40 _ _ _ _ k_drive_divisor
def drive_quotient_1 (a0 : Int) (a1 : Int) (a2 : (List (List (Int × Int × Unit)))) (a3 : Int) : Option (Int × Int × Unit) :=
  (idx a2 a0).bind fun x1 =>
  (idx x1 a1).bind fun x2 =>
  bif decide (a3 = 0) then
    none
  else
    (idx a2 a0).bind fun x3 =>
    (idx x3 a1).bind fun x4 =>
    bif decide (a3 = 0) then
      none
    else
      some (w64 (x2.1.tdiv a3), w64 (x4.2.1.tdiv a3), ())
def e_drive_quotient_1 : Entry := ⟨176, [.ty I, .ty I, .ptr (.sl (.sl (.pair I (.pair I .unit)))), .ptr I], [((.pair I (.pair I .unit)), 0)], fun x => drive_quotient_1 x.1 x.2.1 x.2.2.1 x.2.2.2⟩
def j_drive_quotient_1 : TH := mkTH [] []
theorem k_drive_quotient_1 (x : denP e_drive_quotient_1.ps) : fnT Tryz.prog Hn.hints j_drive_quotient_1 (tabT []) 40 176 (ofPms e_drive_quotient_1.ps x) e_drive_quotient_1.rs = e_drive_quotient_1.F x := by kernel_rfl
theorem o_drive_quotient_1 : EntryOk Tryz.prog Hn.hints Lb e_drive_quotient_1 := entry_ok tab_nil hJ 40 _ _ _ _ k_drive_quotient_1
def drive_made_of_drive_quotient_1 (a0 : Int) (a1 : Int) (a2 : (List (List (Int × Int × Unit)))) (a3 : Int) : Option (List (List (Int × Int × Unit))) :=
  (mkS ([] : (List (Int × Int × Unit))) a0).bind fun x1 =>
  bif decide (a0 = a0) then
    (loopO (fun (s3 : ((List (List (Int × Int × Unit))) × Int)) =>
        bif decide (s3.2 < (x1.length : Int)) then
          (loopO (fun (s5 : ((List (List (Int × Int × Unit))) × Int)) =>
              bif decide (s5.2 < a1) then
                (idx s5.1 s3.2).bind fun x6 =>
                (drive_quotient_1 s3.2 s5.2 a2 a3).bind fun x7 =>
                (idx s5.1 s3.2).bind fun x8 =>
                (app x8 ([x7])).bind fun x9 =>
                (idx s5.1 s3.2).bind fun x10 =>
                bif decide (s3.2 = s3.2) then
                  let l11 : (List (List (Int × Int × Unit))) := List.set s5.1 s3.2.toNat x9
                  some (.inl (l11, w64 (s5.2 + 1)))
                else
                  none
              else
                some (.inr s5.1)) (s3.1, 0)).bind fun (p12 : (List (List (Int × Int × Unit)))) =>
          some (.inl (p12, w64 (s3.2 + 1)))
        else
          some (.inr s3.1)) (x1, 0)).bind fun (p13 : (List (List (Int × Int × Unit)))) =>
    some p13
  else
    none
def e_drive_made_of_drive_quotient_1 : Entry := ⟨85, [.ty I, .ty I, .fn 176 [.p (.sl (.sl (.pair I (.pair I .unit)))), .p I]], [((.sl (.sl (.pair I (.pair I .unit)))), 2)], fun x => drive_made_of_drive_quotient_1 x.1 x.2.1 x.2.2.1 x.2.2.2⟩
def j_drive_made_of_drive_quotient_1 : TH := mkTH [([], 85, .block 0, { lv := [⟨none, 7, 0⟩], ps := [((.sl (.sl (.pair I (.pair I .unit)))), 2)], D := ⟨68719467392⟩ }),
  ([], 85, .loop 0, { lv := [⟨none, 7, 0⟩, ⟨none, 14, 0⟩], ps := [((.sl (.sl (.pair I (.pair I .unit)))), 2), (I, 0)], D := ⟨68719467392⟩ }),
  ([], 85, .block 2, { lv := [⟨none, 7, 0⟩], ps := [((.sl (.sl (.pair I (.pair I .unit)))), 2)], D := ⟨34359476864⟩ }),
  ([], 85, .loop 2, { lv := [⟨none, 7, 0⟩, ⟨none, 18, 0⟩], ps := [((.sl (.sl (.pair I (.pair I .unit)))), 2), (I, 0)], D := ⟨34359476864⟩ })] []
theorem k_drive_made_of_drive_quotient_1 (x : denP e_drive_made_of_drive_quotient_1.ps) : fnT Tryz.prog Hn.hints j_drive_made_of_drive_quotient_1 (tabT [e_drive_quotient_1]) 40 85 (ofPms e_drive_made_of_drive_quotient_1.ps x) e_drive_made_of_drive_quotient_1.rs = e_drive_made_of_drive_quotient_1.F x := by kernel_rfl
theorem o_drive_made_of_drive_quotient_1 : EntryOk Tryz.prog Hn.hints Lb e_drive_made_of_drive_quotient_1 := entry_ok (tab_cons o_drive_quotient_1 tab_nil) hJ 40 _ _ _ _ k_drive_made_of_drive_quotient_1
def drive_quotient (a0 : (List (List (Int × Int × Unit)))) (a1 : Int) : Option (Int × (List (List (Int × Int × Unit))) × Unit) :=
  (loopO (fun (s2 : (Int × Int)) =>
      bif decide (s2.1 < (a0.length : Int)) then
        (idx a0 s2.1).bind fun x3 =>
        (loopO (fun (s5 : (Int × Int)) =>
            bif decide (s5.1 < (x3.length : Int)) then
              (idx x3 s5.1).bind fun x6 =>
              (drive_divisor ([s5.2, x6.1, x6.2.1])).bind fun x7 =>
              some (.inl (w64 (s5.1 + 1), x7))
            else
              some (.inr s5.2)) (0, s2.2)).bind fun (p8 : Int) =>
        some (.inl (w64 (s2.1 + 1), p8))
      else
        some (.inr s2.2)) (0, a1)).bind fun (p9 : Int) =>
  (idx a0 0).bind fun x10 =>
  (drive_made_of_drive_quotient_1 (a0.length : Int) (x10.length : Int) a0 p9).bind fun x11 =>
  bif decide (p9 = 0) then
    none
  else
    some (w64 (a1.tdiv p9), x11, ())
def e_drive_quotient : Entry := ⟨128, [.ty (.sl (.sl (.pair I (.pair I .unit)))), .ty I], [((.pair I (.pair (.sl (.sl (.pair I (.pair I .unit)))) .unit)), 2)], fun x => drive_quotient x.1 x.2⟩
def j_drive_quotient : TH := mkTH [([], 128, .block 0, { lv := [⟨some 0, 5, 0⟩], ps := [(I, 0)], D := ⟨8589919872⟩, wr := [⟨0, 5⟩, ⟨0, 9⟩] }),
  ([], 128, .loop 0, { lv := [⟨none, 14, 0⟩, ⟨some 0, 5, 0⟩], ps := [(I, 0), (I, 0)], D := ⟨8589919872⟩, wr := [⟨0, 5⟩, ⟨0, 9⟩] }),
  ([], 128, .block 2, { lv := [⟨some 0, 5, 0⟩], ps := [(I, 0)], D := ⟨4293920384⟩, wr := [⟨0, 5⟩, ⟨0, 9⟩] }),
  ([], 128, .loop 2, { lv := [⟨none, 20, 0⟩, ⟨some 0, 5, 0⟩], ps := [(I, 0), (I, 0)], D := ⟨4293920384⟩, wr := [⟨0, 5⟩, ⟨0, 9⟩], rs := [⟨0, 9⟩], Dn := ⟨4126147712⟩ })] []
theorem k_drive_quotient (x : denP e_drive_quotient.ps) : fnT Tryz.prog Hn.hints j_drive_quotient (tabT [e_drive_divisor, e_drive_made_of_drive_quotient_1]) 40 128 (ofPms e_drive_quotient.ps x) e_drive_quotient.rs = e_drive_quotient.F x := by kernel_rfl
theorem o_drive_quotient : EntryOk Tryz.prog Hn.hints Lb e_drive_quotient := entry_ok (tab_cons o_drive_divisor (tab_cons o_drive_made_of_drive_quotient_1 tab_nil)) hJ 40 _ _ _ _ k_drive_quotient
def drive_matrix_inverse (a0 : (List (List (Int × Int × Unit)))) (a1 : (Int × Int × Unit)) : Option (Int × (List (List (Int × Int × Unit))) × Unit) :=
  (drive_made_of_drive_matrix_inverse_1 (a0.length : Int) (a0.length : Int) a0 a1).bind fun x1 =>
  (drive_whole_conj a1).bind fun x2 =>
  (drive_whole_times a1 x2).bind fun x3 =>
  (drive_quotient x1 x3.1).bind fun x4 =>
  some x4
def e_drive_matrix_inverse : Entry := ⟨84, [.ty (.sl (.sl (.pair I (.pair I .unit)))), .ty (.pair I (.pair I .unit))], [((.pair I (.pair (.sl (.sl (.pair I (.pair I .unit)))) .unit)), 2)], fun x => drive_matrix_inverse x.1 x.2⟩
def j_drive_matrix_inverse : TH := mkTH [] []
theorem k_drive_matrix_inverse (x : denP e_drive_matrix_inverse.ps) : fnT Tryz.prog Hn.hints j_drive_matrix_inverse (tabT [e_drive_made_of_drive_matrix_inverse_1, e_drive_quotient, e_drive_whole_conj, e_drive_whole_times]) 40 84 (ofPms e_drive_matrix_inverse.ps x) e_drive_matrix_inverse.rs = e_drive_matrix_inverse.F x := by kernel_rfl
theorem o_drive_matrix_inverse : EntryOk Tryz.prog Hn.hints Lb e_drive_matrix_inverse := entry_ok (tab_cons o_drive_made_of_drive_matrix_inverse_1 (tab_cons o_drive_quotient (tab_cons o_drive_whole_conj (tab_cons o_drive_whole_times tab_nil)))) hJ 40 _ _ _ _ k_drive_matrix_inverse
def drive_InverseOf (a0 : (List (List (Int × Int × Unit)))) : Option ((Int × (List (List (Int × Int × Unit))) × Unit) × Int) :=
  (drive_matrixErr a0).bind fun x1 =>
  bif !(decide (x1 = 0)) then
    some ((0, [], ()), x1)
  else
    (drive_matrix_determinant a0).bind fun x2 =>
    let v3 : Bool := (bif decide (x2.1 = 0) then (bif decide (x2.2.1 = 0) then true else false) else false)
    bif v3 then
      some ((0, [], ()), 11)
    else
      (drive_matrix_inverse a0 x2).bind fun x4 =>
      some (x4, 0)
def e_drive_InverseOf : Entry := ⟨59, [.ty (.sl (.sl (.pair I (.pair I .unit))))], [((.pair I (.pair (.sl (.sl (.pair I (.pair I .unit)))) .unit)), 2), (I, 0)], fun x => drive_InverseOf x⟩
def j_drive_InverseOf : TH := mkTH [] []
theorem k_drive_InverseOf (x : denP e_drive_InverseOf.ps) : fnT Tryz.prog Hn.hints j_drive_InverseOf (tabT [e_drive_matrixErr, e_drive_matrix_determinant, e_drive_matrix_inverse]) 40 59 (ofPms e_drive_InverseOf.ps x) e_drive_InverseOf.rs = e_drive_InverseOf.F x := by kernel_rfl
theorem o_drive_InverseOf : EntryOk Tryz.prog Hn.hints Lb e_drive_InverseOf := entry_ok (tab_cons o_drive_matrixErr (tab_cons o_drive_matrix_determinant (tab_cons o_drive_matrix_inverse tab_nil))) hJ 40 _ _ _ _ k_drive_InverseOf
def drive_openRig (a0 : ((List (List (Int × Int × Unit))) × (List (List (Int × Int × Unit))) × Int × Int × Int × Unit)) : Option (((List (List (Int × Int × Unit))) × (List (List (Int × Int × Unit))) × Int × Int × Int × Int × (List (List (Int × Int × Unit))) × Unit) × Int) :=
  (drive_matrixErr a0.1).bind fun x1 =>
  (drive_matrixErr a0.2.1).bind fun x2 =>
  (drive_unless (decide ((a0.1.length : Int) = (a0.2.1.length : Int))) (13 : Int)).bind fun x3 =>
  (drive_first ([x1, x2, x3])).bind fun x4 =>
  bif !(decide (x4 = 0)) then
    some (([], [], 0, 0, 0, 0, [], ()), x4)
  else
    (drive_InverseOf a0.2.1).bind fun x5 =>
    (bif decide (a0.2.2.2.1 > 0) then
        (drive_divisor ([a0.2.2.1, a0.2.2.2.1])).bind fun x6 =>
        (drive_unless (decide (x6 = 1)) (3 : Int)).bind fun x7 =>
        (drive_within a0.2.2.1 (0 : Int) a0.2.2.2.1).bind fun x8 =>
        bif x8 then
          (drive_unless (decide (a0.2.2.2.1 ≤ 100)) (2 : Int)).bind fun x9 =>
          (drive_within a0.2.2.2.2.1 (0 : Int) (1000 : Int)).bind fun x10 =>
          (drive_unless x10 (2 : Int)).bind fun x11 =>
          (drive_first ([x5.2, x7, x9, x11])).bind fun x12 =>
          some x12
        else
          (drive_unless false (2 : Int)).bind fun x13 =>
          (drive_within a0.2.2.2.2.1 (0 : Int) (1000 : Int)).bind fun x14 =>
          (drive_unless x14 (2 : Int)).bind fun x15 =>
          (drive_first ([x5.2, x7, x13, x15])).bind fun x16 =>
          some x16
      else
        (drive_unless false (3 : Int)).bind fun x17 =>
        (drive_within a0.2.2.1 (0 : Int) a0.2.2.2.1).bind fun x18 =>
        bif x18 then
          (drive_unless (decide (a0.2.2.2.1 ≤ 100)) (2 : Int)).bind fun x19 =>
          (drive_within a0.2.2.2.2.1 (0 : Int) (1000 : Int)).bind fun x20 =>
          (drive_unless x20 (2 : Int)).bind fun x21 =>
          (drive_first ([x5.2, x17, x19, x21])).bind fun x22 =>
          some x22
        else
          (drive_unless false (2 : Int)).bind fun x23 =>
          (drive_within a0.2.2.2.2.1 (0 : Int) (1000 : Int)).bind fun x24 =>
          (drive_unless x24 (2 : Int)).bind fun x25 =>
          (drive_first ([x5.2, x17, x23, x25])).bind fun x26 =>
          some x26).bind fun (p27 : Int) =>
    some ((a0.1, a0.2.1, a0.2.2.1, a0.2.2.2.1, a0.2.2.2.2.1, x5.1.1, x5.1.2.1, ()), p27)
def e_drive_openRig : Entry := ⟨111, [.ty (.pair (.sl (.sl (.pair I (.pair I .unit)))) (.pair (.sl (.sl (.pair I (.pair I .unit)))) (.pair I (.pair I (.pair I .unit)))))], [((.pair (.sl (.sl (.pair I (.pair I .unit)))) (.pair (.sl (.sl (.pair I (.pair I .unit)))) (.pair I (.pair I (.pair I (.pair I (.pair (.sl (.sl (.pair I (.pair I .unit)))) .unit))))))), 2000), (I, 0)], fun x => drive_openRig x⟩
def j_drive_openRig : TH := mkTH [([], 111, .region 6, { lv := [⟨none, 6, 0⟩], ps := [(I, 0)], D := ⟨147573952520956936256⟩, rs := [⟨0, 1⟩, ⟨0, 7⟩], Dn := ⟨145190411285615870016⟩ })] []
theorem k_drive_openRig (x : denP e_drive_openRig.ps) : fnT Tryz.prog Hn.hints j_drive_openRig (tabT [e_drive_InverseOf, e_drive_divisor, e_drive_first, e_drive_matrixErr, e_drive_unless, e_drive_within]) 40 111 (ofPms e_drive_openRig.ps x) e_drive_openRig.rs = e_drive_openRig.F x := by kernel_rfl
theorem o_drive_openRig : EntryOk Tryz.prog Hn.hints Lb e_drive_openRig := entry_ok (tab_cons o_drive_InverseOf (tab_cons o_drive_divisor (tab_cons o_drive_first (tab_cons o_drive_matrixErr (tab_cons o_drive_unless (tab_cons o_drive_within tab_nil)))))) hJ 40 _ _ _ _ k_drive_openRig
def drive_unit_1 (a0 : Int) (a1 : Int) : Option (Int × Int × Unit) :=
  bif decide (a0 = a1) then
    some (1, 0, ())
  else
    some (0, 0, ())
def e_drive_unit_1 : Entry := ⟨164, [.ty I, .ty I], [((.pair I (.pair I .unit)), 0)], fun x => drive_unit_1 x.1 x.2⟩
def j_drive_unit_1 : TH := mkTH [] []
theorem k_drive_unit_1 (x : denP e_drive_unit_1.ps) : fnT Tryz.prog Hn.hints j_drive_unit_1 (tabT []) 40 164 (ofPms e_drive_unit_1.ps x) e_drive_unit_1.rs = e_drive_unit_1.F x := by kernel_rfl
theorem o_drive_unit_1 : EntryOk Tryz.prog Hn.hints Lb e_drive_unit_1 := entry_ok tab_nil hJ 40 _ _ _ _ k_drive_unit_1
def drive_made_of_drive_unit_1 (a0 : Int) (a1 : Int) : Option (List (List (Int × Int × Unit))) :=
  (mkS ([] : (List (Int × Int × Unit))) a0).bind fun x1 =>
  bif decide (a0 = a0) then
    (loopO (fun (s3 : ((List (List (Int × Int × Unit))) × Int)) =>
        bif decide (s3.2 < (x1.length : Int)) then
          (loopO (fun (s5 : ((List (List (Int × Int × Unit))) × Int)) =>
              bif decide (s5.2 < a1) then
                (idx s5.1 s3.2).bind fun x6 =>
                (drive_unit_1 s3.2 s5.2).bind fun x7 =>
                (idx s5.1 s3.2).bind fun x8 =>
                (app x8 ([x7])).bind fun x9 =>
                (idx s5.1 s3.2).bind fun x10 =>
                bif decide (s3.2 = s3.2) then
                  let l11 : (List (List (Int × Int × Unit))) := List.set s5.1 s3.2.toNat x9
                  some (.inl (l11, w64 (s5.2 + 1)))
                else
                  none
              else
                some (.inr s5.1)) (s3.1, 0)).bind fun (p12 : (List (List (Int × Int × Unit)))) =>
          some (.inl (p12, w64 (s3.2 + 1)))
        else
          some (.inr s3.1)) (x1, 0)).bind fun (p13 : (List (List (Int × Int × Unit)))) =>
    some p13
  else
    none
def e_drive_made_of_drive_unit_1 : Entry := ⟨85, [.ty I, .ty I, .fn 164 []], [((.sl (.sl (.pair I (.pair I .unit)))), 2)], fun x => drive_made_of_drive_unit_1 x.1 x.2.1⟩
def j_drive_made_of_drive_unit_1 : TH := mkTH [([], 85, .block 0, { lv := [⟨none, 7, 0⟩], ps := [((.sl (.sl (.pair I (.pair I .unit)))), 2)], D := ⟨68719467392⟩ }),
  ([], 85, .loop 0, { lv := [⟨none, 7, 0⟩, ⟨none, 14, 0⟩], ps := [((.sl (.sl (.pair I (.pair I .unit)))), 2), (I, 0)], D := ⟨68719467392⟩ }),
  ([], 85, .block 2, { lv := [⟨none, 7, 0⟩], ps := [((.sl (.sl (.pair I (.pair I .unit)))), 2)], D := ⟨34359476864⟩ }),
  ([], 85, .loop 2, { lv := [⟨none, 7, 0⟩, ⟨none, 18, 0⟩], ps := [((.sl (.sl (.pair I (.pair I .unit)))), 2), (I, 0)], D := ⟨34359476864⟩ })] []
theorem k_drive_made_of_drive_unit_1 (x : denP e_drive_made_of_drive_unit_1.ps) : fnT Tryz.prog Hn.hints j_drive_made_of_drive_unit_1 (tabT [e_drive_unit_1]) 40 85 (ofPms e_drive_made_of_drive_unit_1.ps x) e_drive_made_of_drive_unit_1.rs = e_drive_made_of_drive_unit_1.F x := by kernel_rfl
theorem o_drive_made_of_drive_unit_1 : EntryOk Tryz.prog Hn.hints Lb e_drive_made_of_drive_unit_1 := entry_ok (tab_cons o_drive_unit_1 tab_nil) hJ 40 _ _ _ _ k_drive_made_of_drive_unit_1
def drive_unit (a0 : Int) : Option (List (List (Int × Int × Unit))) :=
  (drive_made_of_drive_unit_1 a0 a0).bind fun x1 =>
  some x1
def e_drive_unit : Entry := ⟨116, [.ty I], [((.sl (.sl (.pair I (.pair I .unit)))), 2)], fun x => drive_unit x⟩
def j_drive_unit : TH := mkTH [] []
theorem k_drive_unit (x : denP e_drive_unit.ps) : fnT Tryz.prog Hn.hints j_drive_unit (tabT [e_drive_made_of_drive_unit_1]) 40 116 (ofPms e_drive_unit.ps x) e_drive_unit.rs = e_drive_unit.F x := by kernel_rfl
theorem o_drive_unit : EntryOk Tryz.prog Hn.hints Lb e_drive_unit := entry_ok (tab_cons o_drive_made_of_drive_unit_1 tab_nil) hJ 40 _ _ _ _ k_drive_unit
def drive_matrix_scaled_1 (a0 : Int) (a1 : Int) (a2 : (List (List (Int × Int × Unit)))) (a3 : Int) : Option (Int × Int × Unit) :=
  (drive_matrix_at a2 a0 a1).bind fun x1 =>
  (drive_whole_times x1 (a3, 0, ())).bind fun x2 =>
  some x2
def e_drive_matrix_scaled_1 : Entry := ⟨165, [.ty I, .ty I, .ptr (.sl (.sl (.pair I (.pair I .unit)))), .ptr I], [((.pair I (.pair I .unit)), 0)], fun x => drive_matrix_scaled_1 x.1 x.2.1 x.2.2.1 x.2.2.2⟩
def j_drive_matrix_scaled_1 : TH := mkTH [] []
theorem k_drive_matrix_scaled_1 (x : denP e_drive_matrix_scaled_1.ps) : fnT Tryz.prog Hn.hints j_drive_matrix_scaled_1 (tabT [e_drive_matrix_at, e_drive_whole_times]) 40 165 (ofPms e_drive_matrix_scaled_1.ps x) e_drive_matrix_scaled_1.rs = e_drive_matrix_scaled_1.F x := by kernel_rfl
theorem o_drive_matrix_scaled_1 : EntryOk Tryz.prog Hn.hints Lb e_drive_matrix_scaled_1 := entry_ok (tab_cons o_drive_matrix_at (tab_cons o_drive_whole_times tab_nil)) hJ 40 _ _ _ _ k_drive_matrix_scaled_1
def drive_made_of_drive_matrix_scaled_1 (a0 : Int) (a1 : Int) (a2 : (List (List (Int × Int × Unit)))) (a3 : Int) : Option (List (List (Int × Int × Unit))) :=
  (mkS ([] : (List (Int × Int × Unit))) a0).bind fun x1 =>
  bif decide (a0 = a0) then
    (loopO (fun (s3 : ((List (List (Int × Int × Unit))) × Int)) =>
        bif decide (s3.2 < (x1.length : Int)) then
          (loopO (fun (s5 : ((List (List (Int × Int × Unit))) × Int)) =>
              bif decide (s5.2 < a1) then
                (idx s5.1 s3.2).bind fun x6 =>
                (drive_matrix_scaled_1 s3.2 s5.2 a2 a3).bind fun x7 =>
                (idx s5.1 s3.2).bind fun x8 =>
                (app x8 ([x7])).bind fun x9 =>
                (idx s5.1 s3.2).bind fun x10 =>
                bif decide (s3.2 = s3.2) then
                  let l11 : (List (List (Int × Int × Unit))) := List.set s5.1 s3.2.toNat x9
                  some (.inl (l11, w64 (s5.2 + 1)))
                else
                  none
              else
                some (.inr s5.1)) (s3.1, 0)).bind fun (p12 : (List (List (Int × Int × Unit)))) =>
          some (.inl (p12, w64 (s3.2 + 1)))
        else
          some (.inr s3.1)) (x1, 0)).bind fun (p13 : (List (List (Int × Int × Unit)))) =>
    some p13
  else
    none
def e_drive_made_of_drive_matrix_scaled_1 : Entry := ⟨85, [.ty I, .ty I, .fn 165 [.p (.sl (.sl (.pair I (.pair I .unit)))), .p I]], [((.sl (.sl (.pair I (.pair I .unit)))), 2)], fun x => drive_made_of_drive_matrix_scaled_1 x.1 x.2.1 x.2.2.1 x.2.2.2⟩
def j_drive_made_of_drive_matrix_scaled_1 : TH := mkTH [([], 85, .block 0, { lv := [⟨none, 7, 0⟩], ps := [((.sl (.sl (.pair I (.pair I .unit)))), 2)], D := ⟨68719467392⟩ }),
  ([], 85, .loop 0, { lv := [⟨none, 7, 0⟩, ⟨none, 14, 0⟩], ps := [((.sl (.sl (.pair I (.pair I .unit)))), 2), (I, 0)], D := ⟨68719467392⟩ }),
  ([], 85, .block 2, { lv := [⟨none, 7, 0⟩], ps := [((.sl (.sl (.pair I (.pair I .unit)))), 2)], D := ⟨34359476864⟩ }),
  ([], 85, .loop 2, { lv := [⟨none, 7, 0⟩, ⟨none, 18, 0⟩], ps := [((.sl (.sl (.pair I (.pair I .unit)))), 2), (I, 0)], D := ⟨34359476864⟩ })] []
theorem k_drive_made_of_drive_matrix_scaled_1 (x : denP e_drive_made_of_drive_matrix_scaled_1.ps) : fnT Tryz.prog Hn.hints j_drive_made_of_drive_matrix_scaled_1 (tabT [e_drive_matrix_scaled_1]) 40 85 (ofPms e_drive_made_of_drive_matrix_scaled_1.ps x) e_drive_made_of_drive_matrix_scaled_1.rs = e_drive_made_of_drive_matrix_scaled_1.F x := by kernel_rfl
theorem o_drive_made_of_drive_matrix_scaled_1 : EntryOk Tryz.prog Hn.hints Lb e_drive_made_of_drive_matrix_scaled_1 := entry_ok (tab_cons o_drive_matrix_scaled_1 tab_nil) hJ 40 _ _ _ _ k_drive_made_of_drive_matrix_scaled_1
def drive_matrix_scaled (a0 : (List (List (Int × Int × Unit)))) (a1 : Int) : Option (List (List (Int × Int × Unit))) :=
  (idx a0 0).bind fun x1 =>
  (drive_made_of_drive_matrix_scaled_1 (a0.length : Int) (x1.length : Int) a0 a1).bind fun x2 =>
  some x2
def e_drive_matrix_scaled : Entry := ⟨117, [.ty (.sl (.sl (.pair I (.pair I .unit)))), .ty I], [((.sl (.sl (.pair I (.pair I .unit)))), 2)], fun x => drive_matrix_scaled x.1 x.2⟩
def j_drive_matrix_scaled : TH := mkTH [] []
theorem k_drive_matrix_scaled (x : denP e_drive_matrix_scaled.ps) : fnT Tryz.prog Hn.hints j_drive_matrix_scaled (tabT [e_drive_made_of_drive_matrix_scaled_1]) 40 117 (ofPms e_drive_matrix_scaled.ps x) e_drive_matrix_scaled.rs = e_drive_matrix_scaled.F x := by kernel_rfl
theorem o_drive_matrix_scaled : EntryOk Tryz.prog Hn.hints Lb e_drive_matrix_scaled := entry_ok (tab_cons o_drive_made_of_drive_matrix_scaled_1 tab_nil) hJ 40 _ _ _ _ k_drive_matrix_scaled
def drive_matrix_times_1 (a0 : Int) (a1 : Int) (a2 : (List (List (Int × Int × Unit)))) (a3 : (List (List (Int × Int × Unit)))) : Option (Int × Int × Unit) :=
  (loopO (fun (s2 : (Int × Int × Int)) =>
      bif decide (s2.1 < (a2.length : Int)) then
        (drive_matrix_at a3 a0 s2.1).bind fun x3 =>
        (drive_matrix_at a2 s2.1 a1).bind fun x4 =>
        (drive_whole_times x3 x4).bind fun x5 =>
        (drive_whole_plus (s2.2.1, s2.2.2, ()) x5).bind fun x6 =>
        some (.inl (w64 (s2.1 + 1), x6.1, x6.2.1))
      else
        some (.inr (s2.2.1, s2.2.2))) (0, 0, 0)).bind fun (p7 : (Int × Int)) =>
  some (p7.1, p7.2, ())
def e_drive_matrix_times_1 : Entry := ⟨153, [.ty I, .ty I, .ptr (.sl (.sl (.pair I (.pair I .unit)))), .ptr (.sl (.sl (.pair I (.pair I .unit))))], [((.pair I (.pair I .unit)), 0)], fun x => drive_matrix_times_1 x.1 x.2.1 x.2.2.1 x.2.2.2⟩
def j_drive_matrix_times_1 : TH := mkTH [([], 153, .block 0, { lv := [⟨some 0, 7, 0⟩, ⟨some 0, 7, 1⟩], ps := [(I, 0), (I, 0)], D := ⟨67107072⟩, wr := [⟨0, 7⟩] }),
  ([], 153, .loop 0, { lv := [⟨none, 11, 0⟩, ⟨some 0, 7, 0⟩, ⟨some 0, 7, 1⟩], ps := [(I, 0), (I, 0), (I, 0)], D := ⟨67107072⟩, wr := [⟨0, 7⟩] })] []
theorem k_drive_matrix_times_1 (x : denP e_drive_matrix_times_1.ps) : fnT Tryz.prog Hn.hints j_drive_matrix_times_1 (tabT [e_drive_matrix_at, e_drive_whole_plus, e_drive_whole_times]) 40 153 (ofPms e_drive_matrix_times_1.ps x) e_drive_matrix_times_1.rs = e_drive_matrix_times_1.F x := by kernel_rfl
theorem o_drive_matrix_times_1 : EntryOk Tryz.prog Hn.hints Lb e_drive_matrix_times_1 := entry_ok (tab_cons o_drive_matrix_at (tab_cons o_drive_whole_plus (tab_cons o_drive_whole_times tab_nil))) hJ 40 _ _ _ _ k_drive_matrix_times_1
def drive_made_of_drive_matrix_times_1 (a0 : Int) (a1 : Int) (a2 : (List (List (Int × Int × Unit)))) (a3 : (List (List (Int × Int × Unit)))) : Option (List (List (Int × Int × Unit))) :=
  (mkS ([] : (List (Int × Int × Unit))) a0).bind fun x1 =>
  bif decide (a0 = a0) then
    (loopO (fun (s3 : ((List (List (Int × Int × Unit))) × Int)) =>
        bif decide (s3.2 < (x1.length : Int)) then
          (loopO (fun (s5 : ((List (List (Int × Int × Unit))) × Int)) =>
              bif decide (s5.2 < a1) then
                (idx s5.1 s3.2).bind fun x6 =>
                (drive_matrix_times_1 s3.2 s5.2 a2 a3).bind fun x7 =>
                (idx s5.1 s3.2).bind fun x8 =>
                (app x8 ([x7])).bind fun x9 =>
                (idx s5.1 s3.2).bind fun x10 =>
                bif decide (s3.2 = s3.2) then
                  let l11 : (List (List (Int × Int × Unit))) := List.set s5.1 s3.2.toNat x9
                  some (.inl (l11, w64 (s5.2 + 1)))
                else
                  none
              else
                some (.inr s5.1)) (s3.1, 0)).bind fun (p12 : (List (List (Int × Int × Unit)))) =>
          some (.inl (p12, w64 (s3.2 + 1)))
        else
          some (.inr s3.1)) (x1, 0)).bind fun (p13 : (List (List (Int × Int × Unit)))) =>
    some p13
  else
    none
def e_drive_made_of_drive_matrix_times_1 : Entry := ⟨85, [.ty I, .ty I, .fn 153 [.p (.sl (.sl (.pair I (.pair I .unit)))), .p (.sl (.sl (.pair I (.pair I .unit))))]], [((.sl (.sl (.pair I (.pair I .unit)))), 2)], fun x => drive_made_of_drive_matrix_times_1 x.1 x.2.1 x.2.2.1 x.2.2.2⟩
def j_drive_made_of_drive_matrix_times_1 : TH := mkTH [([], 85, .block 0, { lv := [⟨none, 7, 0⟩], ps := [((.sl (.sl (.pair I (.pair I .unit)))), 2)], D := ⟨68719467392⟩ }),
  ([], 85, .loop 0, { lv := [⟨none, 7, 0⟩, ⟨none, 14, 0⟩], ps := [((.sl (.sl (.pair I (.pair I .unit)))), 2), (I, 0)], D := ⟨68719467392⟩ }),
  ([], 85, .block 2, { lv := [⟨none, 7, 0⟩], ps := [((.sl (.sl (.pair I (.pair I .unit)))), 2)], D := ⟨34359476864⟩ }),
  ([], 85, .loop 2, { lv := [⟨none, 7, 0⟩, ⟨none, 18, 0⟩], ps := [((.sl (.sl (.pair I (.pair I .unit)))), 2), (I, 0)], D := ⟨34359476864⟩ })] []
theorem k_drive_made_of_drive_matrix_times_1 (x : denP e_drive_made_of_drive_matrix_times_1.ps) : fnT Tryz.prog Hn.hints j_drive_made_of_drive_matrix_times_1 (tabT [e_drive_matrix_times_1]) 40 85 (ofPms e_drive_made_of_drive_matrix_times_1.ps x) e_drive_made_of_drive_matrix_times_1.rs = e_drive_made_of_drive_matrix_times_1.F x := by kernel_rfl
theorem o_drive_made_of_drive_matrix_times_1 : EntryOk Tryz.prog Hn.hints Lb e_drive_made_of_drive_matrix_times_1 := entry_ok (tab_cons o_drive_matrix_times_1 tab_nil) hJ 40 _ _ _ _ k_drive_made_of_drive_matrix_times_1
def drive_matrix_times (a0 : (List (List (Int × Int × Unit)))) (a1 : (List (List (Int × Int × Unit)))) : Option (List (List (Int × Int × Unit))) :=
  (idx a1 0).bind fun x1 =>
  (drive_made_of_drive_matrix_times_1 (a0.length : Int) (x1.length : Int) a1 a0).bind fun x2 =>
  some x2
def e_drive_matrix_times : Entry := ⟨89, [.ty (.sl (.sl (.pair I (.pair I .unit)))), .ty (.sl (.sl (.pair I (.pair I .unit))))], [((.sl (.sl (.pair I (.pair I .unit)))), 2)], fun x => drive_matrix_times x.1 x.2⟩
def j_drive_matrix_times : TH := mkTH [] []
theorem k_drive_matrix_times (x : denP e_drive_matrix_times.ps) : fnT Tryz.prog Hn.hints j_drive_matrix_times (tabT [e_drive_made_of_drive_matrix_times_1]) 40 89 (ofPms e_drive_matrix_times.ps x) e_drive_matrix_times.rs = e_drive_matrix_times.F x := by kernel_rfl
theorem o_drive_matrix_times : EntryOk Tryz.prog Hn.hints Lb e_drive_matrix_times := entry_ok (tab_cons o_drive_made_of_drive_matrix_times_1 tab_nil) hJ 40 _ _ _ _ k_drive_matrix_times
def drive_ContractionOf_1 (a0 : Int) (a1 : Int) (a2 : (List (List (Int × Int × Unit)))) (a3 : (List (List (Int × Int × Unit)))) : Option (Int × Int × Unit) :=
  (drive_matrix_at a2 a0 a1).bind fun x1 =>
  (drive_matrix_at a3 a0 a1).bind fun x2 =>
  (drive_whole_minus x1 x2).bind fun x3 =>
  some x3
def e_drive_ContractionOf_1 : Entry := ⟨118, [.ty I, .ty I, .ptr (.sl (.sl (.pair I (.pair I .unit)))), .ptr (.sl (.sl (.pair I (.pair I .unit))))], [((.pair I (.pair I .unit)), 0)], fun x => drive_ContractionOf_1 x.1 x.2.1 x.2.2.1 x.2.2.2⟩
def j_drive_ContractionOf_1 : TH := mkTH [] []
theorem k_drive_ContractionOf_1 (x : denP e_drive_ContractionOf_1.ps) : fnT Tryz.prog Hn.hints j_drive_ContractionOf_1 (tabT [e_drive_matrix_at, e_drive_whole_minus]) 40 118 (ofPms e_drive_ContractionOf_1.ps x) e_drive_ContractionOf_1.rs = e_drive_ContractionOf_1.F x := by kernel_rfl
theorem o_drive_ContractionOf_1 : EntryOk Tryz.prog Hn.hints Lb e_drive_ContractionOf_1 := entry_ok (tab_cons o_drive_matrix_at (tab_cons o_drive_whole_minus tab_nil)) hJ 40 _ _ _ _ k_drive_ContractionOf_1
def drive_made_of_drive_ContractionOf_1 (a0 : Int) (a1 : Int) (a2 : (List (List (Int × Int × Unit)))) (a3 : (List (List (Int × Int × Unit)))) : Option (List (List (Int × Int × Unit))) :=
  (mkS ([] : (List (Int × Int × Unit))) a0).bind fun x1 =>
  bif decide (a0 = a0) then
    (loopO (fun (s3 : ((List (List (Int × Int × Unit))) × Int)) =>
        bif decide (s3.2 < (x1.length : Int)) then
          (loopO (fun (s5 : ((List (List (Int × Int × Unit))) × Int)) =>
              bif decide (s5.2 < a1) then
                (idx s5.1 s3.2).bind fun x6 =>
                (drive_ContractionOf_1 s3.2 s5.2 a2 a3).bind fun x7 =>
                (idx s5.1 s3.2).bind fun x8 =>
                (app x8 ([x7])).bind fun x9 =>
                (idx s5.1 s3.2).bind fun x10 =>
                bif decide (s3.2 = s3.2) then
                  let l11 : (List (List (Int × Int × Unit))) := List.set s5.1 s3.2.toNat x9
                  some (.inl (l11, w64 (s5.2 + 1)))
                else
                  none
              else
                some (.inr s5.1)) (s3.1, 0)).bind fun (p12 : (List (List (Int × Int × Unit)))) =>
          some (.inl (p12, w64 (s3.2 + 1)))
        else
          some (.inr s3.1)) (x1, 0)).bind fun (p13 : (List (List (Int × Int × Unit)))) =>
    some p13
  else
    none
def e_drive_made_of_drive_ContractionOf_1 : Entry := ⟨85, [.ty I, .ty I, .fn 118 [.p (.sl (.sl (.pair I (.pair I .unit)))), .p (.sl (.sl (.pair I (.pair I .unit))))]], [((.sl (.sl (.pair I (.pair I .unit)))), 2)], fun x => drive_made_of_drive_ContractionOf_1 x.1 x.2.1 x.2.2.1 x.2.2.2⟩
def j_drive_made_of_drive_ContractionOf_1 : TH := mkTH [([], 85, .block 0, { lv := [⟨none, 7, 0⟩], ps := [((.sl (.sl (.pair I (.pair I .unit)))), 2)], D := ⟨68719467392⟩ }),
  ([], 85, .loop 0, { lv := [⟨none, 7, 0⟩, ⟨none, 14, 0⟩], ps := [((.sl (.sl (.pair I (.pair I .unit)))), 2), (I, 0)], D := ⟨68719467392⟩ }),
  ([], 85, .block 2, { lv := [⟨none, 7, 0⟩], ps := [((.sl (.sl (.pair I (.pair I .unit)))), 2)], D := ⟨34359476864⟩ }),
  ([], 85, .loop 2, { lv := [⟨none, 7, 0⟩, ⟨none, 18, 0⟩], ps := [((.sl (.sl (.pair I (.pair I .unit)))), 2), (I, 0)], D := ⟨34359476864⟩ })] []
theorem k_drive_made_of_drive_ContractionOf_1 (x : denP e_drive_made_of_drive_ContractionOf_1.ps) : fnT Tryz.prog Hn.hints j_drive_made_of_drive_ContractionOf_1 (tabT [e_drive_ContractionOf_1]) 40 85 (ofPms e_drive_made_of_drive_ContractionOf_1.ps x) e_drive_made_of_drive_ContractionOf_1.rs = e_drive_made_of_drive_ContractionOf_1.F x := by kernel_rfl
theorem o_drive_made_of_drive_ContractionOf_1 : EntryOk Tryz.prog Hn.hints Lb e_drive_made_of_drive_ContractionOf_1 := entry_ok (tab_cons o_drive_ContractionOf_1 tab_nil) hJ 40 _ _ _ _ k_drive_made_of_drive_ContractionOf_1
def drive_whole_size (a0 : (Int × Int × Unit)) : Option Int :=
  some (w64 ((max a0.1 (w64 (0 - a0.1))) + (max a0.2.1 (w64 (0 - a0.2.1)))))
def e_drive_whole_size : Entry := ⟨166, [.ty (.pair I (.pair I .unit))], [(I, 0)], fun x => drive_whole_size x⟩
def j_drive_whole_size : TH := mkTH [] []
theorem k_drive_whole_size (x : denP e_drive_whole_size.ps) : fnT Tryz.prog Hn.hints j_drive_whole_size (tabT []) 40 166 (ofPms e_drive_whole_size.ps x) e_drive_whole_size.rs = e_drive_whole_size.F x := by kernel_rfl
theorem o_drive_whole_size : EntryOk Tryz.prog Hn.hints Lb e_drive_whole_size := entry_ok tab_nil hJ 40 _ _ _ _ k_drive_whole_size
def drive_matrix_rowSum (a0 : (List (List (Int × Int × Unit)))) : Option Int :=
  (loopO (fun (s2 : (Int × Int)) =>
      bif decide (s2.2 < (a0.length : Int)) then
        (idx a0 s2.2).bind fun x3 =>
        (loopO (fun (s5 : (Int × Int)) =>
            bif decide (s5.2 < (x3.length : Int)) then
              (drive_matrix_at a0 s2.2 s5.2).bind fun x6 =>
              (drive_whole_size x6).bind fun x7 =>
              some (.inl (w64 (s5.1 + x7), w64 (s5.2 + 1)))
            else
              some (.inr s5.1)) (0, 0)).bind fun (p8 : Int) =>
        some (.inl (max s2.1 p8, w64 (s2.2 + 1)))
      else
        some (.inr s2.1)) (0, 0)).bind fun (p9 : Int) =>
  some p9
def e_drive_matrix_rowSum : Entry := ⟨119, [.ty (.sl (.sl (.pair I (.pair I .unit))))], [(I, 0)], fun x => drive_matrix_rowSum x⟩
def j_drive_matrix_rowSum : TH := mkTH [([], 119, .block 0, { lv := [⟨none, 3, 0⟩], ps := [(I, 0)], D := ⟨4294966520⟩ }),
  ([], 119, .loop 0, { lv := [⟨none, 3, 0⟩, ⟨none, 10, 0⟩], ps := [(I, 0), (I, 0)], D := ⟨4294966520⟩ }),
  ([], 119, .block 2, { lv := [⟨none, 6, 0⟩], ps := [(I, 0)], D := ⟨268304608⟩ }),
  ([], 119, .loop 2, { lv := [⟨none, 6, 0⟩, ⟨none, 17, 0⟩], ps := [(I, 0), (I, 0)], D := ⟨268304608⟩ })] []
theorem k_drive_matrix_rowSum (x : denP e_drive_matrix_rowSum.ps) : fnT Tryz.prog Hn.hints j_drive_matrix_rowSum (tabT [e_drive_matrix_at, e_drive_whole_size]) 40 119 (ofPms e_drive_matrix_rowSum.ps x) e_drive_matrix_rowSum.rs = e_drive_matrix_rowSum.F x := by kernel_rfl
theorem o_drive_matrix_rowSum : EntryOk Tryz.prog Hn.hints Lb e_drive_matrix_rowSum := entry_ok (tab_cons o_drive_matrix_at (tab_cons o_drive_whole_size tab_nil)) hJ 40 _ _ _ _ k_drive_matrix_rowSum
def drive_small (a0 : Int) (a1 : Int) : Option ((Int × Int × Unit) × Int) :=
  (drive_divisor ([a0, a1])).bind fun x1 =>
  bif decide (x1 = 0) then
    none
  else
    bif decide (x1 = 0) then
      none
    else
      ((drive_isSized (w64 (a0.tdiv x1)) (1000000000 : Int)).bind fun x2 =>
        bif !x2 then
          some true
        else
          some (decide (w64 (a1.tdiv x1) > 1000000000))).bind fun (p3 : Bool) =>
      bif p3 then
        some ((0, 0, ()), 8)
      else
        some ((w64 (a0.tdiv x1), w64 (a1.tdiv x1), ()), 0)
def e_drive_small : Entry := ⟨88, [.ty I, .ty I], [((.pair I (.pair I .unit)), 0), (I, 0)], fun x => drive_small x.1 x.2⟩
def j_drive_small : TH := mkTH [([], 88, .region 3, { lv := [⟨none, 27, 0⟩], ps := [(.bool, 0)], D := ⟨267911168⟩, rs := [⟨0, 7⟩], Dn := ⟨250609664⟩ })] []
theorem k_drive_small (x : denP e_drive_small.ps) : fnT Tryz.prog Hn.hints j_drive_small (tabT [e_drive_divisor, e_drive_isSized]) 40 88 (ofPms e_drive_small.ps x) e_drive_small.rs = e_drive_small.F x := by kernel_rfl
theorem o_drive_small : EntryOk Tryz.prog Hn.hints Lb e_drive_small := entry_ok (tab_cons o_drive_divisor (tab_cons o_drive_isSized tab_nil)) hJ 40 _ _ _ _ k_drive_small
def drive_ContractionOf (a0 : ((List (List (Int × Int × Unit))) × (List (List (Int × Int × Unit))) × Int × Int × Int × Unit)) : Option ((Int × Int × Unit) × Int) :=
  (drive_openRig (a0.1, a0.2.1, a0.2.2.1, a0.2.2.2.1, a0.2.2.2.2.1, ())).bind fun x1 =>
  bif !(decide (x1.2 = 0)) then
    some ((0, 0, ()), x1.2)
  else
    (drive_unit (a0.1.length : Int)).bind fun x2 =>
    (drive_matrix_scaled x2 (w64 (x1.1.2.2.2.1 * x1.1.2.2.2.2.2.1))).bind fun x3 =>
    (drive_matrix_times a0.1 x1.1.2.2.2.2.2.2.1).bind fun x4 =>
    (drive_matrix_scaled x4 x1.1.2.2.1).bind fun x5 =>
    (drive_made_of_drive_ContractionOf_1 (x3.length : Int) (x3.length : Int) x3 x5).bind fun x6 =>
    (drive_matrix_rowSum x6).bind fun x7 =>
    (drive_small x7 (w64 (x1.1.2.2.2.1 * x1.1.2.2.2.2.2.1))).bind fun x8 =>
    some (x8.1, x8.2)
def e_drive_ContractionOf : Entry := ⟨38, [.ty (.pair (.sl (.sl (.pair I (.pair I .unit)))) (.pair (.sl (.sl (.pair I (.pair I .unit)))) (.pair I (.pair I (.pair I .unit)))))], [((.pair I (.pair I .unit)), 0), (I, 0)], fun x => drive_ContractionOf x⟩
def j_drive_ContractionOf : TH := mkTH [] []
theorem k_drive_ContractionOf (x : denP e_drive_ContractionOf.ps) : fnT Tryz.prog Hn.hints j_drive_ContractionOf (tabT [e_drive_made_of_drive_ContractionOf_1, e_drive_matrix_rowSum, e_drive_matrix_scaled, e_drive_matrix_times, e_drive_openRig, e_drive_small, e_drive_unit]) 40 38 (ofPms e_drive_ContractionOf.ps x) e_drive_ContractionOf.rs = e_drive_ContractionOf.F x := by kernel_rfl
theorem o_drive_ContractionOf : EntryOk Tryz.prog Hn.hints Lb e_drive_ContractionOf := entry_ok (tab_cons o_drive_made_of_drive_ContractionOf_1 (tab_cons o_drive_matrix_rowSum (tab_cons o_drive_matrix_scaled (tab_cons o_drive_matrix_times (tab_cons o_drive_openRig (tab_cons o_drive_small (tab_cons o_drive_unit tab_nil))))))) hJ 40 _ _ _ _ k_drive_ContractionOf
def base_Within (a0 : Int) (a1 : Int) (a2 : Int) : Option Bool :=
  (bif decide (a1 ≤ a0) then
      some (decide (a0 ≤ a2))
    else
      some false).bind fun (p1 : Bool) =>
  some p1
def e_base_Within : Entry := ⟨18, [.ty I, .ty I, .ty I], [(.bool, 0)], fun x => base_Within x.1 x.2.1 x.2.2⟩
def j_base_Within : TH := mkTH [([], 18, .region 1, { lv := [⟨none, 6, 0⟩], ps := [(.bool, 0)], D := ⟨32704⟩ })] []
theorem k_base_Within (x : denP e_base_Within.ps) : fnT Tryz.prog Hn.hints j_base_Within (tabT []) 40 18 (ofPms e_base_Within.ps x) e_base_Within.rs = e_base_Within.F x := by kernel_rfl
theorem o_base_Within : EntryOk Tryz.prog Hn.hints Lb e_base_Within := entry_ok tab_nil hJ 40 _ _ _ _ k_base_Within
def ref04_isSized (a0 : (Int × Int × Unit)) (a1 : Int) : Option Bool :=
  ((base_Within a0.1 (w64 (0 - a1)) a1).bind fun x1 =>
    bif x1 then
      (base_Within a0.2.1 (w64 (0 - a1)) a1).bind fun x2 =>
      some x2
    else
      some false).bind fun (p3 : Bool) =>
  some p3
def e_ref04_isSized : Entry := ⟨114, [.ty (.pair I (.pair I .unit)), .ty I], [(.bool, 0)], fun x => ref04_isSized x.1 x.2⟩
def j_ref04_isSized : TH := mkTH [([], 114, .region 1, { lv := [⟨none, 4, 0⟩], ps := [(.bool, 0)], D := ⟨524272⟩, rs := [⟨0, 2⟩], Dn := ⟨520144⟩ })] []
theorem k_ref04_isSized (x : denP e_ref04_isSized.ps) : fnT Tryz.prog Hn.hints j_ref04_isSized (tabT [e_base_Within]) 40 114 (ofPms e_ref04_isSized.ps x) e_ref04_isSized.rs = e_ref04_isSized.F x := by kernel_rfl
theorem o_ref04_isSized : EntryOk Tryz.prog Hn.hints Lb e_ref04_isSized := entry_ok (tab_cons o_base_Within tab_nil) hJ 40 _ _ _ _ k_ref04_isSized
def ref04_CheckMatrix (a0 : (List (List (Int × Int × Unit)))) : Option (Int × Int) :=
  bif decide ((a0.length : Int) = 0) then
    some (0, 10)
  else
    bif decide ((a0.length : Int) > 3) then
      some (0, 8)
    else
      (loopO (fun (s2 : Int) =>
          bif decide (s2 < (a0.length : Int)) then
            (idx a0 s2).bind fun x3 =>
            bif !(decide ((x3.length : Int) = (a0.length : Int))) then
              some (.inr (.inr (s2, 10)))
            else
              (loopO (fun (s5 : Int) =>
                  (idx a0 s2).bind fun x6 =>
                  bif decide (s5 < (x6.length : Int)) then
                    (idx a0 s2).bind fun x7 =>
                    (idx x7 s5).bind fun x8 =>
                    (ref04_isSized x8 (20 : Int)).bind fun x9 =>
                    bif !x9 then
                      some (.inr (.inr (.inr (.inr (s2, 2)))))
                    else
                      some (.inl (w64 (s5 + 1)))
                  else
                    some (.inr (.inl ()))) 0).bind (Sum.elim (fun (p10 : Unit) =>
              some (.inl (w64 (s2 + 1)))) some)
          else
            some (.inr (.inl ()))) 0).bind (Sum.elim (fun (p11 : Unit) =>
      some (0, 0)) some)
def e_ref04_CheckMatrix : Entry := ⟨113, [.ty (.sl (.sl (.pair I (.pair I .unit))))], [(I, 0), (I, 0)], fun x => ref04_CheckMatrix x⟩
def j_ref04_CheckMatrix : TH := mkTH [([], 113, .block 0, { lv := [], ps := [], abn := true, D := ⟨70368744173616⟩ }),
  ([], 113, .loop 0, { lv := [⟨none, 4, 0⟩], ps := [(I, 0)], D := ⟨70368744173616⟩ }),
  ([], 113, .block 2, { lv := [], ps := [], abn := true, D := ⟨70368609959968⟩ }),
  ([], 113, .loop 2, { lv := [⟨none, 5, 0⟩], ps := [(I, 0)], D := ⟨70368609959968⟩ })] []
theorem k_ref04_CheckMatrix (x : denP e_ref04_CheckMatrix.ps) : fnT Tryz.prog Hn.hints j_ref04_CheckMatrix (tabT [e_ref04_isSized]) 40 113 (ofPms e_ref04_CheckMatrix.ps x) e_ref04_CheckMatrix.rs = e_ref04_CheckMatrix.F x := by kernel_rfl
theorem o_ref04_CheckMatrix : EntryOk Tryz.prog Hn.hints Lb e_ref04_CheckMatrix := entry_ok (tab_cons o_ref04_isSized tab_nil) hJ 40 _ _ _ _ k_ref04_CheckMatrix
def ref04_MatrixErr (a0 : (List (List (Int × Int × Unit)))) : Option Int :=
  (ref04_CheckMatrix a0).bind fun x1 =>
  some x1.2
def e_ref04_MatrixErr : Entry := ⟨33, [.ty (.sl (.sl (.pair I (.pair I .unit))))], [(I, 0)], fun x => ref04_MatrixErr x⟩
def j_ref04_MatrixErr : TH := mkTH [] []
theorem k_ref04_MatrixErr (x : denP e_ref04_MatrixErr.ps) : fnT Tryz.prog Hn.hints j_ref04_MatrixErr (tabT [e_ref04_CheckMatrix]) 40 33 (ofPms e_ref04_MatrixErr.ps x) e_ref04_MatrixErr.rs = e_ref04_MatrixErr.F x := by kernel_rfl
theorem o_ref04_MatrixErr : EntryOk Tryz.prog Hn.hints Lb e_ref04_MatrixErr := entry_ok (tab_cons o_ref04_CheckMatrix tab_nil) hJ 40 _ _ _ _ k_ref04_MatrixErr
def ref04_without (a0 : (List (List (Int × Int × Unit)))) (a1 : Int) (a2 : Int) : Option (List (List (Int × Int × Unit))) :=
  (loopO (fun (s2 : ((List (List (Int × Int × Unit))) × Int)) =>
      bif decide (s2.2 < (a0.length : Int)) then
        (bif decide (s2.2 = a1) then
            some s2.1
          else
            (loopO (fun (s4 : ((List (Int × Int × Unit)) × Int)) =>
                bif decide (s4.2 < (a0.length : Int)) then
                  (bif !(decide (s4.2 = a2)) then
                      (idx a0 s2.2).bind fun x5 =>
                      (idx x5 s4.2).bind fun x6 =>
                      (app s4.1 ([x6])).bind fun x7 =>
                      some x7
                    else
                      some s4.1).bind fun (p8 : (List (Int × Int × Unit))) =>
                  some (.inl (p8, w64 (s4.2 + 1)))
                else
                  some (.inr s4.1)) ([], 0)).bind fun (p9 : (List (Int × Int × Unit))) =>
            (app s2.1 ([p9])).bind fun x10 =>
            some x10).bind fun (p11 : (List (List (Int × Int × Unit)))) =>
        some (.inl (p11, w64 (s2.2 + 1)))
      else
        some (.inr s2.1)) ([], 0)).bind fun (p12 : (List (List (Int × Int × Unit)))) =>
  some p12
def e_ref04_without : Entry := ⟨138, [.ty (.sl (.sl (.pair I (.pair I .unit)))), .ty I, .ty I], [((.sl (.sl (.pair I (.pair I .unit)))), 2)], fun x => ref04_without x.1 x.2.1 x.2.2⟩
def j_ref04_without : TH := mkTH [([], 138, .block 0, { lv := [⟨none, 7, 0⟩], ps := [((.sl (.sl (.pair I (.pair I .unit)))), 2)], D := ⟨8796093022080⟩ }),
  ([], 138, .loop 0, { lv := [⟨none, 7, 0⟩, ⟨none, 8, 0⟩], ps := [((.sl (.sl (.pair I (.pair I .unit)))), 2), (I, 0)], D := ⟨8796093022080⟩ }),
  ([], 138, .block 1, { lv := [⟨none, 7, 0⟩], ps := [((.sl (.sl (.pair I (.pair I .unit)))), 2)], D := ⟨8796092892800⟩ }),
  ([], 138, .block 2, { lv := [⟨none, 9, 0⟩], ps := [((.sl (.pair I (.pair I .unit))), 1)], D := ⟨549754766848⟩ }),
  ([], 138, .loop 2, { lv := [⟨none, 9, 0⟩, ⟨none, 10, 0⟩], ps := [((.sl (.pair I (.pair I .unit))), 1), (I, 0)], D := ⟨549754766848⟩ }),
  ([], 138, .cond 28, { lv := [⟨none, 9, 0⟩], ps := [((.sl (.pair I (.pair I .unit))), 1)], D := ⟨549218943488⟩ })] []
theorem k_ref04_without (x : denP e_ref04_without.ps) : fnT Tryz.prog Hn.hints j_ref04_without (tabT []) 40 138 (ofPms e_ref04_without.ps x) e_ref04_without.rs = e_ref04_without.F x := by kernel_rfl
theorem o_ref04_without : EntryOk Tryz.prog Hn.hints Lb e_ref04_without := entry_ok tab_nil hJ 40 _ _ _ _ k_ref04_without
def base_GMul (a0 : (Int × Int × Unit)) (a1 : (Int × Int × Unit)) : Option (Int × Int × Unit) :=
  some (w64 ((w64 (a0.1 * a1.1)) - (w64 (a0.2.1 * a1.2.1))), w64 ((w64 (a0.1 * a1.2.1)) + (w64 (a0.2.1 * a1.1))), ())
def e_base_GMul : Entry := ⟨94, [.ty (.pair I (.pair I .unit)), .ty (.pair I (.pair I .unit))], [((.pair I (.pair I .unit)), 0)], fun x => base_GMul x.1 x.2⟩
def j_base_GMul : TH := mkTH [] []
theorem k_base_GMul (x : denP e_base_GMul.ps) : fnT Tryz.prog Hn.hints j_base_GMul (tabT []) 40 94 (ofPms e_base_GMul.ps x) e_base_GMul.rs = e_base_GMul.F x := by kernel_rfl
theorem o_base_GMul : EntryOk Tryz.prog Hn.hints Lb e_base_GMul := entry_ok tab_nil hJ 40 _ _ _ _ k_base_GMul
def base_Mod (a0 : Int) (a1 : Int) : Option Int :=
  bif decide (a1 = 0) then
    none
  else
    (bif decide (a0.tmod a1 < 0) then
        some (w64 ((a0.tmod a1) + a1))
      else
        some (a0.tmod a1)).bind fun (p1 : Int) =>
    some p1
def e_base_Mod : Entry := ⟨67, [.ty I, .ty I], [(I, 0)], fun x => base_Mod x.1 x.2⟩
def j_base_Mod : TH := mkTH [([], 67, .cond 9, { lv := [⟨none, 0, 0⟩], ps := [(I, 0)], D := ⟨7169⟩ })] []
theorem k_base_Mod (x : denP e_base_Mod.ps) : fnT Tryz.prog Hn.hints j_base_Mod (tabT []) 40 67 (ofPms e_base_Mod.ps x) e_base_Mod.rs = e_base_Mod.F x := by kernel_rfl
theorem o_base_Mod : EntryOk Tryz.prog Hn.hints Lb e_base_Mod := entry_ok tab_nil hJ 40 _ _ _ _ k_base_Mod
def base_GAdd (a0 : (Int × Int × Unit)) (a1 : (Int × Int × Unit)) : Option (Int × Int × Unit) :=
  some (w64 (a0.1 + a1.1), w64 (a0.2.1 + a1.2.1), ())
def e_base_GAdd : Entry := ⟨68, [.ty (.pair I (.pair I .unit)), .ty (.pair I (.pair I .unit))], [((.pair I (.pair I .unit)), 0)], fun x => base_GAdd x.1 x.2⟩
def j_base_GAdd : TH := mkTH [] []
theorem k_base_GAdd (x : denP e_base_GAdd.ps) : fnT Tryz.prog Hn.hints j_base_GAdd (tabT []) 40 68 (ofPms e_base_GAdd.ps x) e_base_GAdd.rs = e_base_GAdd.F x := by kernel_rfl
theorem o_base_GAdd : EntryOk Tryz.prog Hn.hints Lb e_base_GAdd := entry_ok tab_nil hJ 40 _ _ _ _ k_base_GAdd
def base_GSub (a0 : (Int × Int × Unit)) (a1 : (Int × Int × Unit)) : Option (Int × Int × Unit) :=
  some (w64 (a0.1 - a1.1), w64 (a0.2.1 - a1.2.1), ())
def e_base_GSub : Entry := ⟨41, [.ty (.pair I (.pair I .unit)), .ty (.pair I (.pair I .unit))], [((.pair I (.pair I .unit)), 0)], fun x => base_GSub x.1 x.2⟩
def j_base_GSub : TH := mkTH [] []
theorem k_base_GSub (x : denP e_base_GSub.ps) : fnT Tryz.prog Hn.hints j_base_GSub (tabT []) 40 41 (ofPms e_base_GSub.ps x) e_base_GSub.rs = e_base_GSub.F x := by kernel_rfl
theorem o_base_GSub : EntryOk Tryz.prog Hn.hints Lb e_base_GSub := entry_ok tab_nil hJ 40 _ _ _ _ k_base_GSub
def ref04_Determinant_n (n : Nat) : (List (List (Int × Int × Unit))) → Option (Int × Int × Unit) :=
  Nat.rec (motive := fun _ => (List (List (Int × Int × Unit))) → Option (Int × Int × Unit)) (fun _ => none) (fun _ ih a0 =>
  bif decide ((a0.length : Int) = 0) then
    some (1, 0, ())
  else
    (loopO (fun (s2 : (Int × Int × Int)) =>
        bif decide (s2.1 < (a0.length : Int)) then
          (idx a0 0).bind fun x3 =>
          (idx x3 s2.1).bind fun x4 =>
          (ref04_without a0 (0 : Int) s2.1).bind fun x5 =>
          (ih x5).bind fun x6 =>
          (base_GMul x4 x6).bind fun x7 =>
          (base_Mod s2.1 (2 : Int)).bind fun x8 =>
          (bif decide (x8 = 0) then
              (base_GAdd (s2.2.1, s2.2.2, ()) x7).bind fun x9 =>
              some (x9.1, x9.2.1)
            else
              (base_GSub (s2.2.1, s2.2.2, ()) x7).bind fun x10 =>
              some (x10.1, x10.2.1)).bind fun (p11 : (Int × Int)) =>
          some (.inl (w64 (s2.1 + 1), p11.1, p11.2))
        else
          some (.inr (s2.2.1, s2.2.2))) (0, 0, 0)).bind fun (p12 : (Int × Int)) =>
    some (p12.1, p12.2, ())) n
def ref04_Determinant : (List (List (Int × Int × Unit))) → Option (Int × Int × Unit) := ref04_Determinant_n 12
def e_ref04_Determinant : Entry := ⟨69, [.ty (.sl (.sl (.pair I (.pair I .unit))))], [((.pair I (.pair I .unit)), 0)], fun x => ref04_Determinant x⟩
def j_ref04_Determinant : TH := mkTH [([], 69, .block 0, { lv := [⟨some 0, 3, 0⟩, ⟨some 0, 3, 1⟩], ps := [(I, 0), (I, 0)], D := ⟨68719475760⟩, wr := [⟨0, 3⟩, ⟨0, 5⟩] }),
  ([], 69, .loop 0, { lv := [⟨none, 4, 0⟩, ⟨some 0, 3, 0⟩, ⟨some 0, 3, 1⟩], ps := [(I, 0), (I, 0), (I, 0)], D := ⟨68719475760⟩, wr := [⟨0, 3⟩, ⟨0, 5⟩], rs := [⟨0, 5⟩], Dn := ⟨68719475728⟩ }),
  ([], 69, .cond 29, { lv := [⟨some 0, 3, 0⟩, ⟨some 0, 3, 1⟩], ps := [(I, 0), (I, 0)], D := ⟨67645734912⟩, wr := [⟨0, 3⟩] })] []
def e_ref04_Determinant_n (n : Nat) : Entry := ⟨69, [.ty (.sl (.sl (.pair I (.pair I .unit))))], [((.pair I (.pair I .unit)), 0)], fun x => ref04_Determinant_n n x⟩
theorem k_ref04_Determinant (n : Nat) (x : denP (e_ref04_Determinant_n (n + 1)).ps) : fnT Tryz.prog Hn.hints j_ref04_Determinant (tabT [(e_ref04_Determinant_n n), e_base_GAdd, e_base_GMul, e_base_GSub, e_base_Mod, e_ref04_without]) 40 69 (ofPms (e_ref04_Determinant_n (n + 1)).ps x) (e_ref04_Determinant_n (n + 1)).rs = (e_ref04_Determinant_n (n + 1)).F x := by kernel_rfl
theorem o_ref04_Determinant_n : ∀ n, EntryOk Tryz.prog Hn.hints Lb (e_ref04_Determinant_n n)
  | 0 => fun x y h => by cases (show none = some y from h)
  | n + 1 => entry_ok (tab_cons (o_ref04_Determinant_n n) (tab_cons o_base_GAdd (tab_cons o_base_GMul (tab_cons o_base_GSub (tab_cons o_base_Mod (tab_cons o_ref04_without tab_nil)))))) hJ 40 _ _ _ _ (k_ref04_Determinant n)
theorem o_ref04_Determinant : EntryOk Tryz.prog Hn.hints Lb e_ref04_Determinant := o_ref04_Determinant_n 12
def ref04_InverseErr (a0 : (List (List (Int × Int × Unit)))) : Option Int :=
  (ref04_MatrixErr a0).bind fun x1 =>
  bif !(decide (x1 = 0)) then
    some x1
  else
    (ref04_Determinant a0).bind fun x2 =>
    let v3 : Bool := (bif decide (x2.1 = 0) then (bif decide (x2.2.1 = 0) then true else false) else false)
    bif v3 then
      some 11
    else
      some 0
def e_ref04_InverseErr : Entry := ⟨63, [.ty (.sl (.sl (.pair I (.pair I .unit))))], [(I, 0)], fun x => ref04_InverseErr x⟩
def j_ref04_InverseErr : TH := mkTH [] []
theorem k_ref04_InverseErr (x : denP e_ref04_InverseErr.ps) : fnT Tryz.prog Hn.hints j_ref04_InverseErr (tabT [e_ref04_Determinant, e_ref04_MatrixErr]) 40 63 (ofPms e_ref04_InverseErr.ps x) e_ref04_InverseErr.rs = e_ref04_InverseErr.F x := by kernel_rfl
theorem o_ref04_InverseErr : EntryOk Tryz.prog Hn.hints Lb e_ref04_InverseErr := entry_ok (tab_cons o_ref04_Determinant (tab_cons o_ref04_MatrixErr tab_nil)) hJ 40 _ _ _ _ k_ref04_InverseErr
def base_Size (a0 : Int) : Option Int :=
  some (max a0 (w64 (0 - a0)))
def e_base_Size : Entry := ⟨42, [.ty I], [(I, 0)], fun x => base_Size x⟩
def j_base_Size : TH := mkTH [] []
theorem k_base_Size (x : denP e_base_Size.ps) : fnT Tryz.prog Hn.hints j_base_Size (tabT []) 40 42 (ofPms e_base_Size.ps x) e_base_Size.rs = e_base_Size.F x := by kernel_rfl
theorem o_base_Size : EntryOk Tryz.prog Hn.hints Lb e_base_Size := entry_ok tab_nil hJ 40 _ _ _ _ k_base_Size
def base_Gcd (a0 : Int) (a1 : Int) : Option Int :=
  (loopO (fun (s2 : (Int × Int)) =>
      bif !(decide (s2.2 = 0)) then
        bif decide (s2.2 = 0) then
          none
        else
          some (.inl (s2.2, s2.1.tmod s2.2))
      else
        some (.inr s2.1)) (a0, a1)).bind fun (p3 : Int) =>
  (base_Size p3).bind fun x4 =>
  some x4
def e_base_Gcd : Entry := ⟨155, [.ty I, .ty I], [(I, 0)], fun x => base_Gcd x.1 x.2⟩
def j_base_Gcd : TH := mkTH [([], 155, .block 0, { lv := [⟨none, 0, 0⟩], ps := [(I, 0)], D := ⟨2019⟩ }),
  ([], 155, .loop 0, { lv := [⟨none, 0, 0⟩, ⟨none, 1, 0⟩], ps := [(I, 0), (I, 0)], D := ⟨2019⟩ })] []
theorem k_base_Gcd (x : denP e_base_Gcd.ps) : fnT Tryz.prog Hn.hints j_base_Gcd (tabT [e_base_Size]) 40 155 (ofPms e_base_Gcd.ps x) e_base_Gcd.rs = e_base_Gcd.F x := by kernel_rfl
theorem o_base_Gcd : EntryOk Tryz.prog Hn.hints Lb e_base_Gcd := entry_ok (tab_cons o_base_Size tab_nil) hJ 40 _ _ _ _ k_base_Gcd
def base_IsLowest (a0 : (Int × Int × Unit)) : Option Bool :=
  (bif decide (a0.2.1 > 0) then
      (base_Gcd a0.1 a0.2.1).bind fun x1 =>
      some (decide (x1 = 1))
    else
      some false).bind fun (p2 : Bool) =>
  some p2
def e_base_IsLowest : Entry := ⟨112, [.ty (.pair I (.pair I .unit))], [(.bool, 0)], fun x => base_IsLowest x⟩
def j_base_IsLowest : TH := mkTH [([], 112, .region 1, { lv := [⟨none, 2, 0⟩], ps := [(.bool, 0)], D := ⟨16380⟩, rs := [⟨0, 1⟩], Dn := ⟨15732⟩ })] []
theorem k_base_IsLowest (x : denP e_base_IsLowest.ps) : fnT Tryz.prog Hn.hints j_base_IsLowest (tabT [e_base_Gcd]) 40 112 (ofPms e_base_IsLowest.ps x) e_base_IsLowest.rs = e_base_IsLowest.F x := by kernel_rfl
theorem o_base_IsLowest : EntryOk Tryz.prog Hn.hints Lb e_base_IsLowest := entry_ok (tab_cons o_base_Gcd tab_nil) hJ 40 _ _ _ _ k_base_IsLowest
def ref04_RigErr (a0 : ((List (List (Int × Int × Unit))) × (List (List (Int × Int × Unit))) × Int × Int × Int × Unit)) : Option Int :=
  (ref04_MatrixErr a0.1).bind fun x1 =>
  bif !(decide (x1 = 0)) then
    some x1
  else
    (ref04_MatrixErr a0.2.1).bind fun x2 =>
    bif !(decide (x2 = 0)) then
      some x2
    else
      bif !(decide ((a0.2.1.length : Int) = (a0.1.length : Int))) then
        some 13
      else
        (ref04_InverseErr a0.2.1).bind fun x3 =>
        bif !(decide (x3 = 0)) then
          some x3
        else
          (base_IsLowest (a0.2.2.1, a0.2.2.2.1, ())).bind fun x4 =>
          bif !x4 then
            some 3
          else
            ((base_Within a0.2.2.1 (0 : Int) a0.2.2.2.1).bind fun x5 =>
              bif !x5 then
                some true
              else
                bif decide (a0.2.2.2.1 > 100) then
                  some true
                else
                  (base_Within a0.2.2.2.2.1 (0 : Int) (1000 : Int)).bind fun x6 =>
                  some (!x6)).bind fun (p7 : Bool) =>
            bif p7 then
              some 2
            else
              some 0
def e_ref04_RigErr : Entry := ⟨32, [.ty (.pair (.sl (.sl (.pair I (.pair I .unit)))) (.pair (.sl (.sl (.pair I (.pair I .unit)))) (.pair I (.pair I (.pair I .unit)))))], [(I, 0)], fun x => ref04_RigErr x⟩
def j_ref04_RigErr : TH := mkTH [([], 32, .region 14, { lv := [⟨none, 54, 0⟩], ps := [(.bool, 0)], D := ⟨36028762659225600⟩, rs := [⟨0, 1⟩], Dn := ⟨34849158481313792⟩ })] []
theorem k_ref04_RigErr (x : denP e_ref04_RigErr.ps) : fnT Tryz.prog Hn.hints j_ref04_RigErr (tabT [e_base_IsLowest, e_base_Within, e_ref04_InverseErr, e_ref04_MatrixErr]) 40 32 (ofPms e_ref04_RigErr.ps x) e_ref04_RigErr.rs = e_ref04_RigErr.F x := by kernel_rfl
theorem o_ref04_RigErr : EntryOk Tryz.prog Hn.hints Lb e_ref04_RigErr := entry_ok (tab_cons o_base_IsLowest (tab_cons o_base_Within (tab_cons o_ref04_InverseErr (tab_cons o_ref04_MatrixErr tab_nil)))) hJ 40 _ _ _ _ k_ref04_RigErr
def base_GNorm (a0 : (Int × Int × Unit)) : Option Int :=
  some (w64 ((w64 (a0.1 * a0.1)) + (w64 (a0.2.1 * a0.2.1))))
def e_base_GNorm : Entry := ⟨137, [.ty (.pair I (.pair I .unit))], [(I, 0)], fun x => base_GNorm x⟩
def j_base_GNorm : TH := mkTH [] []
theorem k_base_GNorm (x : denP e_base_GNorm.ps) : fnT Tryz.prog Hn.hints j_base_GNorm (tabT []) 40 137 (ofPms e_base_GNorm.ps x) e_base_GNorm.rs = e_base_GNorm.F x := by kernel_rfl
theorem o_base_GNorm : EntryOk Tryz.prog Hn.hints Lb e_base_GNorm := entry_ok tab_nil hJ 40 _ _ _ _ k_base_GNorm
def ref04_Adjugate (a0 : (List (List (Int × Int × Unit)))) : Option (List (List (Int × Int × Unit))) :=
  (loopO (fun (s3 : ((List (List (Int × Int × Unit))) × Int)) =>
      bif decide (s3.2 < (a0.length : Int)) then
        (loopO (fun (s6 : ((List (Int × Int × Unit)) × Int)) =>
            bif decide (s6.2 < (a0.length : Int)) then
              (ref04_without a0 s6.2 s3.2).bind fun x7 =>
              (ref04_Determinant x7).bind fun x8 =>
              (base_Mod (w64 (s3.2 + s6.2)) (2 : Int)).bind fun x9 =>
              (bif decide (x9 = 1) then
                  (base_GSub (0, 0, ()) x8).bind fun x10 =>
                  some (x10.1, x10.2.1)
                else
                  some (x8.1, x8.2.1)).bind fun (p11 : (Int × Int)) =>
              (app s6.1 ([(p11.1, p11.2, ())])).bind fun x12 =>
              some (.inl (x12, w64 (s6.2 + 1)))
            else
              some (.inr s6.1)) ([], 0)).bind fun (p13 : (List (Int × Int × Unit))) =>
        (app s3.1 ([p13])).bind fun x14 =>
        some (.inl (x14, w64 (s3.2 + 1)))
      else
        some (.inr s3.1)) ([], 0)).bind fun (p15 : (List (List (Int × Int × Unit)))) =>
  some p15
def e_ref04_Adjugate : Entry := ⟨93, [.ty (.sl (.sl (.pair I (.pair I .unit))))], [((.sl (.sl (.pair I (.pair I .unit)))), 2)], fun x => ref04_Adjugate x⟩
def j_ref04_Adjugate : TH := mkTH [([], 93, .block 0, { lv := [⟨none, 3, 0⟩], ps := [((.sl (.sl (.pair I (.pair I .unit)))), 2)], D := ⟨2199023255544⟩, wr := [⟨0, 7⟩] }),
  ([], 93, .loop 0, { lv := [⟨none, 3, 0⟩, ⟨none, 4, 0⟩], ps := [((.sl (.sl (.pair I (.pair I .unit)))), 2), (I, 0)], D := ⟨2199023255544⟩, wr := [⟨0, 7⟩] }),
  ([], 93, .block 2, { lv := [⟨none, 5, 0⟩], ps := [((.sl (.pair I (.pair I .unit))), 1)], D := ⟨137438937312⟩, wr := [⟨0, 7⟩] }),
  ([], 93, .loop 2, { lv := [⟨none, 5, 0⟩, ⟨none, 6, 0⟩], ps := [((.sl (.pair I (.pair I .unit))), 1), (I, 0)], D := ⟨137438937312⟩, wr := [⟨0, 7⟩], rs := [⟨0, 7⟩], Dn := ⟨137438937184⟩ }),
  ([], 93, .cond 29, { lv := [⟨some 0, 7, 0⟩, ⟨some 0, 7, 1⟩], ps := [(I, 0), (I, 0)], D := ⟨7516192768⟩, wr := [⟨0, 7⟩] })] []
theorem k_ref04_Adjugate (x : denP e_ref04_Adjugate.ps) : fnT Tryz.prog Hn.hints j_ref04_Adjugate (tabT [e_base_GSub, e_base_Mod, e_ref04_Determinant, e_ref04_without]) 40 93 (ofPms e_ref04_Adjugate.ps x) e_ref04_Adjugate.rs = e_ref04_Adjugate.F x := by kernel_rfl
theorem o_ref04_Adjugate : EntryOk Tryz.prog Hn.hints Lb e_ref04_Adjugate := entry_ok (tab_cons o_base_GSub (tab_cons o_base_Mod (tab_cons o_ref04_Determinant (tab_cons o_ref04_without tab_nil)))) hJ 40 _ _ _ _ k_ref04_Adjugate
def base_GConj (a0 : (Int × Int × Unit)) : Option (Int × Int × Unit) :=
  some (a0.1, w64 (0 - a0.2.1), ())
def e_base_GConj : Entry := ⟨95, [.ty (.pair I (.pair I .unit))], [((.pair I (.pair I .unit)), 0)], fun x => base_GConj x⟩
def j_base_GConj : TH := mkTH [] []
theorem k_base_GConj (x : denP e_base_GConj.ps) : fnT Tryz.prog Hn.hints j_base_GConj (tabT []) 40 95 (ofPms e_base_GConj.ps x) e_base_GConj.rs = e_base_GConj.F x := by kernel_rfl
theorem o_base_GConj : EntryOk Tryz.prog Hn.hints Lb e_base_GConj := entry_ok tab_nil hJ 40 _ _ _ _ k_base_GConj
def ref04_scaled (a0 : (List (List (Int × Int × Unit)))) (a1 : (Int × Int × Unit)) : Option (List (List (Int × Int × Unit))) :=
  (loopO (fun (s3 : ((List (List (Int × Int × Unit))) × Int)) =>
      bif decide (s3.2 < (a0.length : Int)) then
        (loopO (fun (s6 : ((List (Int × Int × Unit)) × Int)) =>
            (idx a0 s3.2).bind fun x7 =>
            bif decide (s6.2 < (x7.length : Int)) then
              (idx a0 s3.2).bind fun x8 =>
              (idx x8 s6.2).bind fun x9 =>
              (base_GMul x9 a1).bind fun x10 =>
              (app s6.1 ([x10])).bind fun x11 =>
              some (.inl (x11, w64 (s6.2 + 1)))
            else
              some (.inr s6.1)) ([], 0)).bind fun (p12 : (List (Int × Int × Unit))) =>
        (app s3.1 ([p12])).bind fun x13 =>
        some (.inl (x13, w64 (s3.2 + 1)))
      else
        some (.inr s3.1)) ([], 0)).bind fun (p14 : (List (List (Int × Int × Unit)))) =>
  some p14
def e_ref04_scaled : Entry := ⟨133, [.ty (.sl (.sl (.pair I (.pair I .unit)))), .ty (.pair I (.pair I .unit))], [((.sl (.sl (.pair I (.pair I .unit)))), 2)], fun x => ref04_scaled x.1 x.2⟩
def j_ref04_scaled : TH := mkTH [([], 133, .block 0, { lv := [⟨none, 5, 0⟩], ps := [((.sl (.sl (.pair I (.pair I .unit)))), 2)], D := ⟨1099511627744⟩ }),
  ([], 133, .loop 0, { lv := [⟨none, 5, 0⟩, ⟨none, 6, 0⟩], ps := [((.sl (.sl (.pair I (.pair I .unit)))), 2), (I, 0)], D := ⟨1099511627744⟩ }),
  ([], 133, .block 2, { lv := [⟨none, 7, 0⟩], ps := [((.sl (.pair I (.pair I .unit))), 1)], D := ⟨68719444352⟩ }),
  ([], 133, .loop 2, { lv := [⟨none, 7, 0⟩, ⟨none, 8, 0⟩], ps := [((.sl (.pair I (.pair I .unit))), 1), (I, 0)], D := ⟨68719444352⟩ })] []
theorem k_ref04_scaled (x : denP e_ref04_scaled.ps) : fnT Tryz.prog Hn.hints j_ref04_scaled (tabT [e_base_GMul]) 40 133 (ofPms e_ref04_scaled.ps x) e_ref04_scaled.rs = e_ref04_scaled.F x := by kernel_rfl
theorem o_ref04_scaled : EntryOk Tryz.prog Hn.hints Lb e_ref04_scaled := entry_ok (tab_cons o_base_GMul tab_nil) hJ 40 _ _ _ _ k_ref04_scaled
def ref04_lowest (a0 : Int) (a1 : (List (List (Int × Int × Unit)))) : Option (Int × (List (List (Int × Int × Unit))) × Unit) :=
  (loopO (fun (s2 : (Int × Int)) =>
      bif decide (s2.2 < (a1.length : Int)) then
        (loopO (fun (s4 : (Int × Int)) =>
            (idx a1 s2.2).bind fun x5 =>
            bif decide (s4.2 < (x5.length : Int)) then
              (idx a1 s2.2).bind fun x6 =>
              (idx x6 s4.2).bind fun x7 =>
              (idx a1 s2.2).bind fun x8 =>
              (idx x8 s4.2).bind fun x9 =>
              (base_Gcd x7.1 x9.2.1).bind fun x10 =>
              (base_Gcd s4.1 x10).bind fun x11 =>
              some (.inl (x11, w64 (s4.2 + 1)))
            else
              some (.inr s4.1)) (s2.1, 0)).bind fun (p12 : Int) =>
        some (.inl (p12, w64 (s2.2 + 1)))
      else
        some (.inr s2.1)) (a0, 0)).bind fun (p13 : Int) =>
  bif decide (p13 = 0) then
    none
  else
    (loopO (fun (s16 : (Int × Int × (List (List (Int × Int × Unit))))) =>
        bif decide (s16.1 < (a1.length : Int)) then
          (loopO (fun (s19 : ((List (Int × Int × Unit)) × Int)) =>
              (idx a1 s16.1).bind fun x20 =>
              bif decide (s19.2 < (x20.length : Int)) then
                (idx a1 s16.1).bind fun x21 =>
                (idx x21 s19.2).bind fun x22 =>
                bif decide (p13 = 0) then
                  none
                else
                  (idx a1 s16.1).bind fun x23 =>
                  (idx x23 s19.2).bind fun x24 =>
                  bif decide (p13 = 0) then
                    none
                  else
                    (app s19.1 ([(w64 (x22.1.tdiv p13), w64 (x24.2.1.tdiv p13), ())])).bind fun x25 =>
                    some (.inl (x25, w64 (s19.2 + 1)))
              else
                some (.inr s19.1)) ([], 0)).bind fun (p26 : (List (Int × Int × Unit))) =>
          (app s16.2.2 ([p26])).bind fun x27 =>
          some (.inl (w64 (s16.1 + 1), s16.2.1, x27))
        else
          some (.inr (s16.2.1, s16.2.2))) (0, w64 (a0.tdiv p13), [])).bind fun (p28 : (Int × (List (List (Int × Int × Unit))))) =>
    some (p28.1, p28.2, ())
def e_ref04_lowest : Entry := ⟨135, [.ty I, .ty (.sl (.sl (.pair I (.pair I .unit))))], [((.pair I (.pair (.sl (.sl (.pair I (.pair I .unit)))) .unit)), 0)], fun x => ref04_lowest x.1 x.2⟩
def j_ref04_lowest : TH := mkTH [([], 135, .block 0, { lv := [⟨none, 5, 0⟩], ps := [(I, 0)], D := ⟨140737488348384⟩ }),
  ([], 135, .loop 0, { lv := [⟨none, 5, 0⟩, ⟨none, 6, 0⟩], ps := [(I, 0), (I, 0)], D := ⟨140737488348384⟩ }),
  ([], 135, .block 2, { lv := [⟨none, 5, 0⟩], ps := [(I, 0)], D := ⟨140737487832224⟩ }),
  ([], 135, .loop 2, { lv := [⟨none, 5, 0⟩, ⟨none, 7, 0⟩], ps := [(I, 0), (I, 0)], D := ⟨140737487832224⟩ }),
  ([], 135, .block 4, { lv := [⟨some 0, 8, 0⟩, ⟨some 0, 8, 1⟩], ps := [(I, 0), ((.sl (.sl (.pair I (.pair I .unit)))), 2)], D := ⟨79228162514262085793730268672⟩, wr := [⟨0, 8⟩] }),
  ([], 135, .loop 4, { lv := [⟨none, 9, 0⟩, ⟨some 0, 8, 0⟩, ⟨some 0, 8, 1⟩], ps := [(I, 0), (I, 0), ((.sl (.sl (.pair I (.pair I .unit)))), 2)], D := ⟨79228162514262085793730268672⟩, wr := [⟨0, 8⟩], rs := [⟨0, 8⟩], Dn := ⟨38376141217844536722059169280⟩ }),
  ([], 135, .block 6, { lv := [⟨none, 10, 0⟩], ps := [((.sl (.pair I (.pair I .unit))), 1)], D := ⟨1237940039141265086823271424⟩ }),
  ([], 135, .loop 6, { lv := [⟨none, 10, 0⟩, ⟨none, 11, 0⟩], ps := [((.sl (.pair I (.pair I .unit))), 1), (I, 0)], D := ⟨1237940039141265086823271424⟩ })] []
theorem k_ref04_lowest (x : denP e_ref04_lowest.ps) : fnT Tryz.prog Hn.hints j_ref04_lowest (tabT [e_base_Gcd]) 40 135 (ofPms e_ref04_lowest.ps x) e_ref04_lowest.rs = e_ref04_lowest.F x := by kernel_rfl
theorem o_ref04_lowest : EntryOk Tryz.prog Hn.hints Lb e_ref04_lowest := entry_ok (tab_cons o_base_Gcd tab_nil) hJ 40 _ _ _ _ k_ref04_lowest
def ref04_Inverse (a0 : (List (List (Int × Int × Unit)))) : Option (Int × (List (List (Int × Int × Unit))) × Unit) :=
  (ref04_Determinant a0).bind fun x1 =>
  (base_GNorm x1).bind fun x2 =>
  (ref04_Adjugate a0).bind fun x3 =>
  (base_GConj x1).bind fun x4 =>
  (ref04_scaled x3 x4).bind fun x5 =>
  (ref04_lowest x2 x5).bind fun x6 =>
  some x6
def e_ref04_Inverse : Entry := ⟨64, [.ty (.sl (.sl (.pair I (.pair I .unit))))], [((.pair I (.pair (.sl (.sl (.pair I (.pair I .unit)))) .unit)), 0)], fun x => ref04_Inverse x⟩
def j_ref04_Inverse : TH := mkTH [] []
theorem k_ref04_Inverse (x : denP e_ref04_Inverse.ps) : fnT Tryz.prog Hn.hints j_ref04_Inverse (tabT [e_base_GConj, e_base_GNorm, e_ref04_Adjugate, e_ref04_Determinant, e_ref04_lowest, e_ref04_scaled]) 40 64 (ofPms e_ref04_Inverse.ps x) e_ref04_Inverse.rs = e_ref04_Inverse.F x := by kernel_rfl
theorem o_ref04_Inverse : EntryOk Tryz.prog Hn.hints Lb e_ref04_Inverse := entry_ok (tab_cons o_base_GConj (tab_cons o_base_GNorm (tab_cons o_ref04_Adjugate (tab_cons o_ref04_Determinant (tab_cons o_ref04_lowest (tab_cons o_ref04_scaled tab_nil)))))) hJ 40 _ _ _ _ k_ref04_Inverse
def ref04_Product (a0 : (List (List (Int × Int × Unit)))) (a1 : (List (List (Int × Int × Unit)))) : Option (List (List (Int × Int × Unit))) :=
  (loopO (fun (s3 : ((List (List (Int × Int × Unit))) × Int)) =>
      bif decide (s3.2 < (a0.length : Int)) then
        (loopO (fun (s6 : ((List (Int × Int × Unit)) × Int)) =>
            (idx a1 0).bind fun x7 =>
            bif decide (s6.2 < (x7.length : Int)) then
              (loopO (fun (s9 : (Int × Int × Int)) =>
                  bif decide (s9.1 < (a1.length : Int)) then
                    (idx a0 s3.2).bind fun x10 =>
                    (idx x10 s9.1).bind fun x11 =>
                    (idx a1 s9.1).bind fun x12 =>
                    (idx x12 s6.2).bind fun x13 =>
                    (base_GMul x11 x13).bind fun x14 =>
                    (base_GAdd (s9.2.1, s9.2.2, ()) x14).bind fun x15 =>
                    some (.inl (w64 (s9.1 + 1), x15.1, x15.2.1))
                  else
                    some (.inr (s9.2.1, s9.2.2))) (0, 0, 0)).bind fun (p16 : (Int × Int)) =>
              (app s6.1 ([(p16.1, p16.2, ())])).bind fun x17 =>
              some (.inl (x17, w64 (s6.2 + 1)))
            else
              some (.inr s6.1)) ([], 0)).bind fun (p18 : (List (Int × Int × Unit))) =>
        (app s3.1 ([p18])).bind fun x19 =>
        some (.inl (x19, w64 (s3.2 + 1)))
      else
        some (.inr s3.1)) ([], 0)).bind fun (p20 : (List (List (Int × Int × Unit)))) =>
  some p20
def e_ref04_Product : Entry := ⟨92, [.ty (.sl (.sl (.pair I (.pair I .unit)))), .ty (.sl (.sl (.pair I (.pair I .unit))))], [((.sl (.sl (.pair I (.pair I .unit)))), 2)], fun x => ref04_Product x.1 x.2⟩
def j_ref04_Product : TH := mkTH [([], 92, .block 0, { lv := [⟨none, 5, 0⟩], ps := [((.sl (.sl (.pair I (.pair I .unit)))), 2)], D := ⟨72057594037927904⟩, wr := [⟨0, 9⟩] }),
  ([], 92, .loop 0, { lv := [⟨none, 5, 0⟩, ⟨none, 6, 0⟩], ps := [((.sl (.sl (.pair I (.pair I .unit)))), 2), (I, 0)], D := ⟨72057594037927904⟩, wr := [⟨0, 9⟩] }),
  ([], 92, .block 2, { lv := [⟨none, 7, 0⟩], ps := [((.sl (.pair I (.pair I .unit))), 1)], D := ⟨4503599627241344⟩, wr := [⟨0, 9⟩] }),
  ([], 92, .loop 2, { lv := [⟨none, 7, 0⟩, ⟨none, 8, 0⟩], ps := [((.sl (.pair I (.pair I .unit))), 1), (I, 0)], D := ⟨4503599627241344⟩, wr := [⟨0, 9⟩], rs := [⟨0, 9⟩], Dn := ⟨4503599627240832⟩ }),
  ([], 92, .block 4, { lv := [⟨some 0, 9, 0⟩, ⟨some 0, 9, 1⟩], ps := [(I, 0), (I, 0)], D := ⟨281474943157248⟩, wr := [⟨0, 9⟩] }),
  ([], 92, .loop 4, { lv := [⟨none, 10, 0⟩, ⟨some 0, 9, 0⟩, ⟨some 0, 9, 1⟩], ps := [(I, 0), (I, 0), (I, 0)], D := ⟨281474943157248⟩, wr := [⟨0, 9⟩] })] []
theorem k_ref04_Product (x : denP e_ref04_Product.ps) : fnT Tryz.prog Hn.hints j_ref04_Product (tabT [e_base_GAdd, e_base_GMul]) 40 92 (ofPms e_ref04_Product.ps x) e_ref04_Product.rs = e_ref04_Product.F x := by kernel_rfl
theorem o_ref04_Product : EntryOk Tryz.prog Hn.hints Lb e_ref04_Product := entry_ok (tab_cons o_base_GAdd (tab_cons o_base_GMul tab_nil)) hJ 40 _ _ _ _ k_ref04_Product
def ref04_one (a0 : Int) (a1 : Int) : Option (List (List (Int × Int × Unit))) :=
  (loopO (fun (s3 : ((List (List (Int × Int × Unit))) × Int)) =>
      bif decide (s3.2 < a0) then
        (mkS (0, 0, ()) a0).bind fun x4 =>
        bif decide (a0 = a0) then
          (idx x4 s3.2).bind fun x5 =>
          (idx x4 s3.2).bind fun x6 =>
          let l7 : (List (Int × Int × Unit)) := List.set x4 s3.2.toNat (a1, 0, ())
          (app s3.1 ([l7])).bind fun x8 =>
          some (.inl (x8, w64 (s3.2 + 1)))
        else
          none
      else
        some (.inr s3.1)) ([], 0)).bind fun (p9 : (List (List (Int × Int × Unit)))) =>
  some p9
def e_ref04_one : Entry := ⟨120, [.ty I, .ty I], [((.sl (.sl (.pair I (.pair I .unit)))), 2)], fun x => ref04_one x.1 x.2⟩
def j_ref04_one : TH := mkTH [([], 120, .block 0, { lv := [⟨none, 5, 0⟩], ps := [((.sl (.sl (.pair I (.pair I .unit)))), 2)], D := ⟨16777184⟩ }),
  ([], 120, .loop 0, { lv := [⟨none, 5, 0⟩, ⟨none, 6, 0⟩], ps := [((.sl (.sl (.pair I (.pair I .unit)))), 2), (I, 0)], D := ⟨16777184⟩ })] []
theorem k_ref04_one (x : denP e_ref04_one.ps) : fnT Tryz.prog Hn.hints j_ref04_one (tabT []) 40 120 (ofPms e_ref04_one.ps x) e_ref04_one.rs = e_ref04_one.F x := by kernel_rfl
theorem o_ref04_one : EntryOk Tryz.prog Hn.hints Lb e_ref04_one := entry_ok tab_nil hJ 40 _ _ _ _ k_ref04_one
def ref04_Size (a0 : (Int × Int × Unit)) : Option Int :=
  (base_Size a0.1).bind fun x1 =>
  (base_Size a0.2.1).bind fun x2 =>
  some (w64 (x1 + x2))
def e_ref04_Size : Entry := ⟨121, [.ty (.pair I (.pair I .unit))], [(I, 0)], fun x => ref04_Size x⟩
def j_ref04_Size : TH := mkTH [] []
theorem k_ref04_Size (x : denP e_ref04_Size.ps) : fnT Tryz.prog Hn.hints j_ref04_Size (tabT [e_base_Size]) 40 121 (ofPms e_ref04_Size.ps x) e_ref04_Size.rs = e_ref04_Size.F x := by kernel_rfl
theorem o_ref04_Size : EntryOk Tryz.prog Hn.hints Lb e_ref04_Size := entry_ok (tab_cons o_base_Size tab_nil) hJ 40 _ _ _ _ k_ref04_Size
def ref04_RowSum (a0 : (List (List (Int × Int × Unit)))) : Option Int :=
  (loopO (fun (s2 : (Int × Int)) =>
      bif decide (s2.2 < (a0.length : Int)) then
        (loopO (fun (s4 : (Int × Int)) =>
            (idx a0 s2.2).bind fun x5 =>
            bif decide (s4.2 < (x5.length : Int)) then
              (idx a0 s2.2).bind fun x6 =>
              (idx x6 s4.2).bind fun x7 =>
              (ref04_Size x7).bind fun x8 =>
              some (.inl (w64 (s4.1 + x8), w64 (s4.2 + 1)))
            else
              some (.inr s4.1)) (0, 0)).bind fun (p9 : Int) =>
        some (.inl (max s2.1 p9, w64 (s2.2 + 1)))
      else
        some (.inr s2.1)) (0, 0)).bind fun (p10 : Int) =>
  some p10
def e_ref04_RowSum : Entry := ⟨50, [.ty (.sl (.sl (.pair I (.pair I .unit))))], [(I, 0)], fun x => ref04_RowSum x⟩
def j_ref04_RowSum : TH := mkTH [([], 50, .block 0, { lv := [⟨none, 3, 0⟩], ps := [(I, 0)], D := ⟨34359738360⟩ }),
  ([], 50, .loop 0, { lv := [⟨none, 3, 0⟩, ⟨none, 4, 0⟩], ps := [(I, 0), (I, 0)], D := ⟨34359738360⟩ }),
  ([], 50, .block 2, { lv := [⟨none, 5, 0⟩], ps := [(I, 0)], D := ⟨4294959200⟩ }),
  ([], 50, .loop 2, { lv := [⟨none, 5, 0⟩, ⟨none, 6, 0⟩], ps := [(I, 0), (I, 0)], D := ⟨4294959200⟩ })] []
theorem k_ref04_RowSum (x : denP e_ref04_RowSum.ps) : fnT Tryz.prog Hn.hints j_ref04_RowSum (tabT [e_ref04_Size]) 40 50 (ofPms e_ref04_RowSum.ps x) e_ref04_RowSum.rs = e_ref04_RowSum.F x := by kernel_rfl
theorem o_ref04_RowSum : EntryOk Tryz.prog Hn.hints Lb e_ref04_RowSum := entry_ok (tab_cons o_ref04_Size tab_nil) hJ 40 _ _ _ _ k_ref04_RowSum
def base_Lowest (a0 : Int) (a1 : Int) : Option (Int × Int × Unit) :=
  (base_Gcd a0 a1).bind fun x1 =>
  (bif decide (a1 < 0) then
      some (w64 (0 - x1))
    else
      some x1).bind fun (p2 : Int) =>
  bif decide (p2 = 0) then
    none
  else
    bif decide (p2 = 0) then
      none
    else
      some (w64 (a0.tdiv p2), w64 (a1.tdiv p2), ())
def e_base_Lowest : Entry := ⟨96, [.ty I, .ty I], [((.pair I (.pair I .unit)), 0)], fun x => base_Lowest x.1 x.2⟩
def j_base_Lowest : TH := mkTH [([], 96, .cond 10, { lv := [⟨none, 5, 0⟩], ps := [(I, 0)], D := ⟨6176⟩ })] []
theorem k_base_Lowest (x : denP e_base_Lowest.ps) : fnT Tryz.prog Hn.hints j_base_Lowest (tabT [e_base_Gcd]) 40 96 (ofPms e_base_Lowest.ps x) e_base_Lowest.rs = e_base_Lowest.F x := by kernel_rfl
theorem o_base_Lowest : EntryOk Tryz.prog Hn.hints Lb e_base_Lowest := entry_ok (tab_cons o_base_Gcd tab_nil) hJ 40 _ _ _ _ k_base_Lowest
def ref04_Contraction (a0 : ((List (List (Int × Int × Unit))) × (List (List (Int × Int × Unit))) × Int × Int × Int × Unit)) : Option (Int × Int × Unit) :=
  (ref04_Inverse a0.2.1).bind fun x1 =>
  (ref04_Product a0.1 x1.2.1).bind fun x2 =>
  (ref04_one (x2.length : Int) (w64 (x1.1 * a0.2.2.2.1))).bind fun x3 =>
  (loopO (fun (s5 : ((List (List (Int × Int × Unit))) × Int)) =>
      bif decide (s5.2 < (x2.length : Int)) then
        (loopO (fun (s7 : ((List (List (Int × Int × Unit))) × Int)) =>
            bif decide (s7.2 < (x2.length : Int)) then
              (idx s7.1 s5.2).bind fun x8 =>
              (idx s7.1 s5.2).bind fun x9 =>
              (idx x9 s7.2).bind fun x10 =>
              (idx x2 s5.2).bind fun x11 =>
              (idx x11 s7.2).bind fun x12 =>
              (idx x2 s5.2).bind fun x13 =>
              (idx x13 s7.2).bind fun x14 =>
              (base_GSub x10 (w64 (a0.2.2.1 * x12.1), w64 (a0.2.2.1 * x14.2.1), ())).bind fun x15 =>
              (idx x8 s7.2).bind fun x16 =>
              (idx s7.1 s5.2).bind fun x17 =>
              (idx x17 s7.2).bind fun x18 =>
              let l19 : (List (Int × Int × Unit)) := List.set x17 s7.2.toNat x15
              let l20 : (List (List (Int × Int × Unit))) := List.set s7.1 s5.2.toNat l19
              some (.inl (l20, w64 (s7.2 + 1)))
            else
              some (.inr s7.1)) (s5.1, 0)).bind fun (p21 : (List (List (Int × Int × Unit)))) =>
        some (.inl (p21, w64 (s5.2 + 1)))
      else
        some (.inr s5.1)) (x3, 0)).bind fun (p22 : (List (List (Int × Int × Unit)))) =>
  (ref04_RowSum p22).bind fun x23 =>
  (base_Lowest x23 (w64 (x1.1 * a0.2.2.2.1))).bind fun x24 =>
  some x24
def e_ref04_Contraction : Entry := ⟨39, [.ty (.pair (.sl (.sl (.pair I (.pair I .unit)))) (.pair (.sl (.sl (.pair I (.pair I .unit)))) (.pair I (.pair I (.pair I .unit)))))], [((.pair I (.pair I .unit)), 0)], fun x => ref04_Contraction x⟩
def j_ref04_Contraction : TH := mkTH [([], 39, .block 0, { lv := [⟨none, 6, 0⟩], ps := [((.sl (.sl (.pair I (.pair I .unit)))), 2)], D := ⟨302231454903657235057088⟩, wr := [⟨0, 3⟩] }),
  ([], 39, .loop 0, { lv := [⟨none, 6, 0⟩, ⟨none, 7, 0⟩], ps := [((.sl (.sl (.pair I (.pair I .unit)))), 2), (I, 0)], D := ⟨302231454903657235057088⟩, wr := [⟨0, 3⟩] }),
  ([], 39, .block 2, { lv := [⟨none, 6, 0⟩], ps := [((.sl (.sl (.pair I (.pair I .unit)))), 2)], D := ⟨302231454903648972177728⟩, wr := [⟨0, 3⟩] }),
  ([], 39, .loop 2, { lv := [⟨none, 6, 0⟩, ⟨none, 8, 0⟩], ps := [((.sl (.sl (.pair I (.pair I .unit)))), 2), (I, 0)], D := ⟨302231454903648972177728⟩, wr := [⟨0, 3⟩], rs := [⟨0, 1⟩], Dn := ⟨302203778032138966794560⟩ })] []
theorem k_ref04_Contraction (x : denP e_ref04_Contraction.ps) : fnT Tryz.prog Hn.hints j_ref04_Contraction (tabT [e_base_GSub, e_base_Lowest, e_ref04_Inverse, e_ref04_Product, e_ref04_RowSum, e_ref04_one]) 40 39 (ofPms e_ref04_Contraction.ps x) e_ref04_Contraction.rs = e_ref04_Contraction.F x := by kernel_rfl
theorem o_ref04_Contraction : EntryOk Tryz.prog Hn.hints Lb e_ref04_Contraction := entry_ok (tab_cons o_base_GSub (tab_cons o_base_Lowest (tab_cons o_ref04_Inverse (tab_cons o_ref04_Product (tab_cons o_ref04_RowSum (tab_cons o_ref04_one tab_nil)))))) hJ 40 _ _ _ _ k_ref04_Contraction
def base_IsSmall (a0 : (Int × Int × Unit)) : Option Bool :=
  ((base_Within a0.1 (-1000000000 : Int) (1000000000 : Int)).bind fun x1 =>
    bif x1 then
      (base_Within a0.2.1 (1 : Int) (1000000000 : Int)).bind fun x2 =>
      some x2
    else
      some false).bind fun (p3 : Bool) =>
  some p3
def e_base_IsSmall : Entry := ⟨40, [.ty (.pair I (.pair I .unit))], [(.bool, 0)], fun x => base_IsSmall x⟩
def j_base_IsSmall : TH := mkTH [([], 40, .region 1, { lv := [⟨none, 2, 0⟩], ps := [(.bool, 0)], D := ⟨2044⟩, rs := [⟨0, 1⟩], Dn := ⟨1908⟩ })] []
theorem k_base_IsSmall (x : denP e_base_IsSmall.ps) : fnT Tryz.prog Hn.hints j_base_IsSmall (tabT [e_base_Within]) 40 40 (ofPms e_base_IsSmall.ps x) e_base_IsSmall.rs = e_base_IsSmall.F x := by kernel_rfl
theorem o_base_IsSmall : EntryOk Tryz.prog Hn.hints Lb e_base_IsSmall := entry_ok (tab_cons o_base_Within tab_nil) hJ 40 _ _ _ _ k_base_IsSmall
def law04_DriveContractions (a0 : ((List (List (Int × Int × Unit))) × (List (List (Int × Int × Unit))) × Int × Int × Int × Unit)) : Option Bool :=
  (law04_awake).bind fun x1 =>
  bif !x1 then
    some false
  else
    (law04_fewRig (a0.1, a0.2.1, a0.2.2.1, a0.2.2.2.1, a0.2.2.2.2.1, ())).bind fun x2 =>
    bif !x2 then
      some true
    else
      (ref04_CopyRig (a0.1, a0.2.1, a0.2.2.1, a0.2.2.2.1, a0.2.2.2.2.1, ())).bind fun x3 =>
      (drive_ContractionOf x3).bind fun x4 =>
      (ref04_RigErr (a0.1, a0.2.1, a0.2.2.1, a0.2.2.2.1, a0.2.2.2.2.1, ())).bind fun x5 =>
      bif !(decide (x5 = 0)) then
        (bif decide (x4.2 = x5) then
            let v6 : Bool := (bif decide (x4.1.1 = 0) then (bif decide (x4.1.2.1 = 0) then true else false) else false)
            some v6
          else
            some false).bind fun (p7 : Bool) =>
        some p7
      else
        (ref04_Contraction (a0.1, a0.2.1, a0.2.2.1, a0.2.2.2.1, a0.2.2.2.2.1, ())).bind fun x8 =>
        ((base_IsSmall x8).bind fun x9 =>
          bif x9 then
            bif !(decide (x4.2 = 0)) then
              some true
            else
              let v10 : Bool := !(bif decide (x4.1.1 = x8.1) then (bif decide (x4.1.2.1 = x8.2.1) then true else false) else false)
              bif v10 then
                some true
              else
                (base_IsSmall x8).bind fun x11 =>
                bif !x11 then
                  bif !(decide (x4.2 = 8)) then
                    some true
                  else
                    let v12 : Bool := !(bif decide (x4.1.1 = 0) then (bif decide (x4.1.2.1 = 0) then true else false) else false)
                    some v12
                else
                  some false
          else
            (base_IsSmall x8).bind fun x13 =>
            bif !x13 then
              bif !(decide (x4.2 = 8)) then
                some true
              else
                let v14 : Bool := !(bif decide (x4.1.1 = 0) then (bif decide (x4.1.2.1 = 0) then true else false) else false)
                some v14
            else
              some false).bind fun (p15 : Bool) =>
        bif p15 then
          some false
        else
          (ref04_CopyMatrix a0.2.1).bind fun x16 =>
          (ref04_CopyMatrix a0.2.1).bind fun x17 =>
          (drive_ContractionOf (x16, x17, 1, 1, 0, ())).bind fun x18 =>
          (bif decide (x18.2 = 0) then
              let v19 : Bool := (bif decide (x18.1.1 = 0) then (bif decide (x18.1.2.1 = 1) then true else false) else false)
              some v19
            else
              some false).bind fun (p20 : Bool) =>
          some p20
def e_law04_DriveContractions : Entry := ⟨6, [.ty (.pair (.sl (.sl (.pair I (.pair I .unit)))) (.pair (.sl (.sl (.pair I (.pair I .unit)))) (.pair I (.pair I (.pair I .unit)))))], [(.bool, 0)], fun x => law04_DriveContractions x⟩
def j_law04_DriveContractions : TH := mkTH [([], 6, .region 8, { lv := [⟨none, 2, 0⟩], ps := [(.bool, 0)], D := ⟨8556380164⟩ }),
  ([], 6, .region 10, { lv := [⟨none, 59, 0⟩], ps := [(.bool, 0)], D := ⟨1152921470247108608⟩ }),
  ([], 6, .region 14, { lv := [⟨none, 2, 0⟩], ps := [(.bool, 0)], D := ⟨1199481086648889884278788⟩ })] []
theorem k_law04_DriveContractions (x : denP e_law04_DriveContractions.ps) : fnT Tryz.prog Hn.hints j_law04_DriveContractions (tabT [e_base_IsSmall, e_drive_ContractionOf, e_law04_awake, e_law04_fewRig, e_ref04_Contraction, e_ref04_CopyMatrix, e_ref04_CopyRig, e_ref04_RigErr]) 40 6 (ofPms e_law04_DriveContractions.ps x) e_law04_DriveContractions.rs = e_law04_DriveContractions.F x := by kernel_rfl
theorem o_law04_DriveContractions : EntryOk Tryz.prog Hn.hints Lb e_law04_DriveContractions := entry_ok (tab_cons o_base_IsSmall (tab_cons o_drive_ContractionOf (tab_cons o_law04_awake (tab_cons o_law04_fewRig (tab_cons o_ref04_Contraction (tab_cons o_ref04_CopyMatrix (tab_cons o_ref04_CopyRig (tab_cons o_ref04_RigErr tab_nil)))))))) hJ 40 _ _ _ _ k_law04_DriveContractions
end
end Go.Proofs.YtbcdgfgacigaoaaGreat
end
section
set_option linter.unusedVariables false
set_option linter.unusedSimpArgs false
namespace Go.Proofs.YtbcdgfgacigaoaaGreat.Mat
open Go Go.Ab Go.Tx Go.Proofs.YtbcdgfgacigaoaaGreat
theorem wid {n : Int} (h1 : -9223372036854775808 ≤ n) (h2 : n ≤ 9223372036854775807) : w64 n = n := wrap_id h1 h2
theorem Within_ok (a b c : Int) : base_Within a b c = some (decide (b ≤ a ∧ a ≤ c)) := by
  unfold base_Within
  by_cases h : b ≤ a <;> simp [h]
theorem within_ok (a b c : Int) : drive_within a b c = some (decide (b ≤ a ∧ a ≤ c)) := by
  unfold drive_within
  by_cases h : b ≤ a <;> simp [h]
theorem isSized_ok (a k : Int) (h0 : 0 ≤ k) (h1 : k ≤ 4611686018427387904) : drive_isSized a k = some (decide (-k ≤ a ∧ a ≤ k)) := by
  unfold drive_isSized
  rw [within_ok, wid (by omega) (by omega)]
  simp
theorem unless_eq (b : Bool) (e : Int) : drive_unless b e = some (if b then 0 else e) := by cases b <;> rfl
theorem first_eq (l : List Int) (h : l.length ≤ 1000000000) : drive_first l = some (fst0 l) := by
  unfold drive_first
  rw [for_first l h]
instance (B : Int) (z : G) : Decidable (Bd B z) := inferInstanceAs (Decidable (_ ∧ _))
theorem whole_isSized_ok (z : G) (k : Int) (h0 : 0 ≤ k) (h1 : k ≤ 4611686018427387904) : drive_whole_isSized z k = some (decide (Bd k z)) := by
  unfold drive_whole_isSized
  rw [isSized_ok _ _ h0 h1, isSized_ok _ _ h0 h1]
  unfold Bd
  by_cases c : -k ≤ z.1 ∧ z.1 ≤ k <;> simp [c]
theorem refIsSized_ok (z : G) (k : Int) (h0 : 0 ≤ k) (h1 : k ≤ 4611686018427387904) : ref04_isSized z k = some (decide (Bd k z)) := by
  unfold ref04_isSized
  rw [wid (by omega) (by omega), Within_ok, Within_ok]
  unfold Bd
  have e : (0 : Int) - k = -k := by omega
  rw [e]
  by_cases c : -k ≤ z.1 ∧ z.1 ≤ k <;> simp [c]
def badZ (B : Int) (z : G) : Bool := !(decide (Bd B z))
def rowE (n : Nat) (i : Nat) (r : List G) : Option (Int × Int) := if r.length = n then (if r.any (badZ 20) then some ((i : Int), 2) else none) else some ((i : Int), 10)
def chkM (m : Mx) : Int × Int := if m.length = 0 then (0, 10) else if 3 < m.length then (0, 8) else (findI (rowE m.length) 0 m).getD (0, 0)
def matE (m : Mx) : Int := (chkM m).2
theorem contains_ok (r : List G) (h : r.length ≤ 1000000000) : slices_ContainsFunc_Lapi_Gauss_api_Gauss_of_drive_CheckMatrix_1 r = some (r.any (badZ 20)) := by
  unfold slices_ContainsFunc_Lapi_Gauss_api_Gauss_of_drive_CheckMatrix_1 slices_IndexFunc_Lapi_Gauss_api_Gauss_of_drive_CheckMatrix_1
  refine for_any r drive_CheckMatrix_1 (badZ 20) (fun x _ => ?_) h
  unfold drive_CheckMatrix_1
  rw [whole_isSized_ok _ _ (by omega) (by omega)]; rfl
theorem CheckMatrix_ok {m : Mx} (h : m.length ≤ 1000000000) (hr : ∀ r ∈ m, r.length ≤ 1000000000) : drive_CheckMatrix m = some (chkM m) := by
  unfold drive_CheckMatrix chkM
  simp only [unless_eq, Option.bind_some]
  rw [first_eq _ (by simp)]
  simp only [Option.bind_some]
  by_cases h0 : m.length = 0
  · have h0' : ¬ ((m.length : Int) > 0) := by omega
    simp [h0, fst0]
  · have h0' : (m.length : Int) > 0 := by omega
    by_cases h4 : 3 < m.length
    · have h4' : ¬ ((m.length : Int) ≤ 3) := by omega
      simp [h0, h0', h4, h4', fst0]
    · have h4' : (m.length : Int) ≤ 3 := by omega
      simp only [h0, h0', h4, h4', decide_true, if_true, if_false, fst0, Bool.not_true, cond_false]
      rw [for_find m _ (rowE m.length) (fun i r hi => ?_), elim_toSum]
      · cases findI (rowE m.length) 0 m <;> rfl
      · have hlt := len_lt hi
        rw [idx_of hi]
        simp only [Option.bind_some]
        rw [contains_ok r (hr r (List.mem_of_getElem? hi))]
        simp only [Option.bind_some]
        rw [first_eq _ (by simp), wid (by omega) (by omega)]
        simp only [Option.bind_some]
        unfold rowE
        by_cases c : r.length = m.length
        · have c' : (r.length : Int) = (m.length : Int) := by omega
          cases hb : r.any (badZ 20)
          · simp [c, c', hb, fst0, stp]
          · simp [c, c', hb, fst0, stp]
        · have c' : ¬ (r.length : Int) = (m.length : Int) := by omega
          simp [c, c', fst0, stp]
theorem refCheckMatrix_ok {m : Mx} (h : m.length ≤ 1000000000) (hr : ∀ r ∈ m, r.length ≤ 1000000000) : ref04_CheckMatrix m = some (chkM m) := by
  unfold ref04_CheckMatrix chkM
  by_cases h0 : m.length = 0
  · simp [h0]
  have h0' : ¬ ((m.length : Int) = 0) := by omega
  by_cases h4 : 3 < m.length
  · have h4' : (m.length : Int) > 3 := by omega
    simp [h0, h0', h4, h4']
  have h4' : ¬ ((m.length : Int) > 3) := by omega
  simp only [h0, h0', h4, h4', decide_false, cond_false, if_false]
  rw [for_find m _ (rowE m.length) (fun i r hi => ?_), elim_toSum]
  · cases findI (rowE m.length) 0 m <;> rfl
  · have hlt := len_lt hi
    have hrl := hr r (List.mem_of_getElem? hi)
    rw [idx_of hi]
    simp only [Option.bind_some]
    unfold rowE
    by_cases c : r.length = m.length
    case neg =>
      have c' : ¬ (r.length : Int) = (m.length : Int) := by omega
      simp [c, c', stp]
    have c' : decide ((r.length : Int) = (m.length : Int)) = true := decide_eq_true (by omega)
    simp only [c', Bool.not_true, cond_false]
    rw [if_pos c]
    rw [for_find r _ (fun _ z => if badZ 20 z then some (Sum.inr (Sum.inr ((i : Int), (2 : Int))) : Int ⊕ (Unit ⊕ (Int × Int))) else none) (fun k z hk => ?_), elim_toSum]
    · cases hf : findI (fun _ z => if badZ 20 z then some (Sum.inr (Sum.inr ((i : Int), (2 : Int))) : Int ⊕ (Unit ⊕ (Int × Int))) else none) 0 r with
      | none =>
        rw [findI_none] at hf
        have hb : r.any (badZ 20) = false := by
          rw [List.any_eq_false]
          intro x hx
          obtain ⟨k, hk⟩ := List.mem_iff_getElem?.1 hx
          have := hf k x hk
          simpa using this
        simp only [hb, Bool.false_eq_true, if_false, stp]
        rw [wid (by omega) (by omega)]
      | some q =>
        obtain ⟨k, z, h1, h2, _⟩ := findI_some hf
        have hp : badZ 20 z = true := by
          cases hp : badZ 20 z
          · simp [hp] at h2
          · rfl
        have hb : r.any (badZ 20) = true := List.any_eq_true.2 ⟨z, List.mem_of_getElem? h1, hp⟩
        simp only [hp, if_true, Option.some.injEq] at h2
        simp only [hb, if_true, stp, ← h2]
    · have hlk := len_lt hk
      simp only [Option.bind_some, idx_of hk]
      rw [refIsSized_ok _ _ (by omega) (by omega)]
      simp only [Option.bind_some]
      rw [wid (by omega) (by omega)]
      unfold badZ
      by_cases d : Bd 20 z <;> simp [d, stp]
theorem matrixErr_ok {m : Mx} (h : m.length ≤ 1000000000) (hr : ∀ r ∈ m, r.length ≤ 1000000000) : drive_matrixErr m = some (matE m) := by
  unfold drive_matrixErr; rw [CheckMatrix_ok h hr]; rfl
theorem MatrixErr_ok {m : Mx} (h : m.length ≤ 1000000000) (hr : ∀ r ∈ m, r.length ≤ 1000000000) : ref04_MatrixErr m = some (matE m) := by
  unfold ref04_MatrixErr; rw [refCheckMatrix_ok h hr]; rfl
theorem mat_ok {m : Mx} (h : matE m = 0) : 1 ≤ m.length ∧ m.length ≤ 3 ∧ Rect m.length m.length m ∧ BdM 20 m := by
  unfold matE chkM at h
  split at h
  · cases h
  · rename_i h1
    split at h
    · cases h
    · rename_i h2
      have hn : findI (rowE m.length) 0 m = none := by
        cases hf : findI (rowE m.length) 0 m with
        | none => rfl
        | some r =>
          exfalso
          rw [hf] at h
          obtain ⟨i, a, _, h3, _⟩ := findI_some hf
          unfold rowE at h3
          split at h3
          · split at h3
            · cases h3; cases h
            · cases h3
          · cases h3; cases h
      rw [findI_none] at hn
      have key : ∀ r ∈ m, r.length = m.length ∧ r.any (badZ 20) = false := fun r hr => by
        obtain ⟨i, hi⟩ := List.mem_iff_getElem?.1 hr
        have := hn i r hi
        unfold rowE at this
        split at this
        · rename_i c
          split at this
          · cases this
          · rename_i d; exact ⟨c, by simpa using d⟩
        · cases this
      refine ⟨by omega, by omega, ⟨rfl, fun r hr => (key r hr).1⟩, fun r hr z hz => ?_⟩
      have := List.any_eq_false.1 (key r hr).2 z hz
      unfold badZ at this
      simpa using this
theorem at_ok {n c i k : Nat} (f : Nat → Nat → G) (hi : i < n) (hk : k < c) : drive_matrix_at (mx n c f) (i : Int) (k : Int) = some (f i k) := by
  unfold drive_matrix_at
  rw [idx_of (mx_at f hi), Option.bind_some, idx_of (mkL_get (fun k => f i k) hk)]; rfl
theorem times_ok' {A B : Int} {a b : G} (h : Bd A a) (h' : Bd B b) (hb : 2 * (A * B) ≤ 9000000000000000000) : drive_whole_times a b = some (gmul a b) := congrArg some (mul_w h h' hb)
theorem plus_ok {A B : Int} {a b : G} (h : Bd A a) (h' : Bd B b) (hb : A + B ≤ 9000000000000000000) : drive_whole_plus a b = some (gadd a b) := congrArg some (add_w h h' hb)
theorem GMul_ok {A B : Int} {a b : G} (h : Bd A a) (h' : Bd B b) (hb : 2 * (A * B) ≤ 9000000000000000000) : base_GMul a b = some (gmul a b) := congrArg some (mul_w h h' hb)
theorem GAdd_ok {A B : Int} {a b : G} (h : Bd A a) (h' : Bd B b) (hb : A + B ≤ 9000000000000000000) : base_GAdd a b = some (gadd a b) := congrArg some (add_w h h' hb)
theorem le_next {i n : Nat} {A : Int} (hA : 0 ≤ A) (h : i < n) (hb : (n : Int) * A ≤ 9000000000000000000) : (i : Int) * A + A ≤ 9000000000000000000 := by
  have : ((i + 1 : Nat) : Int) * A ≤ (n : Int) * A := Int.mul_le_mul_of_nonneg_right (by omega) hA
  have e : ((i + 1 : Nat) : Int) * A = (i : Int) * A + A := by rw [Int.natCast_add, Int.add_mul]; simp
  omega
theorem times1_ok {a b c i k : Nat} {A B : Int} {f h : Nat → Nat → G} (hA : 0 ≤ A) (hB : 0 ≤ B) (hf : BdF A a b f) (hh : BdF B b c h) (hb : b ≤ 1000) (hbd : (b : Int) * (2 * (A * B)) ≤ 9000000000000000000) (hb1 : 2 * (A * B) ≤ 9000000000000000000) (hi : i < a) (hk : k < c) :
    drive_matrix_times_1 (i : Int) (k : Int) (mx b c h) (mx a b f) = some (prodF b f h i k) := by
  unfold drive_matrix_times_1
  rw [mx_len]
  have h0 : 0 ≤ 2 * (A * B) := by have := Int.mul_nonneg hA hB; omega
  rw [sum_loop b hb h0 hbd (fun j => gmul (f i j) (h j k)) (fun j hj => (hf i j hi hj).mul (hh j k hj hk)) (fun j hj x y hxy => ?_) (fun x y => ?_)]
  · rfl
  · have e0 : decide ((j : Int) < (b : Int)) = true := decide_eq_true (by omega)
    simp only [e0, cond_true]
    rw [at_ok f hi hj, at_ok h hj hk]
    simp only [Option.bind_some]
    rw [times_ok' (hf i j hi hj) (hh j k hj hk) hb1]
    simp only [Option.bind_some]
    rw [plus_ok hxy ((hf i j hi hj).mul (hh j k hj hk)) (le_next h0 hj hbd)]
    rfl
  · have e0 : decide ((b : Int) < (b : Int)) = false := by simp
    simp only [e0, cond_false]
theorem times_ok {a b c : Nat} {A B : Int} {f h : Nat → Nat → G} (hA : 0 ≤ A) (hB : 0 ≤ B) (hf : BdF A a b f) (hh : BdF B b c h) (ha : a ≤ 1000) (hb : b ≤ 1000) (hb1 : 1 ≤ b) (hc : c ≤ 1000) (hbd : (b : Int) * (2 * (A * B)) ≤ 9000000000000000000) :
    drive_matrix_times (mx a b f) (mx b c h) = some (mx a c (prodF b f h)) := by
  unfold drive_matrix_times drive_made_of_drive_matrix_times_1
  rw [idx_zero, mx_at h (by omega), Option.bind_some, mkL_len, mx_len]
  have h0 : 0 ≤ 2 * (A * B) := by have := Int.mul_nonneg hA hB; omega
  have h1 : 2 * (A * B) ≤ 9000000000000000000 := by
    have := Int.mul_le_mul_of_nonneg_right (show (1 : Int) ≤ b by omega) h0
    omega
  have := made_loop a c ha hc (fun i k => drive_matrix_times_1 i k (mx b c h) (mx a b f)) (prodF b f h) (fun i k hi hk => times1_ok hA hB hf hh hb hbd h1 hi hk)
  show Option.bind _ _ = _
  rw [this]; rfl
theorem Product_ok {a b c : Nat} {A B : Int} {f h : Nat → Nat → G} (hA : 0 ≤ A) (hB : 0 ≤ B) (hf : BdF A a b f) (hh : BdF B b c h) (ha : a ≤ 1000) (hb : b ≤ 1000) (hb1 : 1 ≤ b) (hc : c ≤ 1000) (hbd : (b : Int) * (2 * (A * B)) ≤ 9000000000000000000) :
    ref04_Product (mx a b f) (mx b c h) = some (mx a c (prodF b f h)) := by
  unfold ref04_Product
  rw [mx_len, mx_len]
  have h0 : 0 ≤ 2 * (A * B) := by have := Int.mul_nonneg hA hB; omega
  have h1 : 2 * (A * B) ≤ 9000000000000000000 := by
    have := Int.mul_le_mul_of_nonneg_right (show (1 : Int) ≤ b by omega) h0
    omega
  rw [for_mk a (fun i => mkL c fun k => prodF b f h i k) (fun i hi => ?_) ?_]
  · rfl
  · have e0 : decide ((a : Int) < (a : Int)) = false := by simp
    simp only [e0, cond_false]
  · have e0 : decide ((i : Int) < (a : Int)) = true := decide_eq_true (by omega)
    simp only [e0, cond_true]
    rw [for_mk c (fun k => prodF b f h i k) (fun k hk => ?_) ?_]
    · simp only [Option.bind_some]
      rw [app_one (by rw [mkL_len]; omega)]
      simp only [Option.bind_some]
      rw [wid (by omega) (by omega)]
    · have e1 : decide ((c : Int) < (c : Int)) = false := by simp
      rw [idx_zero, mx_at h (by omega)]
      simp only [Option.bind_some, mkL_len, e1, cond_false]
    · have e1 : decide ((k : Int) < (c : Int)) = true := decide_eq_true (by omega)
      rw [idx_zero, mx_at h (by omega)]
      simp only [Option.bind_some, mkL_len, e1, cond_true]
      rw [sum_loop b hb h0 hbd (fun j => gmul (f i j) (h j k)) (fun j hj => (hf i j hi hj).mul (hh j k hj hk)) (fun j hj x y hxy => ?_) (fun x y => ?_)]
      · simp only [Option.bind_some]
        rw [app_one (by rw [mkL_len]; omega)]
        simp only [Option.bind_some]
        rw [wid (by omega) (by omega)]
        rfl
      · have e0 : decide ((j : Int) < (b : Int)) = true := decide_eq_true (by omega)
        simp only [e0, cond_true]
        rw [idx_of (mx_at f hi), Option.bind_some, idx_of (mkL_get (fun k => f i k) hj), Option.bind_some, idx_of (mx_at h hj), Option.bind_some, idx_of (mkL_get (fun k => h j k) hk), Option.bind_some]
        rw [GMul_ok (hf i j hi hj) (hh j k hj hk) h1]
        simp only [Option.bind_some]
        rw [GAdd_ok hxy ((hf i j hi hj).mul (hh j k hj hk)) (le_next h0 hj hbd)]
        rfl
      · have e0 : decide ((b : Int) < (b : Int)) = false := by simp
        simp only [e0, cond_false]
theorem without_ok {n c : Nat} (hn : n ≤ 1000) (f : Nat → Nat → G) (hc : c < n + 1) : drive_matrix_without (mx (n + 1) (n + 1) f) 0 (c : Int) = some (mx n n (minor f 0 c)) := by
  unfold drive_matrix_without
  rw [mx_len]
  refine Ok.eq ?_
  rw [ok_bind]
  refine (loop_up (n + 1) (fun i (s : Mx × Int) => s = (mkL (i - 1) (fun j => mkL n fun k => minor f 0 c j k), (i : Int))) (fun r => r = mx n n (minor f 0 c)) rfl ?_).mono (fun a ha => by rw [ha]; exact ok_some.2 rfl)
  rintro i s hi rfl
  by_cases hlt : i < n + 1
  · have e0 : decide ((i : Int) < ((n + 1 : Nat) : Int)) = true := decide_eq_true (by omega)
    simp only [e0, cond_true]
    rw [idx_of (mx_at f hlt)]
    simp only [Option.bind_some]
    by_cases hz : i = 0
    · subst hz
      simp only [Int.ofNat_eq_natCast, Int.natCast_zero, decide_true, Bool.not_true, cond_false, Option.bind_some]
      rw [wid (by omega) (by omega), rnd_inl]
      exact ⟨by omega, rfl⟩
    · have e1 : decide ((i : Int) = 0) = false := decide_eq_false (by omega)
      simp only [e1, Bool.not_false, cond_true]
      rw [slc_in (by rw [mkL_len]; omega)]
      simp only [Option.bind_some, decide_true, cond_true]
      rw [wid (n := (c : Int) + 1) (by omega) (by omega), slc_in (by rw [mkL_len]; omega)]
      simp only [Option.bind_some, mkL_len]
      have e2 : ((c : Int) + 1).toNat = c + 1 := by omega
      have e3 : ((n + 1 : Nat) : Int).toNat = n + 1 := by omega
      have e4 : (0 : Int).toNat = 0 := rfl
      rw [e2, e3, e4, Int.toNat_natCast, app_in (by simp [mkL_len]; omega)]
      simp only [Option.bind_some]
      rw [mkL_cut (fun k => f i k) hc, app_one (by rw [mkL_len]; omega)]
      simp only [Option.bind_some]
      rw [wid (by omega) (by omega), rnd_inl]
      refine ⟨hlt, ?_⟩
      have e5 : i + 1 - 1 = (i - 1) + 1 := by omega
      rw [e5, mkL_succ]
      congr 1
      congr 2
      refine mkL_congr fun k hk => ?_
      unfold minor
      congr 1
      all_goals (unfold skip; rw [if_neg (by omega)]; omega)
  · have : i = n + 1 := by omega
    subst this
    have e0 : decide (((n + 1 : Nat) : Int) < ((n + 1 : Nat) : Int)) = false := by simp
    simp only [e0, cond_false]
    rw [rnd_inr]
    rfl
theorem refWithout_ok {n c : Nat} (hn : n ≤ 1000) (f : Nat → Nat → G) (hc : c < n + 1) : ref04_without (mx (n + 1) (n + 1) f) 0 (c : Int) = some (mx n n (minor f 0 c)) := by
  unfold ref04_without
  rw [mx_len]
  refine Ok.eq ?_
  rw [ok_bind]
  refine (loop_up (n + 1) (fun i (s : Mx × Int) => s = (mkL (i - 1) (fun j => mkL n fun k => minor f 0 c j k), (i : Int))) (fun r => r = mx n n (minor f 0 c)) rfl ?_).mono (fun a ha => by rw [ha]; exact ok_some.2 rfl)
  rintro i s hi rfl
  by_cases hlt : i < n + 1
  · have e0 : decide ((i : Int) < ((n + 1 : Nat) : Int)) = true := decide_eq_true (by omega)
    simp only [e0, cond_true]
    by_cases hz : i = 0
    · subst hz
      simp only [Int.ofNat_eq_natCast, Int.natCast_zero, decide_true, cond_true, Option.bind_some]
      rw [wid (by omega) (by omega), rnd_inl]
      exact ⟨by omega, rfl⟩
    · have e1 : decide ((i : Int) = 0) = false := decide_eq_false (by omega)
      simp only [e1, cond_false]
      rw [rnd_bind, ok_bind]
      refine (loop_up (n + 1) (fun k (s : List G × Int) => s = (mkL (if k ≤ c then k else k - 1) (fun k => f i (skip c k)), (k : Int))) (fun r => r = mkL n fun k => f i (skip c k)) ?_ ?_).mono ?_
      · simp [mkL_zero]
      · rintro k s hk rfl
        by_cases hlt2 : k < n + 1
        · have e2 : decide ((k : Int) < ((n + 1 : Nat) : Int)) = true := decide_eq_true (by omega)
          simp only [e2, cond_true]
          by_cases hkc : k = c
          · subst hkc
            simp only [decide_true, Bool.not_true, cond_false, Option.bind_some]
            rw [wid (by omega) (by omega), rnd_inl]
            refine ⟨hlt2, ?_⟩
            rw [if_pos (by omega), if_neg (by omega)]
            rfl
          · have e3 : decide ((k : Int) = (c : Int)) = false := decide_eq_false (by omega)
            simp only [e3, Bool.not_false, cond_true]
            rw [idx_of (mx_at f hlt)]
            simp only [Option.bind_some]
            rw [idx_of (mkL_get (fun k => f i k) hlt2)]
            simp only [Option.bind_some]
            rw [app_one (by rw [mkL_len]; split <;> omega)]
            simp only [Option.bind_some]
            rw [wid (by omega) (by omega), rnd_inl]
            refine ⟨hlt2, ?_⟩
            congr 1
            by_cases hkl : k < c
            · rw [if_pos (by omega), if_pos (by omega), mkL_succ]
              congr 3
              unfold skip; rw [if_pos hkl]
            · rw [if_neg (by omega), if_neg (by omega)]
              have e5 : k + 1 - 1 = (k - 1) + 1 := by omega
              rw [e5, mkL_succ]
              congr 3
              unfold skip; rw [if_neg (by omega)]; omega
        · have : k = n + 1 := by omega
          subst this
          have e2 : decide (((n + 1 : Nat) : Int) < ((n + 1 : Nat) : Int)) = false := by simp
          simp only [e2, cond_false]
          rw [rnd_inr, if_neg (by omega)]
          rfl
      · rintro r rfl
        rw [app_one (by rw [mkL_len]; omega)]
        simp only [Option.bind_some]
        rw [ok_some, wid (by omega) (by omega), rnd_inl]
        refine ⟨hlt, ?_⟩
        have e5 : i + 1 - 1 = (i - 1) + 1 := by omega
        rw [e5, mkL_succ]
        congr 1
        congr 2
        refine mkL_congr fun k hk => ?_
        unfold minor
        congr 1
        all_goals (unfold skip; rw [if_neg (by omega)]; omega)
  · have : i = n + 1 := by omega
    subst this
    have e0 : decide (((n + 1 : Nat) : Int) < ((n + 1 : Nat) : Int)) = false := by simp
    simp only [e0, cond_false]
    rw [rnd_inr]
    rfl
theorem dB_mono {B : Int} (hB : 1 ≤ B) (n : Nat) : dB B n ≤ dB B (n + 1) := by
  have e : dB B (n + 1) = ((n + 1 : Nat) : Int) * (2 * (B * dB B n)) := rfl
  rw [e]
  have h0 := dB_nonneg (show 0 ≤ B by omega) n
  have h1 : dB B n ≤ B * dB B n := by
    have := Int.mul_le_mul_of_nonneg_right hB h0; omega
  have h2 : (1 : Int) * (2 * (B * dB B n)) ≤ ((n + 1 : Nat) : Int) * (2 * (B * dB B n)) := Int.mul_le_mul_of_nonneg_right (by omega) (by omega)
  omega
theorem det_ok {B : Int} (hB : 1 ≤ B) : ∀ (k n : Nat) (f : Nat → Nat → G), n ≤ 100 → n < k → BdF B n n f → dB B n ≤ 9000000000000000000 → drive_matrix_determinant_n k (mx n n f) = some (detF n f)
  | 0, n, f, _, h, _, _ => by omega
  | k + 1, 0, f, _, _, _, _ => rfl
  | k + 1, n + 1, f, hn, hk, hf, hb => by
    have hB0 : 0 ≤ B := by omega
    have hD0 := dB_nonneg hB0 n
    have h0 : 0 ≤ 2 * (B * dB B n) := by have := Int.mul_nonneg hB0 hD0; omega
    have hDn : dB B n ≤ 9000000000000000000 := by have := dB_mono hB n; omega
    have hb1 : 2 * (B * dB B n) ≤ 9000000000000000000 := by
      have h9 : (1 : Int) * (2 * (B * dB B n)) ≤ ((n + 1 : Nat) : Int) * (2 * (B * dB B n)) := Int.mul_le_mul_of_nonneg_right (by omega) h0
      simp only [dB] at hb
      omega
    have hunf : drive_matrix_determinant_n (k + 1) (mx (n + 1) (n + 1) f) = (bif decide (((mx (n + 1) (n + 1) f).length : Int) = 0) then some (1, 0, ()) else
      (loopO (fun (s2 : (Int × Int × Int)) =>
        bif decide (s2.1 < ((mx (n + 1) (n + 1) f).length : Int)) then
          (drive_matrix_at (mx (n + 1) (n + 1) f) (0 : Int) s2.1).bind fun x3 =>
          (drive_matrix_without (mx (n + 1) (n + 1) f) (0 : Int) s2.1).bind fun x4 =>
          (drive_matrix_determinant_n k x4).bind fun x5 =>
          (drive_whole_times x3 x5).bind fun x6 =>
          (bif decide (s2.1.tmod 2 = 1) then
              (drive_whole_minus (0, 0, ()) x6).bind fun x7 =>
              some (x7.1, x7.2.1)
            else
              some (x6.1, x6.2.1)).bind fun (p8 : (Int × Int)) =>
          (drive_whole_plus (s2.2.1, s2.2.2, ()) (p8.1, p8.2, ())).bind fun x9 =>
          some (.inl (w64 (s2.1 + 1), x9.1, x9.2.1))
        else
          some (.inr (s2.2.1, s2.2.2))) (0, 0, 0)).bind fun (p10 : (Int × Int)) =>
      some (p10.1, p10.2, ())) := rfl
    rw [hunf, mx_len]
    have e0 : decide (((n + 1 : Nat) : Int) = 0) = false := decide_eq_false (by omega)
    rw [e0, cond_false]
    have htb : ∀ j, j < n + 1 → Bd (2 * (B * dB B n)) (gmul (f 0 j) (detF n (minor f 0 j))) := fun j hj => (hf 0 j (by omega) hj).mul (detF_bd hB0 n _ (minor_bd hf))
    rw [sum_loop (n + 1) (by omega) h0 hb (fun j => if j % 2 = 1 then gneg (gmul (f 0 j) (detF n (minor f 0 j))) else gmul (f 0 j) (detF n (minor f 0 j)))
      (fun j hj => by split; · exact (htb j hj).neg
                      · exact htb j hj) (fun j hj x y hxy => ?_) (fun x y => ?_)]
    · rfl
    · have e1 : decide ((j : Int) < ((n + 1 : Nat) : Int)) = true := decide_eq_true (by omega)
      simp only [e1, cond_true]
      have hat := at_ok (n := n + 1) (c := n + 1) f (i := 0) (k := j) (by omega) hj
      simp only [Int.natCast_zero] at hat
      rw [hat]
      simp only [Option.bind_some]
      rw [without_ok (by omega) f hj]
      simp only [Option.bind_some]
      rw [det_ok hB k n _ (by omega) (by omega) (minor_bd hf) hDn]
      simp only [Option.bind_some]
      rw [times_ok' (hf 0 j (by omega) hj) (detF_bd hB0 n _ (minor_bd (r := 0) (c := j) hf)) hb1]
      simp only [Option.bind_some]
      have htm : (j : Int).tmod 2 = ((j % 2 : Nat) : Int) := by rw [Int.tmod_eq_emod_of_nonneg (by omega)]; omega
      rw [htm]
      by_cases hp : j % 2 = 1
      · have e2 : decide (((j % 2 : Nat) : Int) = 1) = true := decide_eq_true (by omega)
        rw [e2, cond_true, if_pos hp]
        have hm : drive_whole_minus (0, 0, ()) (gmul (f 0 j) (detF n (minor f 0 j))) = some (gneg (gmul (f 0 j) (detF n (minor f 0 j)))) := by
          have := sub_w (a := g0) (bd_zero (B := 0) (by omega)) (htb j hj) (by omega)
          rw [gzero_sub] at this
          exact congrArg some this
        rw [hm]
        simp only [Option.bind_some, geta]
        rw [plus_ok hxy (htb j hj).neg (le_next h0 hj hb)]
        rfl
      · have e2 : decide (((j % 2 : Nat) : Int) = 1) = false := decide_eq_false (by omega)
        rw [e2, cond_false, if_neg hp]
        simp only [Option.bind_some, geta]
        rw [plus_ok hxy (htb j hj) (le_next h0 hj hb)]
        rfl
    · have e1 : decide (((n + 1 : Nat) : Int) < ((n + 1 : Nat) : Int)) = false := by simp
      simp only [e1, cond_false]
theorem Mod2_ok (n : Nat) (h : n ≤ 1000000000) : base_Mod (n : Int) 2 = some ((n % 2 : Nat) : Int) := by
  unfold base_Mod
  have e : ((n : Int).tmod 2) = ((n % 2 : Nat) : Int) := by rw [Int.tmod_eq_emod_of_nonneg (by omega)]; omega
  rw [e]
  have e1 : decide ((2 : Int) = 0) = false := by decide
  have e2 : decide (((n % 2 : Nat) : Int) < 0) = false := decide_eq_false (by omega)
  simp only [e1, e2, cond_false, Option.bind_some]
theorem refDet_ok {B : Int} (hB : 1 ≤ B) : ∀ (k n : Nat) (f : Nat → Nat → G), n ≤ 100 → n < k → BdF B n n f → dB B n ≤ 9000000000000000000 → ref04_Determinant_n k (mx n n f) = some (detF n f)
  | 0, n, f, _, h, _, _ => by omega
  | k + 1, 0, f, _, _, _, _ => rfl
  | k + 1, n + 1, f, hn, hk, hf, hb => by
    have hB0 : 0 ≤ B := by omega
    have hD0 := dB_nonneg hB0 n
    have h0 : 0 ≤ 2 * (B * dB B n) := by have := Int.mul_nonneg hB0 hD0; omega
    have hDn : dB B n ≤ 9000000000000000000 := by have := dB_mono hB n; omega
    have hb1 : 2 * (B * dB B n) ≤ 9000000000000000000 := by
      have h9 : (1 : Int) * (2 * (B * dB B n)) ≤ ((n + 1 : Nat) : Int) * (2 * (B * dB B n)) := Int.mul_le_mul_of_nonneg_right (by omega) h0
      simp only [dB] at hb
      omega
    have hunf : ref04_Determinant_n (k + 1) (mx (n + 1) (n + 1) f) = (bif decide (((mx (n + 1) (n + 1) f).length : Int) = 0) then some (1, 0, ()) else
      (loopO (fun (s2 : (Int × Int × Int)) =>
        bif decide (s2.1 < ((mx (n + 1) (n + 1) f).length : Int)) then
          (idx (mx (n + 1) (n + 1) f) 0).bind fun x3 =>
          (idx x3 s2.1).bind fun x4 =>
          (ref04_without (mx (n + 1) (n + 1) f) (0 : Int) s2.1).bind fun x5 =>
          (ref04_Determinant_n k x5).bind fun x6 =>
          (base_GMul x4 x6).bind fun x7 =>
          (base_Mod s2.1 (2 : Int)).bind fun x8 =>
          (bif decide (x8 = 0) then
              (base_GAdd (s2.2.1, s2.2.2, ()) x7).bind fun x9 =>
              some (x9.1, x9.2.1)
            else
              (base_GSub (s2.2.1, s2.2.2, ()) x7).bind fun x10 =>
              some (x10.1, x10.2.1)).bind fun (p11 : (Int × Int)) =>
          some (.inl (w64 (s2.1 + 1), p11.1, p11.2))
        else
          some (.inr (s2.2.1, s2.2.2))) (0, 0, 0)).bind fun (p12 : (Int × Int)) =>
      some (p12.1, p12.2, ())) := rfl
    rw [hunf, mx_len]
    have e0 : decide (((n + 1 : Nat) : Int) = 0) = false := decide_eq_false (by omega)
    rw [e0, cond_false]
    have htb : ∀ j, j < n + 1 → Bd (2 * (B * dB B n)) (gmul (f 0 j) (detF n (minor f 0 j))) := fun j hj => (hf 0 j (by omega) hj).mul (detF_bd hB0 n _ (minor_bd hf))
    rw [sum_loop (n + 1) (by omega) h0 hb (fun j => if j % 2 = 1 then gneg (gmul (f 0 j) (detF n (minor f 0 j))) else gmul (f 0 j) (detF n (minor f 0 j)))
      (fun j hj => by split; · exact (htb j hj).neg
                      · exact htb j hj) (fun j hj x y hxy => ?_) (fun x y => ?_)]
    · rfl
    · have e1 : decide ((j : Int) < ((n + 1 : Nat) : Int)) = true := decide_eq_true (by omega)
      simp only [e1, cond_true]
      rw [idx_zero, mx_at f (by omega)]
      simp only [Option.bind_some]
      rw [idx_of (mkL_get (fun k => f 0 k) hj)]
      simp only [Option.bind_some]
      rw [refWithout_ok (by omega) f hj]
      simp only [Option.bind_some]
      rw [refDet_ok hB k n _ (by omega) (by omega) (minor_bd hf) hDn]
      simp only [Option.bind_some]
      rw [GMul_ok (hf 0 j (by omega) hj) (detF_bd hB0 n _ (minor_bd (r := 0) (c := j) hf)) hb1]
      simp only [Option.bind_some]
      rw [Mod2_ok j (by omega)]
      simp only [Option.bind_some]
      by_cases hp : j % 2 = 1
      · have e2 : decide (((j % 2 : Nat) : Int) = 0) = false := decide_eq_false (by omega)
        rw [e2, cond_false, if_pos hp]
        have hm : base_GSub (x, y, ()) (gmul (f 0 j) (detF n (minor f 0 j))) = some (gadd (x, y, ()) (gneg (gmul (f 0 j) (detF n (minor f 0 j))))) := by
          have := sub_w hxy (htb j hj) (le_next h0 hj hb)
          rw [gsub_eq] at this
          exact congrArg some this
        rw [hm]
        rfl
      · have e2 : decide (((j % 2 : Nat) : Int) = 0) = true := decide_eq_true (by omega)
        rw [e2, cond_true, if_neg hp]
        rw [GAdd_ok hxy (htb j hj) (le_next h0 hj hb)]
        rfl
    · have e1 : decide (((n + 1 : Nat) : Int) < ((n + 1 : Nat) : Int)) = false := by simp
      simp only [e1, cond_false]
end Go.Proofs.YtbcdgfgacigaoaaGreat.Mat
end
section
set_option linter.unusedVariables false
set_option linter.unusedSimpArgs false
namespace Go.Proofs.YtbcdgfgacigaoaaGreat.Mat
open Go Go.Ab Go.Tx Go.Proofs.YtbcdgfgacigaoaaGreat
theorem CopyGausses_ok {l : List G} (h : l.length ≤ 1000000000) : base_CopyGausses l = some l := by
  unfold base_CopyGausses; rw [app_nil (by omega)]; rfl
theorem CopyMatrix_ok {m : Mx} (h : m.length ≤ 1000000000) (hr : ∀ r ∈ m, r.length ≤ 1000000000) : ref04_CopyMatrix m = some m := by
  unfold ref04_CopyMatrix
  rw [for_map m (fun r => r) (fun i a out hi ho => ?_) (fun out ho => ?_)]
  · simp
  · have hlt := len_lt hi
    have e0 : decide ((i : Int) < (m.length : Int)) = true := decide_eq_true (by omega)
    simp only [e0, cond_true, idx_of hi, Option.bind_some]
    rw [CopyGausses_ok (hr a (List.mem_of_getElem? hi))]
    simp only [Option.bind_some]
    rw [app_one (by omega)]
    simp only [Option.bind_some]
    rw [wid (by omega) (by omega)]
  · have e0 : decide ((m.length : Int) < (m.length : Int)) = false := by simp
    simp only [e0, cond_false]
theorem geq_dec (a b : G) : (bif decide (a.1 = b.1) then (bif decide (a.2.1 = b.2.1) then true else false) else false) = decide (a = b) := by
  rw [Bool.eq_iff_iff]
  rw [decide_eq_true_iff, gext_iff]
  by_cases h1 : a.1 = b.1 <;> by_cases h2 : a.2.1 = b.2.1 <;> simp [h1, h2]
def FewM (m : Mx) (rows : Nat) : Prop := m.length ≤ rows ∧ ∀ r ∈ m, r.length ≤ 5
theorem fewOf_ok (m : Mx) (rows : Nat) (h : rows ≤ 1000) : Ok (law04_fewOf m (rows : Int)) fun b => b = true → FewM m rows := by
  unfold law04_fewOf
  by_cases hl : m.length ≤ rows
  case neg =>
    have d : decide ((m.length : Int) > (rows : Int)) = true := decide_eq_true (by omega)
    rw [d, cond_true]; exact ok_some.2 (by simp)
  have d : decide ((m.length : Int) > (rows : Int)) = false := decide_eq_false (by omega)
  rw [d, cond_false, for_find m _ (fun _ r => if r.length ≤ 5 then none else some false) (fun i a hi => ?_), elim_toSum]
  · cases hf : findI (fun _ (r : List G) => if r.length ≤ 5 then none else some false) 0 m with
    | none =>
      rw [findI_none] at hf
      refine ok_some.2 fun _ => ⟨hl, fun r hr => ?_⟩
      obtain ⟨i, hi⟩ := List.mem_iff_getElem?.1 hr
      have := hf i r hi
      simpa using this
    | some r =>
      obtain ⟨i, a, _, h2, _⟩ := findI_some hf
      refine ok_some.2 fun h3 => ?_
      subst h3
      split at h2 <;> cases h2
  · have hlt := len_lt hi
    rw [idx_of hi, wid (by omega) (by omega)]
    simp only [Option.bind_some]
    by_cases c : a.length ≤ 5
    · have d : decide ((a.length : Int) > 5) = false := decide_eq_false (by omega)
      simp only [d, cond_false, c, if_true, stp]
    · have d : decide ((a.length : Int) > 5) = true := decide_eq_true (by omega)
      simp only [d, cond_true, c, if_false, stp]
theorem few_ok (m : Mx) : Ok (law04_few m) fun b => b = true → FewM m 5 := by
  unfold law04_few
  exact Ok.bind (fewOf_ok m 5 (by omega)) fun b hb => ok_some.2 hb
end Go.Proofs.YtbcdgfgacigaoaaGreat.Mat
end
section
set_option linter.unusedVariables false
set_option maxRecDepth 1000000
namespace Go.Tx
open Go
def dd (a b c d e f g h i : G) : G := gadd (gsub (gmul a (gsub (gmul e i) (gmul f h))) (gmul b (gsub (gmul d i) (gmul f g)))) (gmul c (gsub (gmul d h) (gmul e g)))
theorem det1_eq (f : Nat → Nat → G) : detF 1 f = f 0 0 := by
  simp only [detF, sumG]
  exact gext (by simp [gmul, g1, g0, gadd]) (by simp [gmul, g1, g0, gadd])
theorem det2_eq (f : Nat → Nat → G) : detF 2 f = gsub (gmul (f 0 0) (f 1 1)) (gmul (f 0 1) (f 1 0)) := by
  have e0 : detF 1 (minor f 0 0) = f 1 1 := by rw [det1_eq]; rfl
  have e1 : detF 1 (minor f 0 1) = f 1 0 := by rw [det1_eq]; rfl
  have e : detF 2 f = gadd (gadd g0 (gmul (f 0 0) (detF 1 (minor f 0 0)))) (gneg (gmul (f 0 1) (detF 1 (minor f 0 1)))) := rfl
  rw [e, e0, e1, gzero_add, ← gsub_eq]
theorem det3_eq (f : Nat → Nat → G) : detF 3 f = dd (f 0 0) (f 0 1) (f 0 2) (f 1 0) (f 1 1) (f 1 2) (f 2 0) (f 2 1) (f 2 2) := by
  have e0 : detF 2 (minor f 0 0) = gsub (gmul (f 1 1) (f 2 2)) (gmul (f 1 2) (f 2 1)) := by rw [det2_eq]; rfl
  have e1 : detF 2 (minor f 0 1) = gsub (gmul (f 1 0) (f 2 2)) (gmul (f 1 2) (f 2 0)) := by rw [det2_eq]; rfl
  have e2 : detF 2 (minor f 0 2) = gsub (gmul (f 1 0) (f 2 1)) (gmul (f 1 1) (f 2 0)) := by rw [det2_eq]; rfl
  have e : detF 3 f = gadd (gadd (gadd g0 (gmul (f 0 0) (detF 2 (minor f 0 0)))) (gneg (gmul (f 0 1) (detF 2 (minor f 0 1))))) (gmul (f 0 2) (detF 2 (minor f 0 2))) := rfl
  rw [e, e0, e1, e2, gzero_add, ← gsub_eq]
  rfl
theorem prod1 (f h : Nat → Nat → G) (i k : Nat) : prodF 1 f h i k = gmul (f i 0) (h 0 k) := by simp only [prodF, sumG, gzero_add]
theorem prod2 (f h : Nat → Nat → G) (i k : Nat) : prodF 2 f h i k = gadd (gmul (f i 0) (h 0 k)) (gmul (f i 1) (h 1 k)) := by simp only [prodF, sumG, gzero_add]
theorem prod3 (f h : Nat → Nat → G) (i k : Nat) : prodF 3 f h i k = gadd (gadd (gmul (f i 0) (h 0 k)) (gmul (f i 1) (h 1 k))) (gmul (f i 2) (h 2 k)) := by simp only [prodF, sumG, gzero_add]
end Go.Tx
end
section
set_option linter.unusedVariables false
set_option linter.unusedSimpArgs false
namespace Go.Proofs.YtbcdgfgacigaoaaGreat.Mat
open Go Go.Ab Go.Tx Go.Proofs.YtbcdgfgacigaoaaGreat
theorem Size_ok {n : Int} (h : -9223372036854775807 ≤ n ∧ n ≤ 9223372036854775807) : base_Size n = some (n.natAbs : Int) := by
  unfold base_Size
  rw [wid (by omega) (by omega)]
  congr 1; omega
theorem Gcd_ok {a b : Int} (ha : a.natAbs ≤ 4611686018427387904) (hb : b.natAbs ≤ 4611686018427387904) : base_Gcd a b = some (Int.gcd a b : Int) := by
  unfold base_Gcd
  refine Ok.eq ?_
  rw [ok_bind]
  refine (Gcd_loop a b ha hb).mono fun r hr => ?_
  have := gcd_le ha hb
  rw [Size_ok (by omega), Option.bind_some, ok_some, hr]
theorem divisor_ok (l : List Int) (hl : l.length ≤ 1000000000) (hb : ∀ x ∈ l, x.natAbs ≤ 4611686018427387904) : drive_divisor l = some (gcdL l : Int) := by
  unfold drive_divisor; exact divisor_loop l hl hb
theorem without_any {n r c : Nat} (hn : n ≤ 1000) (f : Nat → Nat → G) (hr : r < n + 1) (hc : c < n + 1) : drive_matrix_without (mx (n + 1) (n + 1) f) (r : Int) (c : Int) = some (mx n n (minor f r c)) := by
  unfold drive_matrix_without
  rw [mx_len]
  refine Ok.eq ?_
  rw [ok_bind]
  refine (loop_up (n + 1) (fun i (s : Mx × Int) => s = (mkL (if i ≤ r then i else i - 1) (fun j => mkL n fun k => minor f r c j k), (i : Int))) (fun q => q = mx n n (minor f r c)) (by simp [mkL_zero]) ?_).mono (fun a ha => by rw [ha]; exact ok_some.2 rfl)
  rintro i s hi rfl
  by_cases hlt : i < n + 1
  · have e0 : decide ((i : Int) < ((n + 1 : Nat) : Int)) = true := decide_eq_true (by omega)
    simp only [e0, cond_true]
    rw [idx_of (mx_at f hlt)]
    simp only [Option.bind_some]
    by_cases hz : i = r
    · subst hz
      simp only [decide_true, Bool.not_true, cond_false, Option.bind_some]
      rw [wid (by omega) (by omega), rnd_inl]
      refine ⟨hlt, ?_⟩
      rw [if_pos (Nat.le_refl _), if_neg (by omega)]; rfl
    · have e1 : decide ((i : Int) = (r : Int)) = false := decide_eq_false (by omega)
      simp only [e1, Bool.not_false, cond_true]
      rw [slc_in (by rw [mkL_len]; omega)]
      simp only [Option.bind_some, decide_true, cond_true]
      rw [wid (n := (c : Int) + 1) (by omega) (by omega), slc_in (by rw [mkL_len]; omega)]
      simp only [Option.bind_some, mkL_len]
      have e2 : ((c : Int) + 1).toNat = c + 1 := by omega
      have e3 : ((n + 1 : Nat) : Int).toNat = n + 1 := by omega
      have e4 : (0 : Int).toNat = 0 := rfl
      rw [e2, e3, e4, Int.toNat_natCast, app_in (by simp [mkL_len]; omega)]
      simp only [Option.bind_some]
      rw [mkL_cut (fun k => f i k) hc, app_one (by rw [mkL_len]; split <;> omega)]
      simp only [Option.bind_some]
      rw [wid (by omega) (by omega), rnd_inl]
      refine ⟨hlt, ?_⟩
      congr 1
      by_cases hir : i < r
      · rw [if_pos (by omega), if_pos (by omega), mkL_succ]
        congr 2
        refine mkL_congr fun k hk => ?_
        unfold minor
        rw [show skip r i = i by unfold skip; rw [if_pos hir]]
      · rw [if_neg (by omega), if_neg (by omega)]
        have e5 : i + 1 - 1 = (i - 1) + 1 := by omega
        rw [e5, mkL_succ]
        congr 2
        refine mkL_congr fun k hk => ?_
        unfold minor
        rw [show skip r (i - 1) = i by unfold skip; rw [if_neg (by omega)]; omega]
  · have : i = n + 1 := by omega
    subst this
    have e0 : decide (((n + 1 : Nat) : Int) < ((n + 1 : Nat) : Int)) = false := by simp
    simp only [e0, cond_false]
    rw [rnd_inr, if_neg (by omega)]
    rfl
theorem refWithout_any {n r c : Nat} (hn : n ≤ 1000) (f : Nat → Nat → G) (hr : r < n + 1) (hc : c < n + 1) : ref04_without (mx (n + 1) (n + 1) f) (r : Int) (c : Int) = some (mx n n (minor f r c)) := by
  unfold ref04_without
  rw [mx_len]
  refine Ok.eq ?_
  rw [ok_bind]
  refine (loop_up (n + 1) (fun i (s : Mx × Int) => s = (mkL (if i ≤ r then i else i - 1) (fun j => mkL n fun k => minor f r c j k), (i : Int))) (fun q => q = mx n n (minor f r c)) (by simp [mkL_zero]) ?_).mono (fun a ha => by rw [ha]; exact ok_some.2 rfl)
  rintro i s hi rfl
  by_cases hlt : i < n + 1
  · have e0 : decide ((i : Int) < ((n + 1 : Nat) : Int)) = true := decide_eq_true (by omega)
    simp only [e0, cond_true]
    by_cases hz : i = r
    · subst hz
      simp only [decide_true, cond_true, Option.bind_some]
      rw [wid (by omega) (by omega), rnd_inl]
      refine ⟨hlt, ?_⟩
      rw [if_pos (Nat.le_refl _), if_neg (by omega)]; rfl
    · have e1 : decide ((i : Int) = (r : Int)) = false := decide_eq_false (by omega)
      simp only [e1, cond_false]
      rw [rnd_bind, ok_bind]
      refine (loop_up (n + 1) (fun k (s : List G × Int) => s = (mkL (if k ≤ c then k else k - 1) (fun k => f i (skip c k)), (k : Int))) (fun q => q = mkL n fun k => f i (skip c k)) (by simp [mkL_zero]) ?_).mono ?_
      · rintro k s hk rfl
        by_cases hlt2 : k < n + 1
        · have e2 : decide ((k : Int) < ((n + 1 : Nat) : Int)) = true := decide_eq_true (by omega)
          simp only [e2, cond_true]
          by_cases hkc : k = c
          · subst hkc
            simp only [decide_true, Bool.not_true, cond_false, Option.bind_some]
            rw [wid (by omega) (by omega), rnd_inl]
            refine ⟨hlt2, ?_⟩
            rw [if_pos (Nat.le_refl _), if_neg (by omega)]
            rfl
          · have e3 : decide ((k : Int) = (c : Int)) = false := decide_eq_false (by omega)
            simp only [e3, Bool.not_false, cond_true]
            rw [idx_of (mx_at f hlt)]
            simp only [Option.bind_some]
            rw [idx_of (mkL_get (fun k => f i k) hlt2)]
            simp only [Option.bind_some]
            rw [app_one (by rw [mkL_len]; split <;> omega)]
            simp only [Option.bind_some]
            rw [wid (by omega) (by omega), rnd_inl]
            refine ⟨hlt2, ?_⟩
            congr 1
            by_cases hkl : k < c
            · rw [if_pos (by omega), if_pos (by omega), mkL_succ]
              congr 3
              unfold skip; rw [if_pos hkl]
            · rw [if_neg (by omega), if_neg (by omega)]
              have e5 : k + 1 - 1 = (k - 1) + 1 := by omega
              rw [e5, mkL_succ]
              congr 3
              unfold skip; rw [if_neg (by omega)]; omega
        · have : k = n + 1 := by omega
          subst this
          have e2 : decide (((n + 1 : Nat) : Int) < ((n + 1 : Nat) : Int)) = false := by simp
          simp only [e2, cond_false]
          rw [rnd_inr, if_neg (by omega)]
          rfl
      · rintro q rfl
        rw [app_one (by rw [mkL_len]; split <;> omega)]
        simp only [Option.bind_some]
        rw [ok_some, wid (by omega) (by omega), rnd_inl]
        refine ⟨hlt, ?_⟩
        congr 1
        by_cases hir : i < r
        · rw [if_pos (by omega), if_pos (by omega), mkL_succ]
          congr 2
          refine mkL_congr fun k hk => ?_
          unfold minor
          rw [show skip r i = i by unfold skip; rw [if_pos hir]]
        · rw [if_neg (by omega), if_neg (by omega)]
          have e5 : i + 1 - 1 = (i - 1) + 1 := by omega
          rw [e5, mkL_succ]
          congr 2
          refine mkL_congr fun k hk => ?_
          unfold minor
          rw [show skip r (i - 1) = i by unfold skip; rw [if_neg (by omega)]; omega]
  · have : i = n + 1 := by omega
    subst this
    have e0 : decide (((n + 1 : Nat) : Int) < ((n + 1 : Nat) : Int)) = false := by simp
    simp only [e0, cond_false]
    rw [rnd_inr, if_neg (by omega)]
    rfl
def parts (l : List G) : List Int := l.flatMap fun z => [z.1, z.2.1]
def partsM (m : Mx) : List Int := m.flatMap parts
theorem parts_app (l : List G) (z : G) : parts (l ++ [z]) = parts l ++ [z.1] ++ [z.2.1] := by simp [parts]
theorem partsM_app (m : Mx) (r : List G) : partsM (m ++ [r]) = partsM m ++ parts r := by simp [partsM]
theorem gcdF_app : ∀ (l m : List Int) (g : Nat), gcdF g (l ++ m) = gcdF (gcdF g l) m
  | [], m, g => rfl
  | x :: l, m, g => by simp only [List.cons_append, gcdF]; exact gcdF_app l m _
def qg (den : Int) (m : Mx) : Nat := gcdF den.natAbs (partsM m)
def quotF (g : Int) (f : Nat → Nat → G) (i k : Nat) : G := ((f i k).1.tdiv g, (f i k).2.1.tdiv g, ())
theorem parts_bd {B : Int} {l : List G} (h : ∀ z ∈ l, Bd B z) {x : Int} (hx : x ∈ parts l) : -B ≤ x ∧ x ≤ B := by
  unfold parts at hx
  obtain ⟨z, hz, hx⟩ := List.mem_flatMap.1 hx
  have := h z hz
  unfold Bd at this
  simp only [List.mem_cons, List.not_mem_nil, or_false] at hx
  rcases hx with rfl | rfl <;> omega
theorem partsM_bd {B : Int} {m : Mx} (h : BdM B m) {x : Int} (hx : x ∈ partsM m) : -B ≤ x ∧ x ≤ B := by
  unfold partsM at hx
  obtain ⟨r, hr, hx⟩ := List.mem_flatMap.1 hx
  exact parts_bd (h r hr) hx
theorem qg_le {B : Int} {den : Int} {m : Mx} (h0 : 0 ≤ den) (hd : den ≤ B) (h : BdM B m) : (qg den m : Int) ≤ B := by
  have : qg den m ≤ B.toNat := gcdF_le (by omega) fun x hx => by have := partsM_bd h hx; omega
  omega
theorem qg_pos {den : Int} {m : Mx} (h : den ≠ 0) : 0 < qg den m := by
  rcases Nat.eq_zero_or_pos (qg den m) with h0 | h0
  · have := (gcdF_zero.1 h0).1; omega
  · exact h0
theorem row_gcd {B : Int} (hB : B ≤ 4611686018427387904) {r : List G} (hl : r.length ≤ 1000000) (h : ∀ z ∈ r, Bd B z) {g : Nat} (hg : (g : Int) ≤ B) {K : Nat × Int → Prop} :
    Ok (loopO (fun (s5 : (Int × Int)) =>
            bif decide (s5.1 < (r.length : Int)) then
              (idx r s5.1).bind fun x6 =>
              (drive_divisor ([s5.2, x6.1, x6.2.1])).bind fun x7 =>
              some (.inl (w64 (s5.1 + 1), x7))
            else
              some (.inr s5.2)) (0, (g : Int))) fun x => x = (gcdF g (parts r) : Int) := by
  refine loop_up r.length (fun i (s : Int × Int) => s = ((i : Int), (gcdF g (parts (r.take i)) : Int))) _ rfl ?_
  rintro i s hi rfl
  by_cases hlt : i < r.length
  · have e0 : decide ((i : Int) < (r.length : Int)) = true := decide_eq_true (by omega)
    have hz : r[i]? = some (r.getD i g0) := at_getD _ hlt
    have hb := h _ (getD_mem (d := g0) hlt)
    have hgb : gcdF g (parts (r.take i)) ≤ B.toNat := gcdF_le (by omega) fun x hx => by
      have := parts_bd (fun z hz => h z (List.mem_of_mem_take hz)) hx; omega
    unfold Bd at hb
    simp only [e0, cond_true]
    rw [idx_of hz]
    simp only [Option.bind_some]
    rw [divisor_ok _ (by simp) (by
      intro x hx
      simp only [List.mem_cons, List.not_mem_nil, or_false] at hx
      rcases hx with rfl | rfl | rfl <;> omega)]
    simp only [Option.bind_some]
    rw [wid (by omega) (by omega), rnd_inl]
    refine ⟨hlt, ?_⟩
    congr 2
    rw [take_next g0 hlt, parts_app, gcdF_snoc, gcdF_snoc, gcdL_three]
    rfl
  · have : i = r.length := by omega
    subst this
    have e0 : decide ((r.length : Int) < (r.length : Int)) = false := by simp
    simp only [e0, cond_false]
    rw [rnd_inr, List.take_length]
theorem all_gcd {B den : Int} (hB : B ≤ 4611686018427387904) {m : Mx} (hl : m.length ≤ 1000000) (hr : ∀ r ∈ m, r.length ≤ 1000000) (h : BdM B m) (h0 : 0 ≤ den) (hd : den ≤ B) :
    loopO (fun (s2 : (Int × Int)) =>
      bif decide (s2.1 < (m.length : Int)) then
        (idx m s2.1).bind fun x3 =>
        (loopO (fun (s5 : (Int × Int)) =>
            bif decide (s5.1 < (x3.length : Int)) then
              (idx x3 s5.1).bind fun x6 =>
              (drive_divisor ([s5.2, x6.1, x6.2.1])).bind fun x7 =>
              some (.inl (w64 (s5.1 + 1), x7))
            else
              some (.inr s5.2)) (0, s2.2)).bind fun (p8 : Int) =>
        some (.inl (w64 (s2.1 + 1), p8))
      else
        some (.inr s2.2)) (0, den) = some (qg den m : Int) := by
  refine Ok.eq (loop_up m.length (fun i (s : Int × Int) => s = ((i : Int), (qg den (m.take i) : Int))) _ (by
    have : ((qg den (m.take 0) : Nat) : Int) = den := by simp [qg, partsM, gcdF] <;> omega
    rw [this]; rfl) ?_)
  rintro i s hi rfl
  by_cases hlt : i < m.length
  · have e0 : decide ((i : Int) < (m.length : Int)) = true := decide_eq_true (by omega)
    have hz : m[i]? = some (m.getD i []) := at_getD _ hlt
    have hmem := getD_mem (d := ([] : List G)) hlt
    simp only [e0, cond_true]
    rw [idx_of hz]
    simp only [Option.bind_some]
    rw [rnd_bind]
    refine (row_gcd hB (hr _ hmem) (h _ hmem) (qg_le h0 hd (fun r hr => h r (List.mem_of_mem_take hr))) (K := fun _ => True)).mono ?_
    rintro x rfl
    rw [wid (by omega) (by omega), rnd_inl]
    refine ⟨hlt, ?_⟩
    congr 2
    rw [take_next [] hlt]
    unfold qg
    rw [partsM_app, gcdF_app]
  · have : i = m.length := by omega
    subst this
    have e0 : decide ((m.length : Int) < (m.length : Int)) = false := by simp
    simp only [e0, cond_false]
    rw [rnd_inr, List.take_length]
theorem tdiv_bd {x g B : Int} (h : -B ≤ x ∧ x ≤ B) : -B ≤ x.tdiv g ∧ x.tdiv g ≤ B := by
  have h1 : (x.tdiv g).natAbs ≤ x.natAbs := by rw [Int.natAbs_tdiv]; exact Nat.div_le_self _ _
  omega
def quotQ (n c : Nat) (f : Nat → Nat → G) (den : Int) : Int × Mx × Unit := (den.tdiv (qg den (mx n c f)), mx n c (quotF (qg den (mx n c f)) f), ())
theorem made_q {n c : Nat} (hn : n ≤ 1000) (hc : c ≤ 1000) (m : Mx) (g : Int) (f : Nat → Nat → G) (h : ∀ i k : Nat, i < n → k < c → drive_quotient_1 i k m g = some (f i k)) : drive_made_of_drive_quotient_1 (n : Int) (c : Int) m g = some (mx n c f) := by
  unfold drive_made_of_drive_quotient_1
  exact made_loop n c hn hc (fun i k => drive_quotient_1 i k m g) f h
theorem quotient_ok {n c : Nat} {B den : Int} {f : Nat → Nat → G} (hB : B ≤ 4611686018427387904) (hn : 1 ≤ n) (hn2 : n ≤ 1000) (hc : c ≤ 1000) (h : BdF B n c f) (h0 : 0 < den) (hd : den ≤ B) :
    drive_quotient (mx n c f) den = some (quotQ n c f den) := by
  unfold drive_quotient
  rw [all_gcd hB (by rw [mx_len]; omega) (fun r hr => by rw [(mx_rect n c f).2 r hr]; omega) (bdM_mx.2 h) (by omega) hd]
  simp only [Option.bind_some]
  rw [idx_zero, mx_at f (by omega), Option.bind_some, mkL_len, mx_len]
  have hg : 0 < qg den (mx n c f) := qg_pos (by omega)
  have hgne : decide ((qg den (mx n c f) : Int) = 0) = false := decide_eq_false (by omega)
  have hm := made_q hn2 hc (mx n c f) (qg den (mx n c f)) (quotF (qg den (mx n c f)) f) (fun i k hi hk => by
    unfold drive_quotient_1
    rw [idx_of (mx_at f hi)]
    simp only [Option.bind_some]
    rw [idx_of (mkL_get (fun k => f i k) hk)]
    simp only [Option.bind_some, hgne, cond_false]
    have hb := h i k hi hk
    unfold Bd at hb
    have t1 := tdiv_bd (g := (qg den (mx n c f) : Int)) hb.1
    have t2 := tdiv_bd (g := (qg den (mx n c f) : Int)) hb.2
    rw [wid (by omega) (by omega), wid (by omega) (by omega)]
    rfl)
  rw [hm]
  simp only [Option.bind_some, hgne, cond_false]
  have t3 := tdiv_bd (g := (qg den (mx n c f) : Int)) (B := B) (x := den) (by omega)
  rw [wid (by omega) (by omega)]
  rfl
theorem gcd_two (g : Nat) (a b : Int) : Int.gcd (g : Int) ((Int.gcd a b : Nat) : Int) = Nat.gcd (Nat.gcd g a.natAbs) b.natAbs := by
  simp only [Int.gcd, Int.natAbs_natCast]
  exact (Nat.gcd_assoc g a.natAbs b.natAbs).symm
theorem lowest_ok {n c : Nat} {B den : Int} {f : Nat → Nat → G} (hB : B ≤ 4611686018427387904) (hn2 : n ≤ 1000) (hc : c ≤ 1000) (h : BdF B n c f) (h0 : 0 < den) (hd : den ≤ B) :
    ref04_lowest den (mx n c f) = some (quotQ n c f den) := by
  unfold ref04_lowest
  rw [mx_len]
  have hM := bdM_mx.2 h
  have hgcd : loopO (fun (s2 : (Int × Int)) =>
      bif decide (s2.2 < (n : Int)) then
        (loopO (fun (s4 : (Int × Int)) =>
            (idx (mx n c f) s2.2).bind fun x5 =>
            bif decide (s4.2 < (x5.length : Int)) then
              (idx (mx n c f) s2.2).bind fun x6 =>
              (idx x6 s4.2).bind fun x7 =>
              (idx (mx n c f) s2.2).bind fun x8 =>
              (idx x8 s4.2).bind fun x9 =>
              (base_Gcd x7.1 x9.2.1).bind fun x10 =>
              (base_Gcd s4.1 x10).bind fun x11 =>
              some (.inl (x11, w64 (s4.2 + 1)))
            else
              some (.inr s4.1)) (s2.1, 0)).bind fun (p12 : Int) =>
        some (.inl (p12, w64 (s2.2 + 1)))
      else
        some (.inr s2.1)) (den, 0) = some (qg den (mx n c f) : Int) := by
    refine Ok.eq (loop_up n (fun i (s : Int × Int) => s = ((qg den ((mx n c f).take i) : Int), (i : Int))) _ (by
      have : ((qg den ((mx n c f).take 0) : Nat) : Int) = den := by simp [qg, partsM, gcdF] <;> omega
      rw [this]; rfl) ?_)
    rintro i s hi rfl
    by_cases hlt : i < n
    · have e0 : decide ((i : Int) < (n : Int)) = true := decide_eq_true (by omega)
      simp only [e0, cond_true]
      rw [rnd_bind]
      have hq := qg_le (m := (mx n c f).take i) (by omega : 0 ≤ den) hd (fun r hr => hM r (List.mem_of_mem_take hr))
      refine (loop_up c (fun k (s : Int × Int) => s = ((gcdF (qg den ((mx n c f).take i)) (parts ((mkL c fun k => f i k).take k)) : Int), (k : Int))) (fun q => q = (gcdF (qg den ((mx n c f).take i)) (parts (mkL c fun k => f i k)) : Int)) rfl ?_).mono ?_
      · rintro k s hk rfl
        rw [idx_of (mx_at f hlt)]
        simp only [Option.bind_some, mkL_len]
        by_cases hlt2 : k < c
        · have e1 : decide ((k : Int) < (c : Int)) = true := decide_eq_true (by omega)
          simp only [e1, cond_true]
          rw [idx_of (mkL_get (fun k => f i k) hlt2)]
          simp only [Option.bind_some]
          have hb := h i k hlt hlt2
          have hgb : gcdF (qg den ((mx n c f).take i)) (parts ((mkL c fun k => f i k).take k)) ≤ B.toNat := gcdF_le (by omega) fun x hx => by
            have := parts_bd (B := B) (fun z hz => by
              obtain ⟨j, hj, rfl⟩ := mkL_mem (List.mem_of_mem_take hz)
              exact h i j hlt hj) hx
            omega
          unfold Bd at hb
          rw [Gcd_ok (by omega) (by omega)]
          simp only [Option.bind_some]
          have hg2 : Int.gcd (f i k).1 (f i k).2.1 ≤ B.toNat := gcd_le (by omega) (by omega)
          rw [Gcd_ok (by omega) (by omega)]
          simp only [Option.bind_some]
          rw [wid (by omega) (by omega), rnd_inl]
          refine ⟨hlt2, ?_⟩
          congr 2
          rw [take_next g0 (by rw [mkL_len]; exact hlt2), parts_app, gcdF_snoc, gcdF_snoc, mkL_getD _ _ hlt2, gcd_two]
        · have : k = c := by omega
          subst this
          have e1 : decide ((k : Int) < (k : Int)) = false := by simp
          simp only [e1, cond_false]
          rw [rnd_inr, show (mkL k fun k => f i k).take k = mkL k fun k => f i k from List.take_of_length_le (by rw [mkL_len]; omega)]
      · rintro q rfl
        rw [wid (by omega) (by omega), rnd_inl]
        refine ⟨hlt, ?_⟩
        congr 2
        rw [take_next [] (by rw [mx_len]; exact hlt), mx_row f hlt]
        unfold qg
        rw [partsM_app, gcdF_app]
    · have : i = n := by omega
      subst this
      have e0 : decide ((i : Int) < (i : Int)) = false := by simp
      simp only [e0, cond_false]
      rw [rnd_inr, List.take_of_length_le (by rw [mx_len]; omega)]
  rw [hgcd]
  simp only [Option.bind_some]
  have hg : 0 < qg den (mx n c f) := qg_pos (by omega)
  have hgne : decide ((qg den (mx n c f) : Int) = 0) = false := decide_eq_false (by omega)
  rw [hgne, cond_false]
  have t3 := tdiv_bd (g := (qg den (mx n c f) : Int)) (B := B) (x := den) (by omega)
  rw [wid (n := den.tdiv (qg den (mx n c f))) (by omega) (by omega)]
  refine Ok.eq ?_
  rw [ok_bind]
  refine (loop_up n (fun i (s : Int × Int × Mx) => s = ((i : Int), den.tdiv (qg den (mx n c f)), mkL i fun i => mkL c fun k => quotF (qg den (mx n c f)) f i k)) (fun q => q = (den.tdiv (qg den (mx n c f)), mx n c (quotF (qg den (mx n c f)) f))) rfl ?_).mono (fun a ha => by rw [ha]; exact ok_some.2 rfl)
  rintro i s hi rfl
  by_cases hlt : i < n
  · have e0 : decide ((i : Int) < (n : Int)) = true := decide_eq_true (by omega)
    simp only [e0, cond_true]
    rw [for_mk c (fun k => quotF (qg den (mx n c f)) f i k) (fun k hk => ?_) ?_]
    · simp only [Option.bind_some]
      rw [app_one (by rw [mkL_len]; omega)]
      simp only [Option.bind_some]
      rw [wid (by omega) (by omega), rnd_inl]
      refine ⟨hlt, ?_⟩
      rw [mkL_succ]; rfl
    · have e1 : decide ((c : Int) < (c : Int)) = false := by simp
      rw [idx_of (mx_at f hlt)]
      simp only [Option.bind_some, mkL_len, e1, cond_false]
    · have e1 : decide ((k : Int) < (c : Int)) = true := decide_eq_true (by omega)
      rw [idx_of (mx_at f hlt)]
      simp only [Option.bind_some, mkL_len, e1, cond_true]
      rw [idx_of (mkL_get (fun k => f i k) hk)]
      simp only [Option.bind_some, hgne, cond_false]
      have hb := h i k hlt hk
      unfold Bd at hb
      have t1 := tdiv_bd (g := (qg den (mx n c f) : Int)) hb.1
      have t2 := tdiv_bd (g := (qg den (mx n c f) : Int)) hb.2
      rw [wid (n := (f i k).1.tdiv _) (by omega) (by omega), wid (n := (f i k).2.1.tdiv _) (by omega) (by omega), app_one (by rw [mkL_len]; omega)]
      simp only [Option.bind_some]
      rw [wid (by omega) (by omega)]
      rfl
  · have : i = n := by omega
    subst this
    have e0 : decide ((i : Int) < (i : Int)) = false := by simp
    simp only [e0, cond_false]
    rw [rnd_inr]
    rfl
end Go.Proofs.YtbcdgfgacigaoaaGreat.Mat
end
section
set_option linter.unusedVariables false
set_option linter.unusedSimpArgs false
namespace Go.Proofs.YtbcdgfgacigaoaaGreat.Mat
open Go Go.Ab Go.Tx Go.Proofs.YtbcdgfgacigaoaaGreat
def dC (B : Int) : Nat → Int
  | 0 => 1
  | 1 => B
  | n + 2 => ((n + 2 : Nat) : Int) * (2 * (B * dC B (n + 1)))
theorem detF_bdC {B : Int} (hB : 0 ≤ B) : ∀ (n : Nat) (f : Nat → Nat → G), BdF B n n f → Bd (dC B n) (detF n f)
  | 0, f, _ => bd_one (by simp [dC])
  | 1, f, h => by rw [det1_eq]; exact h 0 0 (by omega) (by omega)
  | n + 2, f, h => by
    simp only [detF, dC]
    refine Bd.sum fun k hk => ?_
    have h1 := (h 0 k (by omega) hk).mul (detF_bdC hB (n + 1) _ (minor_bd (r := 0) (c := k) h))
    split
    · exact h1.neg
    · exact h1
def cofF (n : Nat) (f : Nat → Nat → G) (i k : Nat) : G := detF n (minor f k i)
def adjF (n : Nat) (f : Nat → Nat → G) (i k : Nat) : G := if (i + k) % 2 = 1 then gneg (cofF n f i k) else cofF n f i k
def invT (n : Nat) (f : Nat → Nat → G) (d : G) (i k : Nat) : G := gmul (adjF n f i k) (gconj d)
def norm (d : G) : Int := d.1 * d.1 + d.2.1 * d.2.1
theorem norm_mul (d : G) : gmul d (gconj d) = (norm d, 0, ()) := gext (by simp only [gmul, gconj, norm]; grind) (by simp only [gmul, gconj]; grind)
theorem norm_pos {d : G} (h : d ≠ g0) : 0 < norm d := by
  unfold norm
  have h1 := sq_nonneg d.1
  have h2 := sq_nonneg d.2.1
  rcases Int.lt_or_le 0 (d.1 * d.1 + d.2.1 * d.2.1) with h3 | h3
  · exact h3
  · exfalso
    have e1 := sq_zero (show d.1 * d.1 = 0 by omega)
    have e2 := sq_zero (show d.2.1 * d.2.1 = 0 by omega)
    exact h (gext e1 e2)
theorem conj_ok {B : Int} {d : G} (h : Bd B d) (hB : B ≤ 9000000000000000000) : drive_whole_conj d = some (gconj d) := by
  unfold drive_whole_conj gconj
  unfold Bd at h
  rw [wid (by omega) (by omega)]
  have e : (0 : Int) - d.2.1 = -d.2.1 := by omega
  rw [e]
theorem GConj_ok {B : Int} {d : G} (h : Bd B d) (hB : B ≤ 9000000000000000000) : base_GConj d = some (gconj d) := by
  unfold base_GConj gconj
  unfold Bd at h
  rw [wid (by omega) (by omega)]
  have e : (0 : Int) - d.2.1 = -d.2.1 := by omega
  rw [e]
theorem neg_mul (a b : G) : gmul (gneg a) b = gneg (gmul a b) := gext (by simp only [gmul, gneg]; grind) (by simp only [gmul, gneg]; grind)
theorem minus0_ok {B : Int} {a : G} (h : Bd B a) (hB : B ≤ 9000000000000000000) : drive_whole_minus (0, 0, ()) a = some (gneg a) := by
  have := sub_w (a := g0) (bd_zero (B := 0) (by omega)) h (by omega)
  rw [gzero_sub] at this
  exact congrArg some this
theorem GSub0_ok {B : Int} {a : G} (h : Bd B a) (hB : B ≤ 9000000000000000000) : base_GSub (0, 0, ()) a = some (gneg a) := by
  have := sub_w (a := g0) (bd_zero (B := 0) (by omega)) h (by omega)
  rw [gzero_sub] at this
  exact congrArg some this
theorem tmod2 (j : Nat) : (j : Int).tmod 2 = ((j % 2 : Nat) : Int) := by rw [Int.tmod_eq_emod_of_nonneg (by omega)]; omega
theorem made_inv {n c : Nat} (hn : n ≤ 1000) (hc : c ≤ 1000) (m : Mx) (d : G) (f : Nat → Nat → G) (h : ∀ i k : Nat, i < n → k < c → drive_matrix_inverse_1 i k m d = some (f i k)) : drive_made_of_drive_matrix_inverse_1 (n : Int) (c : Int) m d = some (mx n c f) := by
  unfold drive_made_of_drive_matrix_inverse_1
  exact made_loop n c hn hc (fun i k => drive_matrix_inverse_1 i k m d) f h
structure InvB (n : Nat) (f : Nat → Nat → G) (d : G) (B M D Q : Int) : Prop where
  hB : 1 ≤ B
  hf : BdF B (n + 1) (n + 1) f
  crude : dB B n ≤ 9000000000000000000
  minor : ∀ i k, i < n + 1 → k < n + 1 → Bd M (cofF n f i k)
  hd : Bd D d
  md : 2 * (M * D) ≤ Q
  dd : 2 * (D * D) ≤ 9000000000000000000
  hQ : Q ≤ 4611686018427387904
  M0 : M ≤ 9000000000000000000
  D0 : D ≤ 9000000000000000000
  nq : norm d ≤ Q
  nz : d ≠ g0
theorem InvB.adj {n : Nat} {f : Nat → Nat → G} {d : G} {B M D Q : Int} (h : InvB n f d B M D Q) {i k : Nat} (hi : i < n + 1) (hk : k < n + 1) : Bd M (adjF n f i k) := by
  unfold adjF
  split
  · exact (h.minor i k hi hk).neg
  · exact h.minor i k hi hk
theorem InvB.t {n : Nat} {f : Nat → Nat → G} {d : G} {B M D Q : Int} (h : InvB n f d B M D Q) : BdF Q (n + 1) (n + 1) (invT n f d) := fun i k hi hk => ((h.adj hi hk).mul h.hd.conj).mono h.md
theorem det12 {n : Nat} {f : Nat → Nat → G} {B : Int} (hB : 1 ≤ B) (hn : n ≤ 10) (hf : BdF B n n f) (hb : dB B n ≤ 9000000000000000000) : drive_matrix_determinant (mx n n f) = some (detF n f) := by
  unfold drive_matrix_determinant; exact det_ok hB 12 n f (by omega) (by omega) hf hb
theorem refDet12 {n : Nat} {f : Nat → Nat → G} {B : Int} (hB : 1 ≤ B) (hn : n ≤ 10) (hf : BdF B n n f) (hb : dB B n ≤ 9000000000000000000) : ref04_Determinant (mx n n f) = some (detF n f) := by
  unfold ref04_Determinant; exact refDet_ok hB 12 n f (by omega) (by omega) hf hb
theorem inverse_ok {n : Nat} {f : Nat → Nat → G} {d : G} {B M D Q : Int} (hn : n ≤ 5) (h : InvB n f d B M D Q) :
    drive_matrix_inverse (mx (n + 1) (n + 1) f) d = some (quotQ (n + 1) (n + 1) (invT n f d) (norm d)) := by
  unfold drive_matrix_inverse
  rw [mx_len]
  have h2Q : 2 * (M * D) ≤ 9000000000000000000 := by have := h.md; have := h.hQ; omega
  rw [made_inv (by omega) (by omega) _ d (invT n f d) (fun i k hi hk => by
    unfold drive_matrix_inverse_1
    rw [without_any (by omega) f hk hi]
    simp only [Option.bind_some]
    rw [det12 h.hB (by omega) (minor_bd h.hf) h.crude]
    simp only [Option.bind_some]
    rw [conj_ok h.hd h.D0]
    simp only [Option.bind_some]
    have hb := h.minor i k hi hk
    unfold cofF at hb
    rw [times_ok' hb h.hd.conj h2Q]
    simp only [Option.bind_some]
    rw [wid (by omega) (by omega)]
    have e0 : ((i : Int) + (k : Int)) = ((i + k : Nat) : Int) := by omega
    rw [e0, tmod2]
    unfold invT adjF cofF
    by_cases hp : (i + k) % 2 = 1
    · have e2 : decide ((((i + k) % 2 : Nat) : Int) = 1) = true := decide_eq_true (by omega)
      rw [e2, cond_true, if_pos hp, minus0_ok (hb.mul h.hd.conj) h2Q, neg_mul]; rfl
    · have e2 : decide ((((i + k) % 2 : Nat) : Int) = 1) = false := decide_eq_false (by omega)
      rw [e2, cond_false, if_neg hp])]
  simp only [Option.bind_some]
  rw [conj_ok h.hd h.D0]
  simp only [Option.bind_some]
  rw [times_ok' h.hd h.hd.conj h.dd, norm_mul]
  simp only [Option.bind_some]
  rw [quotient_ok h.hQ (by omega) (by omega) (by omega) h.t (norm_pos h.nz) h.nq]
  rfl
theorem refInverse_ok {n : Nat} {f : Nat → Nat → G} {B M D Q : Int} (hn : n ≤ 5) (h : InvB n f (detF (n + 1) f) B M D Q) (hcr : dB B (n + 1) ≤ 9000000000000000000) :
    ref04_Inverse (mx (n + 1) (n + 1) f) = some (quotQ (n + 1) (n + 1) (invT n f (detF (n + 1) f)) (norm (detF (n + 1) f))) := by
  unfold ref04_Inverse
  rw [refDet12 h.hB (by omega) h.hf hcr]
  simp only [Option.bind_some]
  generalize hd : detF (n + 1) f = d at *
  have h2Q : 2 * (M * D) ≤ 9000000000000000000 := by have := h.md; have := h.hQ; omega
  have hdd := h.hd
  have hD2 := h.dd
  have hD := h.D0
  have hsq : Bd (2 * (D * D)) (gmul d (gconj d)) := hdd.mul hdd.conj
  have hn1 : base_GNorm d = some (norm d) := by
    unfold base_GNorm norm
    have p1 := abs_mul_le hdd.1 hdd.1
    have p2 := abs_mul_le hdd.2 hdd.2
    rw [wid (n := d.1 * d.1) (by omega) (by omega), wid (n := d.2.1 * d.2.1) (by omega) (by omega), wid (by omega) (by omega)]
  rw [hn1]
  simp only [Option.bind_some]
  have hadj : ref04_Adjugate (mx (n + 1) (n + 1) f) = some (mx (n + 1) (n + 1) (adjF n f)) := by
    unfold ref04_Adjugate
    rw [mx_len]
    rw [for_mk (n + 1) (fun i => mkL (n + 1) fun k => adjF n f i k) (fun i hi => ?_) ?_]
    · rfl
    · have e0 : decide (((n + 1 : Nat) : Int) < ((n + 1 : Nat) : Int)) = false := by simp
      simp only [e0, cond_false]
    · have e0 : decide ((i : Int) < ((n + 1 : Nat) : Int)) = true := decide_eq_true (by omega)
      simp only [e0, cond_true]
      rw [for_mk (n + 1) (fun k => adjF n f i k) (fun k hk => ?_) ?_]
      · simp only [Option.bind_some]
        rw [app_one (by rw [mkL_len]; omega)]
        simp only [Option.bind_some]
        rw [wid (by omega) (by omega)]
      · have e1 : decide (((n + 1 : Nat) : Int) < ((n + 1 : Nat) : Int)) = false := by simp
        simp only [e1, cond_false]
      · have e1 : decide ((k : Int) < ((n + 1 : Nat) : Int)) = true := decide_eq_true (by omega)
        simp only [e1, cond_true]
        rw [refWithout_any (by omega) f hk hi]
        simp only [Option.bind_some]
        rw [refDet12 h.hB (by omega) (minor_bd h.hf) h.crude]
        simp only [Option.bind_some]
        rw [wid (by omega) (by omega)]
        have e2 : ((i : Int) + (k : Int)) = ((i + k : Nat) : Int) := by omega
        rw [e2, Mod2_ok _ (by omega)]
        simp only [Option.bind_some]
        have hb := h.minor i k hi hk
        unfold adjF
        unfold cofF at hb ⊢
        by_cases hp : (i + k) % 2 = 1
        · have e2 : decide ((((i + k) % 2 : Nat) : Int) = 1) = true := decide_eq_true (by omega)
          rw [e2, cond_true, if_pos hp, GSub0_ok hb h.M0]
          simp only [Option.bind_some, geta]
          rw [app_one (by rw [mkL_len]; omega)]
          simp only [Option.bind_some]
          rw [wid (by omega) (by omega)]
        · have e2 : decide ((((i + k) % 2 : Nat) : Int) = 1) = false := decide_eq_false (by omega)
          rw [e2, cond_false, if_neg hp]
          simp only [Option.bind_some, geta]
          rw [app_one (by rw [mkL_len]; omega)]
          simp only [Option.bind_some]
          rw [wid (by omega) (by omega)]
  rw [hadj]
  simp only [Option.bind_some]
  rw [GConj_ok hdd hD]
  simp only [Option.bind_some]
  have hsc : ref04_scaled (mx (n + 1) (n + 1) (adjF n f)) (gconj d) = some (mx (n + 1) (n + 1) (invT n f d)) := by
    unfold ref04_scaled
    rw [mx_len]
    rw [for_mk (n + 1) (fun i => mkL (n + 1) fun k => invT n f d i k) (fun i hi => ?_) ?_]
    · rfl
    · have e0 : decide (((n + 1 : Nat) : Int) < ((n + 1 : Nat) : Int)) = false := by simp
      simp only [e0, cond_false]
    · have e0 : decide ((i : Int) < ((n + 1 : Nat) : Int)) = true := decide_eq_true (by omega)
      simp only [e0, cond_true]
      rw [for_mk (n + 1) (fun k => invT n f d i k) (fun k hk => ?_) ?_]
      · simp only [Option.bind_some]
        rw [app_one (by rw [mkL_len]; omega)]
        simp only [Option.bind_some]
        rw [wid (by omega) (by omega)]
      · have e1 : decide (((n + 1 : Nat) : Int) < ((n + 1 : Nat) : Int)) = false := by simp
        rw [idx_of (mx_at _ hi)]
        simp only [Option.bind_some, mkL_len, e1, cond_false]
      · have e1 : decide ((k : Int) < ((n + 1 : Nat) : Int)) = true := decide_eq_true (by omega)
        rw [idx_of (mx_at _ hi)]
        simp only [Option.bind_some, mkL_len, e1, cond_true]
        rw [idx_of (mkL_get (fun k => adjF n f i k) hk)]
        simp only [Option.bind_some]
        rw [GMul_ok (h.adj hi hk) hdd.conj h2Q]
        simp only [Option.bind_some]
        rw [app_one (by rw [mkL_len]; omega)]
        simp only [Option.bind_some]
        rw [wid (by omega) (by omega)]
        rfl
  rw [hsc]
  simp only [Option.bind_some]
  rw [lowest_ok h.hQ (by omega) (by omega) h.t (norm_pos h.nz) h.nq]
  rfl
def gsize (z : G) : Int := (z.1.natAbs : Int) + (z.2.1.natAbs : Int)
def sumZ : Nat → (Nat → Int) → Int
  | 0, _ => 0
  | n + 1, f => sumZ n f + f n
def maxZ : Nat → (Nat → Int) → Int
  | 0, _ => 0
  | n + 1, f => max (maxZ n f) (f n)
def rsum (n c : Nat) (f : Nat → Nat → G) : Int := maxZ n fun i => sumZ c fun k => gsize (f i k)
theorem gsize_bd {B : Int} {z : G} (h : Bd B z) : 0 ≤ gsize z ∧ gsize z ≤ 2 * B := by unfold gsize; unfold Bd at h; omega
theorem sumZ_bd {B : Int} {f : Nat → Int} : ∀ {n : Nat}, (∀ k, k < n → 0 ≤ f k ∧ f k ≤ B) → 0 ≤ sumZ n f ∧ sumZ n f ≤ n * B
  | 0, _ => by simp [sumZ]
  | n + 1, h => by
    have h1 := sumZ_bd (n := n) fun k hk => h k (by omega)
    have h2 := h n (by omega)
    have e : ((n + 1 : Nat) : Int) * B = n * B + B := by rw [Int.natCast_add, Int.add_mul]; simp
    simp only [sumZ] <;> omega
theorem maxZ_bd {B : Int} (hB : 0 ≤ B) {f : Nat → Int} : ∀ {n : Nat}, (∀ k, k < n → f k ≤ B) → 0 ≤ maxZ n f ∧ maxZ n f ≤ B
  | 0, _ => by simp [maxZ, hB]
  | n + 1, h => by
    have h1 := maxZ_bd hB (n := n) fun k hk => h k (by omega)
    have h2 := h n (by omega)
    simp only [maxZ] <;> omega
theorem size_ok {B : Int} {z : G} (h : Bd B z) (hB : B ≤ 4000000000000000000) : drive_whole_size z = some (gsize z) := by
  unfold drive_whole_size gsize
  unfold Bd at h
  rw [wid (n := 0 - z.1) (by omega) (by omega), wid (n := 0 - z.2.1) (by omega) (by omega), wid (by omega) (by omega)]
  congr 1; omega
theorem refSize_ok {B : Int} {z : G} (h : Bd B z) (hB : B ≤ 4000000000000000000) : ref04_Size z = some (gsize z) := by
  unfold ref04_Size gsize
  unfold Bd at h
  rw [Size_ok (by omega), Size_ok (by omega)]
  simp only [Option.bind_some]
  rw [wid (by omega) (by omega)]
theorem sum_le {c k : Nat} {B : Int} (hB : 0 ≤ B) (h : k ≤ c) : (k : Int) * (2 * B) ≤ c * (2 * B) := Int.mul_le_mul_of_nonneg_right (by omega) (by omega)
theorem rowSum_ok {n c : Nat} {B : Int} {f : Nat → Nat → G} (hB0 : 0 ≤ B) (hf : BdF B n c f) (hn : n ≤ 1000) (hc : c ≤ 1000) (hb : (c : Int) * (2 * B) ≤ 4000000000000000000) (hB : B ≤ 4000000000000000000) : drive_matrix_rowSum (mx n c f) = some (rsum n c f) := by
  unfold drive_matrix_rowSum
  rw [mx_len]
  refine Ok.eq ?_
  rw [ok_bind]
  refine (loop_up n (fun i (s : Int × Int) => s = (maxZ i (fun i => sumZ c fun k => gsize (f i k)), (i : Int))) (fun r => r = rsum n c f) rfl ?_).mono (fun a ha => by rw [ha]; exact ok_some.2 rfl)
  rintro i s hi rfl
  by_cases hlt : i < n
  · have e0 : decide ((i : Int) < (n : Int)) = true := decide_eq_true (by omega)
    simp only [e0, cond_true]
    rw [idx_of (mx_at f hlt)]
    simp only [Option.bind_some, mkL_len]
    rw [rnd_bind]
    refine (loop_up c (fun k (s : Int × Int) => s = (sumZ k (fun k => gsize (f i k)), (k : Int))) (fun r => r = sumZ c fun k => gsize (f i k)) rfl ?_).mono ?_
    · rintro k s hk rfl
      by_cases hlt2 : k < c
      · have e1 : decide ((k : Int) < (c : Int)) = true := decide_eq_true (by omega)
        simp only [e1, cond_true]
        rw [at_ok f hlt hlt2]
        simp only [Option.bind_some]
        rw [size_ok (hf i k hlt hlt2) hB]
        simp only [Option.bind_some]
        have hs := sumZ_bd (B := 2 * B) (f := fun k => gsize (f i k)) (n := k) fun j hj => gsize_bd (hf i j hlt (by omega))
        have hz := gsize_bd (hf i k hlt hlt2)
        have hle := sum_le hB0 (show k + 1 ≤ c by omega)
        have e : ((k + 1 : Nat) : Int) * (2 * B) = k * (2 * B) + 2 * B := by rw [Int.natCast_add, Int.add_mul]; simp
        rw [wid (by omega) (by omega), wid (by omega) (by omega), rnd_inl]
        exact ⟨hlt2, rfl⟩
      · have : k = c := by omega
        subst this
        have e1 : decide ((k : Int) < (k : Int)) = false := by simp
        simp only [e1, cond_false]
        rw [rnd_inr]
    · rintro r rfl
      rw [wid (by omega) (by omega), rnd_inl]
      exact ⟨hlt, rfl⟩
  · have : i = n := by omega
    subst this
    have e0 : decide ((i : Int) < (i : Int)) = false := by simp
    simp only [e0, cond_false]
    rw [rnd_inr]
    rfl
theorem refRowSum_ok {n c : Nat} {B : Int} {f : Nat → Nat → G} (hB0 : 0 ≤ B) (hf : BdF B n c f) (hn : n ≤ 1000) (hc : c ≤ 1000) (hb : (c : Int) * (2 * B) ≤ 4000000000000000000) (hB : B ≤ 4000000000000000000) : ref04_RowSum (mx n c f) = some (rsum n c f) := by
  unfold ref04_RowSum
  rw [mx_len]
  refine Ok.eq ?_
  rw [ok_bind]
  refine (loop_up n (fun i (s : Int × Int) => s = (maxZ i (fun i => sumZ c fun k => gsize (f i k)), (i : Int))) (fun r => r = rsum n c f) rfl ?_).mono (fun a ha => by rw [ha]; exact ok_some.2 rfl)
  rintro i s hi rfl
  by_cases hlt : i < n
  · have e0 : decide ((i : Int) < (n : Int)) = true := decide_eq_true (by omega)
    simp only [e0, cond_true]
    rw [rnd_bind]
    refine (loop_up c (fun k (s : Int × Int) => s = (sumZ k (fun k => gsize (f i k)), (k : Int))) (fun r => r = sumZ c fun k => gsize (f i k)) rfl ?_).mono ?_
    · rintro k s hk rfl
      rw [idx_of (mx_at f hlt)]
      simp only [Option.bind_some, mkL_len]
      by_cases hlt2 : k < c
      · have e1 : decide ((k : Int) < (c : Int)) = true := decide_eq_true (by omega)
        simp only [e1, cond_true]
        rw [idx_of (mkL_get (fun k => f i k) hlt2)]
        simp only [Option.bind_some]
        rw [refSize_ok (hf i k hlt hlt2) hB]
        simp only [Option.bind_some]
        have hs := sumZ_bd (B := 2 * B) (f := fun k => gsize (f i k)) (n := k) fun j hj => gsize_bd (hf i j hlt (by omega))
        have hz := gsize_bd (hf i k hlt hlt2)
        have hle := sum_le hB0 (show k + 1 ≤ c by omega)
        have e : ((k + 1 : Nat) : Int) * (2 * B) = k * (2 * B) + 2 * B := by rw [Int.natCast_add, Int.add_mul]; simp
        rw [wid (by omega) (by omega), wid (by omega) (by omega), rnd_inl]
        exact ⟨hlt2, rfl⟩
      · have : k = c := by omega
        subst this
        have e1 : decide ((k : Int) < (k : Int)) = false := by simp
        simp only [e1, cond_false]
        rw [rnd_inr]
    · rintro r rfl
      rw [wid (by omega) (by omega), rnd_inl]
      exact ⟨hlt, rfl⟩
  · have : i = n := by omega
    subst this
    have e0 : decide ((i : Int) < (i : Int)) = false := by simp
    simp only [e0, cond_false]
    rw [rnd_inr]
    rfl
def diagF (s : Int) (i k : Nat) : G := if i = k then (s, 0, ()) else g0
theorem made_u {n c : Nat} (hn : n ≤ 1000) (hc : c ≤ 1000) (f : Nat → Nat → G) (h : ∀ i k : Nat, i < n → k < c → drive_unit_1 i k = some (f i k)) : drive_made_of_drive_unit_1 (n : Int) (c : Int) = some (mx n c f) := by
  unfold drive_made_of_drive_unit_1
  exact made_loop n c hn hc (fun i k => drive_unit_1 i k) f h
theorem unit_ok {n : Nat} (hn : n ≤ 1000) : drive_unit (n : Int) = some (mx n n (diagF 1)) := by
  unfold drive_unit
  rw [made_u hn hn (diagF 1) (fun i k hi hk => by
    unfold drive_unit_1 diagF
    by_cases h : i = k
    · rw [if_pos h, decide_eq_true (show (i : Int) = (k : Int) by omega)]; rfl
    · rw [if_neg h, decide_eq_false (show ¬ (i : Int) = (k : Int) by omega)]; rfl)]
  rfl
theorem made_s {n c : Nat} (hn : n ≤ 1000) (hc : c ≤ 1000) (m : Mx) (s : Int) (f : Nat → Nat → G) (h : ∀ i k : Nat, i < n → k < c → drive_matrix_scaled_1 i k m s = some (f i k)) : drive_made_of_drive_matrix_scaled_1 (n : Int) (c : Int) m s = some (mx n c f) := by
  unfold drive_made_of_drive_matrix_scaled_1
  exact made_loop n c hn hc (fun i k => drive_matrix_scaled_1 i k m s) f h
theorem scaled_ok {n c : Nat} {A B s : Int} {f : Nat → Nat → G} (hn1 : 1 ≤ n) (hn : n ≤ 1000) (hc : c ≤ 1000) (hf : BdF A n c f) (hs : -B ≤ s ∧ s ≤ B) (hb : 2 * (A * B) ≤ 9000000000000000000) :
    drive_matrix_scaled (mx n c f) s = some (mx n c fun i k => gmul (f i k) (s, 0, ())) := by
  unfold drive_matrix_scaled
  rw [idx_zero, mx_at f (by omega), Option.bind_some, mkL_len, mx_len]
  rw [made_s hn hc _ s (fun i k => gmul (f i k) (s, 0, ())) (fun i k hi hk => by
    unfold drive_matrix_scaled_1
    rw [at_ok f hi hk]
    simp only [Option.bind_some]
    rw [times_ok' (hf i k hi hk) (B := B) (by unfold Bd; simp only; omega) hb]; rfl)]
  rfl
theorem diag_scaled (s : Int) (i k : Nat) : gmul (diagF 1 i k) (s, 0, ()) = diagF s i k := by
  unfold diagF
  by_cases h : i = k
  · rw [if_pos h, if_pos h]; exact gone_mul _
  · rw [if_neg h, if_neg h]; exact gzero_mul _
theorem diag_bd {s B : Int} (h0 : 0 ≤ B) (h : -B ≤ s ∧ s ≤ B) (n c : Nat) : BdF B n c (diagF s) := fun i k _ _ => by
  unfold diagF
  split
  · unfold Bd; simp only <;> omega
  · exact bd_zero h0
theorem unit_scaled_ok {n : Nat} {s : Int} (hn1 : 1 ≤ n) (hn : n ≤ 1000) (hs : -4000000000000000000 ≤ s ∧ s ≤ 4000000000000000000) :
    drive_matrix_scaled (mx n n (diagF 1)) s = some (mx n n (diagF s)) := by
  rw [scaled_ok (A := 1) (B := 4000000000000000000) hn1 hn hn (diag_bd (by omega) (by omega) n n) hs (by omega)]
  congr 1
  exact mx_congr fun i k _ _ => diag_scaled s i k
theorem one_ok {n : Nat} {s : Int} (hn : n ≤ 1000) : ref04_one (n : Int) s = some (mx n n (diagF s)) := by
  unfold ref04_one
  rw [for_mk n (fun i => mkL n fun k => diagF s i k) (fun i hi => ?_) ?_]
  · rfl
  · have e0 : decide ((n : Int) < (n : Int)) = false := by simp
    simp only [e0, cond_false]
  · have e0 : decide ((i : Int) < (n : Int)) = true := decide_eq_true (by omega)
    simp only [e0, cond_true]
    rw [mkS_in (by omega)]
    simp only [Option.bind_some, decide_true, cond_true]
    have hl : (List.replicate ((n : Int).toNat) ((0, 0, ()) : G)).length = n := by simp
    rw [idx_in g0 (by omega) (by rw [hl]; omega)]
    simp only [Option.bind_some, Int.toNat_natCast]
    have hrow : (List.replicate n ((0, 0, ()) : G)).set i (s, 0, ()) = mkL n fun k => diagF s i k := by
      refine mkL_of (by simp) fun k hk => ?_
      rw [List.getElem?_set, List.getElem?_replicate, List.length_replicate]
      unfold diagF
      by_cases h : i = k
      · rw [if_pos h, if_pos h, if_pos (by omega)]
      · rw [if_neg h, if_neg h, if_pos hk]; rfl
    rw [hrow, app_one (by rw [mkL_len]; omega)]
    simp only [Option.bind_some]
    rw [wid (by omega) (by omega)]
end Go.Proofs.YtbcdgfgacigaoaaGreat.Mat
end
section
set_option linter.unusedVariables false
set_option linter.unusedSimpArgs false
namespace Go.Proofs.YtbcdgfgacigaoaaGreat.Mat
open Go Go.Ab Go.Tx Go.Proofs.YtbcdgfgacigaoaaGreat
abbrev Qt := Int × Mx × Unit
instance (B : Int) (m : Mx) : Decidable (BdM B m) := inferInstanceAs (Decidable (∀ r ∈ m, ∀ z ∈ r, Bd B z))
end Go.Proofs.YtbcdgfgacigaoaaGreat.Mat
end
section
set_option linter.unusedVariables false
set_option linter.unusedSimpArgs false
namespace Go.Proofs.YtbcdgfgacigaoaaGreat.Mat
open Go Go.Ab Go.Tx Go.Proofs.YtbcdgfgacigaoaaGreat
theorem dC_le {B : Int} (hB : 0 ≤ B) (h20 : B ≤ 20) : ∀ n, n ≤ 3 → dC B n ≤ 192000 ∧ (n ≤ 2 → dC B n ≤ 1600) := fun n hn => by
  have h1 : B * B ≤ 20 * 20 := Int.mul_le_mul h20 h20 hB (by omega)
  have h2 : B * (2 * (2 * (B * B))) ≤ 20 * (2 * (2 * (20 * 20))) := Int.mul_le_mul h20 (by omega) (by have := Int.mul_nonneg hB hB; omega) (by omega)
  match n, hn with
  | 0, _ => simp [dC]
  | 1, _ => simp only [dC] <;> omega
  | 2, _ => simp only [dC] <;> omega
  | 3, _ =>
    have e : dC B 3 = 3 * (2 * (B * (2 * (2 * (B * B))))) := rfl
    rw [e]; omega
theorem dB20 : ∀ n, n ≤ 3 → dB 20 n ≤ 9000000000000000000 := fun n hn => by
  match n, hn with
  | 0, _ => decide
  | 1, _ => decide
  | 2, _ => decide
  | 3, _ => decide
def detM (m : Mx) : G := detF m.length (ent m)
theorem det20 {n : Nat} {f : Nat → Nat → G} (hn : n ≤ 3) (h : BdF 20 n n f) : Bd 192000 (detF n f) := (detF_bdC (by omega) n f h).mono (dC_le (by omega) (by omega) n hn).1
theorem norm_le {D : Int} {d : G} (h : Bd D d) : norm d ≤ 2 * (D * D) := by
  have := (abs_mul_le h.1 h.1).2
  have := (abs_mul_le h.2 h.2).2
  unfold norm; omega
theorem invB20 {n : Nat} {f : Nat → Nat → G} (hn : n + 1 ≤ 3) (h : BdF 20 (n + 1) (n + 1) f) (hz : detF (n + 1) f ≠ g0) : InvB n f (detF (n + 1) f) 20 1600 192000 73728000000 where
  hB := by omega
  hf := h
  crude := dB20 n (by omega)
  minor := fun i k hi hk => (detF_bdC (by omega) n _ (minor_bd h)).mono ((dC_le (by omega) (by omega) n (by omega)).2 (by omega))
  hd := det20 hn h
  md := by omega
  dd := by omega
  hQ := by omega
  M0 := by omega
  D0 := by omega
  nq := norm_le (det20 hn h)
  nz := hz
def invM (m : Mx) : Qt := quotQ m.length m.length (invT (m.length - 1) (ent m) (detM m)) (norm (detM m))
def invE (m : Mx) : Int := if matE m ≠ 0 then matE m else if detM m = g0 then 11 else 0
def noQ : Qt := (0, [], ())
theorem mat_shape {m : Mx} (h : matE m = 0) : ∃ n, m.length = n + 1 ∧ n + 1 ≤ 3 ∧ m = mx (n + 1) (n + 1) (ent m) ∧ BdF 20 (n + 1) (n + 1) (ent m) := by
  obtain ⟨h1, h3, hR, hB⟩ := mat_ok h
  refine ⟨m.length - 1, by omega, by omega, ?_, ?_⟩
  · have e : m.length - 1 + 1 = m.length := by omega
    rw [e]; exact rect_mx hR
  · have e : m.length - 1 + 1 = m.length := by omega
    rw [e]; exact bdM_ent hB hR
theorem detM_ok {m : Mx} (h : matE m = 0) : drive_matrix_determinant m = some (detM m) := by
  obtain ⟨n, hl, h3, hm, hB⟩ := mat_shape h
  unfold detM
  rw [hl]
  conv => lhs; rw [hm]
  exact det12 (by omega) (by omega) hB (dB20 _ h3)
theorem refDetM_ok {m : Mx} (h : matE m = 0) : ref04_Determinant m = some (detM m) := by
  obtain ⟨n, hl, h3, hm, hB⟩ := mat_shape h
  unfold detM
  rw [hl]
  conv => lhs; rw [hm]
  exact refDet12 (by omega) (by omega) hB (dB20 _ h3)
theorem InverseOf_ok {m : Mx} (h : m.length ≤ 1000000000) (hr : ∀ r ∈ m, r.length ≤ 1000000000) : drive_InverseOf m = some (if invE m = 0 then invM m else noQ, invE m) := by
  unfold drive_InverseOf
  rw [matrixErr_ok h hr]
  simp only [Option.bind_some]
  unfold invE
  by_cases hE : matE m = 0
  case neg =>
    rw [if_pos hE, decide_eq_false hE, Bool.not_false, cond_true, if_neg hE]; rfl
  rw [if_neg (show ¬ matE m ≠ 0 from fun hh => hh hE), decide_eq_true hE, Bool.not_true, cond_false, detM_ok hE]
  simp only [Option.bind_some]
  have hgz : (bif decide ((detM m).1 = 0) then (bif decide ((detM m).2.1 = 0) then true else false) else false) = decide (detM m = g0) := geq_dec (detM m) g0
  rw [hgz]
  by_cases hz : detM m = g0
  · rw [decide_eq_true hz, cond_true, if_pos hz]; rfl
  · rw [decide_eq_false hz, cond_false, if_neg hz, if_pos rfl]
    obtain ⟨n, hl, h3, hm, hB⟩ := mat_shape hE
    have hd : detM m = detF (n + 1) (ent m) := by unfold detM; rw [hl]
    have hz' : detF (n + 1) (ent m) ≠ g0 := by rw [← hd]; exact hz
    have := inverse_ok (by omega) (invB20 h3 hB hz')
    rw [← hm, ← hd] at this
    rw [this]
    unfold invM
    rw [hl, show n + 1 - 1 = n by omega]
    rfl
theorem InverseErr_ok {m : Mx} (h : m.length ≤ 1000000000) (hr : ∀ r ∈ m, r.length ≤ 1000000000) : ref04_InverseErr m = some (invE m) := by
  unfold ref04_InverseErr
  rw [MatrixErr_ok h hr]
  simp only [Option.bind_some]
  unfold invE
  by_cases hE : matE m = 0
  case neg =>
    rw [if_pos hE, decide_eq_false hE, Bool.not_false, cond_true]
  rw [if_neg (show ¬ matE m ≠ 0 from fun hh => hh hE), decide_eq_true hE, Bool.not_true, cond_false, refDetM_ok hE]
  simp only [Option.bind_some]
  have hgz : (bif decide ((detM m).1 = 0) then (bif decide ((detM m).2.1 = 0) then true else false) else false) = decide (detM m = g0) := geq_dec (detM m) g0
  rw [hgz]
  by_cases hz : detM m = g0
  · rw [decide_eq_true hz, cond_true, if_pos hz]
  · rw [decide_eq_false hz, cond_false, if_neg hz]
theorem inv_ok {m : Mx} (h : invE m = 0) : matE m = 0 ∧ detM m ≠ g0 := by
  unfold invE at h
  by_cases hE : matE m = 0
  · rw [if_neg (show ¬ matE m ≠ 0 from fun hh => hh hE)] at h
    by_cases hz : detM m = g0
    · rw [if_pos hz] at h; cases h
    · exact ⟨hE, hz⟩
  · rw [if_pos hE] at h; exact absurd h hE
theorem Inverse_ok {m : Mx} (h : invE m = 0) : ref04_Inverse m = some (invM m) := by
  obtain ⟨hE, hz⟩ := inv_ok h
  obtain ⟨n, hl, h3, hm, hB⟩ := mat_shape hE
  have hd : detM m = detF (n + 1) (ent m) := by unfold detM; rw [hl]
  have hz' : detF (n + 1) (ent m) ≠ g0 := by rw [← hd]; exact hz
  have := refInverse_ok (by omega) (invB20 h3 hB hz') (dB20 _ h3)
  rw [← hm, ← hd] at this
  rw [this]
  unfold invM
  rw [hl, show n + 1 - 1 = n by omega]
def invF (m : Mx) : Nat → Nat → G := quotF (qg (norm (detM m)) (mx m.length m.length (invT (m.length - 1) (ent m) (detM m)))) (invT (m.length - 1) (ent m) (detM m))
def invD (m : Mx) : Int := (norm (detM m)).tdiv (qg (norm (detM m)) (mx m.length m.length (invT (m.length - 1) (ent m) (detM m))))
theorem invM_eq (m : Mx) : invM m = (invD m, mx m.length m.length (invF m), ()) := rfl
theorem invT_bd {m : Mx} (h : invE m = 0) : BdF 614400000 m.length m.length (invT (m.length - 1) (ent m) (detM m)) := by
  obtain ⟨hE, hz⟩ := inv_ok h
  obtain ⟨n, hl, h3, hm, hB⟩ := mat_shape hE
  have hd : detM m = detF (n + 1) (ent m) := by unfold detM; rw [hl]
  have hz' : detF (n + 1) (ent m) ≠ g0 := by rw [← hd]; exact hz
  rw [hd, hl, show n + 1 - 1 = n by omega]
  have hI := invB20 h3 hB hz'
  intro i k hi hk
  exact ((hI.adj hi hk).mul hI.hd.conj).mono (by omega)
theorem invF_bd {m : Mx} (h : invE m = 0) : BdF 614400000 m.length m.length (invF m) := fun i k hi hk => by
  have hb := invT_bd h i k hi hk
  exact ⟨tdiv_bd hb.1, tdiv_bd hb.2⟩
theorem invD_bd {m : Mx} (h : invE m = 0) : 0 ≤ invD m ∧ invD m ≤ 73728000000 := by
  obtain ⟨hE, hz⟩ := inv_ok h
  obtain ⟨n, hl, h3, hm, hB⟩ := mat_shape hE
  have hd : detM m = detF (n + 1) (ent m) := by unfold detM; rw [hl]
  have hn := norm_pos hz
  have hb := norm_le (det20 h3 hB)
  rw [← hd] at hb
  unfold invD
  have := tdiv_bd (x := norm (detM m)) (g := (qg (norm (detM m)) (mx m.length m.length (invT (m.length - 1) (ent m) (detM m))) : Int)) (B := 73728000000) (by omega)
  exact ⟨Int.tdiv_nonneg (by omega) (Int.natCast_nonneg _), this.2⟩
end Go.Proofs.YtbcdgfgacigaoaaGreat.Mat
namespace Go.Proofs.YtbcdgfgacigaoaaGreat
open Go Go.Ab Go.Tx
end Go.Proofs.YtbcdgfgacigaoaaGreat
end
section
set_option linter.unusedVariables false
set_option linter.unusedSimpArgs false
namespace Go.Proofs.YtbcdgfgacigaoaaGreat.Mat
open Go Go.Ab Go.Tx Go.Proofs.YtbcdgfgacigaoaaGreat
theorem sumG_mul {n : Nat} {f : Nat → G} (c : G) : sumG n (fun k => gmul (f k) c) = gmul (sumG n f) c := by
  induction n with
  | zero => exact (gzero_mul c).symm
  | succ n ih => simp only [sumG, ih, gadd_mul]
theorem prodF_congr {n i k : Nat} {f f' h h' : Nat → Nat → G} (e1 : ∀ j, j < n → f i j = f' i j) (e2 : ∀ j, j < n → h j k = h' j k) : prodF n f h i k = prodF n f' h' i k := by
  unfold prodF
  exact sumG_congr fun j hj => by rw [e1 j hj, e2 j hj]
theorem prodF_mulr (n : Nat) (f h : Nat → Nat → G) (c : G) (i k : Nat) : prodF n f (fun i k => gmul (h i k) c) i k = gmul (prodF n f h i k) c := by
  unfold prodF
  rw [← sumG_mul]
  exact sumG_congr fun j hj => (gmul_assoc _ _ _).symm
theorem adj2 (f : Nat → Nat → G) (i k : Nat) : adjF 1 f i k = if (i + k) % 2 = 1 then gneg (f (skip k 0) (skip i 0)) else f (skip k 0) (skip i 0) := by
  unfold adjF cofF
  rw [det1_eq]; rfl
def mm (f : Nat → Nat → G) (a b c d : Nat) : G := gsub (gmul (f a c) (f b d)) (gmul (f a d) (f b c))
theorem adj3 (f : Nat → Nat → G) (i k : Nat) : adjF 2 f i k = if (i + k) % 2 = 1 then gneg (mm f (skip k 0) (skip k 1) (skip i 0) (skip i 1)) else mm f (skip k 0) (skip k 1) (skip i 0) (skip i 1) := by
  unfold adjF cofF
  rw [det2_eq]; rfl
set_option maxHeartbeats 4000000 in
theorem adj_right {n : Nat} (hn : n + 1 ≤ 3) (f : Nat → Nat → G) {i k : Nat} (hi : i < n + 1) (hk : k < n + 1) : prodF (n + 1) f (adjF n f) i k = if i = k then detF (n + 1) f else g0 := by
  match n, hn with
  | 0, _ =>
    obtain rfl : i = 0 := by omega
    obtain rfl : k = 0 := by omega
    rw [prod1, det1_eq]
    exact gmul_one _
  | 1, _ =>
    rw [prod2, det2_eq]
    have hi' : i = 0 ∨ i = 1 := by omega
    have hk' : k = 0 ∨ k = 1 := by omega
    rcases hi' with rfl | rfl <;> rcases hk' with rfl | rfl <;> simp only [adj2] <;> simp [skip] <;> refine gext ?_ ?_ <;> simp only [gadd, gmul, gsub, gneg, g0] <;> grind
  | 2, _ =>
    rw [prod3, det3_eq]
    have hi' : i = 0 ∨ i = 1 ∨ i = 2 := by omega
    have hk' : k = 0 ∨ k = 1 ∨ k = 2 := by omega
    rcases hi' with rfl | rfl | rfl <;> rcases hk' with rfl | rfl | rfl <;> simp only [adj3] <;> simp [skip] <;> refine gext ?_ ?_ <;> simp only [dd, mm, gadd, gmul, gsub, gneg, g0] <;> grind
theorem invT_eq (n : Nat) (f : Nat → Nat → G) (d : G) : invT n f d = fun i k => gmul (adjF n f i k) (gconj d) := rfl
theorem ite_norm (d : G) (i k : Nat) : gmul (if i = k then d else g0) (gconj d) = diagF (norm d) i k := by
  unfold diagF
  by_cases h : i = k
  · rw [if_pos h, if_pos h]; exact norm_mul d
  · rw [if_neg h, if_neg h]; exact gzero_mul _
theorem invT_right {n : Nat} (hn : n + 1 ≤ 3) (f : Nat → Nat → G) {i k : Nat} (hi : i < n + 1) (hk : k < n + 1) : prodF (n + 1) f (invT n f (detF (n + 1) f)) i k = diagF (norm (detF (n + 1) f)) i k := by
  rw [invT_eq, prodF_mulr, adj_right hn f hi hk, ite_norm]
theorem mem_parts {n c : Nat} {f : Nat → Nat → G} {x : Int} : x ∈ partsM (mx n c f) ↔ ∃ i k, i < n ∧ k < c ∧ (x = (f i k).1 ∨ x = (f i k).2.1) := by
  unfold partsM
  rw [List.mem_flatMap]
  constructor
  · rintro ⟨r, hr, hx⟩
    obtain ⟨i, hi, rfl⟩ := mkL_mem hr
    unfold parts at hx
    obtain ⟨z, hz, hx⟩ := List.mem_flatMap.1 hx
    obtain ⟨k, hk, rfl⟩ := mkL_mem hz
    exact ⟨i, k, hi, hk, by simpa using hx⟩
  · rintro ⟨i, k, hi, hk, hx⟩
    refine ⟨mkL c fun k => f i k, mem_mkL (f := fun i => mkL c fun k => f i k) hi, ?_⟩
    unfold parts
    exact List.mem_flatMap.2 ⟨f i k, mem_mkL (f := fun k => f i k) hk, by simpa using hx⟩
theorem gscale (a : G) (s : Int) : gmul a (s, 0, ()) = (a.1 * s, a.2.1 * s, ()) := gext (by simp [gmul]) (by simp [gmul])
theorem gcancel {a b : G} {s : Int} (hs : s ≠ 0) (h : gmul a (s, 0, ()) = gmul b (s, 0, ())) : a = b := by
  rw [gscale, gscale] at h
  have h1 := congrArg (fun z : G => z.1) h
  have h2 := congrArg (fun z : G => z.2.1) h
  exact gext (Int.eq_of_mul_eq_mul_right hs h1) (Int.eq_of_mul_eq_mul_right hs h2)
def invG (m : Mx) : Nat := qg (norm (detM m)) (mx m.length m.length (invT (m.length - 1) (ent m) (detM m)))
theorem invG_pos {m : Mx} (h : invE m = 0) : 0 < invG m := by
  have := norm_pos (inv_ok h).2
  exact qg_pos (by omega)
theorem invG_dvd {m : Mx} {i k : Nat} (hi : i < m.length) (hk : k < m.length) : (invG m : Int) ∣ (invT (m.length - 1) (ent m) (detM m) i k).1 ∧ (invG m : Int) ∣ (invT (m.length - 1) (ent m) (detM m) i k).2.1 :=
  ⟨gcdF_dvd (mem_parts.2 ⟨i, k, hi, hk, .inl rfl⟩), gcdF_dvd (mem_parts.2 ⟨i, k, hi, hk, .inr rfl⟩)⟩
theorem invF_mul {m : Mx} {i k : Nat} (hi : i < m.length) (hk : k < m.length) : gmul (invF m i k) ((invG m : Int), 0, ()) = invT (m.length - 1) (ent m) (detM m) i k := by
  obtain ⟨h1, h2⟩ := invG_dvd hi hk
  rw [gscale]
  exact gext (Int.tdiv_mul_cancel h1) (Int.tdiv_mul_cancel h2)
theorem invG_norm (m : Mx) : (invG m : Int) ∣ norm (detM m) := by
  have h := gcdF_dvd_start (partsM (mx m.length m.length (invT (m.length - 1) (ent m) (detM m)))) (norm (detM m)).natAbs
  exact Int.ofNat_dvd_left.2 h
theorem invD_mul (m : Mx) : invD m * (invG m : Int) = norm (detM m) := Int.tdiv_mul_cancel (invG_norm m)
theorem invD_pos {m : Mx} (h : invE m = 0) : 1 ≤ invD m := by
  have h1 := norm_pos (inv_ok h).2
  have h2 := invD_mul m
  have h3 := (invD_bd h).1
  false_or_by_contra
  have : invD m = 0 := by omega
  rw [this, Int.zero_mul] at h2
  omega
theorem inv_right {m : Mx} (h : invE m = 0) {i k : Nat} (hi : i < m.length) (hk : k < m.length) : prodF m.length (ent m) (invF m) i k = diagF (invD m) i k := by
  obtain ⟨n, hl, h3, hm, hB⟩ := mat_shape (inv_ok h).1
  have hg := invG_pos h
  refine gcancel (s := (invG m : Int)) (by omega) ?_
  rw [← prodF_mulr, prodF_congr (f' := ent m) (h' := invT (m.length - 1) (ent m) (detM m)) (fun j hj => rfl) (fun j hj => invF_mul hj hk)]
  have hd : detM m = detF (n + 1) (ent m) := by unfold detM; rw [hl]
  have e := invD_mul m
  have hi' : i < n + 1 := by omega
  have hk' : k < n + 1 := by omega
  rw [hd] at e
  rw [hd, hl, show n + 1 - 1 = n by omega, invT_right h3 _ hi' hk']
  unfold diagF
  by_cases c : i = k
  · rw [if_pos c, if_pos c, gscale]; exact gext e.symm (by simp)
  · rw [if_neg c, if_neg c, gzero_mul]
end Go.Proofs.YtbcdgfgacigaoaaGreat.Mat
end
section
set_option linter.unusedVariables false
set_option linter.unusedSimpArgs false
namespace Go.Proofs.YtbcdgfgacigaoaaGreat.Mat
open Go Go.Ab Go.Tx Go.Proofs.YtbcdgfgacigaoaaGreat
abbrev Rg := Mx × Mx × Int × Int × Int × Unit
theorem first3 (a b c : Int) : drive_first [a, b, c] = some (if a = 0 then if b = 0 then c else b else a) := by
  rw [first_eq _ (by simp)]
  by_cases h : a = 0 <;> by_cases h2 : b = 0 <;> by_cases h3 : c = 0 <;> simp [fst0, h, h2, h3]
theorem first4 (a b c d : Int) : drive_first [a, b, c, d] = some (if a = 0 then if b = 0 then if c = 0 then d else c else b else a) := by
  rw [first_eq _ (by simp)]
  by_cases h : a = 0 <;> by_cases h2 : b = 0 <;> by_cases h3 : c = 0 <;> by_cases h4 : d = 0 <;> simp [fst0, h, h2, h3, h4]
theorem divisor_gen (l : List Int) (hl : l.length ≤ 1000000000) (hb : gcdL l ≤ 9223372036854775807) : drive_divisor l = some (gcdL l : Int) := by
  unfold drive_divisor
  refine Ok.eq ?_
  rw [ok_bind]
  refine (loop_up l.length (fun i (s : Int × Int) => s.2 = (i : Int) ∧ s.1.natAbs = gcdL (l.take i)) (fun r : Int => r.natAbs = gcdL l) ⟨rfl, rfl⟩ ?_).mono ?_
  · rintro i ⟨g, s⟩ hi ⟨h1, h2⟩
    simp only at h1 h2
    subst h1
    by_cases hlt : i < l.length
    · have e0 : decide ((i : Int) < (l.length : Int)) = true := decide_eq_true (by omega)
      simp only [e0, cond_true]
      rw [idx_in 0 (by omega) (by omega)]
      simp only [Option.bind_some, Int.toNat_natCast]
      obtain ⟨r, h3, h4⟩ := euclid_loop (f := fun (s5 : (Int × Int)) => bif !(decide (s5.2 = 0)) then bif decide (s5.2 = 0) then none else some (.inl (s5.2, s5.1.tmod s5.2)) else some (.inr s5.1)) (fun s => by
        by_cases h : s.2 = 0 <;> simp [h]) (l.getD i 0).natAbs g (l.getD i 0) (Nat.le_refl _)
      rw [h3]
      simp only [Option.bind_some]
      rw [wid (by omega) (by omega), rnd_inl]
      refine ⟨hlt, by simp, ?_⟩
      rw [h4, take_next 0 hlt]
      unfold gcdL at h2 ⊢
      rw [gcdF_snoc, ← h2]
      rfl
    · have : i = l.length := by omega
      subst this
      have e0 : decide ((l.length : Int) < (l.length : Int)) = false := by simp
      simp only [e0, cond_false]
      rw [rnd_inr]
      simpa using h2
  · intro r hr
    rw [wid (by omega) (by omega), ok_some]
    omega
theorem gcd_pos_le {a b : Int} (h0 : 0 < b) : (Int.gcd a b : Int) ≤ b ∧ 1 ≤ Int.gcd a b := by
  have h1 : Nat.gcd a.natAbs b.natAbs ∣ b.natAbs := Nat.gcd_dvd_right _ _
  have h2 := Nat.le_of_dvd (by omega) h1
  have h3 : 0 < Nat.gcd a.natAbs b.natAbs := Nat.pos_of_dvd_of_pos h1 (by omega)
  have e : Int.gcd a b = Nat.gcd a.natAbs b.natAbs := rfl
  rw [e]; omega
theorem divisor2_ok {a b : Int} (h0 : 0 < b) (h1 : b ≤ 9223372036854775807) : drive_divisor [a, b] = some (Int.gcd a b : Int) := by
  have h := (gcd_pos_le (a := a) h0).1
  rw [divisor_gen _ (by simp) (by rw [gcdL_two]; omega), gcdL_two]
theorem Gcd_gen {a b : Int} (h0 : 0 < b) (h1 : b ≤ 9223372036854775807) : base_Gcd a b = some (Int.gcd a b : Int) := by
  unfold base_Gcd
  refine Ok.eq ?_
  rw [ok_bind]
  obtain ⟨r, h3, h4⟩ := euclid_loop (f := fun (s2 : (Int × Int)) => bif !(decide (s2.2 = 0)) then bif decide (s2.2 = 0) then none else some (.inl (s2.2, s2.1.tmod s2.2)) else some (.inr s2.1)) (fun s => by
    by_cases h : s.2 = 0 <;> simp [h]) b.natAbs a b (Nat.le_refl _)
  refine ⟨r, h3, ?_⟩
  have h := (gcd_pos_le (a := a) h0).1
  show Ok ((base_Size r).bind fun x4 => some x4) _
  rw [Size_ok (by omega), Option.bind_some, ok_some, h4]
def low (num den : Int) : Prop := 0 < den ∧ Int.gcd num den = 1
instance (num den : Int) : Decidable (low num den) := inferInstanceAs (Decidable (_ ∧ _))
def rigE (r : Rg) : Int :=
  if matE r.1 ≠ 0 then matE r.1 else if matE r.2.1 ≠ 0 then matE r.2.1 else if r.1.length ≠ r.2.1.length then 13 else if invE r.2.1 ≠ 0 then invE r.2.1
  else if ¬ low r.2.2.1 r.2.2.2.1 then 3 else if ¬ (0 ≤ r.2.2.1 ∧ r.2.2.1 ≤ r.2.2.2.1) then 2 else if ¬ r.2.2.2.1 ≤ 100 then 2 else if ¬ (0 ≤ r.2.2.2.2.1 ∧ r.2.2.2.2.1 ≤ 1000) then 2 else 0
theorem IsLowest_ok {num den : Int} (h1 : den ≤ 9223372036854775807) : base_IsLowest (num, den, ()) = some (decide (low num den)) := by
  unfold base_IsLowest
  by_cases h0 : 0 < den
  · rw [decide_eq_true (show den > 0 from h0), cond_true, Gcd_gen h0 h1]
    simp only [Option.bind_some]
    congr 1
    unfold low
    simp [h0] <;> omega
  · rw [decide_eq_false (show ¬ den > 0 from h0), cond_false, decide_eq_false (show ¬ low num den from fun h => h0 h.1)]; rfl
theorem RigErr_ok {r : Rg} (hp : r.1.length ≤ 1000000000) (hpr : ∀ x ∈ r.1, x.length ≤ 1000000000) (hm : r.2.1.length ≤ 1000000000) (hmr : ∀ x ∈ r.2.1, x.length ≤ 1000000000) (hd : r.2.2.2.1 ≤ 9223372036854775807) : ref04_RigErr r = some (rigE r) := by
  obtain ⟨p, m, num, den, lag, _⟩ := r
  simp only at hp hpr hm hmr hd
  unfold ref04_RigErr rigE
  simp only
  rw [MatrixErr_ok hp hpr, Option.bind_some]
  by_cases e1 : matE p = 0
  case neg => rw [decide_eq_false e1, Bool.not_false, cond_true, if_pos e1]
  rw [decide_eq_true e1, Bool.not_true, cond_false, if_neg (show ¬ (matE p ≠ 0) from fun hh => hh e1), MatrixErr_ok hm hmr, Option.bind_some]
  by_cases e2 : matE m = 0
  case neg => rw [decide_eq_false e2, Bool.not_false, cond_true, if_pos e2]
  rw [decide_eq_true e2, Bool.not_true, cond_false, if_neg (show ¬ (matE m ≠ 0) from fun hh => hh e2)]
  by_cases e3 : p.length = m.length
  case neg => rw [decide_eq_false (show ¬ (m.length : Int) = (p.length : Int) by omega), Bool.not_false, cond_true, if_pos e3]
  rw [decide_eq_true (show (m.length : Int) = (p.length : Int) by omega), Bool.not_true, cond_false, if_neg (show ¬ (p.length ≠ m.length) from fun hh => hh e3), InverseErr_ok hm hmr, Option.bind_some]
  by_cases e4 : invE m = 0
  case neg => rw [decide_eq_false e4, Bool.not_false, cond_true, if_pos e4]
  rw [decide_eq_true e4, Bool.not_true, cond_false, if_neg (show ¬ (invE m ≠ 0) from fun hh => hh e4), IsLowest_ok hd, Option.bind_some]
  by_cases e5 : low num den
  case neg => rw [decide_eq_false e5, Bool.not_false, cond_true, if_pos e5]
  rw [decide_eq_true e5, Bool.not_true, cond_false, if_neg (show ¬ (¬ low num den) from fun hh => hh e5), Within_ok, Option.bind_some]
  by_cases e6 : 0 ≤ num ∧ num ≤ den
  case neg => rw [decide_eq_false e6, Bool.not_false, cond_true, if_pos e6]; rfl
  rw [decide_eq_true e6, Bool.not_true, cond_false, if_neg (show ¬ (¬ (0 ≤ num ∧ num ≤ den)) from fun hh => hh e6)]
  by_cases e7 : den ≤ 100
  case neg => rw [decide_eq_true (show den > 100 by omega), cond_true, if_pos e7]; rfl
  rw [decide_eq_false (show ¬ den > 100 by omega), cond_false, if_neg (show ¬ (¬ den ≤ 100) from fun hh => hh e7), Within_ok]
  by_cases e8 : 0 ≤ lag ∧ lag ≤ 1000
  case neg => rw [decide_eq_false e8, if_pos e8]; rfl
  rw [decide_eq_true e8, if_neg (show ¬ (¬ (0 ≤ lag ∧ lag ≤ 1000)) from fun hh => hh e8)]; rfl
theorem openRig_ok {r : Rg} (hp : r.1.length ≤ 1000000000) (hpr : ∀ x ∈ r.1, x.length ≤ 1000000000) (hm : r.2.1.length ≤ 1000000000) (hmr : ∀ x ∈ r.2.1, x.length ≤ 1000000000) (hd : r.2.2.2.1 ≤ 9223372036854775807) :
    ∃ y, drive_openRig r = some (y, rigE r) ∧ (rigE r = 0 → y = (r.1, r.2.1, r.2.2.1, r.2.2.2.1, r.2.2.2.2.1, invD r.2.1, mx r.2.1.length r.2.1.length (invF r.2.1), ())) := by
  obtain ⟨p, m, num, den, lag, _⟩ := r
  simp only at hp hpr hm hmr hd
  unfold drive_openRig
  simp only
  rw [matrixErr_ok hp hpr, Option.bind_some, matrixErr_ok hm hmr, Option.bind_some, unless_eq, Option.bind_some, first3, Option.bind_some]
  unfold rigE
  simp only
  by_cases e1 : matE p = 0
  case neg =>
    rw [if_neg e1, decide_eq_false e1, Bool.not_false, cond_true, if_pos e1]
    exact ⟨_, rfl, fun h => absurd h e1⟩
  rw [if_pos e1, if_neg (show ¬ (matE p ≠ 0) from fun hh => hh e1)]
  by_cases e2 : matE m = 0
  case neg =>
    rw [if_neg e2, decide_eq_false e2, Bool.not_false, cond_true, if_pos e2]
    exact ⟨_, rfl, fun h => absurd h e2⟩
  rw [if_pos e2, if_neg (show ¬ (matE m ≠ 0) from fun hh => hh e2)]
  by_cases e3 : p.length = m.length
  case neg =>
    rw [decide_eq_false (show ¬ (p.length : Int) = (m.length : Int) by omega), if_neg (by simp), decide_eq_false (show ¬ (13 : Int) = 0 by omega), Bool.not_false, cond_true, if_pos e3]
    exact ⟨_, rfl, fun h => by cases h⟩
  rw [decide_eq_true (show (p.length : Int) = (m.length : Int) by omega), if_pos rfl, decide_eq_true (show (0 : Int) = 0 from rfl), Bool.not_true, cond_false, if_neg (show ¬ (p.length ≠ m.length) from fun hh => hh e3), InverseOf_ok hm hmr, Option.bind_some]
  have hmid : ∀ b1 b2 b3 : Bool, ∀ x : Int, drive_first [x, if b1 = true then (0 : Int) else 3, if b2 = true then (0 : Int) else 2, if b3 = true then (0 : Int) else 2] = some (if x = 0 then if b1 = true then if b2 = true then if b3 = true then 0 else 2 else 2 else 3 else x) := fun b1 b2 b3 x => by
    rw [first4]
    cases b1 <;> cases b2 <;> cases b3 <;> simp
  have hinner : (bif decide (den > 0) then
        (drive_divisor ([num, den])).bind fun x6 =>
        (drive_unless (decide (x6 = 1)) (3 : Int)).bind fun x7 =>
        (drive_within num (0 : Int) den).bind fun x8 =>
        bif x8 then
          (drive_unless (decide (den ≤ 100)) (2 : Int)).bind fun x9 =>
          (drive_within lag (0 : Int) (1000 : Int)).bind fun x10 =>
          (drive_unless x10 (2 : Int)).bind fun x11 =>
          (drive_first ([invE m, x7, x9, x11])).bind fun x12 =>
          some x12
        else
          (drive_unless false (2 : Int)).bind fun x13 =>
          (drive_within lag (0 : Int) (1000 : Int)).bind fun x14 =>
          (drive_unless x14 (2 : Int)).bind fun x15 =>
          (drive_first ([invE m, x7, x13, x15])).bind fun x16 =>
          some x16
      else
        (drive_unless false (3 : Int)).bind fun x17 =>
        (drive_within num (0 : Int) den).bind fun x18 =>
        bif x18 then
          (drive_unless (decide (den ≤ 100)) (2 : Int)).bind fun x19 =>
          (drive_within lag (0 : Int) (1000 : Int)).bind fun x20 =>
          (drive_unless x20 (2 : Int)).bind fun x21 =>
          (drive_first ([invE m, x17, x19, x21])).bind fun x22 =>
          some x22
        else
          (drive_unless false (2 : Int)).bind fun x23 =>
          (drive_within lag (0 : Int) (1000 : Int)).bind fun x24 =>
          (drive_unless x24 (2 : Int)).bind fun x25 =>
          (drive_first ([invE m, x17, x23, x25])).bind fun x26 =>
          some x26) = some (if invE m ≠ 0 then invE m
  else if ¬ low num den then 3 else if ¬ (0 ≤ num ∧ num ≤ den) then 2 else if ¬ den ≤ 100 then 2 else if ¬ (0 ≤ lag ∧ lag ≤ 1000) then 2 else 0) := by
    simp only [within_ok, unless_eq, Option.bind_some, hmid]
    by_cases h0 : 0 < den
    · rw [decide_eq_true (show den > 0 from h0), cond_true, divisor2_ok h0 hd]
      simp only [Option.bind_some, hmid]
      have hl : low num den ↔ ((Int.gcd num den : Nat) : Int) = 1 := by unfold low; constructor <;> intro h <;> omega
      by_cases e4 : invE m = 0 <;> by_cases e5 : ((Int.gcd num den : Nat) : Int) = 1 <;> by_cases e6 : 0 ≤ num ∧ num ≤ den <;> by_cases e7 : den ≤ 100 <;> by_cases e8 : 0 ≤ lag ∧ lag ≤ 1000 <;> (try clear h0 hd hp hpr hm hmr) <;> simp [hl, e4, e5, e6, e7, e8]
    · have hl : ¬ low num den := fun h => h0 h.1
      rw [decide_eq_false (show ¬ den > 0 from h0), cond_false]
      by_cases e4 : invE m = 0 <;> by_cases e6 : 0 ≤ num ∧ num ≤ den <;> by_cases e7 : den ≤ 100 <;> by_cases e8 : 0 ≤ lag ∧ lag ≤ 1000 <;> (try clear h0 hd hp hpr hm hmr) <;> simp [hl, e4, e6, e7, e8]
  rw [hinner, Option.bind_some]
  refine ⟨_, rfl, fun h => ?_⟩
  have e4 : invE m = 0 := by
    false_or_by_contra
    rename_i h9
    rw [if_pos h9] at h
    exact h9 h
  rw [if_pos e4, invM_eq]
theorem rig_ok {r : Rg} (h : rigE r = 0) : matE r.1 = 0 ∧ invE r.2.1 = 0 ∧ r.1.length = r.2.1.length ∧ 0 < r.2.2.2.1 ∧ 0 ≤ r.2.2.1 ∧ r.2.2.1 ≤ r.2.2.2.1 ∧ r.2.2.2.1 ≤ 100 := by
  unfold rigE at h
  by_cases e1 : matE r.1 = 0
  case neg => rw [if_pos e1] at h; exact absurd h e1
  rw [if_neg (show ¬ (matE r.1 ≠ 0) from fun hh => hh e1)] at h
  by_cases e2 : matE r.2.1 = 0
  case neg => rw [if_pos e2] at h; exact absurd h e2
  rw [if_neg (show ¬ (matE r.2.1 ≠ 0) from fun hh => hh e2)] at h
  by_cases e3 : r.1.length = r.2.1.length
  case neg => rw [if_pos e3] at h; cases h
  rw [if_neg (show ¬ (r.1.length ≠ r.2.1.length) from fun hh => hh e3)] at h
  by_cases e4 : invE r.2.1 = 0
  case neg => rw [if_pos e4] at h; exact absurd h e4
  rw [if_neg (show ¬ (invE r.2.1 ≠ 0) from fun hh => hh e4)] at h
  by_cases e5 : low r.2.2.1 r.2.2.2.1
  case neg => rw [if_pos e5] at h; cases h
  rw [if_neg (show ¬ ¬ _ from fun hh => hh e5)] at h
  by_cases e6 : 0 ≤ r.2.2.1 ∧ r.2.2.1 ≤ r.2.2.2.1
  case neg => rw [if_pos e6] at h; cases h
  rw [if_neg (show ¬ ¬ (0 ≤ r.2.2.1 ∧ r.2.2.1 ≤ r.2.2.2.1) from fun hh => hh e6)] at h
  by_cases e7 : r.2.2.2.1 ≤ 100
  case neg => rw [if_pos e7] at h; cases h
  exact ⟨e1, e4, e3, e5.1, e6.1, e6.2, e7⟩
def conF (r : Rg) (i k : Nat) : G := gsub (diagF (r.2.2.2.1 * invD r.2.1) i k) (gmul (prodF r.2.1.length (ent r.1) (invF r.2.1) i k) (r.2.2.1, 0, ()))
def conR (r : Rg) : Int := rsum r.2.1.length r.2.1.length (conF r)
def conQ (r : Rg) : Int := r.2.2.2.1 * invD r.2.1
def conG (r : Rg) : Int := Int.gcd (conR r) (conQ r)
def con (r : Rg) : G := ((conR r).tdiv (conG r), (conQ r).tdiv (conG r), ())
theorem made_c {n c : Nat} (hn : n ≤ 1000) (hc : c ≤ 1000) (a b : Mx) (f : Nat → Nat → G) (h : ∀ i k : Nat, i < n → k < c → drive_ContractionOf_1 i k a b = some (f i k)) : drive_made_of_drive_ContractionOf_1 (n : Int) (c : Int) a b = some (mx n c f) := by
  unfold drive_made_of_drive_ContractionOf_1
  exact made_loop n c hn hc (fun i k => drive_ContractionOf_1 i k a b) f h
theorem minus_ok {A B : Int} {a b : G} (h : Bd A a) (h' : Bd B b) (hb : A + B ≤ 9000000000000000000) : drive_whole_minus a b = some (gsub a b) := congrArg some (sub_w h h' hb)
theorem GSub_ok {A B : Int} {a b : G} (h : Bd A a) (h' : Bd B b) (hb : A + B ≤ 9000000000000000000) : base_GSub a b = some (gsub a b) := congrArg some (sub_w h h' hb)
structure ConB (r : Rg) : Prop where
  pB : BdF 73728000000 r.2.1.length r.2.1.length (prodF r.2.1.length (ent r.1) (invF r.2.1))
  sB : BdF 14745600000000 r.2.1.length r.2.1.length (fun i k => gmul (prodF r.2.1.length (ent r.1) (invF r.2.1) i k) (r.2.2.1, 0, ()))
  qB : 1 ≤ conQ r ∧ conQ r ≤ 7372800000000
  cB : BdF 22118400000000 r.2.1.length r.2.1.length (conF r)
  rB : 0 ≤ conR r ∧ conR r ≤ 132710400000000
  n1 : 1 ≤ r.2.1.length
  n3 : r.2.1.length ≤ 3
theorem conB {r : Rg} (h : rigE r = 0) : ConB r := by
  obtain ⟨hE, hI, hl, h0, h1, h2, h3⟩ := rig_ok h
  obtain ⟨m1, m3, mR, mB⟩ := mat_ok hE
  have hX := invF_bd hI
  have hD := invD_bd hI
  have hD1 := invD_pos hI
  have hA := bdM_ent mB mR
  rw [hl] at hA
  have hq2 : conQ r ≤ 100 * 73728000000 := Int.mul_le_mul h3 hD.2 hD.1 (by omega)
  have hq1 : 1 * 1 ≤ conQ r := Int.mul_le_mul (by omega) hD1 (by omega) (by omega)
  have hp : BdF 73728000000 r.2.1.length r.2.1.length (prodF r.2.1.length (ent r.1) (invF r.2.1)) := fun i k hi hk => by
    have := Bd.sum (n := r.2.1.length) (f := fun j => gmul (ent r.1 i j) (invF r.2.1 j k)) (B := 2 * (20 * 614400000)) fun j hj => (hA i j hi hj).mul (hX j k hj hk)
    refine this.mono ?_
    have h4 : (r.2.1.length : Int) * (2 * (20 * 614400000)) ≤ 3 * (2 * (20 * 614400000)) := Int.mul_le_mul_of_nonneg_right (by omega) (by omega)
    omega
  have hs : BdF 14745600000000 r.2.1.length r.2.1.length (fun i k => gmul (prodF r.2.1.length (ent r.1) (invF r.2.1) i k) (r.2.2.1, 0, ())) := fun i k hi hk => by
    have h5 : Bd 100 ((r.2.2.1, 0, ()) : G) := by unfold Bd; simp only <;> omega
    exact ((hp i k hi hk).mul h5).mono (by omega)
  have hc : BdF 22118400000000 r.2.1.length r.2.1.length (conF r) := fun i k hi hk => by
    have hdg := diag_bd (s := conQ r) (B := 7372800000000) (by omega) (by omega) r.2.1.length r.2.1.length i k hi hk
    exact (hdg.sub (hs i k hi hk)).mono (by omega)
  refine ⟨hp, hs, by omega, hc, ?_, by omega, by omega⟩
  unfold conR rsum
  refine maxZ_bd (by omega) fun i hi => ?_
  have := (sumZ_bd (n := r.2.1.length) (f := fun k => gsize (conF r i k)) fun k hk => gsize_bd (hc i k hi hk)).2
  have h4 : (r.2.1.length : Int) * (2 * 22118400000000) ≤ 3 * (2 * 22118400000000) := Int.mul_le_mul_of_nonneg_right (by omega) (by omega)
  omega
theorem con_bd {r : Rg} (h : ConB r) : 1 ≤ conG r ∧ (-132710400000000 ≤ (con r).1 ∧ (con r).1 ≤ 132710400000000) ∧ 1 ≤ (con r).2.1 ∧ (con r).2.1 ≤ 7372800000000 := by
  have hg := gcd_pos_le (a := conR r) (b := conQ r) (by have := h.qB; omega)
  have hq := h.qB
  have hr := h.rB
  have hG : 1 ≤ conG r := by unfold conG; omega
  have t1 := tdiv_bd (x := conR r) (g := conG r) (B := 132710400000000) (by omega)
  have t2 := tdiv_bd (x := conQ r) (g := conG r) (B := 7372800000000) (by omega)
  refine ⟨hG, t1, ?_, t2.2⟩
  have hd : conG r ∣ conQ r := by
    have h1 : Nat.gcd (conR r).natAbs (conQ r).natAbs ∣ (conQ r).natAbs := Nat.gcd_dvd_right _ _
    exact Int.ofNat_dvd_left.2 h1
  have hm := Int.tdiv_mul_cancel hd
  have hnn : 0 ≤ (conQ r).tdiv (conG r) := Int.tdiv_nonneg (by omega) (by omega)
  show 1 ≤ (conQ r).tdiv (conG r)
  false_or_by_contra
  have h0 : (conQ r).tdiv (conG r) = 0 := by omega
  rw [h0, Int.zero_mul] at hm; omega
def smallC (c : G) : Prop := (-1000000000 ≤ c.1 ∧ c.1 ≤ 1000000000) ∧ c.2.1 ≤ 1000000000
instance (c : G) : Decidable (smallC c) := inferInstanceAs (Decidable (_ ∧ _))
theorem small_ok {r : Rg} (h : ConB r) : drive_small (conR r) (conQ r) = some (if smallC (con r) then (con r, 0) else ((0, 0, ()), 8)) := by
  obtain ⟨hG, h1, h2, h3⟩ := con_bd h
  have hq := h.qB
  unfold drive_small
  rw [divisor2_ok (by omega) (by omega), Option.bind_some]
  have e : ((Int.gcd (conR r) (conQ r) : Nat) : Int) = conG r := rfl
  have e1 : (conR r).tdiv (conG r) = (con r).1 := rfl
  have e2 : (conQ r).tdiv (conG r) = (con r).2.1 := rfl
  rw [e, decide_eq_false (show ¬ conG r = 0 by omega), cond_false, cond_false, e1, e2, wid (by omega) (by omega), wid (by omega) (by omega), isSized_ok _ _ (by omega) (by omega), Option.bind_some]
  by_cases c1 : -1000000000 ≤ (con r).1 ∧ (con r).1 ≤ 1000000000
  · by_cases c2 : (con r).2.1 ≤ 1000000000
    · rw [decide_eq_true c1, decide_eq_false (show ¬ (con r).2.1 > 1000000000 by omega), if_pos (show smallC (con r) from ⟨c1, c2⟩)]; rfl
    · rw [decide_eq_true c1, decide_eq_true (show (con r).2.1 > 1000000000 by omega), if_neg (show ¬ smallC (con r) from fun hh => c2 hh.2)]; rfl
  · rw [decide_eq_false c1, if_neg (show ¬ smallC (con r) from fun hh => c1 hh.1)]; rfl
theorem ContractionOf_ok {r : Rg} (hp : r.1.length ≤ 1000000000) (hpr : ∀ x ∈ r.1, x.length ≤ 1000000000) (hm : r.2.1.length ≤ 1000000000) (hmr : ∀ x ∈ r.2.1, x.length ≤ 1000000000) (hd : r.2.2.2.1 ≤ 9223372036854775807) :
    drive_ContractionOf r = some (if rigE r ≠ 0 then ((0, 0, ()), rigE r) else if smallC (con r) then (con r, 0) else ((0, 0, ()), 8)) := by
  unfold drive_ContractionOf
  obtain ⟨y, e1, e2⟩ := openRig_ok hp hpr hm hmr hd
  have e1' : drive_openRig (r.1, r.2.1, r.2.2.1, r.2.2.2.1, r.2.2.2.2.1, ()) = some (y, rigE r) := e1
  rw [e1', Option.bind_some]
  by_cases h : rigE r = 0
  case neg => rw [decide_eq_false h, Bool.not_false, cond_true, if_pos h]
  rw [decide_eq_true h, Bool.not_true, cond_false, if_neg (show ¬ (rigE r ≠ 0) from fun hh => hh h)]
  have hB := conB h
  obtain ⟨hE, hI, hl, h0, h1, h2, h3⟩ := rig_ok h
  obtain ⟨m1, m3, mR, mB⟩ := mat_ok hE
  have hA := bdM_ent mB mR
  have hpm := rect_mx mR
  rw [e2 h]
  simp only
  have hq := hB.qB
  have hX := invF_bd hI
  have n1 := hB.n1
  have n3 := hB.n3
  rw [wid (n := r.2.2.2.1 * invD r.2.1) (by unfold conQ at hq; omega) (by unfold conQ at hq; omega)]
  rw [hl] at hA hpm ⊢
  rw [unit_ok (by omega), Option.bind_some, unit_scaled_ok (by omega) (by omega) (by unfold conQ at hq; omega), Option.bind_some]
  have htimes := times_ok (A := 20) (B := 614400000) (by omega) (by omega) hA hX (by omega) (by omega) (by omega) (by omega) (by omega)
  rw [← hpm] at htimes
  rw [htimes, Option.bind_some, scaled_ok (A := 73728000000) (B := 100) (by omega) (by omega) (by omega) hB.pB (by omega) (by omega), Option.bind_some, mx_len]
  rw [made_c (by omega) (by omega) _ _ (conF r) (fun i k hi hk => by
    unfold drive_ContractionOf_1
    have e9 : drive_whole_minus (diagF (r.2.2.2.1 * invD r.2.1) i k) (gmul (prodF r.2.1.length (ent r.1) (invF r.2.1) i k) (r.2.2.1, 0, ())) = some (conF r i k) := minus_ok (diag_bd (s := conQ r) (B := 7372800000000) (by omega) (by omega) r.2.1.length r.2.1.length i k hi hk) (hB.sB i k hi hk) (by omega)
    rw [at_ok _ hi hk, Option.bind_some, at_ok _ hi hk, Option.bind_some, e9]
    rfl)]
  rw [Option.bind_some, rowSum_ok (by omega) hB.cB (by omega) (by omega) (by omega) (by omega), Option.bind_some]
  have := small_ok hB
  unfold conR conQ at this
  rw [this]
  rfl
theorem mx_set {n c i k : Nat} (f : Nat → Nat → G) (z : G) (hi : i < n) (hk : k < c) : (mx n c f).set i ((mkL c fun b => f i b).set k z) = mx n c fun a b => if a = i ∧ b = k then z else f a b := by
  refine mkL_of (by simp [mx_len]) fun a ha => ?_
  rw [List.getElem?_set, mx_len]
  by_cases c1 : i = a
  · subst c1
    rw [if_pos rfl, if_pos hi]
    congr 1
    refine mkL_of (by simp [mkL_len]) fun b hb => ?_
    rw [List.getElem?_set, mkL_len]
    by_cases c2 : k = b
    · subst c2
      rw [if_pos rfl, if_pos hk]
      show some z = some (if i = i ∧ k = k then z else f i k)
      rw [if_pos ⟨rfl, rfl⟩]
    · rw [if_neg c2, mkL_get _ hb]
      show some (f i b) = some (if i = i ∧ b = k then z else f i b)
      rw [if_neg (fun hh => c2 hh.2.symm)]
  · rw [if_neg c1, mx_at _ ha]
    congr 1
    exact mkL_congr fun b hb => by
      show f a b = if a = i ∧ b = k then z else f a b
      rw [if_neg (fun hh => c1 hh.1.symm)]
def mid (f g : Nat → Nat → G) (i k a b : Nat) : G := if a < i ∨ (a = i ∧ b < k) then f a b else g a b
theorem mid_zero (f g : Nat → Nat → G) (a b : Nat) : mid f g 0 0 a b = g a b := if_neg (by omega)
theorem mid_here (f g : Nat → Nat → G) (i k : Nat) : mid f g i k i k = g i k := if_neg (by omega)
theorem mid_next (f g : Nat → Nat → G) (i k a b : Nat) : (if a = i ∧ b = k then f i k else mid f g i k a b) = mid f g i (k + 1) a b := by
  unfold mid
  by_cases c1 : a = i ∧ b = k
  · rw [if_pos c1, if_pos (by omega), c1.1, c1.2]
  · rw [if_neg c1]
    by_cases c2 : a < i ∨ (a = i ∧ b < k)
    · rw [if_pos c2, if_pos (by omega)]
    · rw [if_neg c2, if_neg (by omega)]
theorem mid_row (f g : Nat → Nat → G) {i n a b : Nat} (hb : b < n) : mid f g i n a b = mid f g (i + 1) 0 a b := by
  unfold mid
  by_cases c2 : a < i ∨ (a = i ∧ b < n)
  · rw [if_pos c2, if_pos (by omega)]
  · rw [if_neg c2, if_neg (by omega)]
theorem mid_end (f g : Nat → Nat → G) {n a b : Nat} (ha : a < n) : mid f g n 0 a b = f a b := if_pos (by omega)
theorem mid_set {n c i k : Nat} (f g : Nat → Nat → G) {z : G} (hi : i < n) (hk : k < c) (hz : z = f i k) : (mx n c (mid f g i k)).set i ((mkL c fun b => mid f g i k i b).set k z) = mx n c (mid f g i (k + 1)) := by
  rw [mx_set (mid f g i k) z hi hk, hz]
  exact mx_congr fun a b _ _ => mid_next f g i k a b
theorem Contraction_ok {r : Rg} (h : rigE r = 0) : ref04_Contraction r = some (con r) := by
  unfold ref04_Contraction
  have hB := conB h
  obtain ⟨hE, hI, hl, h0, h1, h2, h3⟩ := rig_ok h
  obtain ⟨m1, m3, mR, mB⟩ := mat_ok hE
  have hA := bdM_ent mB mR
  have hpm := rect_mx mR
  have hq := hB.qB
  have hX := invF_bd hI
  have n1 := hB.n1
  have n3 := hB.n3
  rw [hl] at hA hpm
  rw [Inverse_ok hI, Option.bind_some, invM_eq]
  simp only
  have htimes := Product_ok (A := 20) (B := 614400000) (by omega) (by omega) hA hX (by omega) (by omega) (by omega) (by omega) (by omega)
  rw [← hpm] at htimes
  have eq : invD r.2.1 * r.2.2.2.1 = conQ r := Int.mul_comm _ _
  rw [htimes, Option.bind_some, mx_len, eq, wid (by omega) (by omega), one_ok (by omega), Option.bind_some]
  generalize hn : r.2.1.length = n at *
  let st (i k : Nat) : Mx := mx n n (mid (conF r) (diagF (conQ r)) i k)
  have hloop : ∀ K : Mx → Option G, K (mx n n (conF r)) = some (con r) → (loopO (fun (s5 : (Mx × Int)) =>
      bif decide (s5.2 < (n : Int)) then
        (loopO (fun (s7 : (Mx × Int)) =>
            bif decide (s7.2 < (n : Int)) then
              (idx s7.1 s5.2).bind fun x8 =>
              (idx s7.1 s5.2).bind fun x9 =>
              (idx x9 s7.2).bind fun x10 =>
              (idx (mx n n (prodF n (ent r.1) (invF r.2.1))) s5.2).bind fun x11 =>
              (idx x11 s7.2).bind fun x12 =>
              (idx (mx n n (prodF n (ent r.1) (invF r.2.1))) s5.2).bind fun x13 =>
              (idx x13 s7.2).bind fun x14 =>
              (base_GSub x10 (w64 (r.2.2.1 * x12.1), w64 (r.2.2.1 * x14.2.1), ())).bind fun x15 =>
              (idx x8 s7.2).bind fun x16 =>
              (idx s7.1 s5.2).bind fun x17 =>
              (idx x17 s7.2).bind fun x18 =>
              let l19 : (List (Int × Int × Unit)) := List.set x17 s7.2.toNat x15
              let l20 : (List (List (Int × Int × Unit))) := List.set s7.1 s5.2.toNat l19
              some (.inl (l20, w64 (s7.2 + 1)))
            else
              some (.inr s7.1)) (s5.1, 0)).bind fun (p21 : Mx) =>
        some (.inl (p21, w64 (s5.2 + 1)))
      else
        some (.inr s5.1)) (mx n n (diagF (conQ r)), 0)).bind K = some (con r) := by
    intro K hK
    refine Ok.eq ?_
    rw [ok_bind]
    refine (loop_up n (fun i (s : Mx × Int) => s = (st i 0, (i : Int))) (fun q => q = mx n n (conF r)) ?_ ?_).mono (fun a ha => by rw [ha, hK]; exact ok_some.2 rfl)
    · congr 1
      exact (mx_congr fun a b _ _ => (mid_zero _ _ a b).symm)
    · rintro i s hi rfl
      by_cases hlt : i < n
      · have e0 : decide ((i : Int) < (n : Int)) = true := decide_eq_true (by omega)
        simp only [e0, cond_true]
        rw [rnd_bind]
        refine (loop_up n (fun k (s : Mx × Int) => s = (st i k, (k : Int))) (fun q => q = st (i + 1) 0) rfl ?_).mono ?_
        · rintro k s hk rfl
          by_cases hlt2 : k < n
          · have e1 : decide ((k : Int) < (n : Int)) = true := decide_eq_true (by omega)
            simp only [e1, cond_true]
            have hrow : idx (st i k) (i : Int) = some (mkL n fun b => mid (conF r) (diagF (conQ r)) i k i b) := idx_of (mx_at _ hlt)
            have hent : idx (mkL n fun b => mid (conF r) (diagF (conQ r)) i k i b) (k : Int) = some (diagF (conQ r) i k) := (idx_of (mkL_get _ hlt2)).trans (congrArg some (mid_here _ _ i k))
            have hrow2 : idx (mx n n (prodF n (ent r.1) (invF r.2.1))) (i : Int) = some (mkL n fun b => prodF n (ent r.1) (invF r.2.1) i b) := idx_of (mx_at _ hlt)
            have hent2 : idx (mkL n fun b => prodF n (ent r.1) (invF r.2.1) i b) (k : Int) = some (prodF n (ent r.1) (invF r.2.1) i k) := idx_of (mkL_get _ hlt2)
            simp only [hrow, hent, hrow2, hent2, Option.bind_some]
            have hsb := hB.sB
            rw [hn] at hsb
            have hs0 : Bd 14745600000000 (gmul (prodF n (ent r.1) (invF r.2.1) i k) (r.2.2.1, 0, ())) := hsb i k hlt hlt2
            have hs := hs0
            rw [gscale] at hs
            have hsc : ((w64 (r.2.2.1 * (prodF n (ent r.1) (invF r.2.1) i k).1), w64 (r.2.2.1 * (prodF n (ent r.1) (invF r.2.1) i k).2.1), ()) : G) = gmul (prodF n (ent r.1) (invF r.2.1) i k) (r.2.2.1, 0, ()) := by
              unfold Bd at hs
              simp only at hs
              rw [Int.mul_comm r.2.2.1, Int.mul_comm r.2.2.1, wid (by omega) (by omega), wid (by omega) (by omega), gscale]
            rw [hsc, GSub_ok (diag_bd (s := conQ r) (B := 7372800000000) (by omega) (by omega) n n i k hlt hlt2) hs0 (by omega)]
            simp only [Option.bind_some, Int.toNat_natCast]
            rw [wid (by omega) (by omega), rnd_inl]
            refine ⟨hlt2, ?_⟩
            congr 1
            exact mid_set (conF r) (diagF (conQ r)) hlt hlt2 (by unfold conF conQ; rw [hn])
          · have : k = n := by omega
            subst this
            have e1 : decide ((k : Int) < (k : Int)) = false := by simp
            simp only [e1, cond_false]
            rw [rnd_inr]
            exact mx_congr fun a b ha hb => mid_row _ _ hb
        · rintro q rfl
          rw [wid (by omega) (by omega), rnd_inl]
          exact ⟨hlt, rfl⟩
      · have : i = n := by omega
        subst this
        have e0 : decide ((i : Int) < (i : Int)) = false := by simp
        simp only [e0, cond_false]
        rw [rnd_inr]
        exact mx_congr fun a b ha hb => mid_end _ _ ha
  refine hloop _ ?_
  have hcb := hB.cB
  rw [hn] at hcb
  rw [refRowSum_ok (by omega) hcb (by omega) (by omega) (by omega) (by omega), Option.bind_some]
  have hR : rsum n n (conF r) = conR r := by unfold conR; rw [hn]
  rw [hR]
  unfold base_Lowest
  obtain ⟨hG, g1, g2, g3⟩ := con_bd hB
  have e : ((Int.gcd (conR r) (conQ r) : Nat) : Int) = conG r := rfl
  have e1 : (conR r).tdiv (conG r) = (con r).1 := rfl
  have e2 : (conQ r).tdiv (conG r) = (con r).2.1 := rfl
  rw [Gcd_gen (by omega) (by omega), Option.bind_some, e, decide_eq_false (show ¬ conQ r < 0 by omega), cond_false, Option.bind_some, decide_eq_false (show ¬ conG r = 0 by omega), cond_false, cond_false, e1, e2, wid (by omega) (by omega), wid (by omega) (by omega)]
  rfl
theorem rsum_zero {n c : Nat} {f : Nat → Nat → G} (h : ∀ i k, i < n → k < c → f i k = g0) : rsum n c f = 0 := by
  have h1 : ∀ (c : Nat) (q : Nat → Int), (∀ k, k < c → q k = 0) → sumZ c q = 0 := fun c q => by
    induction c with
    | zero => intro _; rfl
    | succ c ih => intro h; simp only [sumZ]; rw [ih fun k hk => h k (by omega), h c (by omega)] <;> rfl
  have h2 : ∀ (n : Nat) (q : Nat → Int), (∀ k, k < n → q k = 0) → maxZ n q = 0 := fun n q => by
    induction n with
    | zero => intro _; rfl
    | succ n ih => intro h; simp only [maxZ]; rw [ih fun k hk => h k (by omega), h n (by omega)] <;> rfl
  unfold rsum
  exact h2 _ _ fun i hi => h1 _ _ fun k hk => by rw [h i k hi hk]; rfl
def selfR (m : Mx) : Rg := (m, m, 1, 1, 0, ())
theorem self_rigE {m : Mx} (h : invE m = 0) : rigE (selfR m) = 0 := by
  have hE := (inv_ok h).1
  unfold rigE selfR
  simp only
  rw [if_neg (show ¬ (matE m ≠ 0) from fun hh => hh hE), if_neg (show ¬ (matE m ≠ 0) from fun hh => hh hE), if_neg (show ¬ (m.length ≠ m.length) from fun hh => hh rfl), if_neg (show ¬ (invE m ≠ 0) from fun hh => hh h)]
  rfl
theorem self_con {m : Mx} (h : invE m = 0) : con (selfR m) = (0, 1, ()) := by
  have hD := invD_pos h
  have hR : conR (selfR m) = 0 := rsum_zero fun i k hi hk => by
    show gsub (diagF (1 * invD m) i k) (gmul (prodF m.length (ent m) (invF m) i k) (1, 0, ())) = g0
    rw [inv_right h hi hk, Int.one_mul]
    have : gmul (diagF (invD m) i k) (1, 0, ()) = diagF (invD m) i k := gmul_one _
    rw [this, gsub_self]
  have hQ : conQ (selfR m) = invD m := Int.one_mul _
  have hG : conG (selfR m) = invD m := by
    unfold conG
    rw [hR, hQ, Int.gcd_zero_left]; omega
  unfold con
  rw [hR, hQ, hG, Int.tdiv_self (by omega), Int.zero_tdiv]
theorem fewRig_ok (r : Rg) : Ok (law04_fewRig r) fun b => b = true → FewM r.1 5 ∧ FewM r.2.1 5 := by
  unfold law04_fewRig
  refine Ok.bind (P := fun b : Bool => b = true → FewM r.1 5 ∧ FewM r.2.1 5) ?_ fun b hb => ok_some.2 hb
  refine Ok.bind (few_ok r.1) fun x hx => ?_
  cases x with
  | false => exact ok_some.2 (by simp)
  | true =>
    rw [cond_true]
    exact Ok.bind (few_ok r.2.1) fun y hy => ok_some.2 fun h => ⟨hx rfl, hy h⟩
theorem CopyRig_ok {r : Rg} (hp : r.1.length ≤ 1000000000) (hpr : ∀ x ∈ r.1, x.length ≤ 1000000000) (hm : r.2.1.length ≤ 1000000000) (hmr : ∀ x ∈ r.2.1, x.length ≤ 1000000000) : ref04_CopyRig r = some r := by
  unfold ref04_CopyRig
  rw [CopyMatrix_ok hp hpr, Option.bind_some, CopyMatrix_ok hm hmr, Option.bind_some]
theorem IsSmall_ok {c : G} (h : 1 ≤ c.2.1) : base_IsSmall c = some (decide (smallC c)) := by
  unfold base_IsSmall
  rw [Within_ok, Option.bind_some]
  by_cases c1 : -1000000000 ≤ c.1 ∧ c.1 ≤ 1000000000
  · rw [decide_eq_true c1, cond_true, Within_ok, Option.bind_some, Option.bind_some]
    congr 1
    by_cases c2 : c.2.1 ≤ 1000000000
    · rw [decide_eq_true (show 1 ≤ c.2.1 ∧ c.2.1 ≤ 1000000000 from ⟨h, c2⟩), decide_eq_true (show smallC c from ⟨c1, c2⟩)]
    · rw [decide_eq_false (show ¬ (1 ≤ c.2.1 ∧ c.2.1 ≤ 1000000000) from fun hh => c2 hh.2), decide_eq_false (show ¬ smallC c from fun hh => c2 hh.2)]
  · rw [decide_eq_false c1, cond_false, decide_eq_false (show ¬ smallC c from fun hh => c1 hh.1)]; rfl
theorem DriveContractions_eq (r : Rg) (hd : r.2.2.2.1 ≤ 9223372036854775807) : law04_DriveContractions r = some true := by
  unfold law04_DriveContractions
  rw [show law04_awake = some true from rfl, Option.bind_some, Bool.not_true, cond_false]
  have er : ((r.1, r.2.1, r.2.2.1, r.2.2.2.1, r.2.2.2.2.1, ()) : Rg) = r := rfl
  rw [er]
  refine Ok.eq ?_
  rw [ok_bind]
  refine (fewRig_ok r).mono fun b hb => ?_
  cases b with
  | false => exact ok_some.2 rfl
  | true =>
  obtain ⟨⟨ha5, har⟩, ⟨hb5, hbr⟩⟩ := hb rfl
  have hp : r.1.length ≤ 1000000000 := by omega
  have hm : r.2.1.length ≤ 1000000000 := by omega
  have hpr : ∀ x ∈ r.1, x.length ≤ 1000000000 := fun x h => by have := har x h; omega
  have hmr : ∀ x ∈ r.2.1, x.length ≤ 1000000000 := fun x h => by have := hbr x h; omega
  rw [Bool.not_true, cond_false, CopyRig_ok hp hpr hm hmr, Option.bind_some, ContractionOf_ok hp hpr hm hmr hd, Option.bind_some, RigErr_ok hp hpr hm hmr hd, Option.bind_some]
  by_cases hE : rigE r = 0
  case neg =>
    rw [decide_eq_false hE, Bool.not_false, cond_true, if_pos hE]
    have e1 : decide ((((0, 0, ()) : G), rigE r).2 = rigE r) = true := decide_eq_true rfl
    rw [e1]
    exact ok_some.2 rfl
  rw [decide_eq_true hE, Bool.not_true, cond_false, if_neg (show ¬ (rigE r ≠ 0) from fun hh => hh hE), Contraction_ok hE, Option.bind_some]
  have hI := (rig_ok hE).2.1
  have hq := (con_bd (conB hE)).2.2.1
  rw [IsSmall_ok hq]
  have hself : drive_ContractionOf (r.2.1, r.2.1, 1, 1, 0, ()) = some (((0, 1, ()) : G), 0) := by
    have := ContractionOf_ok (r := selfR r.2.1) hm hmr hm hmr (by show (1 : Int) ≤ _; omega)
    rw [if_neg (show ¬ (rigE (selfR r.2.1) ≠ 0) from fun hh => hh (self_rigE hI)), self_con hI] at this
    exact this
  rw [CopyMatrix_ok hm hmr]
  simp only [Option.bind_some, hself]
  by_cases hs : smallC (con r)
  · rw [decide_eq_true hs, if_pos hs]
    simp only [cond_true, decide_true, Bool.not_true, cond_false, Option.bind_some]
    exact ok_some.2 rfl
  · rw [decide_eq_false hs, if_neg hs]
    simp only [cond_true, decide_true, Bool.not_true, Bool.not_false, cond_false, Option.bind_some]
    exact ok_some.2 rfl
end Go.Proofs.YtbcdgfgacigaoaaGreat.Mat
namespace Go.Proofs.YtbcdgfgacigaoaaGreat
open Go Go.Ab Go.Tx
theorem law04_DriveContractions_true : ∀ x : denP ([Ty.pair (.sl (.sl (.pair I (.pair I .unit)))) (.pair (.sl (.sl (.pair I (.pair I .unit)))) (.pair I (.pair I (.pair I .unit))))].map .ty), RngP maxLen [.pair (.sl (.sl (.pair I (.pair I .unit)))) (.pair (.sl (.sl (.pair I (.pair I .unit)))) (.pair I (.pair I (.pair I .unit))))] x → e_law04_DriveContractions.F x = some true := by
  intro a0 hr
  exact Mat.DriveContractions_eq a0 hr.2.2.2.1.2
end Go.Proofs.YtbcdgfgacigaoaaGreat
end
section
namespace Go.Proofs.YtbcdgfgacigaoaaGreat.driveContractions
open Go Go.Ab Go.Tx Go.ChangeShapes Go.WideShapes Go.ChangeAt Go.RowKit
set_option linter.unusedVariables false
theorem hlib : ∀ g h args r, Lb g = some h → h args = some r → CallOk Tryz.prog g args [] r [] := fun g h args r hg hr => by
  unfold Lb at hg
  split at hg
  · rename_i e
    subst e
    cases hg
    cases args with
    | nil => cases hr; exact awake_ok
    | cons a l => cases hr
  · cases hg
set_option maxRecDepth 100000 in
theorem contract (H : Type) (enc : TypeId × Value → H) (W : World) (base : Nat) (args : Array Value) (ds gs : List (DataW H)) (before : List MemPlace)
    (hval : ∀ (j : Nat) t v, Tryz.f6.params[j]? = some t → args[j]? = some v → Value.okWide Tryz.prog W .any base t v)
    (hW : DataW.Whole enc Tryz.prog Tryz.f6.params.toList Rows.driveContractionsSpec.vars false W args.toList ds gs before) :
    Calls Tryz.prog 6 args W fun e W' => ∃ v, e = .returned v ∧ Rows.driveContractionsSpec.post enc Tryz.prog Tryz.f6 false true false false W args v W' :=
  law_contract (τs := [(.pair (.sl (.sl (.pair I (.pair I .unit)))) (.pair (.sl (.sl (.pair I (.pair I .unit)))) (.pair I (.pair I (.pair I .unit)))))]) (ts := [38]) (tb := 4) (F := e_law04_DriveContractions.F) follows hname hlib laid_out Tryz.func6 (by kernel_rfl) (by kernel_rfl) (by kernel_rfl) (by kernel_rfl) (by kernel_rfl) (by kernel_rfl) Tryz.underlying4 o_law04_DriveContractions law04_DriveContractions_true rfl
    (fun H ds h => by
      match ds, h with
      | [d1], _ => rfl) H enc W base args ds gs before hval hW
set_option maxRecDepth 100000 in
theorem lifted (os : Os) (started : os.Started) (H : Type) (enc : TypeId × Value → H) :
    ReturnsInHanded {} Tryz.checked os 6 .any (Rows.driveContractionsSpec.pre6 enc Tryz.prog Tryz.f6 Rows.driveContractionsRow.domain false) (Rows.driveContractionsSpec.post enc Tryz.prog Tryz.f6 false true false false) := by
  refine returnsInHanded_of_change (C := Tryz.checked) own started (by kernel_rfl) Tryz.func6
    (ChangeSpec.witness6 (enc := enc) (C := Tryz.checked) false ⟨#[], #[.agg #[.slice none 0 0, .slice none 0 0, .int .i64 0, .int .i64 0, .int .i64 0]], []⟩ 8 (by kernel_rfl) (by kernel_rfl) (by kernel_rfl) (by kernel_rfl)) ?_
  intro W base args ds gs before hval hW _ _
  exact contract H enc W base args ds gs before hval hW
theorem proved : Rows.DriveContractionsSaid :=
  OpenClaim.holds_of_wide 6 Tryz.f6 rfl rfl rfl rfl rfl rfl rfl ⟨rfl, rfl, rfl, rfl, rfl⟩ rfl rfl rfl rfl rfl (by kernel_rfl) Tryz.func6 (by kernel_rfl)
    (of_decide_eq_true (by kernel_rfl)) (by unfold Func.isWrapper; first | (rw [if_pos (by decide +kernel)]; kernel_rfl) | (rw [if_neg (by decide +kernel)]; exact ⟨rfl, rfl⟩))
    (fun os started H enc _ => lifted os started H enc)
end Go.Proofs.YtbcdgfgacigaoaaGreat.driveContractions
end
